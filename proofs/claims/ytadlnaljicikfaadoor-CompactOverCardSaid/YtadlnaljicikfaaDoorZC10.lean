/- A part of the proof: a calculus over values, and contracts of functions. No condition. -/
import Derived.Test.YtadlnaljicikfaaDoorZC9
set_option linter.unusedVariables false
set_option linter.unusedSimpArgs false
namespace Go.Proofs.YtadlnaljicikfaaDoor.aB
open Go Go.Lib
theorem Kt (l:List Sp) (hl:l.length <= 100000000) (hb:dw l <= 1000000000):aA env 35 [.lst 3 (bD l)] (fun r hs=>∃ E:List Sp,r = .own 0 0 0 (norm l).length /\ hs = [⟨3,35,0,0,false,bD E⟩] /\ E.take (norm l).length = norm l /\ E.length = l.length):=by
 have hsl:=bH l
 have hmx:2000000003 <= maxLen:=by decide
 refine Ev.fnO [0,2,3,4,5,6,15,16,17,18,28,31] 0 [.tmp 2] Tryd.func35 (Yc _ rfl) ?_
 refine' aao
 · refine' afg
   · refine' ahj
   rintro k s1 ⟨i,c,rfl,hk,he⟩
   refine' aaf
   · rename_i h;exact absurd h (by omega)
   · refine' adu
     · refine' aeb
     rintro k s1 ⟨j,c,E,rfl,hk,hE,hj,hE1,hE2⟩
     refine' aef
     · refine' ac4
     · refine' aby
       · refine' af8
       · refine' ahk
     · refine' aai
   · refine' ahh
     refine ⟨by omega,fun j hj hji=>?_⟩
     by_cases e:j = i
     · subst e;assumption
     · exact he j hj (by omega)
   · refine' afa
   · rename_i h;exact absurd rfl h
 · rintro s1 ⟨c,v,E,rfl,hF,hF1,hF2⟩
   refine' acy
   · refine' agt
   rintro k s1 ⟨i,last,c,E,rfl,hk,hI⟩
   refine' acg
   · refine' afr
   · refine' abb
   · refine' ahe
   · refine' ab8
   · refine Ev.Side.of ?_;rw [hw];show last + 1 < E.length;omega
   · have hc:=hI
     rw [show i = (full l).length by omega] at hc
     have he:=hc.end
     have hn:(norm l).length = min (last + 1) (full l).length:=by rw [<- he,List.length_take];omega
     refine Ev.V6 [(528,v)] (by simp) (fun F hF=>?_)
     refine' ahi
     have e1:(min (IntKind.i64.wrap ((last:Int) + 1)) ((full l).length:Int)).toNat - 0 = (norm l).length:=by rw [hn,hw];omega
     rw [e1]
     exact ⟨E,rfl,rfl,by rw [hn];exact he,hE⟩
 · refine Ev.Side.of ⟨by omega,?_,?_,jU l⟩ <;> simp
end Go.Proofs.YtadlnaljicikfaaDoor.aB
namespace Go.Proofs.YtadlnaljicikfaaDoor.aB
open Go
set_option maxRecDepth 100000
attribute [local irreducible] Ev.iE Ev.iG Ev.bW Ev.runK Ev.bY Ev.gq Ev.Side Ev.Wp Ev.Again Ev.To Ev.Fin
open Go.Lib Go.RowKit
def Ku:Ev.Pl:=(.one 0 false (.one 7 false (.two 1 (.one 2 false (.one 3 false (.one 4 false (.one 5 false (.one 6 false (.one 8 false (.one 9 false (.one 10 false (.one 11 false (.one 12 true (.one 13 false .fin))))))))))) 8 (.one 9 false (.one 10 false (.one 11 false (.one 1 false (.one 2 false (.one 3 false (.one 4 false (.one 5 false (.one 6 false (.one 12 true (.one 13 false .fin))))))))))))))
def Rq:Ev.Pl:=(.one 0 false (.one 1 false (.one 5 false (.one 8 false (.one 12 false (.two 2 (.one 3 false (.one 4 false (.one 6 true (.one 7 false (.one 14 false (.two 9 (.one 10 false (.two 11 (.one 13 true (.one 15 false (.one 16 false (.one 17 false (.one 18 false .fin))))) 15 (.one 11 false (.one 13 true (.one 16 false (.one 17 false (.one 18 false .fin))))))) 15 (.one 9 false (.one 10 false (.one 11 false (.one 13 true (.one 16 false (.one 17 false (.one 18 false .fin))))))))))))) 9 (.one 10 false (.two 2 (.one 3 false (.one 4 false (.one 6 true (.one 7 false (.one 14 false (.two 11 (.one 13 true (.one 15 false (.one 16 false (.one 17 false (.one 18 false .fin))))) 15 (.one 11 false (.one 13 true (.one 16 false (.one 17 false (.one 18 false .fin))))))))))) 11 (.one 13 true (.one 2 false (.one 3 false (.one 4 false (.one 6 true (.one 7 false (.one 14 false (.one 15 false (.one 16 false (.one 17 false (.one 18 false .fin)))))))))))))))))))
theorem adX:∀ c,Tryd.f154.body = some c -> comp c = (.seq (.reg 0 [I.n 0 2 (I.si 0)]) (.seq (.seq (.reg 1 [I.n 0 3 (I.mv 0),I.n 1 4 (I.nc 3),I.n 2 5 (I.fa 182 4 0),I.n 3 6 (I.ld 23 5),I.n 4 7 (I.ln 6 23),I.n 5 8 (I.bc .eql 3 7 0 3)]) (.cond (.tmp 8) (.seq (.reg 2 [I.n 0 2 (I.si 0)]) .ret) .skip)) (.seq (.reg 3 [I.n 0 9 (I.mv 0),I.n 1 10 (I.nc 9),I.n 2 11 (I.fa 182 10 0),I.n 3 12 (I.ld 23 11),I.n 4 13 (I.ic 23 12 0),I.n 5 14 (I.fa 35 13 0),I.n 6 15 (I.ld 3 14),I.n 7 2 (I.sa 15)]) .ret))):=by
 intro c h
 have:c = Tryd.f154.body.get rfl:=by rw [<- Option.some_inj,<- h];rfl
 rw [this];rfl
theorem Kv:∀ c,Tryd.f156.body = some c -> comp c = (.seq (.reg 0 [I.n 0 2 (I.si 0)]) (.seq (.draw 1 [I.n 0 3 (I.mv 0),I.n 1 4 (I.nc 3),I.n 2 5 (I.fa 182 4 0),I.n 3 6 (I.ld 23 5),I.n 4 7 (I.ic 23 6 0),I.n 5 8 (I.fa 35 7 1),I.n 6 9 (I.ld 3 8),I.n 7 10 (I.mv 0),I.n 8 11 (I.nc 10),I.n 9 12 (I.fa 182 11 1),I.n 10 13 (I.ld 115 12),I.n 11 14 (I.ln 13 115),I.n 12 15 (I.bo .add 3 9 14 3),I.n 13 2 (I.sa 15)] [[],[0],[1],[2],[3],[4],[5],[],[7],[8],[9],[10],[6,11],[12,0,1,2,3,4,5,6,7,8,9,10,11,12]]) .ret)):=by
 intro c h
 have:c = Tryd.f156.body.get rfl:=by rw [<- Option.some_inj,<- h];rfl
 rw [this];rfl
theorem adY:∀ c,Tryd.f155.body = some c -> comp c = (.seq (.reg 0 [I.n 0 4 (.alloc 35)]) (.seq (.reg 1 [I.n 0 6 (I.mv 0),I.n 1 7 (I.nc 6),I.n 2 8 (I.fa 182 7 0),I.n 3 9 (I.ld 23 8),I.n 4 10 (I.ic 23 9 0),I.n 5 11 (I.fa 35 10 0),I.n 6 12 (I.ld 3 11),I.n 7 13 (.build 35 #[(0,.tmp 12)]),I.n 8 5 (.alloc 35),I.u 9 (I.st 35 5 13)]) (.seq (.seq (.reg 2 [I.n 0 14 (I.fa 35 5 0),I.n 1 15 (I.ld 3 14),I.n 2 16 (I.bc .eql 3 15 2 3)]) (.cond (.tmp 16) (.draw 3 [I.n 0 17 (I.mv 0),I.n 1 18 (I.mv 0),I.n 2 19 (I.nc 18),I.n 3 20 (I.fa 182 19 1),I.n 4 21 (I.ld 115 20),I.n 5 22 (I.mv 1),I.n 6 23 (.slice 115 (.tmp 21) none (some (.tmp 22)) none),I.n 7 24 (I.cv 115 9 23),I.n 8 25 (I.mv 0),I.n 9 26 (I.nc 25),I.n 10 27 (I.fa 182 26 1),I.n 11 28 (I.ld 115 27),I.n 12 29 (I.mv 1),I.n 13 30 (.slice 115 (.tmp 28) (some (.tmp 29)) none none),I.n 14 31 (I.fa 35 5 2),I.u 15 (I.st 9 31 24),I.n 16 32 (I.nc 17),I.n 17 33 (I.fa 182 32 1),I.u 18 (I.st 115 33 30)] [[],[],[1],[2],[3],[],[4,5],[6],[],[8],[9],[10],[],[11,12],[1,2,3,4,5,6,7],[14,7,1,2,3,4,5,6,7],[0,0,1,2,3,4,5,6,7,8,9,10,11,12,13,14,15],[16,0,1,2,3,4,5,6,7,8,9,10,11,12,13,14,15],[17,13,15,0,1,2,3,4,5,6,7,8,9,10,11,12,13,14,15]]) (.seq (.reg 4 [I.n 0 34 (I.mv 1),I.n 1 35 (I.fa 35 5 1),I.u 2 (I.st 3 35 34)]) (.reg 5 [I.n 0 36 (I.mv 0),I.n 1 37 (I.nc 36),I.n 2 38 (I.fa 182 37 0),I.n 3 39 (I.ld 23 38),I.n 4 40 (I.ic 23 39 0),I.n 5 41 (I.fa 35 40 1),I.n 6 42 (I.ld 3 41),I.n 7 43 (I.mv 1),I.n 8 44 (I.bo .sub 3 42 43 3),I.n 9 45 (I.ic 23 39 0),I.n 10 46 (I.fa 35 45 1),I.u 11 (I.st 3 46 44)])))) (.seq (.seq (.reg 6 [I.n 0 47 (I.mv 0),I.n 1 48 (I.c1 156 47 164),I.n 2 49 (I.bc .eql 3 48 0 3)]) (.cond (.tmp 49) (.seq (.reg 7 [I.n 0 50 (I.mv 0),I.n 1 51 (I.mv 0),I.n 2 52 (I.nc 51),I.n 3 53 (I.fa 182 52 0),I.n 4 54 (I.ld 23 53),I.n 5 55 (.slice 23 (.tmp 54) (some (.const (Value.int .i64 1))) none none),I.n 6 56 (I.nc 50),I.n 7 57 (I.fa 182 56 0),I.u 8 (I.st 23 57 55)]) (.reg 8 [I.n 0 58 (I.mv 0),I.n 1 59 (I.c1 164 58 164)])) .skip)) (.seq (.reg 9 [I.n 0 60 (I.ld 35 5),I.u 1 (I.st 35 4 60)]) .ret))))):=by
 intro c h
 have:c = Tryd.f155.body.get rfl:=by rw [<- Option.some_inj,<- h];rfl
 rw [this];rfl
theorem Kw:∀ c,Tryd.f164.body = some c -> comp c = (.seq (.reg 0 [I.n 0 2 (I.mv 0),I.n 1 3 (I.nc 2),I.n 2 4 (I.fa 182 3 1),I.u 3 (.store 115 (.tmp 4) (.const (Value.slice none 0 0)))]) (.seq (.reg 1 [I.n 0 5 (I.mv 0),I.n 1 6 (I.nc 5),I.n 2 7 (I.fa 182 6 0),I.n 3 8 (I.ld 23 7),I.n 4 9 (I.ln 8 23),I.n 5 10 (I.bc .gtr 3 9 0 3)]) (.cond (.tmp 10) (.reg 2 [I.n 0 11 (I.mv 0),I.n 1 12 (I.mv 0),I.n 2 13 (I.nc 12),I.n 3 14 (I.fa 182 13 0),I.n 4 15 (I.ld 23 14),I.n 5 16 (I.ic 23 15 0),I.n 6 17 (I.fa 35 16 2),I.n 7 18 (I.ld 9 17),I.n 8 19 (I.cv 9 115 18),I.n 9 20 (I.nc 11),I.n 10 21 (I.fa 182 20 1),I.u 11 (I.st 115 21 19)]) .skip))):=by
 intro c h
 have:c = Tryd.f164.body.get rfl:=by rw [<- Option.some_inj,<- h];rfl
 rw [this];rfl
def DT:List Sp -> AV
 | []=>nilA
 | s :: _=>.lst 1 (cZ (fE (pts s.t.data.toList)))
def Yr:List Sp -> Int
 | []=>0
 | s :: _=>s.k
def Oc (x E:List Sp) (off:Nat):Prop:=off + x.length <= E.length /\ ∀ s l,x = s :: l -> ∃ t,∀ h:off < E.length,E[off] = ⟨s.k,s.n,t⟩ /\ (E.drop (off + 1)).take l.length = l
abbrev Vj (vb w:Nat) (E:List Sp) (off n:Nat) (tx:AV):List (Nat × aG):=[(5128,⟨2,182,vb,0,true,[[.own 5129 w off n,tx]]⟩),(5129,⟨3,35,w,0,false,bD E⟩)]
theorem rZ {E:Env} {N:Nat} {f:FuncId} {args:List AV} {hp:List (Nat × aG)} {R R':AV -> List (Nat × aG) -> Prop} (hc:iM E N f args hp R) (h:∀ r hp1,R r hp1 -> ∃ H,R' r H /\ subs hp1 H):iM E N f args hp R':=by
 intro M0 w0 c M J w vs inv hn hr
 obtain ⟨a,b⟩:=hc M0 w0 c M J w vs inv hn hr
 refine ⟨a,b.mono ?_⟩
 rintro e w' ⟨v,r,hp1,c',M',J',x1,x2,x3,x4⟩
 obtain ⟨H,y1,y2⟩:=h r hp1 x2
 exact ⟨v,r,H,c',M',J',x1,y1,x3.less (s':=⟨[],H,0⟩) (fun t x h=>by simp [get_nil] at h) (mF y2),x4⟩
theorem Nr (vb w:Nat) {x E:List Sp} {off:Nat} (h:Oc x E off):iM env 65536 154 [.ptr 5128 vb 0 0] (Vj vb w E off x.length (DT x)) (fun r hp1=>r = .v (.int .i64 (Yr x)) /\ hp1 = Vj vb w E off x.length (DT x)):=by
 have hE:=bH E
 have h1:=h.1
 refine Ev.fnH [0,2,8] 65536 [.tmp 2] Tryd.func154 (adX _ rfl) (fun ct=>?_)
 refine' Ev.zW
 · rw [List.eq_nil_of_length_eq_zero (l:=x) (by omega)];exact ⟨rfl,rfl⟩
 · rename_i h0
   cases x with
   | nil=>exact absurd rfl h0
   | cons s l =>
     obtain ⟨t,e⟩:=h.2 s l rfl
     refine ⟨?_,rfl⟩
     show AV.v (Value.int .i64 (E[off + Int.toNat 0]'hi).k) = _
     simp only [Int.toNat_zero,Nat.add_zero,(e hi).1];rfl
theorem Rt {s:Sp} (h:cu s) (ht:s.t.size <= 1000000000):IntKind.i64.wrap (s.n + (cZ (fE (pts s.t.data.toList))).length) = eu s:=by
 rw [fU,gY]
 rcases h.cases with ⟨a,b,c,d⟩ | ⟨a,b,c⟩
 · rw [iy (by omega),d]
   have:pts (⟨#[]⟩:ByteArray).data.toList = []:=rfl
   rw [this,List.length_nil,Int.natCast_zero,Int.add_zero,aU (by omega)];omega
 · have:=nD s.t.data.toList
   rw [bM] at this
   rw [xk a,b,aU (by omega)];omega
theorem Nu (vb w:Nat) {s:Sp} {l E:List Sp} {off:Nat} (h:Oc (s :: l) E off) (hs:cu s) (ht:s.t.size <= 1000000000):iM env 65536 156 [.ptr 5128 vb 0 0] (Vj vb w E off (l.length + 1) (DT (s :: l))) (fun r hp1=>r = .v (.int .i64 (eu s)) /\ hp1 = Vj vb w E off (l.length + 1) (DT (s :: l))):=by
 have hE:=bH E
 obtain ⟨t,e⟩:=h.2 s l rfl
 have h1:off + (l.length + 1) <= E.length:=h.1
 unfold DT
 refine Ev.fnH [0,2] 65536 [.tmp 2] Tryd.func156 (Kv _ rfl) (fun ct=>?_)
 repeat' (first | refine' Ev.zS | refine' Ev.zK | ((with_reducible refine Ev.dG ?_);(first | refine Ev.H7 1 [] Ku ?_);intro Q hQ;(simp only [Ev.gK,Ev.eP,Ev.eU,Ev.gQ]);conv=>whnf) | ((with_reducible refine Ev.both ?_ ?_) <;> (conv=>whnf)) | refine' Ev.zT | fail)
 all_goals
   refine ⟨?_,rfl⟩
   show AV.v (Value.int .i64 (IntKind.i64.wrap ((E[off + Int.toNat 0]'hi).n + ((cZ (fE (pts s.t.data.toList))).length:Int)))) = _
   simp only [Int.toNat_zero,Nat.add_zero,(e hi).1,Rt hs ht]
set_option maxHeartbeats 4000000 in
theorem Nv (vb w:Nat) {s:Sp} {l E:List Sp} {off m:Nat} (h:Oc (s :: l) E off) (hs:cu s) (hb:dw (s :: l) <= 1000000000) (hm:m <= eu s):iM env 65536 155 [.ptr 5128 vb 0 0,.v (.int .i64 m)] (Vj vb w E off (l.length + 1) (DT (s :: l))) (fun r hp1=>∃ E' off',r = mY (eF s m).k (eF s m).n (eF s m).t /\ hp1 = Vj vb w E' off' (bf s m l).length (DT (bf s m l)) /\ Oc (bf s m l) E' off'):=by
  have hE:=bH E
  obtain ⟨t,e⟩:=h.2 s l rfl
  have h1:off + (l.length + 1) <= E.length:=h.1
  unfold DT
  have ht:s.t.size <= 1000000000:=by rw [aQ] at hb;omega
  have hmz:(m:Int) <= 1048576 ∨ s.k = 2:=by
    rcases hs.cases with ⟨a,b,c,d⟩ | ⟨a,b,c⟩
    · rw [iy (by omega)] at hm;omega
    · exact .inr a
  have hpl:=nD s.t.data.toList
  rw [bM] at hpl
  have hk2:∀ hi:off + Int.toNat 0 < E.length,E[off + Int.toNat 0] = ⟨s.k,s.n,t⟩:=fun hi=>(e hi).1
  have f2:s.k = 2 -> pts (dI s m).t.data.toList = (pts s.t.data.toList).drop m /\ eF s m = ⟨2,0,txt ((pts s.t.data.toList).take m)⟩ /\ dI s m = ⟨2,0,txt ((pts s.t.data.toList).drop m)⟩ /\ s.n = 0 /\ m <= (pts s.t.data.toList).length:=by
    intro a
    rcases hs.cases with ⟨a',_⟩ | ⟨a,b,c⟩
    · omega
    have hp:=(jv _ c).2
    have e2:dI s m = ⟨2,0,txt ((pts s.t.data.toList).drop m)⟩:=if_pos a
    refine ⟨?_,if_pos a,e2,b,by rw [xk a] at hm;exact hm⟩
    rw [e2]
    show pts (txt _).data.toList = _
    rw [fH,(nR _ (fun p hp'=>hp p (List.mem_of_mem_drop hp'))).2]
  have f1:s.k ≠ 2 -> s.t = ⟨#[]⟩ /\ eF s m = ⟨s.k,m,⟨#[]⟩⟩ /\ dI s m = ⟨s.k,s.n - m,⟨#[]⟩⟩ /\ (m:Int) <= s.n /\ s.n <= 1048576:=by
    intro a
    rcases hs.cases with ⟨a',b,c,d⟩ | ⟨a',b,c⟩
    · rw [iy a] at hm
      exact ⟨d,if_neg a,if_neg a,by omega,c⟩
    · exact absurd a' a
  refine rZ (R:=fun r hp1=>r = mY (eF s m).k (eF s m).n (eF s m).t /\ ∃ E' off',Oc (bf s m l) E' off' /\ subs hp1 (Vj vb w E' off' (bf s m l).length (DT (bf s m l)))) ?_ ?_
  · refine Ev.fnH [0,1,4,5,16,49] 65536 [.cell 4 35] Tryd.func155 (adY _ rfl) (fun ct=>?_)
    repeat' (first | (with_reducible refine Ev.join (a:=.seq (.reg 2 _) _) (fun s'=>∃ (c c1:Nat) (E1:List Sp) (P1:List Nat),s' = ⟨[(0,.ptr 5128 vb 0 0),(1,.v (.int .i64 m)),(4,.ptr 65536 ct 0 0),(5,.ptr 66112 c1 0 0)],[(5128,⟨2,182,vb,0,true,[[.own 5129 w off (l.length + 1),.lst 1 (cZ (fE P1))]]⟩),(5129,⟨3,35,w,0,false,bD E1⟩),(65536,⟨3,35,ct,0,true,[sV ⟨0,0,⟨#[]⟩⟩]⟩),(66112,⟨3,35,c1,0,true,[sV (eF s m)]⟩)],c⟩ /\ E1.length = E.length /\ Oc (dI s m :: l) E1 off /\ P1 = pts (dI s m).t.data.toList) ?_ ?_) | refine' Ev.zS | ((with_reducible refine Ev.kr (hs:=[156,164]) (fun Q hQ=>?_));refine' Ev.zR) | ((with_reducible refine Ev.Ac 156 ?_);refine Ev.il 156 [0,2] [.tmp 2] Tryd.func156 (Kv _ rfl) (fun bF=>?_)) | ((with_reducible refine Ev.Ac 164 ?_);refine Ev.il 164 [0,10] [] Tryd.func164 (Kw _ rfl) (fun bF=>?_)) | ((with_reducible refine Ev.dG ?_);(first | refine Ev.H7 3 [156,164] Rq ?_ | refine Ev.H7 1 [156,164] Ku ?_);intro Q hQ;(simp only [Ev.gK,Ev.eP,Ev.eU,Ev.gQ]);conv=>whnf) | ((with_reducible refine Ev.both ?_ ?_) <;> (conv=>whnf)) | refine' Ev.zT | fail)
    all_goals try (
      have hkk:(E[off + Int.toNat 0]'hi).k = 2:=by assumption
      rw [hk2] at hkk
      obtain ⟨g1,g2,g3,g4,g5⟩:=f2 hkk)
    all_goals try (refine Ev.Side.of ⟨by omega,?_⟩;rw [fU,gY];omega)
    · have r1:List.take ((cZ (fE (pts s.t.data.toList))).length - (m:Int).toNat) (List.drop (m:Int).toNat (cZ (fE (pts s.t.data.toList)))) = cZ (fE (pts (dI s m).t.data.toList)):=by
        rw [g1,Int.toNat_natCast,List.take_of_length_le (by simp)];simp [cZ,fE,List.map_drop]
      have r2:[AV.v (.int .i64 (E[off + Int.toNat 0]'hi).k),AV.v (.int .i64 0),AV.v (.string (runesBytes (List.take ((m:Int).toNat - 0) (List.drop 0 (fE (pts s.t.data.toList))))))] = sV (eF s m):=by
        rw [hk2,hkk,g2,List.drop_zero,Nat.sub_zero,Int.toNat_natCast]
        have:List.take m (fE (pts s.t.data.toList)) = fE ((pts s.t.data.toList).take m):=by simp [fE,List.map_take]
        rw [this,lW];rfl
      refine Ev.zB ⟨?_,?_,E,pts (dI s m).t.data.toList,rfl,?_⟩ (by refine' Ev.zp <;> first | (first | exact congrArg (fun x=>aG.mk 2 182 vb 0 true [[AV.own 5129 w off (l.length + 1),AV.lst 1 x]]) r1 | exact congrArg (fun x=>aG.mk 3 35 _ 0 true [x]) r2 | rfl) | rfl | (refine' Ev.ze;(first | exact congrArg (fun x=>aG.mk 2 182 vb 0 true [[AV.own 5129 w off (l.length + 1),AV.lst 1 x]]) r1 | exact congrArg (fun x=>aG.mk 3 35 _ 0 true [x]) r2 | rfl)) | fail)
      exact ⟨rfl,⟨by simpa using h1,fun s' l' hx=>by
        obtain ⟨rfl,rfl⟩:=List.cons.inj hx
        exact ⟨t,fun hi=>by rw [(e hi).1,g3,hkk,g4];exact ⟨rfl,(e hi).2⟩⟩⟩,rfl⟩
    · have r1:List.take ((cZ (fE (pts s.t.data.toList))).length - (m:Int).toNat) (List.drop (m:Int).toNat (cZ (fE (pts s.t.data.toList)))) = cZ (fE (pts (dI s m).t.data.toList)):=by
        rw [g1,Int.toNat_natCast,List.take_of_length_le (by simp)];simp [cZ,fE,List.map_drop]
      have r2:[AV.v (.int .i64 (E[off + Int.toNat 0]'hi).k),AV.v (.int .i64 0),AV.v (.string (runesBytes (List.take ((m:Int).toNat - 0) (List.drop 0 (fE (pts s.t.data.toList))))))] = sV (eF s m):=by
        rw [hk2,hkk,g2,List.drop_zero,Nat.sub_zero,Int.toNat_natCast]
        have:List.take m (fE (pts s.t.data.toList)) = fE ((pts s.t.data.toList).take m):=by simp [fE,List.map_take]
        rw [this,lW];rfl
      refine Ev.zB ⟨?_,?_,E,pts (dI s m).t.data.toList,rfl,?_⟩ (by refine' Ev.zp <;> first | (first | exact congrArg (fun x=>aG.mk 2 182 vb 0 true [[AV.own 5129 w off (l.length + 1),AV.lst 1 x]]) r1 | exact congrArg (fun x=>aG.mk 3 35 _ 0 true [x]) r2 | rfl) | rfl | (refine' Ev.ze;(first | exact congrArg (fun x=>aG.mk 2 182 vb 0 true [[AV.own 5129 w off (l.length + 1),AV.lst 1 x]]) r1 | exact congrArg (fun x=>aG.mk 3 35 _ 0 true [x]) r2 | rfl)) | fail)
      exact ⟨rfl,⟨by simpa using h1,fun s' l' hx=>by
        obtain ⟨rfl,rfl⟩:=List.cons.inj hx
        exact ⟨t,fun hi=>by rw [(e hi).1,g3,hkk,g4];exact ⟨rfl,(e hi).2⟩⟩⟩,rfl⟩
    · have r1:List.take ((cZ (fE (pts s.t.data.toList))).length - (m:Int).toNat) (List.drop (m:Int).toNat (cZ (fE (pts s.t.data.toList)))) = cZ (fE (pts (dI s m).t.data.toList)):=by
        rw [g1,Int.toNat_natCast,List.take_of_length_le (by simp)];simp [cZ,fE,List.map_drop]
      have r2:[AV.v (.int .i64 (E[off + Int.toNat 0]'hi).k),AV.v (.int .i64 0),AV.v (.string (runesBytes (List.take ((m:Int).toNat - 0) (List.drop 0 (fE (pts s.t.data.toList))))))] = sV (eF s m):=by
        rw [hk2,hkk,g2,List.drop_zero,Nat.sub_zero,Int.toNat_natCast]
        have:List.take m (fE (pts s.t.data.toList)) = fE ((pts s.t.data.toList).take m):=by simp [fE,List.map_take]
        rw [this,lW];rfl
      refine Ev.zB ⟨?_,?_,E,pts (dI s m).t.data.toList,rfl,?_⟩ (by refine' Ev.zp <;> first | (first | exact congrArg (fun x=>aG.mk 2 182 vb 0 true [[AV.own 5129 w off (l.length + 1),AV.lst 1 x]]) r1 | exact congrArg (fun x=>aG.mk 3 35 _ 0 true [x]) r2 | rfl) | rfl | (refine' Ev.ze;(first | exact congrArg (fun x=>aG.mk 2 182 vb 0 true [[AV.own 5129 w off (l.length + 1),AV.lst 1 x]]) r1 | exact congrArg (fun x=>aG.mk 3 35 _ 0 true [x]) r2 | rfl)) | fail)
      exact ⟨rfl,⟨by simpa using h1,fun s' l' hx=>by
        obtain ⟨rfl,rfl⟩:=List.cons.inj hx
        exact ⟨t,fun hi=>by rw [(e hi).1,g3,hkk,g4];exact ⟨rfl,(e hi).2⟩⟩⟩,rfl⟩
    · have r1:List.take ((cZ (fE (pts s.t.data.toList))).length - (m:Int).toNat) (List.drop (m:Int).toNat (cZ (fE (pts s.t.data.toList)))) = cZ (fE (pts (dI s m).t.data.toList)):=by
        rw [g1,Int.toNat_natCast,List.take_of_length_le (by simp)];simp [cZ,fE,List.map_drop]
      have r2:[AV.v (.int .i64 (E[off + Int.toNat 0]'hi).k),AV.v (.int .i64 0),AV.v (.string (runesBytes (List.take ((m:Int).toNat - 0) (List.drop 0 (fE (pts s.t.data.toList))))))] = sV (eF s m):=by
        rw [hk2,hkk,g2,List.drop_zero,Nat.sub_zero,Int.toNat_natCast]
        have:List.take m (fE (pts s.t.data.toList)) = fE ((pts s.t.data.toList).take m):=by simp [fE,List.map_take]
        rw [this,lW];rfl
      refine Ev.zB ⟨?_,?_,E,pts (dI s m).t.data.toList,rfl,?_⟩ (by refine' Ev.zp <;> first | (first | exact congrArg (fun x=>aG.mk 2 182 vb 0 true [[AV.own 5129 w off (l.length + 1),AV.lst 1 x]]) r1 | exact congrArg (fun x=>aG.mk 3 35 _ 0 true [x]) r2 | rfl) | rfl | (refine' Ev.ze;(first | exact congrArg (fun x=>aG.mk 2 182 vb 0 true [[AV.own 5129 w off (l.length + 1),AV.lst 1 x]]) r1 | exact congrArg (fun x=>aG.mk 3 35 _ 0 true [x]) r2 | rfl)) | fail)
      exact ⟨rfl,⟨by simpa using h1,fun s' l' hx=>by
        obtain ⟨rfl,rfl⟩:=List.cons.inj hx
        exact ⟨t,fun hi=>by rw [(e hi).1,g3,hkk,g4];exact ⟨rfl,(e hi).2⟩⟩⟩,rfl⟩
    · have r1:List.take ((cZ (fE (pts s.t.data.toList))).length - (m:Int).toNat) (List.drop (m:Int).toNat (cZ (fE (pts s.t.data.toList)))) = cZ (fE (pts (dI s m).t.data.toList)):=by
        rw [g1,Int.toNat_natCast,List.take_of_length_le (by simp)];simp [cZ,fE,List.map_drop]
      have r2:[AV.v (.int .i64 (E[off + Int.toNat 0]'hi).k),AV.v (.int .i64 0),AV.v (.string (runesBytes (List.take ((m:Int).toNat - 0) (List.drop 0 (fE (pts s.t.data.toList))))))] = sV (eF s m):=by
        rw [hk2,hkk,g2,List.drop_zero,Nat.sub_zero,Int.toNat_natCast]
        have:List.take m (fE (pts s.t.data.toList)) = fE ((pts s.t.data.toList).take m):=by simp [fE,List.map_take]
        rw [this,lW];rfl
      refine Ev.zB ⟨?_,?_,E,pts (dI s m).t.data.toList,rfl,?_⟩ (by refine' Ev.zp <;> first | (first | exact congrArg (fun x=>aG.mk 2 182 vb 0 true [[AV.own 5129 w off (l.length + 1),AV.lst 1 x]]) r1 | exact congrArg (fun x=>aG.mk 3 35 _ 0 true [x]) r2 | rfl) | rfl | (refine' Ev.ze;(first | exact congrArg (fun x=>aG.mk 2 182 vb 0 true [[AV.own 5129 w off (l.length + 1),AV.lst 1 x]]) r1 | exact congrArg (fun x=>aG.mk 3 35 _ 0 true [x]) r2 | rfl)) | fail)
      exact ⟨rfl,⟨by simpa using h1,fun s' l' hx=>by
        obtain ⟨rfl,rfl⟩:=List.cons.inj hx
        exact ⟨t,fun hi=>by rw [(e hi).1,g3,hkk,g4];exact ⟨rfl,(e hi).2⟩⟩⟩,rfl⟩
    · have r1:List.take ((cZ (fE (pts s.t.data.toList))).length - (m:Int).toNat) (List.drop (m:Int).toNat (cZ (fE (pts s.t.data.toList)))) = cZ (fE (pts (dI s m).t.data.toList)):=by
        rw [g1,Int.toNat_natCast,List.take_of_length_le (by simp)];simp [cZ,fE,List.map_drop]
      have r2:[AV.v (.int .i64 (E[off + Int.toNat 0]'hi).k),AV.v (.int .i64 0),AV.v (.string (runesBytes (List.take ((m:Int).toNat - 0) (List.drop 0 (fE (pts s.t.data.toList))))))] = sV (eF s m):=by
        rw [hk2,hkk,g2,List.drop_zero,Nat.sub_zero,Int.toNat_natCast]
        have:List.take m (fE (pts s.t.data.toList)) = fE ((pts s.t.data.toList).take m):=by simp [fE,List.map_take]
        rw [this,lW];rfl
      refine Ev.zB ⟨?_,?_,E,pts (dI s m).t.data.toList,rfl,?_⟩ (by refine' Ev.zp <;> first | (first | exact congrArg (fun x=>aG.mk 2 182 vb 0 true [[AV.own 5129 w off (l.length + 1),AV.lst 1 x]]) r1 | exact congrArg (fun x=>aG.mk 3 35 _ 0 true [x]) r2 | rfl) | rfl | (refine' Ev.ze;(first | exact congrArg (fun x=>aG.mk 2 182 vb 0 true [[AV.own 5129 w off (l.length + 1),AV.lst 1 x]]) r1 | exact congrArg (fun x=>aG.mk 3 35 _ 0 true [x]) r2 | rfl)) | fail)
      exact ⟨rfl,⟨by simpa using h1,fun s' l' hx=>by
        obtain ⟨rfl,rfl⟩:=List.cons.inj hx
        exact ⟨t,fun hi=>by rw [(e hi).1,g3,hkk,g4];exact ⟨rfl,(e hi).2⟩⟩⟩,rfl⟩
    · have hkk:¬ (E[off + Int.toNat 0]'hi).k = 2:=by assumption
      rw [hk2] at hkk
      obtain ⟨g1,g2,g3,g4,g5⟩:=f1 hkk
      have hw:IntKind.i64.wrap ((E[off + Int.toNat 0]'hi).n - m) = s.n - m:=by rw [hk2];exact aU (by simp only;omega)
      have r1:(bD E).set (off + Int.toNat 0) (dP (sV (E[off + Int.toNat 0]'hi)) (0 + 1) [AV.v (.int .i64 (IntKind.i64.wrap ((E[off + Int.toNat 0]'hi).n - m)))]) = bD (E.set off ⟨s.k,s.n - m,t⟩):=by
        rw [hw,hk2,<- nH];rfl
      have r2:[AV.v (.int .i64 (E[off + Int.toNat 0]'hi).k),AV.v (.int .i64 m),AV.v (.string ⟨#[]⟩)] = sV (eF s m):=by rw [hk2,g2];rfl
      have r3:cZ (fE (pts s.t.data.toList)) = cZ (fE (pts (dI s m).t.data.toList)):=by rw [g1,g3]
      refine Ev.zB ⟨?_,?_,E.set off ⟨s.k,s.n - m,t⟩,pts (dI s m).t.data.toList,rfl,?_⟩ (by refine' Ev.zp <;> first | (first | exact congrArg (fun x=>aG.mk 2 182 vb 0 true [[AV.own 5129 w off (l.length + 1),AV.lst 1 x]]) r3 | exact congrArg (fun x=>aG.mk 3 35 _ 0 true [x]) r2 | exact congrArg (fun x=>aG.mk 3 35 w 0 false x) r1 | rfl) | rfl | (refine' Ev.ze;(first | exact congrArg (fun x=>aG.mk 2 182 vb 0 true [[AV.own 5129 w off (l.length + 1),AV.lst 1 x]]) r3 | exact congrArg (fun x=>aG.mk 3 35 _ 0 true [x]) r2 | exact congrArg (fun x=>aG.mk 3 35 w 0 false x) r1 | rfl)) | fail)
      refine ⟨by simp,⟨by simpa using h1,fun s' l' hx=>?_⟩,rfl⟩
      obtain ⟨rfl,rfl⟩:=List.cons.inj hx
      refine ⟨t,fun hi=>?_⟩
      rw [List.getElem_set_self,g3]
      exact ⟨rfl,by rw [List.drop_set_of_lt (by omega)];exact (e (by omega)).2⟩
    · rintro s' ⟨c,c1,E1,P1,rfl,hE1,hR1,hP1⟩
      have hE1':=bH E1
      obtain ⟨t1,e1⟩:=hR1.2 _ _ rfl
      have h11:off + (l.length + 1) <= E1.length:=hR1.1
      obtain ⟨p1,p2,p3,p4,p5,p6,p7⟩:=mD hs hm
      have hz:∀ hi:off + Int.toNat 0 < E1.length,IntKind.i64.wrap ((E1[off + Int.toNat 0]'hi).n + ((cZ (fE P1)).length:Int)) = ((eu s - m:Nat):Int):=by
        intro hi
        have q1:E1[off + Int.toNat 0]'hi = ⟨(dI s m).k,(dI s m).n,t1⟩:=(e1 hi).1
        rw [q1,hP1,Rt p2 (by omega)]
        have q2:=mg p2
        rw [p4,List.length_drop,mg hs] at q2
        rw [q2]
      have hE2:∀ (hi:off + Int.toNat 1 + Int.toNat 0 < E1.length) (h0:0 < l.length),E1[off + Int.toNat 1 + Int.toNat 0]'hi = l[0] /\ (E1.drop (off + 1 + 1)).take (l.length - 1) = l.drop 1:=by
        intro hi h0
        have q:=(e1 (by omega)).2
        have hi':off + 1 < E1.length:=hi
        rw [List.drop_eq_getElem_cons hi'] at q
        cases l with
        | nil=>exact absurd h0 (by simp)
        | cons a l =>
          rw [List.length_cons,List.take_succ_cons] at q
          obtain ⟨x1,x2⟩:=List.cons.inj q
          exact ⟨x1,x2⟩
      repeat' (first | refine' Ev.zS | ((with_reducible refine Ev.kr (hs:=[156,164]) (fun Q hQ=>?_));refine' Ev.zR) | ((with_reducible refine Ev.Ac 156 ?_);refine Ev.il 156 [0,2] [.tmp 2] Tryd.func156 (Kv _ rfl) (fun bF=>?_)) | ((with_reducible refine Ev.Ac 164 ?_);refine Ev.il 164 [0,10] [] Tryd.func164 (Kw _ rfl) (fun bF=>?_)) | ((with_reducible refine Ev.dG ?_);(first | refine Ev.H7 3 [156,164] Rq ?_ | refine Ev.H7 1 [156,164] Ku ?_);intro Q hQ;(simp only [Ev.gK,Ev.eP,Ev.eU,Ev.gQ]);conv=>whnf) | ((with_reducible refine Ev.both ?_ ?_) <;> (conv=>whnf)) | refine' Ev.zT | fail)
      · have q:((eu s - m:Nat):Int) = 0:=(hz (by show off + 0 < E1.length;omega)).symm.trans (by assumption)
        have hl:bf s m l = l:=if_pos (by omega)
        have h0:0 < l.length:=by omega
        have y:=hE2 hi h0
        rw [hl]
        cases l with
        | nil=>simp at h0
        | cons a l =>
          have r1:jF (E1[off + Int.toNat 1 + Int.toNat 0]'hi).t = cZ (fE (pts a.t.data.toList)):=by rw [y.1,runes_all];rfl
          refine ⟨rfl,E1,off + 1,⟨by simp at h11 ⊢;omega,fun s' l' hx=>?_⟩,Ev.aj rfl ?_,Ev.aj rfl rfl,trivial⟩
          · obtain ⟨rfl,rfl⟩:=List.cons.inj hx
            exact ⟨_,fun hi=>y⟩
          · exact congrArg (fun x=>aG.mk 2 182 vb 0 true [[AV.own 5129 w (off + 1) (l.length + 1),AV.lst 1 x]]) r1
      · refine Ev.Side.of ?_
        rw [(hE2 hi (by omega)).1]
        have:=rE (l:=l) (i:=0) (by omega)
        rw [List.drop_zero] at this
        rw [aQ] at hb
        omega
      · have q:((eu s - m:Nat):Int) = 0:=(hz (by show off + 0 < E1.length;omega)).symm.trans (by assumption)
        have hl:bf s m l = l:=if_pos (by omega)
        have h0:l = []:=List.eq_nil_of_length_eq_zero (by omega)
        rw [hl]
        subst h0
        exact ⟨rfl,E1,off + 1,⟨by simpa using h11,fun s' l' hx=>by cases hx⟩,Ev.aj rfl rfl,Ev.aj rfl rfl,trivial⟩
      · have q:¬ ((eu s - m:Nat):Int) = 0:=by rw [<- hz (by show off + 0 < E1.length;omega)];assumption
        have hl:bf s m l = dI s m :: l:=if_neg (by omega)
        rw [hl]
        subst hP1
        exact ⟨rfl,E1,off,hR1,Ev.aj rfl rfl,Ev.aj rfl rfl,trivial⟩
      · have q:((eu s - m:Nat):Int) = 0:=(hz (by show off + 0 < E1.length;omega)).symm.trans (by assumption)
        have hl:bf s m l = l:=if_pos (by omega)
        have h0:0 < l.length:=by omega
        have y:=hE2 hi h0
        rw [hl]
        cases l with
        | nil=>simp at h0
        | cons a l =>
          have r1:jF (E1[off + Int.toNat 1 + Int.toNat 0]'hi).t = cZ (fE (pts a.t.data.toList)):=by rw [y.1,runes_all];rfl
          refine ⟨rfl,E1,off + 1,⟨by simp at h11 ⊢;omega,fun s' l' hx=>?_⟩,Ev.aj rfl ?_,Ev.aj rfl rfl,trivial⟩
          · obtain ⟨rfl,rfl⟩:=List.cons.inj hx
            exact ⟨_,fun hi=>y⟩
          · exact congrArg (fun x=>aG.mk 2 182 vb 0 true [[AV.own 5129 w (off + 1) (l.length + 1),AV.lst 1 x]]) r1
      · refine Ev.Side.of ?_
        rw [(hE2 hi (by omega)).1]
        have:=rE (l:=l) (i:=0) (by omega)
        rw [List.drop_zero] at this
        rw [aQ] at hb
        omega
      · have q:((eu s - m:Nat):Int) = 0:=(hz (by show off + 0 < E1.length;omega)).symm.trans (by assumption)
        have hl:bf s m l = l:=if_pos (by omega)
        have h0:l = []:=List.eq_nil_of_length_eq_zero (by omega)
        rw [hl]
        subst h0
        exact ⟨rfl,E1,off + 1,⟨by simpa using h11,fun s' l' hx=>by cases hx⟩,Ev.aj rfl rfl,Ev.aj rfl rfl,trivial⟩
      · have q:¬ ((eu s - m:Nat):Int) = 0:=by rw [<- hz (by show off + 0 < E1.length;omega)];assumption
        have hl:bf s m l = dI s m :: l:=if_neg (by omega)
        rw [hl]
        subst hP1
        exact ⟨rfl,E1,off,hR1,Ev.aj rfl rfl,Ev.aj rfl rfl,trivial⟩
  · rintro r hp1 ⟨a,E',off',b,c⟩
    exact ⟨_,⟨E',off',a,rfl,b⟩,c⟩
theorem adZ:∀ c,Tryd.f153.body = some c -> comp c = (.seq (.reg 0 [I.n 0 2 (.assign (.const (Value.pointer none)))]) (.seq (.reg 1 [I.n 0 4 (I.mv 0),I.n 1 5 (I.c1 35 4 23),I.n 2 6 (.build 182 #[(0,.tmp 5)]),I.n 3 7 (.box 182 (.tmp 6)),I.n 4 3 (I.sa 7)]) (.seq (.reg 2 [I.n 0 8 (I.mv 3),I.n 1 9 (I.c1 164 8 164)]) (.seq (.reg 3 [I.n 0 10 (I.mv 3),I.n 1 2 (I.sa 10)]) .ret)))):=by
 intro c h
 have:c = Tryd.f153.body.get rfl:=by rw [<- Option.some_inj,<- h];rfl
 rw [this];rfl
theorem agq{G:Prop}(h:G:=by
 have h0:0 < (norm l).length:=by omega
 have hE0:0 < E.length:=by have:=congrArg List.length hE1;rw [List.length_take] at this;omega
 all_goals(rcases(⟨_⟩:PLift _)with⟨h⟩;exact h)):G:=h
theorem vU (l:List Sp) (hl:l.length <= 100000000) (hb:dw l <= 1000000000) (hbn:dw (norm l) <= 1000000000):aA env 153 [.lst 3 (bD l)] (fun r hs=>∃ E,r = .ptr 0 0 0 0 /\ hs = [⟨2,182,0,0,true,[[.own 1 1 0 (norm l).length,DT (norm l)]]⟩,⟨3,35,1,0,false,bD E⟩] /\ Oc (norm l) E 0):=by
 refine Ev.fnO [0,2,3] 0 [.tmp 2] Tryd.func153 (adZ _ rfl) ?_
 repeat' (first | refine' Ev.zS | ((with_reducible refine Ev.kr (hs:=[164]) (fun Q hQ=>?_));refine' Ev.zR) | ((with_reducible refine Ev.Ac 164 ?_);refine Ev.il 164 [0,10] [] Tryd.func164 (Kw _ rfl) (fun bF=>?_)) | ((((with_reducible refine Ev.ca0 ?_);refine ⟨(Kt l hl hb).mono ?_⟩;rintro _ _ ⟨E,rfl,rfl,hE1,hE2⟩;refine ⟨Nat.le_of_ble_eq_true rfl,⟨rfl,trivial⟩,?_⟩;conv=>whnf));conv=>whnf) | refine' Ev.zT | fail)
 · refine' agq
   have hlE:(norm l).length <= E.length:=by have:=congrArg List.length hE1;rw [List.length_take] at this;omega
   refine Ev.V6 [(536,1),(520,0)] (by simp) (fun F hF=>?_)
   conv=>whnf
   refine hF _ ?_
   generalize norm l = x at *
   cases x with
   | nil=>simp at h0
   | cons s x =>
     rw [List.length_cons] at hE1
     have e0:E = E[0] :: E.drop 1:=(List.drop_eq_getElem_cons hE0)
     have e1:=hE1
     rw [e0,List.take_succ_cons] at e1
     obtain ⟨x1,x2⟩:=List.cons.inj e1
     have r1:jF E[0].t = cZ (fE (pts s.t.data.toList)):=by rw [x1,runes_all]
     refine ⟨E,rfl,?_,by simpa using hlE,fun s' l' hx=>?_⟩
     · exact congrArg (fun x'=>[aG.mk 2 182 0 0 true [[AV.own 1 1 0 (x.length + 1),AV.lst 1 x']],aG.mk 3 35 1 0 false (bD E)]) r1
     · obtain ⟨rfl,rfl⟩:=List.cons.inj hx
       exact ⟨_,fun _=>⟨x1,x2⟩⟩
 · refine Ev.Side.of ?_
   refine' agq
   have e0:E = E[0] :: E.drop 1:=(List.drop_eq_getElem_cons hE0)
   have ht:=hbn
   generalize norm l = x at *
   cases x with
   | nil=>simp at h0
   | cons s x =>
     rw [List.length_cons] at hE1
     rw [e0,List.take_succ_cons] at hE1
     obtain ⟨x1,x2⟩:=List.cons.inj hE1
     show E[0].t.size <= _
     rw [x1];rw [aQ] at ht;omega
 · refine Ev.Side.of ?_
   show 0 < E.length
   have:=congrArg List.length hE1
   rw [List.length_take] at this;omega
 · have h0:norm l = []:=List.eq_nil_of_length_eq_zero (by omega)
   refine Ev.V6 [(536,1),(520,0)] (by simp) (fun F hF=>?_)
   conv=>whnf
   refine hF _ ?_
   rw [h0]
   exact ⟨E,rfl,rfl,by simp,fun s' l' hx=>by cases hx⟩
end Go.Proofs.YtadlnaljicikfaaDoor.aB
namespace Go.Proofs.YtadlnaljicikfaaDoor.aB
open Go Go.Lib
abbrev Ky (B R vb w:Nat) (E:List Sp) (off n:Nat) (tx:AV):List (Nat × aG):=[(B,⟨2,182,vb,0,true,[[.own R w off n,tx]]⟩),(R,⟨3,35,w,0,false,bD E⟩)]
theorem Kz {M:Mem} {J:cO} {r r' v off n:Nat} {u:Value} (h:Rel M J (.own r v off n) u):Rel M J (.own r' v off n) u:=by
 cases h with
 | pure h=>cases h
 | own hL hl hN hA hc=>exact .own hL hl hN hA hc
theorem aeA {M:Mem} {J:cO} {r r' v i o:Nat} {u:Value} (h:Rel M J (.ptr r v i o) u):Rel M J (.ptr r' v i o) u:=by
 cases h with
 | pure h=>cases h
 | ptr hL hN=>exact .ptr hL hN
theorem AP {B R vb w:Nat} {E:List Sp} {off n:Nat} {tx:AV} {r:Nat} {k:aG} (h:get (Ky B R vb w E off n tx) r = some k) :
   (r = B /\ k = ⟨2,182,vb,0,true,[[.own R w off n,tx]]⟩) ∨ (r = R /\ k = ⟨3,35,w,0,false,bD E⟩):=by
 rw [aF,aF,get_nil] at h
 split at h
 · rename_i e;exact .inl ⟨e.symm ▸ rfl,(Option.some.inj h).symm⟩
 · split at h
   · rename_i e;exact .inr ⟨e.symm ▸ rfl,(Option.some.inj h).symm⟩
   · cases h
theorem Inv.Yt {E:Env} {M0:pR} {w0:World} {c:Nat} {M:Mem} {J:cO} {W:World} {B R B' R' vb w:Nat} {S:List Sp} {off n:Nat} {tx:AV} (hne:B ≠ R) (inv:Inv E M0 w0 c M J ⟨[],Ky B R vb w S off n tx,0⟩ #[] W) :
   Inv E M0 w0 c M J ⟨[],Ky B' R' vb w S off n tx,0⟩ #[] W:=by
 have gB:get (Ky B R vb w S off n tx) B = some ⟨2,182,vb,0,true,[[.own R w off n,tx]]⟩:=by rw [aF,if_pos rfl]
 have gR:get (Ky B R vb w S off n tx) R = some ⟨3,35,w,0,false,bD S⟩:=by rw [aF,if_neg (Ne.symm hne),aF,if_pos rfl]
 refine ⟨inv.below,inv.mem,inv.kD,inv.jM,inv.glob,fun t x h=>by simp [get_nil] at h,?_,?_,?_,inv.vers,inv.jE,inv.far⟩
 · intro r k hk
   rcases AP hk with ⟨rfl,rfl⟩ | ⟨rfl,rfl⟩
   · obtain ⟨L,C,h1,h2,h3⟩:=inv.heap _ _ gB
     refine ⟨L,C,h1,h2,h3.blk,h3.none,h3.size,h3.fits,h3.gJ,h3.sz,?_,?_,h3.cap⟩
     · intro i e he
       cases i with
       | zero=>obtain rfl:=Option.some.inj he;rfl
       | succ i=>simp at he
     · intro i e j c he hc
       cases i with
       | zero =>
         obtain rfl:=Option.some.inj he
         cases j with
         | zero =>
           obtain rfl:=Option.some.inj hc
           obtain ⟨u,u1,u2,u3⟩:=h3.cell 0 _ 0 _ rfl rfl
           exact ⟨u,u1,u2,Kz u3⟩
         | succ j=>exact h3.cell 0 _ (j + 1) c rfl hc
       | succ i=>simp at he
   · exact inv.heap _ _ gR
 · intro r r' k k' L L' hk hk' hL hL' hN hN' hr
   rcases AP hk with ⟨rfl,rfl⟩ | ⟨rfl,rfl⟩ <;> rcases AP hk' with ⟨rfl,rfl⟩ | ⟨rfl,rfl⟩
   · exact absurd rfl hr
   · exact inv.apart _ _ _ _ L L' gB gR hL hL' hN hN' hne
   · exact inv.apart _ _ _ _ L L' gR gB hL hL' hN hN' (Ne.symm hne)
   · exact absurd rfl hr
 · intro r k L o u hk hL hN hu
   rcases AP hk with ⟨rfl,rfl⟩ | ⟨rfl,rfl⟩
   · have:=inv.owns _ _ L o u gB hL hN hu;exact this
   · exact inv.owns _ _ L o u gR hL hN hu
theorem Yu {E:Env} {N:Nat} {f:FuncId} {vb w:Nat} {S:List Sp} {off n:Nat} {tx:AV} {args:List AV} {R:AV -> Nat -> List Sp -> Nat -> Nat -> AV -> Prop} (B' R':Nat) (hne:B' ≠ R')
   (hc:iM E N f (.ptr 5128 vb 0 0 :: args) (Vj vb w S off n tx) fun r hp1=>∃ S' off' n' DU,hp1 = Vj vb w S' off' n' DU /\ R r w S' off' n' DU) :
   iM E N f (.ptr B' vb 0 0 :: args) (Ky B' R' vb w S off n tx) fun r hp1=>∃ S' off' n' DU,hp1 = Ky B' R' vb w S' off' n' DU /\ R r w S' off' n' DU:=by
 intro M0 w0 c M J W vs inv hn hr
 obtain ⟨a,b⟩:=hc M0 w0 c M J W vs (inv.Yt (B':=5128) (R':=5129) hne) hn (fun i x v hx hv=>by
   cases i with
   | zero=>obtain rfl:=Option.some.inj hx;exact aeA (hr 0 _ v rfl hv)
   | succ i=>exact hr (i + 1) x v hx hv)
 refine ⟨a,b.mono ?_⟩
 rintro e w' ⟨v,r,hp1,c',M',J',x1,⟨S',off',n',DU,rfl,x2⟩,x3,x4⟩
 exact ⟨v,r,_,c',M',J',x1,⟨S',off',n',DU,rfl,x2⟩,x3.Yt (by decide),x4⟩
namespace Ev
theorem aa7{G:Prop}(h:G:=by
 have hct:J ct = none:=by
   cases h:J ct with
   | none=>rfl
   | some L=>exact absurd (inv.vers ct L h) (Nat.lt_irrefl _)
 let J':cO:=fun x=>if x = ct then some ⟨0,0,sz,true⟩ else J x
 have hJ:∀ q L,J q = some L -> J' q = some L:=by
   intro q L h
   show (if q = ct then _ else J q) = _
   rw [if_neg (by rintro rfl;rw [hct] at h;cases h)];exact h
 have hc:J' ct = some ⟨0,0,sz,true⟩:=if_pos rfl
 all_goals(rcases(⟨_⟩:PLift _)with⟨h⟩;exact h)):G:=h
theorem ac6{G:Prop}(h:G:=by
 exact ⟨L,C,hJ _ _ h1,h2,h3.blk,h3.none,h3.size,h3.fits,h3.gJ,h3.sz,h3.len,fun i e j c h h'=>by
   obtain ⟨u,u1,u2,u3⟩:=h3.cell i e j c h h'
   exact ⟨u,u1,u2,u3.mono (fun _ _ _ h=>h) hJ⟩,h3.cap⟩):G:=h
theorem aeo{G:Prop}(h:G:=by (refine ⟨⟨0,0,sz,true⟩,#[],hc,fun h=>Bool.noConfusion h,⟨fun h=>Bool.noConfusion h,fun _=>rfl,?_,Nat.le_refl _,Nat.le_refl _,rfl,fun i e h=>?_,fun i e j c h=>?_,Nat.zero_le _⟩⟩);all_goals(rcases(⟨_⟩:PLift _)with⟨h⟩;exact h)):G:=h
theorem afd{G:Prop}(h:G:=by
 have hold:∀ q k L,get hp q = some k -> J' k.ver = some L -> J k.ver = some L:=by
   intro q k L h hL
   obtain ⟨L1,C1,a1,_⟩:=inv.heap q k h
   rw [hJ _ _ a1] at hL;rw [a1,hL]
 all_goals(rcases(⟨_⟩:PLift _)with⟨h⟩;exact h)):G:=h
theorem afx{G:Prop}(h:G:=by
 have h:(if q = ct then some ⟨0,0,sz,true⟩ else J q) = some L:=h
 split at h
 all_goals(rcases(⟨_⟩:PLift _)with⟨h⟩;exact h)):G:=h
theorem agb{G:Prop}(h:G:=by
 obtain rfl:=Option.some.inj hk
 rw [hc] at hL;obtain rfl:=Option.some.inj hL;cases hN):G:=h
theorem agu{G:Prop}(h:G:=by
 obtain ⟨u,h1,h2⟩:=inv.slot t' x hx
 exact ⟨u,h1,h2.mono (fun _ _ _ h=>h) hJ⟩):G:=h
theorem ajE {E:Env} {sl:List (Nat × AV)} {hp:List (Nat × aG)} {ct t r sz ty:Nat} (hg:get sl t = some nilA) (hr:get hp r = none) :
   Gh E ⟨sl,hp,ct⟩ ⟨(t,.own r ct 0 0) :: sl,(r,⟨sz,ty,ct,0,false,[]⟩) :: hp,ct + 8⟩:=by
 intro M0 w0 M J tm w inv
 obtain ⟨v,hv,hrel⟩:=inv.slot t _ hg
 refine' aa7
 have hback:∀ q L,J' q = some L -> L.nil = false -> J q = some L:=by
   intro q L h hN
   refine' afx
   · obtain rfl:=Option.some.inj h;cases hN
   · exact h
 refine' afd
 have hv':v = .slice none 0 0:=by
   cases hrel with
   | pure h=>cases h;rfl
 refine ⟨M,J',inv.below,inv.mem,inv.kD,inv.jM,inv.glob,?_,?_,?_,?_,?_,fun q L h=>hJ _ _ (inv.jE q L h),inv.far⟩
 · intro t' x hx
   rw [aF] at hx
   split at hx
   · rename_i e
     obtain rfl:=Option.some.inj hx
     subst e;subst hv'
     exact ⟨_,hv,.own hc (Nat.le_refl _) (fun _=>rfl) (fun h=>by cases h) rfl⟩
   · refine' agu
 · intro q k hk
   rw [aF] at hk
   split at hk
   · obtain rfl:=Option.some.inj hk
     refine' aeo
     · show 0 = 0 * sz;omega
     · cases h
     · cases h
   · obtain ⟨L,C,h1,h2,h3⟩:=inv.heap q k hk
     refine' ac6
 · intro q q' k k' L L' hk hk' hL hL' hN hN' hne
   have f:∀ q k L,get ((r,(⟨sz,ty,ct,0,false,[]⟩:aG)) :: hp) q = some k -> J' k.ver = some L -> L.nil = false -> get hp q = some k /\ J k.ver = some L:=by
     intro q k L hk hL hN
     rw [aF] at hk
     split at hk
     · refine' agb
     · exact ⟨hk,hold q k L hk hL⟩
   obtain ⟨a1,a2⟩:=f q k L hk hL hN
   obtain ⟨b1,b2⟩:=f q' k' L' hk' hL' hN'
   exact inv.apart q q' k k' L L' a1 b1 a2 b2 hN hN' hne
 · intro q k L o u hk hL hN hu
   rw [aF] at hk
   split at hk
   · refine' agb
   · exact inv.owns q k L o u hk (hold q k L hk hL) hN hu
 · intro q L h
   refine' afx
   · rename_i e;subst e;show q < q + 8;omega
   · exact Nat.lt_of_lt_of_le (inv.vers q L h) (Nat.le_add_right ct 8)
theorem Ru {E:Env} {nt:Nat} (t r sz ty:Nat) {c:CC} {K:Exit -> St -> Prop} {sl:List (Nat × AV)} {hp:List (Nat × aG)} {ct:Nat} (hg:get sl t = some nilA) (hr:get hp r = none)
 (h:Wp E nt c K ⟨(t,.own r ct 0 0) :: sl,(r,⟨sz,ty,ct,0,false,[]⟩) :: hp,ct + 8⟩):Wp E nt c K ⟨sl,hp,ct⟩:=yg.ghost (ajE hg hr) h
end Ev
end Go.Proofs.YtadlnaljicikfaaDoor.aB
namespace Go.Proofs.YtadlnaljicikfaaDoor.aB
open Go
set_option maxRecDepth 100000
attribute [local irreducible] Ev.iE Ev.iG Ev.bW Ev.runK Ev.bY Ev.gq Ev.Side Ev.Wp Ev.Again Ev.To Ev.Fin
open Go.Lib Go.RowKit
def KA:Ev.Pl:=(.one 1 false (.one 2 true (.one 3 true (.one 5 false (.one 6 false (.one 7 false (.one 8 true (.one 9 true (.one 10 true (.one 0 false (.two 4 (.one 11 false (.one 12 false (.one 13 false .fin))) 11 (.one 4 false (.one 12 false (.one 13 false .fin))))))))))))))
theorem aeB:∀ c,Tryd.f107.body = some c -> comp c = (.seq (.reg 0 [I.n 0 6 I.sn]) (.seq (.reg 1 [I.n 0 13 (I.mv 0),I.n 1 14 (I.mv 0),I.n 2 15 (I.mv 2),I.n 3 16 (I.c2 106 14 15 25 3),I.n 4 17 (.slice 25 (.tmp 13) (some (.tmp 16)) none none),I.n 5 0 (I.sa 17)]) (.seq (.draw 2 [I.n 0 18 (.makeMap 161 none),I.n 1 19 (I.mv 0),I.n 2 20 (I.ic 25 19 0),I.n 3 21 (I.ld 3 20),I.u 4 (.insert 161 (.tmp 18) (.tmp 21) (.const (Value.bool true))),I.n 5 22 (I.mv 0),I.n 6 23 (I.mv 0),I.n 7 24 (I.ln 23 25),I.n 8 25 (I.bc .sub 3 24 1 3),I.n 9 26 (I.ia 25 22 25),I.n 10 27 (I.ld 3 26),I.u 11 (.insert 161 (.tmp 18) (.tmp 27) (.const (Value.bool true))),I.n 12 28 (I.mv 18),I.n 13 7 (I.sa 28)] [[],[],[1],[2],[0,3],[],[],[6],[7],[5,8],[9],[0,10],[0,1,2,3,4,5,6,7,8,9,10,11],[12,0,1,2,3,4,5,6,7,8,9,10,11,12]]) (.seq (.seq (.reg 3 [I.n 0 29 (I.mv 1),I.n 1 30 (I.ln 29 25),I.n 2 31 (.move (.const (Value.int .i64 0)))]) (.block 0 (.loop (.seq (.reg 4 [I.n 0 32 (I.bo .lss 3 31 30 3)]) (.seq (.cond (.tmp 32) .skip (.exit 0)) (.seq (.block 1 (.seq (.reg 5 [I.n 0 33 (I.ia 25 29 31),I.n 1 34 (I.ld 3 33),I.n 2 9 (I.sa 34)]) (.reg 6 [I.n 0 35 (I.mv 7),I.n 1 36 (I.mv 9),I.u 2 (.mapUpdate 161 (.tmp 35) (.tmp 36) (.const (Value.bool true)))]))) (.reg 7 [I.n 0 37 (I.bc .add 3 31 1 3),I.n 1 31 (I.mv 37)]))))))) (.seq (.reg 8 [I.n 0 10 I.sn]) (.seq (.seq (.reg 9 [I.n 0 38 (I.mv 0),I.n 1 39 (I.ln 38 25),I.n 2 40 (.move (.const (Value.int .i64 0)))]) (.block 2 (.loop (.seq (.reg 10 [I.n 0 41 (I.bo .lss 3 40 39 3)]) (.seq (.cond (.tmp 41) .skip (.exit 2)) (.seq (.block 3 (.seq (.reg 11 [I.n 0 42 (I.ia 25 38 40),I.n 1 43 (I.ld 3 42),I.n 2 12 (I.sa 43)]) (.seq (.reg 12 [I.n 0 44 (I.mv 7),I.n 1 45 (I.mv 12),I.n 2 46 (.lookup 161 (.tmp 44) (.tmp 45) false)]) (.cond (.tmp 46) (.reg 13 [I.n 0 47 (I.mv 10),I.n 1 48 (I.mv 12),I.n 2 49 (I.b1 25 48),I.n 3 50 (I.ap 47 49 25 25),I.n 4 10 (I.sa 50)]) .skip)))) (.reg 14 [I.n 0 51 (I.bc .add 3 40 1 3),I.n 1 40 (I.mv 51)]))))))) (.seq (.reg 15 [I.n 0 52 (I.mv 10),I.n 1 6 (I.sa 52)]) .ret))))))):=by
 intro c h
 have:c = Tryd.f107.body.get rfl:=by rw [<- Option.some_inj,<- h];rfl
 rw [this];rfl
theorem IV {l:List Int} {i:Nat} (h:i < l.length):(ints l)[i]? = some [.v (.int .i64 (l.getD i 0))]:=by
 simp [ints,List.getD_eq_getElem?_getD,List.getElem?_eq_getElem h]
structure Stop (p:Prop):Prop where
 of:p
theorem Ev.alu {E:Env} {nt id:Nat} {l:List Ins} {deps:List (List Nat)} {r:CC} {K:Exit -> St -> Prop} {s:St} (h:Stop (Ev.Wp E nt (.seq (.draw id l deps) r) K s)):Ev.Wp E nt (.seq (.draw id l deps) r) K s:=h.of
def VF (rs set:List Int) (x:Int):Bool:=decide ((x = rs.getD 0 0 ∨ x = rs.getD (rs.length - 1) 0) ∨ x ∈ set)
def kpF (rs set:List Int):List Int:=rs.filter (VF rs set)
theorem aad{G:Prop}(h:G:=by (repeat' (first | (with_reducible first | refine Ev.aK hii ?_ | refine Ev.aV hii ?_ | refine Ev.aJ hii ?_ | refine Ev.aP hii ?_) | refine' Ev.zS | refine' Ev.zK | ((with_reducible refine Ev.dG ?_);(first | refine Ev.H7 2 [] KA ?_);intro Q hQ;(simp only [Ev.gK,Ev.eP,Ev.eU,Ev.gQ]);conv=>whnf) | ((with_reducible refine Ev.both ?_ ?_) <;> (conv=>whnf)) | refine' Ev.zT | fail));all_goals(rcases(⟨_⟩:PLift _)with⟨h⟩;exact h)):G:=h
theorem Ze{G:Prop}(h:G:=by (repeat' (first | refine' Ev.zS | refine' Ev.zK | ((with_reducible refine Ev.dG ?_);(first | refine Ev.H7 2 [] KA ?_);intro Q hQ;(simp only [Ev.gK,Ev.eP,Ev.eU,Ev.gQ]);conv=>whnf) | ((with_reducible refine Ev.both ?_ ?_) <;> (conv=>whnf)) | refine' Ev.zT | fail));all_goals(rcases(⟨_⟩:PLift _)with⟨h⟩;exact h)):G:=h
theorem ahd{G:Prop}(h:G:=by rename_i e;subst e;exact ⟨by decide,h⟩):G:=h
theorem KC (rs set:List Int) (f:Int) (hl:rs.length <= 100000000) (hl2:set.length <= 100000000) (h0:0 < rs.length):aA env 107 [.lst 1 (ints rs),.lst 1 (ints set),.v (.int .i64 f)] (fun r hs=>r = .lst 1 (ints (kpF (rs.drop (dh rs f)) set)) /\ hs = []):=by
 have hil:=bP rs
 have hF:=FB rs f hl
 have hfl:dh rs f < rs.length:=by have:=uo rs f;unfold dh;omega
 generalize dh rs f = fr at hF hfl
 refine Ev.fn [0,1,2,6,7,9,10,12,29,30,31,32,38,39,40,41,46] 0 [.tmp 6] Tryd.func107 (aeB _ rfl) ?_
 have hrs:(ints rs).drop fr = ints (rs.drop fr):=by simp [ints]
 have hcut:List.take ((ints rs).length - ((fr:Int)).toNat) (List.drop ((fr:Int)).toNat (ints rs)) = ints (rs.drop fr):=by
   rw [Int.toNat_natCast,hrs,List.take_of_length_le (by rw [<- hrs,List.length_drop];exact Nat.le_refl _)]
 have hdl:(rs.drop fr).length <= 100000000 /\ 0 < (rs.drop fr).length:=by rw [List.length_drop];omega
 generalize rs.drop fr = ds at hcut hdl
 have hid:=bP ds
 repeat' (first | ((with_reducible refine Ev.alu ?_)) | refine' Ev.zS | refine' Ev.zK | ((with_reducible refine Ev.ca0 ?_);(first | refine Ev.ca (hF) ?_);conv=>whnf) | ((with_reducible refine Ev.dG ?_);(first | refine Ev.H7 2 [] KA ?_);intro Q hQ;(simp only [Ev.gK,Ev.eP,Ev.eU,Ev.gQ]);conv=>whnf) | ((with_reducible refine Ev.both ?_ ?_) <;> (conv=>whnf)) | refine' Ev.zT | fail)
 refine ⟨?_⟩
 rw [hcut]
 refine Ev.ajo (mty:=161) (sty:=25) (ity:=3) (sl1:=[(0,.lst 1 (ints ds)),(1,.lst 1 (ints set)),(6,nilA)]) (k0:=ds.getD 0 0) (k1:=ds.getD (ds.length - 1) 0) E5 (mixed' _ _) Tryd.underlying161 Tryd.underlying3 rfl rfl rfl ?hx0 ?hx1 ?hln ?hsl ?h
 case hx0=>exact IV (by omega)
 case hx1=>rw [hid];exact IV (by omega)
 case hln=>omega
 case hsl =>
   intro t x h
   simp only [aF,get_nil] at h ⊢
   split at h
   · refine' ahd
   · split at h
     · refine' ahd
     · split at h
       · refine' ahd
       · cases h
 intro b0 S hS
 refine Ev.Iz (Ev.oZ ?_)
 refine' Ze
 refine Ev.Ef (Ev.X8 (fun k s S'=>∃ i c:Nat,s = ⟨[(0,.lst 1 (ints ds)),(6,nilA),(7,.v (.map (some b0))),(29,.lst 1 (ints set)),(30,.v (.int .i64 set.length)),(31,.v (.int .i64 i))],[],c⟩ /\ k + i = set.length /\ ∀ x,x ∈ S' ↔ (x = ds.getD 0 0 ∨ x = ds.getD (ds.length - 1) 0) ∨ x ∈ set.take i) ?_ ?_)
 · refine Ev.zB ⟨set.length,0,?_,rfl,?_⟩
   exact ⟨by omega,fun x=>by rw [hS];simp⟩
 · rintro k s1 S1 ⟨i,c,rfl,hk,hS1⟩
   refine Ev.oZ ?_
   by_cases hi:i < set.length
   · have hii:(i:Int) < (set.length:Int):=by omega
     refine' aad
     refine Ev.oZ ?_
     refine' aad
     refine Ev.Iz (Ev.Ef (Ev.oZ ?_))
     refine' Ze
     refine Ev.alm Tryd.underlying161 Tryd.underlying3 rfl rfl rfl (Ev.JX (Ev.nG (Ev.U7 ?_)))
     refine' Ze
     refine Ev.nG ?_
     refine Ev.zA (k - 1) ⟨i + 1,?_,rfl,?_⟩
     refine ⟨by omega,fun x=>?_⟩
     rw [List.mem_cons,hS1,List.take_succ_eq_append_getElem (by omega),List.mem_append,List.mem_singleton]
     constructor
     · rintro (h | h | h)
       · exact .inr (.inr h)
       · exact .inl h
       · exact .inr (.inl h)
     · rintro (h | h | h)
       · exact .inr (.inl h)
       · exact .inr (.inr h)
       · exact .inl h
   · have hii:¬ (i:Int) < (set.length:Int):=by omega
     refine' aad
     refine Ev.oZ ?_
     refine' aad
     refine Ev.QS (Ev.QT (Ev.nG (Ev.oZ ?_)))
     rw [List.take_of_length_le (by omega)] at hS1
     refine' Ze
     refine Ev.Iz (Ev.oZ ?_)
     refine Ev.Ru 10 9000 1 3 rfl rfl ?_
     refine' Ze
     refine Ev.Ef (Ev.X8 (fun k s S'=>∃ i c v:Nat,s = ⟨[(7,.v (.map (some b0))),(10,.own 9000 v 0 ((ds.take i).filter (VF ds set)).length),(38,.lst 1 (ints ds)),(39,.v (.int .i64 ds.length)),(40,.v (.int .i64 i))],[(9000,⟨1,3,v,0,false,ints ((ds.take i).filter (VF ds set))⟩)],c⟩ /\ k + i = ds.length /\ S' = S1) ?_ ?_)
     · refine Ev.zB ⟨ds.length,0,?_,?_,rfl,?_⟩
       exact ⟨by omega,rfl⟩
     · rintro k s2 S2 ⟨i,c,v,rfl,hk,rfl⟩
       refine Ev.oZ ?_
       by_cases hi:i < ds.length
       · have hii:(i:Int) < (ds.length:Int):=by omega
         refine' aad
         refine Ev.oZ ?_
         refine' aad
         refine Ev.Iz (Ev.Ef (Ev.oZ ?_))
         refine' Ze
         have hcp:((ds.take i).filter (VF ds set)).length <= i:=by
           have h1:=List.length_filter_le (VF ds set) (ds.take i)
           rw [List.length_take] at h1;omega
         have hst:(ds.take (i + 1)).filter (VF ds set) = (ds.take i).filter (VF ds set) ++ if VF ds set ds[i] = true then [ds[i]] else []:=by
           rw [List.take_succ_eq_append_getElem (by omega),List.filter_append,List.filter_cons,List.filter_nil]
         refine Ev.Iz (Ev.aln Tryd.underlying161 Tryd.underlying3 (zq (n:=1) (b:=1) (by kernel_rfl)) rfl rfl rfl (Ev.nG (Ev.U7 ?_)))
         refine' Ze
         · rename_i h
           rw [if_pos (by unfold VF;rw [decide_eq_true ((hS1 _).1 h)])] at hst
           refine Ev.JX (Ev.nG (Ev.U7 ?_))
           refine' Ze
           refine Ev.nG ?_
           refine Ev.zA (k - 1) ⟨i + 1,?_,?_,rfl,?_⟩ (by refine' Ev.zp <;> first | (first | (rw [hst,List.length_append];rfl) | exact congrArg (fun e=>aG.mk 1 3 _ 0 false e) (by rw [hst];simp [ints]) | exact wrap_succ (by omega) | rfl) | rfl | (refine' Ev.ze;(first | (rw [hst,List.length_append];rfl) | exact congrArg (fun e=>aG.mk 1 3 _ 0 false e) (by rw [hst];simp [ints]) | exact wrap_succ (by omega) | rfl)) | fail)
           exact ⟨by omega,rfl⟩
         · rename_i h
           rw [if_neg (by unfold VF;rw [decide_eq_false (fun h'=>h ((hS1 _).2 h'))];decide),List.append_nil] at hst
           refine Ev.JX (Ev.nG (Ev.U7 ?_))
           refine' Ze
           refine Ev.nG ?_
           refine Ev.zA (k - 1) ⟨i + 1,?_,?_,rfl,?_⟩ (by refine' Ev.zp <;> first | (first | (rw [hst];done) | exact wrap_succ (by omega) | rfl) | rfl | (refine' Ev.ze;(first | (rw [hst];done) | exact wrap_succ (by omega) | rfl)) | fail)
           exact ⟨by omega,rfl⟩
       · have hii:¬ (i:Int) < (ds.length:Int):=by omega
         have hli:=bP ((ds.take i).filter (VF ds set))
         refine' aad
         refine Ev.oZ ?_
         refine' aad
         refine Ev.QS (Ev.QT (Ev.nG (Ev.U7 ?_)))
         refine' Ze
         refine ⟨congrArg (AV.lst 1) ((List.take_of_length_le (by rw [List.drop_zero];omega)).trans ?_),rfl⟩
         rw [List.take_of_length_le (by omega)];rfl
theorem Yv (rs set:List Int) (fr:Nat) (hs:rs.Pairwise (· < ·)):kpF (rs.drop fr) set = rC rs (uq rs set fr rs.length):=by
 unfold kpF rC uq
 have e:rs.drop fr = ((List.range rs.length).drop fr).map fun i=>rs.getD i 0:=by
   apply List.ext_getElem
   · simp
   · intro i h1 h2
     rw [List.length_drop] at h1
     simp [List.getD_eq_getElem?_getD,List.getElem?_eq_getElem (show fr + i < rs.length by omega)]
 rw [e,List.filter_map]
 congr 1
 refine List.filter_congr fun i hi=>?_
 obtain ⟨j,hj,rfl⟩:=List.getElem_of_mem hi
 rw [List.length_drop,List.length_range] at hj
 rw [<- e]
 have hinj:∀ a b,a < rs.length -> b < rs.length -> rs.getD a 0 = rs.getD b 0 -> a = b:=by
   intro a b ha hb h
   rw [List.getD_eq_getElem?_getD,List.getD_eq_getElem?_getD,List.getElem?_eq_getElem ha,List.getElem?_eq_getElem hb] at h
   simp only [Option.getD_some] at h
   rcases Nat.lt_trichotomy a b with h1 | h1 | h1
   · have:=List.pairwise_iff_getElem.1 hs a b ha hb h1;omega
   · exact h1
   · have:=List.pairwise_iff_getElem.1 hs b a hb ha h1;omega
 have hgd:∀ a,fr + a < rs.length -> (rs.drop fr).getD a 0 = rs.getD (fr + a) 0:=fun a ha=>by
   rw [List.getD_eq_getElem?_getD,List.getD_eq_getElem?_getD,List.getElem?_drop]
 simp only [Function.comp,VF,Gs,List.getElem_drop,List.getElem_range]
 rw [List.length_drop,hgd 0 (by omega),hgd _ (by omega),Nat.add_zero,show fr + (rs.length - fr - 1) = rs.length - 1 by omega]
 have e1:(rs.getD (fr + j) 0 = rs.getD fr 0) ↔ fr + j = fr:=⟨hinj _ _ (by omega) (by omega),fun h=>by rw [h]⟩
 have e2:(rs.getD (fr + j) 0 = rs.getD (rs.length - 1) 0) ↔ fr + j = rs.length - 1:=⟨hinj _ _ (by omega) (by omega),fun h=>by rw [h]⟩
 rw [<- Bool.decide_or,<- Bool.decide_or,decide_eq_decide,e1,e2,or_assoc]
theorem Nw (rs set:List Int) (f:Int) (hl:rs.length <= 100000000) (hl2:set.length <= 100000000) (h0:0 < rs.length) (hs:rs.Pairwise (· < ·)):aA env 107 [.lst 1 (ints rs),.lst 1 (ints set),.v (.int .i64 f)] (fun r hs=>r = .lst 1 (ints (rC rs (uq rs set (dh rs f) rs.length))) /\ hs = []):=by
 rw [<- Yv rs set _ hs];exact KC rs set f hl hl2 h0
end Go.Proofs.YtadlnaljicikfaaDoor.aB
namespace Go.Proofs.YtadlnaljicikfaaDoor.aB
open Go Go.Lib
namespace Ev
theorem aeC {E:Env} {sl:List (Nat × AV)} {hp:List (Nat × aG)} {ct q v0 Yw r sz ty n0 j0:Nat} {cs:List AV} (hg:get hp q = some ⟨n0,Yw,v0,0,true,[cs]⟩) (hn:cs[j0]? = some nilA) (hr:get hp r = none) :
   Gh E ⟨sl,hp,ct⟩ ⟨sl,(q,⟨n0,Yw,v0,0,true,[cs.set j0 (.own r ct 0 0)]⟩) :: (r,⟨sz,ty,ct,0,false,[]⟩) :: hp,ct + 8⟩:=by
 intro M0 w0 M J tm w inv
 have hqr:q ≠ r:=by rintro rfl;rw [hr] at hg;cases hg
 refine' aa7
 refine' afd
 have hcase:∀ p k,get ((q,(⟨n0,Yw,v0,0,true,[cs.set j0 (.own r ct 0 0)]⟩:aG)) :: (r,(⟨sz,ty,ct,0,false,[]⟩:aG)) :: hp) p = some k ->
     (p = q /\ k = ⟨n0,Yw,v0,0,true,[cs.set j0 (.own r ct 0 0)]⟩) ∨ (p = r /\ k = ⟨sz,ty,ct,0,false,[]⟩) ∨ (p ≠ q /\ p ≠ r /\ get hp p = some k):=by
   intro p k hk
   rw [aF] at hk
   split at hk
   · rename_i e;exact .inl ⟨e,(Option.some.inj hk).symm⟩
   · rename_i e
     rw [aF] at hk
     split at hk
     · rename_i e2;exact .inr (.inl ⟨e2,(Option.some.inj hk).symm⟩)
     · rename_i e2;exact .inr (.inr ⟨e,e2,hk⟩)
 have f:∀ p k L,get ((q,(⟨n0,Yw,v0,0,true,[cs.set j0 (.own r ct 0 0)]⟩:aG)) :: (r,(⟨sz,ty,ct,0,false,[]⟩:aG)) :: hp) p = some k -> J' k.ver = some L -> L.nil = false ->
     ∃ k0,get hp p = some k0 /\ J k0.ver = some L /\ k0.gJ = k.gJ /\ k0.sz = k.sz:=by
   intro p k L hk hL hN
   rcases hcase p k hk with ⟨rfl,rfl⟩ | ⟨rfl,rfl⟩ | ⟨_,_,h⟩
   · exact ⟨_,hg,hold _ _ L hg hL,rfl,rfl⟩
   · rw [hc] at hL;obtain rfl:=Option.some.inj hL;cases hN
   · exact ⟨k,h,hold p k L h hL,rfl,rfl⟩
 refine ⟨M,J',inv.below,inv.mem,inv.kD,inv.jM,inv.glob,?_,?_,?_,?_,?_,fun q L h=>hJ _ _ (inv.jE q L h),inv.far⟩
 · intro t' x hx
   refine' agu
 · intro p k hk
   rcases hcase p k hk with ⟨rfl,rfl⟩ | ⟨rfl,rfl⟩ | ⟨_,_,h⟩
   · obtain ⟨L,C,h1,h2,h3⟩:=inv.heap p _ hg
     refine ⟨L,C,hJ _ _ h1,h2,h3.blk,h3.none,h3.size,h3.fits,h3.gJ,h3.sz,fun i e h=>?_,fun i e j c h h'=>?_,h3.cap⟩
     · cases i with
       | zero=>simp at h;subst h;rw [List.length_set];exact h3.len 0 cs rfl
       | succ i=>simp at h
     · cases i with
       | succ i=>simp at h
       | zero =>
         simp at h;subst h
         rw [List.getElem?_set] at h'
         split at h'
         · rename_i e
           subst e
           split at h'
           · obtain rfl:=Option.some.inj h'
             obtain ⟨u,u1,u2,u3⟩:=h3.cell 0 cs j0 nilA rfl hn
             refine ⟨u,u1,u2,?_⟩
             have u4:Rel M J nilA u:=u3.rel
             obtain rfl:=u4.dn
             exact .own hc (Nat.le_refl _) (fun _=>rfl) (fun h=>by cases h) rfl
           · cases h'
         · obtain ⟨u,u1,u2,u3⟩:=h3.cell 0 cs j c rfl h'
           exact ⟨u,u1,u2,u3.mono (fun _ _ _ h=>h) hJ⟩
   · refine' aeo
     · show 0 = 0 * sz;omega
     · cases h
     · cases h
   · obtain ⟨L,C,h1,h2,h3⟩:=inv.heap p k h
     refine' ac6
 · intro p p' k k' L L' hk hk' hL hL' hN hN' hne
   obtain ⟨k1,a1,a2,_⟩:=f p k L hk hL hN
   obtain ⟨k2,b1,b2,_⟩:=f p' k' L' hk' hL' hN'
   exact inv.apart p p' k1 k2 L L' a1 b1 a2 b2 hN hN' hne
 · intro p k L o u hk hL hN hu
   obtain ⟨k1,a1,a2,a3,a4⟩:=f p k L hk hL hN
   have:=inv.owns p k1 L o u a1 a2 hN hu
   rw [a3,a4] at this;exact this
 · intro q L h
   refine' afx
   · rename_i e;subst e;show q < q + 8;omega
   · exact Nat.lt_of_lt_of_le (inv.vers q L h) (Nat.le_add_right ct 8)
theorem Ny {E:Env} {nt:Nat} (q r sz ty j0:Nat) {c:CC} {K:Exit -> St -> Prop} {sl:List (Nat × AV)} {hp:List (Nat × aG)} {ct v0 Yw n0:Nat} {cs:List AV} (hg:get hp q = some ⟨n0,Yw,v0,0,true,[cs]⟩) (hn:cs[j0]? = some nilA) (hr:get hp r = none)
 (h:Wp E nt c K ⟨sl,(q,⟨n0,Yw,v0,0,true,[cs.set j0 (.own r ct 0 0)]⟩) :: (r,⟨sz,ty,ct,0,false,[]⟩) :: hp,ct + 8⟩):Wp E nt c K ⟨sl,hp,ct⟩:=yg.ghost (aeC hg hn hr) h
end Ev
structure CI (C:List Sp) (k:Nat) (x y out:List Sp):Prop where
 len:x.length + y.length <= k
 ax:bJ x
 ay:bJ y
 fx:Ob x
 fy:Ob y
 ho:bg (dO x) = bV (dO y)
 eq:out ++ lF k x y = C
 bl:out.length + (x.length + y.length) <= 20000000
 bt:dw x + dw y <= 1000000000
theorem CI.fin {C:List Sp} {k:Nat} {out:List Sp} (h:CI C k [] [] out):out = C:=by
 have:=h.eq
 cases k <;> simpa [lF] using this
theorem CI.vk {C:List Sp} {k:Nat} {v:Sp} {y out:List Sp} (h:CI C k [] (v :: y) out):v.k = 2:=by
 have ho:=h.ho
 rw [aS,eY,iH] at ho
 simp only [bg] at ho
 refine Decidable.byContradiction fun hk=>?_
 have h1:=(jY h.ay.head).1
 have h2:=AO h.ay.head (h.fy v (by simp))
 rw [iy hk] at h2
 rcases jJ h.ay.head with ⟨a,_⟩ | ⟨a,b,c,d⟩
 · exact hk a
 · omega
theorem CI.uk {C:List Sp} {k:Nat} {u:Sp} {x out:List Sp} (h:CI C k (u :: x) [] out):u.k = 3:=by
 have ho:=h.ho
 rw [aS,gW,iH] at ho
 simp only [bV] at ho
 have h2:=AO h.ax.head (h.fx u (by simp))
 have h3:=mg h.ax.head
 refine Decidable.byContradiction fun hk=>?_
 have h4:=iP h.ax.head (Nat.le_refl (eu u))
 rw [List.take_of_length_le (by omega)] at h4
 rcases h4 with ⟨_,e⟩ | ⟨a,_⟩ | ⟨_,l,e1,e2⟩
 · rw [e] at ho;have:=(jy (eu u)).2;omega
 · exact hk a
 · rw [e2] at ho;have:=(qA l).2;omega
theorem aa2{G:Prop}(h:G:=by (obtain ⟨k',rfl⟩:∃ k',k = k' + 1:=⟨k - 1,by omega⟩);all_goals(rcases(⟨_⟩:PLift _)with⟨h⟩;exact h)):G:=h
theorem aco{G:Prop}(h:G:=by
 have hl:=h.len
 simp only [List.length_cons] at hl
 refine' aa2
 have ho:=h.ho
 have hb:=h.bt
 have hbl:=h.bl
 all_goals(rcases(⟨_⟩:PLift _)with⟨h⟩;exact h)):G:=h
theorem CI.s1 {C:List Sp} {k:Nat} {v:Sp} {x y out:List Sp} (h:CI C k x (v :: y) out) (hv:v.k = 2):∃ k',k = k' + 1 /\ CI C k' x y (out ++ [v]):=by
 refine' aco
 have hv0:=CQ hv
 rw [aS v,eY] at ho
 rw [aQ v] at hb
 simp only [List.length_cons] at hbl
 refine ⟨k',rfl,by omega,h.ax,h.ay.tail,h.fx,h.fy.tail,by omega,?_,by simp;omega,by omega⟩
 rw [<- h.eq]
 cases x with
 | nil=>simp only [lF];rw [if_pos hv];simp
 | cons u x=>simp only [lF];rw [if_pos hv];simp
theorem CI.s2 {C:List Sp} {k:Nat} {u:Sp} {x y out:List Sp} (h:CI C k (u :: x) y out) (hu:u.k = 3) (hv:∀ v ∈ y.head?,v.k ≠ 2):∃ k',k = k' + 1 /\ CI C k' x y (out ++ [u]):=by
 refine' aco
 have hu0:=Nl hu
 rw [aS u,gW] at ho
 rw [aQ u] at hb
 simp only [List.length_cons] at hbl
 refine ⟨k',rfl,by omega,h.ax.tail,h.ay,h.fx.tail,h.fy,by omega,?_,by simp;omega,by omega⟩
 rw [<- h.eq]
 cases y with
 | nil=>simp only [lF];simp
 | cons v y=>simp only [lF];rw [if_neg (hv v (by simp)),if_pos hu];simp
theorem abo{G:Prop}(h:G:=by
 simp only [List.length_cons] at hbl
 obtain ⟨a1,a2,a3,a4,a5⟩:=pF hx.head hx.tail hn1
 obtain ⟨b1,b2,b3,b4,b5⟩:=pF hy.head hy.tail hn2
 have mx:=nT hx.head hx.tail hn1
 have my:=nT hy.head hy.tail hn2
 have hlen:(bf u n x).length + (bf v n y).length <= x.length + y.length + 1:=by
   rcases hone with h | h
   · have:=a4 h;omega
   · have:=b4 h;omega
 all_goals(rcases(⟨_⟩:PLift _)with⟨h⟩;exact h)):G:=h
theorem adp{G:Prop}(h:G:=by
 have hl:=h.len
 simp only [List.length_cons] at hl
 refine' aa2
 have hn1:n <= eu u:=by omega
 have hn2:n <= eu v:=by omega
 have hone:eu u = n ∨ eu v = n:=by omega
 have hx:=h.ax
 have hy:=h.ay
 have ho:=h.ho
 have hb:=h.bt
 all_goals(rcases(⟨_⟩:PLift _)with⟨h⟩;exact h)):G:=h
theorem CI.s3 {C:List Sp} {k n:Nat} {u v:Sp} {x y out:List Sp} (h:CI C k (u :: x) (v :: y) out) (hv2:v.k ≠ 2) (hu3:u.k ≠ 3) (hn:min (eu u) (eu v) = n) :
   n <= eu u /\ n <= eu v /\ ∃ k',k = k' + 1 /\ CI C k' (bf u n x) (bf v n y) (out ++ if v.k = 1 then [eF u n] else if u.k = 1 then [eF v n] else []):=by
 refine' adp
 have hbl:=h.bl
 refine' abo
 have hom:bg ((nS u).take n) = n /\ bV ((nS v).take n) = n:=by
   refine ⟨?_,?_⟩
   · rcases iP hx.head hn1 with ⟨_,e⟩ | ⟨e,_⟩ | ⟨_,l,e1,e2⟩
     · rw [e];exact (jy n).2
     · exact absurd e hu3
     · rw [e2,<- e1];exact (qA l).2
   · rcases iP hy.head hn2 with ⟨_,e⟩ | ⟨_,e⟩ | ⟨e,_⟩
     · rw [e];exact (jy n).1
     · rw [e];exact (lq n).1
     · exact absurd e hv2
 rw [mx,my,gW,eY] at ho
 rw [aQ,aQ v] at hb
 refine ⟨hn1,hn2,k',rfl,by omega,a1,b1,kR hx.head h.fx.tail hn1,kR hy.head h.fy.tail hn2,by omega,?_,?_,by omega⟩
 · rw [<- h.eq]
   simp only [lF]
   rw [if_neg hv2,if_neg hu3,hn,List.append_assoc]
 · have:(if v.k = 1 then [eF u n] else if u.k = 1 then [eF v n] else []).length <= 1:=by split <;> (try split) <;> simp
   rw [List.length_append];omega
theorem AQ {s:Sp} (h:cu s):eF s (eu s) = s:=by
 rcases h.cases with ⟨a,b,c,d⟩ | ⟨a,b,c⟩
 · rw [vT _ (by omega),iy (by omega)]
   obtain ⟨k,n,t⟩:=s
   simp only at b d ⊢
   subst d
   have:((n.toNat:Nat):Int) = n:=by omega
   rw [this]
 · have e:eF s (eu s) = ⟨2,0,txt ((pts s.t.data.toList).take (eu s))⟩:=if_pos a
   rw [e,xk a,List.take_length,uD c]
   obtain ⟨k,n,t⟩:=s
   simp only at a b ⊢
   subst a;subst b;rfl
theorem kS (s:Sp) (l:List Sp):bf s (eu s) l = l:=if_pos rfl
structure OI (C:List Sp) (k:Nat) (x y out:List Sp):Prop where
 len:x.length + y.length <= k
 ax:bJ x
 ay:bJ y
 fx:Ob x
 fy:Ob y
 ho:bV (dO x) = bV (dO y)
 hb:bg (dO y) <= 1048576
 eq:out ++ lZ k x y = C
 bl:out.length + (x.length + y.length) <= 20000000
 bt:dw x + dw y <= 1000000000
theorem OI.fin {C:List Sp} {k:Nat} {out:List Sp} (h:OI C k [] [] out):out = C:=by
 have:=h.eq
 cases k <;> simpa [lZ] using this
theorem Yx {v:Sp} {l:List Sp} (hv:cu v) (hf:emptyS v = false) (h:bV (dO (v :: l)) = 0):v.k = 2:=by
 rw [aS,eY] at h
 refine Decidable.byContradiction fun hk=>?_
 have h1:=(jY hv).1
 have h2:=AO hv hf
 rw [iy hk] at h2
 rcases jJ hv with ⟨a,_⟩ | ⟨a,b,c,d⟩
 · exact hk a
 · omega
theorem OI.vk {C:List Sp} {k:Nat} {v:Sp} {y out:List Sp} (h:OI C k [] (v :: y) out):v.k = 2 :=
 Yx (l:=y) h.ay.head (h.fy v (by simp)) (by have:=h.ho;rw [iH] at this;simp only [bV] at this;omega)
theorem OI.uk {C:List Sp} {k:Nat} {u:Sp} {x out:List Sp} (h:OI C k (u :: x) [] out):u.k = 2 :=
 Yx (l:=x) h.ax.head (h.fx u (by simp)) (by have:=h.ho;rw [iH] at this;simp only [bV] at this;omega)
theorem OI.s1 {C:List Sp} {k:Nat} {v:Sp} {x y out:List Sp} (h:OI C k x (v :: y) out) (hv:v.k = 2):∃ k',k = k' + 1 /\ OI C k' x y (out ++ [kpO v]):=by
 refine' aco
 have hq:=h.hb
 have hv0:=CQ hv
 rw [aS v,eY] at ho
 rw [aS v,gW] at hq
 rw [aQ v] at hb
 simp only [List.length_cons] at hbl
 refine ⟨k',rfl,by omega,h.ax,h.ay.tail,h.fx,h.fy.tail,by omega,by omega,?_,by simp;omega,by omega⟩
 rw [<- h.eq]
 cases x with
 | nil=>simp only [lZ];rw [if_pos hv];simp
 | cons u x=>simp only [lZ];rw [if_pos hv];simp
theorem OI.s2 {C:List Sp} {k:Nat} {u:Sp} {x y out:List Sp} (h:OI C k (u :: x) y out) (hu:u.k = 2) (hv:∀ v ∈ y.head?,v.k ≠ 2):∃ k',k = k' + 1 /\ OI C k' x y (out ++ [u]):=by
 refine' aco
 have hu0:=CQ hu
 rw [aS u,eY] at ho
 rw [aQ u] at hb
 simp only [List.length_cons] at hbl
 refine ⟨k',rfl,by omega,h.ax.tail,h.ay,h.fx.tail,h.fy,by omega,h.hb,?_,by simp;omega,by omega⟩
 rw [<- h.eq]
 cases y with
 | nil=>simp only [lZ];simp
 | cons v y=>simp only [lZ];rw [if_neg (hv v (by simp)),if_pos hu];simp
theorem OI.s3 {C:List Sp} {k n:Nat} {u v:Sp} {x y out:List Sp} (h:OI C k (u :: x) (v :: y) out) (hv2:v.k ≠ 2) (hu2:u.k ≠ 2) (hn:min (eu u) (eu v) = n) :
   n <= eu u /\ n <= eu v /\ ∃ k',k = k' + 1 /\ OI C k' (bf u n x) (bf v n y) (out ++ if v.k = 1 then [eF u n] else []):=by
 refine' adp
 have hbl:=h.bl
 have hq:=h.hb
 refine' abo
 have one:∀ {s:Sp},cu s -> s.k ≠ 2 -> n <= eu s -> bV ((nS s).take n) = n:=by
   intro s hs hk hn
   rcases iP hs hn with ⟨_,e⟩ | ⟨_,e⟩ | ⟨e,_⟩
   · rw [e];exact (jy n).1
   · rw [e];exact (lq n).1
   · exact absurd e hk
 have o1:=one hx.head hu2 hn1
 have o2:=one hy.head hv2 hn2
 rw [mx,my,eY,eY] at ho
 rw [my,gW] at hq
 rw [aQ,aQ v] at hb
 refine ⟨hn1,hn2,k',rfl,by omega,a1,b1,kR hx.head h.fx.tail hn1,kR hy.head h.fy.tail hn2,by omega,by omega,?_,?_,by omega⟩
 · rw [<- h.eq]
   simp only [lZ]
   rw [if_neg hv2,if_neg hu2,hn,List.append_assoc]
 · have:(if v.k = 1 then [eF u n] else []).length <= 1:=by split <;> simp
   rw [List.length_append];omega
theorem rdX {N nm ct:Nat} {hp:List (Nat × aG)} {K:AV -> List (Nat × aG) -> Nat -> Prop} {f:FuncId} {args:List AV} (B R:Nat) (F:List (Nat × aG)) {va wa:Nat} {S:List Sp} {off n:Nat} {tx:AV} {P:AV -> Nat -> List Sp -> Nat -> Nat -> AV -> Prop} (hne:B ≠ R)
   (hc:iM env N f (.ptr 5128 va 0 0 :: args) (Vj va wa S off n tx) fun r hp1=>∃ S' off' n' DU,hp1 = Vj va wa S' off' n' DU /\ P r wa S' off' n' DU)
   (hs:subs hp (Ky B R va wa S off n tx)) (hF:subs hp F) (hB:get F B = none) (hR:get F R = none)
   (hk:∀ r S' off' n' DU,P r wa S' off' n' DU -> ∀ c',ct + 8 <= c' -> K r (Ky B R va wa S' off' n' DU ++ F) c'):Ev.lG env nm f (.ptr B va 0 0 :: args) hp ct K:=by
 have out:∀ (S:List Sp) (off n:Nat) (tx:AV) (r:Nat),get (Ky B R va wa S off n tx) r ≠ none -> get F r = none:=by
   intro S off n tx r h
   cases hg:get (Ky B R va wa S off n tx) r with
   | none=>exact absurd hg h
   | some k=>rcases AP hg with ⟨rfl,_⟩ | ⟨rfl,_⟩ <;> assumption
 refine Ev.Dw F (Yu B R hne hc) rfl hs hF (out S off n tx) ?_
 rintro r hp1 ⟨S',off',n',DU,rfl,h⟩
 exact ⟨out S' off' n' DU,hk r S' off' n' DU h⟩
theorem KD {vb w:Nat} {E:List Sp} {off n:Nat} {tx:AV}:subs (Vj vb w E off n tx) (Vj vb w E off n tx):=⟨Ev.aj rfl rfl,Ev.aj rfl rfl,trivial⟩
theorem uJ {nm ct:Nat} {hp:List (Nat × aG)} {K:AV -> List (Nat × aG) -> Nat -> Prop} (B R:Nat) (F:List (Nat × aG)) {va wa:Nat} {x S:List Sp} {off:Nat} (h:Oc x S off) (hne:B ≠ R)
   (hs:subs hp (Ky B R va wa S off x.length (DT x))) (hF:subs hp F) (hB:get F B = none) (hR:get F R = none)
   (hk:∀ c',ct + 8 <= c' -> K (.v (.int .i64 (Yr x))) (Ky B R va wa S off x.length (DT x) ++ F) c'):Ev.lG env nm 154 [.ptr B va 0 0] hp ct K:=by
 refine rdX (P:=fun r w S' off' n' DU=>r = .v (.int .i64 (Yr x)) /\ S' = S /\ off' = off /\ n' = x.length /\ DU = DT x) B R F hne (rZ (Nr va wa h) ?_) hs hF hB hR ?_
 · rintro r hp1 ⟨rfl,rfl⟩
   exact ⟨_,⟨S,off,_,_,rfl,rfl,rfl,rfl,rfl,rfl⟩,KD⟩
 · rintro r S' off' n' DU ⟨rfl,rfl,rfl,rfl,rfl⟩
   exact hk
theorem IW {nm ct:Nat} {hp:List (Nat × aG)} {K:AV -> List (Nat × aG) -> Nat -> Prop} (B R:Nat) (F:List (Nat × aG)) {va wa:Nat} {s:Sp} {l S:List Sp} {off:Nat} (h:Oc (s :: l) S off) (hok:cu s) (ht:s.t.size <= 1000000000) (hne:B ≠ R)
   (hs:subs hp (Ky B R va wa S off (l.length + 1) (DT (s :: l)))) (hF:subs hp F) (hB:get F B = none) (hR:get F R = none)
   (hk:∀ c',ct + 8 <= c' -> K (.v (.int .i64 (eu s))) (Ky B R va wa S off (l.length + 1) (DT (s :: l)) ++ F) c'):Ev.lG env nm 156 [.ptr B va 0 0] hp ct K:=by
 refine rdX (P:=fun r w S' off' n' DU=>r = .v (.int .i64 (eu s)) /\ S' = S /\ off' = off /\ n' = l.length + 1 /\ DU = DT (s :: l)) B R F hne (rZ (Nu va wa h hok ht) ?_) hs hF hB hR ?_
 · rintro r hp1 ⟨rfl,rfl⟩
   exact ⟨_,⟨S,off,_,_,rfl,rfl,rfl,rfl,rfl,rfl⟩,KD⟩
 · rintro r S' off' n' DU ⟨rfl,rfl,rfl,rfl,rfl⟩
   exact hk
theorem IX {nm ct m:Nat} {mi:Int} {hp:List (Nat × aG)} {K:AV -> List (Nat × aG) -> Nat -> Prop} (B R:Nat) (F:List (Nat × aG)) {va wa:Nat} {s:Sp} {l S:List Sp} {off:Nat} (h:Oc (s :: l) S off) (hok:cu s) (ht:dw (s :: l) <= 1000000000) (hm:m <= eu s) (hmi:mi = (m:Int)) (hne:B ≠ R)
   (hs:subs hp (Ky B R va wa S off (l.length + 1) (DT (s :: l)))) (hF:subs hp F) (hB:get F B = none) (hR:get F R = none)
   (hk:∀ S' off',Oc (bf s m l) S' off' -> ∀ c',ct + 8 <= c' -> K (mY (eF s m).k (eF s m).n (eF s m).t) (Ky B R va wa S' off' (bf s m l).length (DT (bf s m l)) ++ F) c'):Ev.lG env nm 155 [.ptr B va 0 0,.v (.int .i64 mi)] hp ct K:=by
 subst hmi
 refine rdX (P:=fun r w S' off' n' DU=>r = mY (eF s m).k (eF s m).n (eF s m).t /\ Oc (bf s m l) S' off' /\ n' = (bf s m l).length /\ DU = DT (bf s m l)) B R F hne (rZ (Nv va wa h hok ht hm) ?_) hs hF hB hR ?_
 · rintro r hp1 ⟨E',off',rfl,rfl,hR'⟩
   exact ⟨_,⟨E',off',_,_,rfl,rfl,hR',rfl,rfl⟩,KD⟩
 · rintro r S' off' n' DU ⟨rfl,hR',rfl,rfl⟩
   exact hk S' off' hR'
end Go.Proofs.YtadlnaljicikfaaDoor.aB
namespace Go.Proofs.YtadlnaljicikfaaDoor.aB
open Go
set_option maxRecDepth 100000
attribute [local irreducible] Ev.iE Ev.iG Ev.bW Ev.runK Ev.bY Ev.gq Ev.Side Ev.Wp Ev.Again Ev.To Ev.Fin
open Go.Lib Go.RowKit
theorem Rw:∀ c,Tryd.f113.body = some c -> comp c = (.seq (.reg 0 [I.n 0 4 I.sn,I.n 1 5 (I.si 0)]) (.scope (.seq (.seq (.reg 1 [I.n 0 15 (I.mv 0),I.n 1 16 (I.mv 1),I.n 2 17 (.buildSlice 22 2 #[(0,.tmp 15),(1,.tmp 16)]),I.n 3 18 (I.ln 17 22),I.n 4 19 (.move (.const (Value.int .i64 0)))]) (.block 0 (.loop (.seq (.reg 2 [I.n 0 20 (I.bo .lss 3 19 18 3)]) (.seq (.cond (.tmp 20) .skip (.exit 0)) (.seq (.block 1 (.seq (.reg 3 [I.n 0 21 (I.ia 22 17 19),I.n 1 22 (I.ld 23 21),I.n 2 7 (I.sa 22)]) (.seq (.reg 4 [I.n 0 23 (I.mv 7),I.n 1 24 (I.c1 72 23 23),I.n 2 8 (I.sa 24)]) (.seq (.reg 5 [I.n 0 25 (I.mv 8),I.n 1 26 (I.bc .neq 30 25 0 30)]) (.cond (.tmp 26) (.seq (.reg 6 [I.n 0 27 (I.mv 8),I.n 1 4 I.sn,I.n 2 5 (I.sa 27)]) .ret) .skip))))) (.reg 7 [I.n 0 28 (I.bc .add 3 19 1 3),I.n 1 19 (I.mv 28)]))))))) (.seq (.seq (.reg 8 [I.n 0 29 (I.mv 0),I.n 1 30 (I.c1 73 29 23),I.n 2 31 (I.mv 1),I.n 3 32 (I.c1 74 31 23),I.n 4 33 (I.bo .neq 3 30 32 3)]) (.cond (.tmp 33) (.seq (.reg 9 [I.n 0 4 I.sn,I.n 1 5 (I.si 5)]) .ret) .skip)) (.seq (.reg 10 [I.n 0 34 (I.mv 0),I.n 1 35 (I.c1 153 34 23),I.n 2 36 (I.mv 1),I.n 3 37 (I.c1 153 36 23),I.n 4 9 (I.sa 35),I.n 5 10 (I.sa 37)]) (.seq (.reg 11 [I.n 0 11 I.sn]) (.seq (.label 0) (.seq (.block 2 (.loop (.block 3 (.seq (.block 4 (.seq (.reg 12 [I.n 0 39 (I.mv 10),I.n 1 40 (I.c1 154 39 164),I.n 2 41 (I.bc .eql 3 40 2 3),I.n 3 38 (I.sa 41)]) (.cond (.tmp 38) (.seq (.reg 13 [I.n 0 42 (I.mv 11),I.n 1 43 (I.mv 10),I.n 2 44 (I.mv 10),I.n 3 45 (I.c1 156 44 164),I.n 4 46 (I.c2 155 43 45 164 3),I.n 5 47 (I.b1 23 46),I.n 6 48 (I.ap 42 47 23 23),I.n 7 11 (I.sa 48)]) (.exit 3)) (.seq (.reg 14 [I.n 0 50 (I.mv 9),I.n 1 51 (I.c1 154 50 164),I.n 2 52 (I.bc .eql 3 51 3 3),I.n 3 49 (I.sa 52)]) (.cond (.tmp 49) (.seq (.reg 15 [I.n 0 53 (I.mv 11),I.n 1 54 (I.mv 9),I.n 2 55 (I.mv 9),I.n 3 56 (I.c1 156 55 164),I.n 4 57 (I.c2 155 54 56 164 3),I.n 5 58 (I.b1 23 57),I.n 6 59 (I.ap 53 58 23 23),I.n 7 11 (I.sa 59)]) (.exit 3)) (.seq (.reg 16 [I.n 0 61 (I.mv 9),I.n 1 62 (I.c1 154 61 164),I.n 2 63 (I.bc .eql 3 62 0 3),I.n 3 64 (I.mv 63),I.w 4 65 (I.mv 10) 64 false,I.w 5 66 (I.c1 154 65 164) 64 false,I.w 6 67 (I.bc .eql 3 66 0 3) 64 false,I.n 7 68 (I.pb 64 true 67),I.n 8 60 (I.sa 68)]) (.cond (.tmp 60) (.exit 2) .skip))))))) (.seq (.reg 17 [I.n 0 69 (I.mv 9),I.n 1 70 (I.c1 156 69 164),I.n 2 71 (I.mv 10),I.n 3 72 (I.c1 156 71 164),I.n 4 73 (.call { callee:=.builtin .min,args:=#[.tmp 70,.tmp 72],argTypes:=#[3,3] }),I.n 5 12 (I.sa 73)]) (.seq (.reg 18 [I.n 0 74 (I.mv 9),I.n 1 75 (I.mv 12),I.n 2 76 (I.c2 155 74 75 164 3),I.n 3 77 (I.mv 10),I.n 4 78 (I.mv 12),I.n 5 79 (I.c2 155 77 78 164 3),I.n 6 13 (.alloc 35),I.n 7 14 (.alloc 35),I.u 8 (I.st 35 13 76),I.u 9 (I.st 35 14 79)]) (.block 5 (.seq (.reg 19 [I.n 0 81 (I.fa 35 14 0),I.n 1 82 (I.ld 3 81),I.n 2 83 (I.bc .eql 3 82 1 3),I.n 3 80 (I.sa 83)]) (.cond (.tmp 80) (.reg 20 [I.n 0 84 (I.mv 11),I.n 1 85 (I.ld 35 13),I.n 2 86 (I.b1 23 85),I.n 3 87 (I.ap 84 86 23 23),I.n 4 11 (I.sa 87)]) (.seq (.reg 21 [I.n 0 89 (I.fa 35 13 0),I.n 1 90 (I.ld 3 89),I.n 2 91 (I.bc .eql 3 90 1 3),I.n 3 88 (I.sa 91)]) (.cond (.tmp 88) (.reg 22 [I.n 0 92 (I.mv 11),I.n 1 93 (I.ld 35 14),I.n 2 94 (I.b1 23 93),I.n 3 95 (I.ap 92 94 23 23),I.n 4 11 (I.sa 95)]) .skip))))))))))) (.seq (.reg 23 [I.n 0 96 (I.mv 11),I.n 1 97 (I.c1 35 96 23),I.n 2 4 (I.sa 97),I.n 3 5 (I.si 0)]) .ret))))))))):=by
 intro c h
 have:c = Tryd.f113.body.get rfl:=by rw [<- Option.some_inj,<- h];rfl
 rw [this];rfl
theorem mV:∀ l:List Sp,bJ l -> 0 <= bC dK l /\ bC dK l <= bC dV l + dw l
 | [],_=>by simp [bC,dw]
 | s :: l,h=>by
   obtain ⟨i1,i2⟩:=mV l h.tail
   rw [bZ,bZ,aQ]
   have e:=jY h.head
   have e3:=h.head.dV
   have hp:=nD s.t.data.toList
   rw [bM] at hp
   have:0 <= dK s /\ dK s <= dV s + s.t.size:=by
     rw [<- e.2]
     rcases h.head.cases with ⟨a | a,b,c,d⟩ | ⟨a,b,c⟩
     · rw [dZ a] at e ⊢;have:=(jy s.n.toNat).2;have:=(jy s.n.toNat).1;omega
     · rw [dR a];have:=(lq s.n.toNat).2;omega
     · rw [dN a];have:=(qA (pts s.t.data.toList)).2;omega
   omega
theorem xq (l:List Sp) (nm ver:Nat):shift nm ver (DT l) = DT l:=by cases l <;> rfl
set_option maxHeartbeats 4000000 in
theorem ajF (a b:List Sp) (la:a.length <= 10000000) (lb:b.length <= 10000000) (ta:dw a <= 100000000) (tb:dw b <= 100000000) (sa:Small a) (sb:Small b) (ma:aH a = 0) (mb:aH b = 0)
    (ho:sumW (fun s=>kW s.k s.n s.t) a = sumW (fun s=>qo s.k s.n) b):aA env 113 [.lst 3 (bD a),.lst 3 (bD b)] (fun r hs=>r = .dB [.lst 3 (bD (jR a b)),.v (.int .i64 0)] /\ hs = []):=by
  have hA:=dW a (by omega) sa
  have hB:=dW b (by omega) sb
  rw [ma] at hA
  rw [mb] at hB
  have hO:=oP a (by omega) sa
  have hIn:=gy b (by omega)
  have oa:=(qM.of ma (by omega)).1
  have ob:=(qM.of mb (by omega)).1
  have na:=oa.norm
  have nb:=ob.norm
  have ho':bC dK a = bC dV b:=by
    have h1:=(qM.of mb (by omega)).2
    have h2:=jf a
    have h3:=mV a oa.all
    have h4:=oa.bnd
    rw [aU (by omega)] at h2
    rw [<- h2,<- h1];exact ho
  have hco:=pG oa ob ho'
  have hmm:bg (dO (norm a)) = bV (dO (norm b)):=by
    have e1:=bI oa.all
    have e2:=bI ob.all
    rw [na.2.2.1,nb.2.2.1];omega
  refine Ev.fn [0,1,4,5,7,8,9,10,11,12,13,14,17,18,19,20,26,33,38,49,60,80,88] 0 [.tmp 4,.tmp 5] Tryd.func113 (Rw _ rfl) ?_
  refine' Ev.zW
  refine Ev.jumps (r:=?_) 0 (fun k s=>False) (by rfl) ?_ (fun _ _ h=>h.elim)
  repeat' (first | refine' Ev.zP | (with_reducible refine Ev.join (a:=.reg 11 _) (fun s=>∃ (c va wa vb wb:Nat) (S T:List Sp),s = ⟨[(9,.ptr 5128 va 0 0),(10,.ptr 5144 vb 0 0),(11,nilA)],Ky 5128 5129 va wa S 0 (norm a).length (DT (norm a)) ++ Ky 5144 5145 vb wb T 0 (norm b).length (DT (norm b)),c⟩ /\ Oc (norm a) S 0 /\ Oc (norm b) T 0) ?_ ?_) | refine' Ev.zS | refine' Ev.zK | (with_reducible refine Ev.oK 3 ?_) | ((with_reducible refine Ev.ca0 ?_);(first | refine Ev.ca (hA) ?_ | refine Ev.ca (hB) ?_ | refine Ev.ca (hO) ?_ | refine Ev.ca (hIn) ?_);conv=>whnf) | ((((with_reducible refine Ev.ca0 ?_);refine ⟨(vU a (by omega) (by omega) (by omega)).mono ?_⟩;rintro _ _ ⟨S,rfl,rfl,hS⟩;refine ⟨Nat.le_of_ble_eq_true rfl,⟨rfl,rfl,trivial⟩,?_⟩;conv=>whnf));conv=>whnf) | ((((with_reducible refine Ev.ca0 ?_);refine ⟨(vU b (by omega) (by omega) (by omega)).mono ?_⟩;rintro _ _ ⟨T,rfl,rfl,hT⟩;refine ⟨Nat.le_of_ble_eq_true rfl,⟨rfl,rfl,trivial⟩,?_⟩;conv=>whnf));conv=>whnf) | refine' Ev.zT | fail)
  · refine Ev.zB ⟨?_,8,9,10,11,S,T,rfl,?_⟩ (by refine' Ev.zp <;> first | (first | exact congrArg (fun t=>aG.mk 2 182 8 0 true [[AV.own 5129 9 0 (norm a).length,t]]) (xq (norm a) 5128 8) | exact congrArg (fun t=>aG.mk 2 182 10 0 true [[AV.own 5145 11 0 (norm b).length,t]]) (xq (norm b) 5144 10) | rfl) | rfl | (refine' Ev.ze;(first | exact congrArg (fun t=>aG.mk 2 182 8 0 true [[AV.own 5129 9 0 (norm a).length,t]]) (xq (norm a) 5128 8) | exact congrArg (fun t=>aG.mk 2 182 10 0 true [[AV.own 5145 11 0 (norm b).length,t]]) (xq (norm b) 5144 10) | rfl)) | fail)
    exact ⟨hS,hT⟩
  · rintro s1 ⟨c,va,wa,vb,wb,S,T,rfl,hS,hT⟩
    obtain ⟨C,hC⟩:∃ C,C = lF ((norm a).length + (norm b).length) (norm a) (norm b):=⟨_,rfl⟩
    have hcC:aB.norm C = jR a b:=by rw [hC];exact hco.2.2.2.2.1
    have hcL:C.length <= 20000000 /\ dw C <= 200000000:=by
      have h1:=hco.2.2.2.2.2.2.2.1
      have h2:=hco.2.2.2.2.2.2.2.2.1
      rw [hC];omega
    refine Ev.Ru 11 9000 3 35 rfl rfl ?_
    refine' Ev.zW
    refine Ev.loop (fun k s=>∃ (c va wa vb wb v:Nat) (S T:List Sp) (off oft:Nat) (x y out:List Sp),s = ⟨[(9,.ptr 5128 va 0 0),(10,.ptr 5144 vb 0 0),(11,.own 9000 v 0 out.length)],[(5128,⟨2,182,va,0,true,[[.own 5129 wa off x.length,DT x]]⟩),(5129,⟨3,35,wa,0,false,bD S⟩),(5144,⟨2,182,vb,0,true,[[.own 5145 wb oft y.length,DT y]]⟩),(5145,⟨3,35,wb,0,false,bD T⟩),(9000,⟨3,35,v,0,false,bD out⟩)],c⟩ /\ Oc x S off /\ Oc y T oft /\ CI C k x y out) ?_ ?_
    · refine Ev.zB ⟨(norm a).length + (norm b).length,?_,?_,?_,?_,?_,?_,S,T,0,0,norm a,norm b,[],rfl,?_⟩
      exact ⟨hS,hT,by omega,na.1.all,nb.1.all,na.2.2.2.2.2.2.2,nb.2.2.2.2.2.2.2,hmm,by rw [hC];rfl,by simp;omega,by omega⟩
    rintro k s1 ⟨c,va,wa,vb,wb,v,S,T,off,oft,x,y,out,rfl,hS,hT,hI⟩
    have hol:=bH out
    have hbl:=hI.bl
    rcases x with _ | ⟨u,x⟩ <;> rcases y with _ | ⟨w,y⟩ <;> simp only [List.length_cons,List.length_nil] at hbl
    · have hout:=hI.fin
      subst hout
      repeat' (first | refine' Ev.zP | refine' Ev.zS | ((with_reducible refine Ev.kr (hs:=[154,156,155]) (fun Q hQ=>?_));refine' Ev.zR) | ((((with_reducible refine Ev.lC ?_);refine uJ 5128 5129 [(5144,_),(5145,_),(9000,_)] hS (by decide) ⟨Ev.aj rfl rfl,Ev.aj rfl rfl,trivial⟩ ⟨Ev.aj rfl rfl,Ev.aj rfl rfl,Ev.aj rfl rfl,trivial⟩ rfl rfl (fun c' _=>?_);conv=>whnf));conv=>whnf) | ((((with_reducible refine Ev.lC ?_);refine uJ 5144 5145 [(5128,_),(5129,_),(9000,_)] hT (by decide) ⟨Ev.aj rfl rfl,Ev.aj rfl rfl,trivial⟩ ⟨Ev.aj rfl rfl,Ev.aj rfl rfl,Ev.aj rfl rfl,trivial⟩ rfl rfl (fun c' _=>?_);conv=>whnf));conv=>whnf) | ((with_reducible refine Ev.ca0 ?_);(first | refine Ev.aT (Aw out (by omega) (by omega)) rfl rfl ?_ | refine Ev.ca (Aw out (by omega) (by omega)) ?_);conv=>whnf) | refine' Ev.zT | fail)
      exact ⟨by rw [hcC];rfl,rfl⟩
    · have hk:Yr (w :: y) = 2:=hI.vk
      have Yy:dw (w :: y) <= 1000000000:=by have:=hI.bt;omega
      have hsv:w.t.size <= 1000000000:=by rw [aQ] at Yy;omega
      have hnv:eu w <= eu w:=Nat.le_refl _
      obtain ⟨k',rfl,hJ⟩:=hI.s1 hk
      repeat' (first | (with_reducible refine Ev.aK hk ?_) | (with_reducible refine Ev.aJ hk ?_) | refine' Ev.zP | refine' Ev.zS | ((with_reducible refine Ev.kr (hs:=[154,156,155]) (fun Q hQ=>?_));refine' Ev.zR) | ((((with_reducible refine Ev.lC ?_);refine uJ 5128 5129 [(5144,_),(5145,_),(9000,_)] hS (by decide) ⟨Ev.aj rfl rfl,Ev.aj rfl rfl,trivial⟩ ⟨Ev.aj rfl rfl,Ev.aj rfl rfl,Ev.aj rfl rfl,trivial⟩ rfl rfl (fun c' _=>?_);conv=>whnf));conv=>whnf) | ((((with_reducible refine Ev.lC ?_);refine uJ 5144 5145 [(5128,_),(5129,_),(9000,_)] hT (by decide) ⟨Ev.aj rfl rfl,Ev.aj rfl rfl,trivial⟩ ⟨Ev.aj rfl rfl,Ev.aj rfl rfl,Ev.aj rfl rfl,trivial⟩ rfl rfl (fun c' _=>?_);conv=>whnf));conv=>whnf) | ((((with_reducible refine Ev.lC ?_);refine IW 5144 5145 [(5128,_),(5129,_),(9000,_)] hT hI.ay.head hsv (by decide) ⟨Ev.aj rfl rfl,Ev.aj rfl rfl,trivial⟩ ⟨Ev.aj rfl rfl,Ev.aj rfl rfl,Ev.aj rfl rfl,trivial⟩ rfl rfl (fun c' _=>?_);conv=>whnf));conv=>whnf) | ((((with_reducible refine Ev.lC ?_);refine IX 5144 5145 [(5128,_),(5129,_),(9000,_)] hT hI.ay.head Yy hnv rfl (by decide) ⟨Ev.aj rfl rfl,Ev.aj rfl rfl,trivial⟩ ⟨Ev.aj rfl rfl,Ev.aj rfl rfl,Ev.aj rfl rfl,trivial⟩ rfl rfl (fun T' P6 hT' c' _=>?_);conv=>whnf));conv=>whnf) | refine' Ev.zT | fail)
      simp only [kS,AQ hI.ay.head]
      rw [kS] at hT'
      refine Ev.zA (k') ⟨?_,va,wa,vb,wb,?_,S,T',off,P6,[],y,out ++ [w],rfl,?_⟩
      exact ⟨hS,hT',hJ⟩
    · have hk:Yr (u :: x) = 3:=hI.uk
      have htu:dw (u :: x) <= 1000000000:=by have:=hI.bt;omega
      have hsu:u.t.size <= 1000000000:=by rw [aQ] at htu;omega
      have hnu:eu u <= eu u:=Nat.le_refl _
      obtain ⟨k',rfl,hJ⟩:=hI.s2 hk (by simp)
      repeat' (first | (with_reducible refine Ev.aK hk ?_) | (with_reducible refine Ev.aJ hk ?_) | refine' Ev.zP | refine' Ev.zS | ((with_reducible refine Ev.kr (hs:=[154,156,155]) (fun Q hQ=>?_));refine' Ev.zR) | ((((with_reducible refine Ev.lC ?_);refine uJ 5128 5129 [(5144,_),(5145,_),(9000,_)] hS (by decide) ⟨Ev.aj rfl rfl,Ev.aj rfl rfl,trivial⟩ ⟨Ev.aj rfl rfl,Ev.aj rfl rfl,Ev.aj rfl rfl,trivial⟩ rfl rfl (fun c' _=>?_);conv=>whnf));conv=>whnf) | ((((with_reducible refine Ev.lC ?_);refine uJ 5144 5145 [(5128,_),(5129,_),(9000,_)] hT (by decide) ⟨Ev.aj rfl rfl,Ev.aj rfl rfl,trivial⟩ ⟨Ev.aj rfl rfl,Ev.aj rfl rfl,Ev.aj rfl rfl,trivial⟩ rfl rfl (fun c' _=>?_);conv=>whnf));conv=>whnf) | ((((with_reducible refine Ev.lC ?_);refine IW 5128 5129 [(5144,_),(5145,_),(9000,_)] hS hI.ax.head hsu (by decide) ⟨Ev.aj rfl rfl,Ev.aj rfl rfl,trivial⟩ ⟨Ev.aj rfl rfl,Ev.aj rfl rfl,Ev.aj rfl rfl,trivial⟩ rfl rfl (fun c' _=>?_);conv=>whnf));conv=>whnf) | ((((with_reducible refine Ev.lC ?_);refine IX 5128 5129 [(5144,_),(5145,_),(9000,_)] hS hI.ax.head htu hnu rfl (by decide) ⟨Ev.aj rfl rfl,Ev.aj rfl rfl,trivial⟩ ⟨Ev.aj rfl rfl,Ev.aj rfl rfl,Ev.aj rfl rfl,trivial⟩ rfl rfl (fun S' off' hS' c' _=>?_);conv=>whnf));conv=>whnf) | refine' Ev.zT | fail)
      simp only [kS,AQ hI.ax.head]
      rw [kS] at hS'
      refine Ev.zA (k') ⟨?_,va,wa,vb,wb,?_,S',T,off',oft,x,[],out ++ [u],rfl,?_⟩
      exact ⟨hS',hT,hJ⟩
    · by_cases hw2:w.k = 2
      · have hk:Yr (w :: y) = 2:=hw2
        have Yy:dw (w :: y) <= 1000000000:=by have:=hI.bt;omega
        have hsv:w.t.size <= 1000000000:=by rw [aQ] at Yy;omega
        have hnv:eu w <= eu w:=Nat.le_refl _
        obtain ⟨k',rfl,hJ⟩:=hI.s1 hk
        repeat' (first | (with_reducible refine Ev.aK hk ?_) | (with_reducible refine Ev.aJ hk ?_) | refine' Ev.zP | refine' Ev.zS | ((with_reducible refine Ev.kr (hs:=[154,156,155]) (fun Q hQ=>?_));refine' Ev.zR) | ((((with_reducible refine Ev.lC ?_);refine uJ 5128 5129 [(5144,_),(5145,_),(9000,_)] hS (by decide) ⟨Ev.aj rfl rfl,Ev.aj rfl rfl,trivial⟩ ⟨Ev.aj rfl rfl,Ev.aj rfl rfl,Ev.aj rfl rfl,trivial⟩ rfl rfl (fun c' _=>?_);conv=>whnf));conv=>whnf) | ((((with_reducible refine Ev.lC ?_);refine uJ 5144 5145 [(5128,_),(5129,_),(9000,_)] hT (by decide) ⟨Ev.aj rfl rfl,Ev.aj rfl rfl,trivial⟩ ⟨Ev.aj rfl rfl,Ev.aj rfl rfl,Ev.aj rfl rfl,trivial⟩ rfl rfl (fun c' _=>?_);conv=>whnf));conv=>whnf) | ((((with_reducible refine Ev.lC ?_);refine IW 5144 5145 [(5128,_),(5129,_),(9000,_)] hT hI.ay.head hsv (by decide) ⟨Ev.aj rfl rfl,Ev.aj rfl rfl,trivial⟩ ⟨Ev.aj rfl rfl,Ev.aj rfl rfl,Ev.aj rfl rfl,trivial⟩ rfl rfl (fun c' _=>?_);conv=>whnf));conv=>whnf) | ((((with_reducible refine Ev.lC ?_);refine IX 5144 5145 [(5128,_),(5129,_),(9000,_)] hT hI.ay.head Yy hnv rfl (by decide) ⟨Ev.aj rfl rfl,Ev.aj rfl rfl,trivial⟩ ⟨Ev.aj rfl rfl,Ev.aj rfl rfl,Ev.aj rfl rfl,trivial⟩ rfl rfl (fun T' P6 hT' c' _=>?_);conv=>whnf));conv=>whnf) | refine' Ev.zT | fail)
        simp only [kS,AQ hI.ay.head]
        rw [kS] at hT'
        refine Ev.zA (k') ⟨?_,va,wa,vb,wb,?_,S,T',off,P6,u :: x,y,out ++ [w],rfl,?_⟩
        exact ⟨hS,hT',hJ⟩
      have hn2:¬ Yr (w :: y) = 2:=hw2
      by_cases hu3:u.k = 3
      · have hk:Yr (u :: x) = 3:=hu3
        have htu:dw (u :: x) <= 1000000000:=by have:=hI.bt;omega
        have hsu:u.t.size <= 1000000000:=by rw [aQ] at htu;omega
        have hnu:eu u <= eu u:=Nat.le_refl _
        obtain ⟨k',rfl,hJ⟩:=hI.s2 hk (by simpa using hw2)
        repeat' (first | (with_reducible refine Ev.aK hk ?_) | (with_reducible refine Ev.aJ hk ?_) | (with_reducible refine Ev.aV hn2 ?_) | (with_reducible refine Ev.aP hn2 ?_) | refine' Ev.zP | refine' Ev.zS | ((with_reducible refine Ev.kr (hs:=[154,156,155]) (fun Q hQ=>?_));refine' Ev.zR) | ((((with_reducible refine Ev.lC ?_);refine uJ 5128 5129 [(5144,_),(5145,_),(9000,_)] hS (by decide) ⟨Ev.aj rfl rfl,Ev.aj rfl rfl,trivial⟩ ⟨Ev.aj rfl rfl,Ev.aj rfl rfl,Ev.aj rfl rfl,trivial⟩ rfl rfl (fun c' _=>?_);conv=>whnf));conv=>whnf) | ((((with_reducible refine Ev.lC ?_);refine uJ 5144 5145 [(5128,_),(5129,_),(9000,_)] hT (by decide) ⟨Ev.aj rfl rfl,Ev.aj rfl rfl,trivial⟩ ⟨Ev.aj rfl rfl,Ev.aj rfl rfl,Ev.aj rfl rfl,trivial⟩ rfl rfl (fun c' _=>?_);conv=>whnf));conv=>whnf) | ((((with_reducible refine Ev.lC ?_);refine IW 5128 5129 [(5144,_),(5145,_),(9000,_)] hS hI.ax.head hsu (by decide) ⟨Ev.aj rfl rfl,Ev.aj rfl rfl,trivial⟩ ⟨Ev.aj rfl rfl,Ev.aj rfl rfl,Ev.aj rfl rfl,trivial⟩ rfl rfl (fun c' _=>?_);conv=>whnf));conv=>whnf) | ((((with_reducible refine Ev.lC ?_);refine IX 5128 5129 [(5144,_),(5145,_),(9000,_)] hS hI.ax.head htu hnu rfl (by decide) ⟨Ev.aj rfl rfl,Ev.aj rfl rfl,trivial⟩ ⟨Ev.aj rfl rfl,Ev.aj rfl rfl,Ev.aj rfl rfl,trivial⟩ rfl rfl (fun S' off' hS' c' _=>?_);conv=>whnf));conv=>whnf) | refine' Ev.zT | fail)
        simp only [kS,AQ hI.ax.head]
        rw [kS] at hS'
        refine Ev.zA (k') ⟨?_,va,wa,vb,wb,?_,S',T,off',oft,x,w :: y,out ++ [u],rfl,?_⟩
        exact ⟨hS',hT,hJ⟩
      have hn3:¬ Yr (u :: x) = 3:=hu3
      have hn0:¬ Yr (u :: x) = 0:=by
        show ¬ u.k = 0
        rcases hI.ax.head.cases with ⟨a,_⟩ | ⟨a,_⟩ <;> omega
      have hm0:¬ Yr (w :: y) = 0:=by
        show ¬ w.k = 0
        rcases hI.ay.head.cases with ⟨a,_⟩ | ⟨a,_⟩ <;> omega
      have Yy:dw (w :: y) <= 1000000000:=by have:=hI.bt;omega
      have hsv:w.t.size <= 1000000000:=by rw [aQ] at Yy;omega
      have htu:dw (u :: x) <= 1000000000:=by have:=hI.bt;omega
      have hsu:u.t.size <= 1000000000:=by rw [aQ] at htu;omega
      obtain ⟨n,hn⟩:∃ n,min (eu u) (eu w) = n:=⟨_,rfl⟩
      obtain ⟨hnu,hnv,k',rfl,hJ⟩:=hI.s3 hw2 hu3 hn
      have pk:=(mD hI.ax.head hnu).2.2.2.2.2.1
      have qk:=(mD hI.ay.head hnv).2.2.2.2.2.1
      have hmin:min ((eu u:Nat):Int) ((eu w:Nat):Int) = ((n:Nat):Int):=by omega
      repeat' (first | (with_reducible refine Ev.aV hn2 ?_) | (with_reducible refine Ev.aP hn2 ?_) | (with_reducible refine Ev.aV hn3 ?_) | (with_reducible refine Ev.aP hn3 ?_) | (with_reducible refine Ev.aV hn0 ?_) | (with_reducible refine Ev.aP hn0 ?_) | (with_reducible refine Ev.aV hm0 ?_) | (with_reducible refine Ev.aP hm0 ?_) | refine' Ev.zP | refine' Ev.zS | ((with_reducible refine Ev.kr (hs:=[154,156,155]) (fun Q hQ=>?_));refine' Ev.zR) | ((((with_reducible refine Ev.lC ?_);refine uJ 5128 5129 [(5144,_),(5145,_),(9000,_)] hS (by decide) ⟨Ev.aj rfl rfl,Ev.aj rfl rfl,trivial⟩ ⟨Ev.aj rfl rfl,Ev.aj rfl rfl,Ev.aj rfl rfl,trivial⟩ rfl rfl (fun c' _=>?_);conv=>whnf));conv=>whnf) | ((((with_reducible refine Ev.lC ?_);refine uJ 5144 5145 [(5128,_),(5129,_),(9000,_)] hT (by decide) ⟨Ev.aj rfl rfl,Ev.aj rfl rfl,trivial⟩ ⟨Ev.aj rfl rfl,Ev.aj rfl rfl,Ev.aj rfl rfl,trivial⟩ rfl rfl (fun c' _=>?_);conv=>whnf));conv=>whnf) | ((((with_reducible refine Ev.lC ?_);refine IW 5128 5129 [(5144,_),(5145,_),(9000,_)] hS hI.ax.head hsu (by decide) ⟨Ev.aj rfl rfl,Ev.aj rfl rfl,trivial⟩ ⟨Ev.aj rfl rfl,Ev.aj rfl rfl,Ev.aj rfl rfl,trivial⟩ rfl rfl (fun c' _=>?_);conv=>whnf));conv=>whnf) | ((((with_reducible refine Ev.lC ?_);refine IW 5144 5145 [(5128,_),(5129,_),(9000,_)] hT hI.ay.head hsv (by decide) ⟨Ev.aj rfl rfl,Ev.aj rfl rfl,trivial⟩ ⟨Ev.aj rfl rfl,Ev.aj rfl rfl,Ev.aj rfl rfl,trivial⟩ rfl rfl (fun c' _=>?_);conv=>whnf));conv=>whnf) | ((((with_reducible refine Ev.lC ?_);refine IX 5128 5129 [(5144,_),(5145,_),(9000,_)] hS hI.ax.head htu hnu hmin (by decide) ⟨Ev.aj rfl rfl,Ev.aj rfl rfl,trivial⟩ ⟨Ev.aj rfl rfl,Ev.aj rfl rfl,Ev.aj rfl rfl,trivial⟩ rfl rfl (fun S' off' hS' c' _=>?_);conv=>whnf));conv=>whnf) | ((((with_reducible refine Ev.lC ?_);refine IX 5144 5145 [(5128,_),(5129,_),(9000,_)] hT hI.ay.head Yy hnv hmin (by decide) ⟨Ev.aj rfl rfl,Ev.aj rfl rfl,trivial⟩ ⟨Ev.aj rfl rfl,Ev.aj rfl rfl,Ev.aj rfl rfl,trivial⟩ rfl rfl (fun T' P6 hT' c' _=>?_);conv=>whnf));conv=>whnf) | refine' Ev.zT | fail)
      · have hwk:w.k = 1:=by rw [<- qk];assumption
        rw [if_pos hwk] at hJ
        refine Ev.zA (k') ⟨?_,va,wa,vb,wb,?_,S',T',off',P6,bf u n x,bf w n y,out ++ [eF u n],rfl,?_⟩
        exact ⟨hS',hT',hJ⟩
      · have hwk:¬ w.k = 1:=by rw [<- qk];assumption
        have yQ:u.k = 1:=by rw [<- pk];assumption
        rw [if_neg hwk,if_pos yQ] at hJ
        refine Ev.zA (k') ⟨?_,va,wa,vb,wb,?_,S',T',off',P6,bf u n x,bf w n y,out ++ [eF w n],rfl,?_⟩
        exact ⟨hS',hT',hJ⟩
      · have hwk:¬ w.k = 1:=by rw [<- qk];assumption
        have yQ:¬ u.k = 1:=by rw [<- pk];assumption
        rw [if_neg hwk,if_neg yQ,List.append_nil] at hJ
        refine Ev.zA (k') ⟨?_,va,wa,vb,wb,v,S',T',off',P6,bf u n x,bf w n y,out,rfl,?_⟩
        exact ⟨hS',hT',hJ⟩
  · rename_i h;exact absurd ho h
theorem IY {n:Int} {x:List Sp} (h:iq n x = 0):aH x = 0 /\ jV x = n /\ outW x <= 1048576 /\ GH x = true:=by
 unfold iq at h
 by_cases h1:aH x = 0
 · rw [if_neg (by simp [h1])] at h
   by_cases h2:jV x = n
   · rw [if_neg (by simp [h2])] at h
     by_cases h3:1048576 < outW x
     · rw [if_pos h3] at h;cases h
     · rw [if_neg h3] at h
       cases h4:GH x with
       | true=>exact ⟨h1,h2,by omega,rfl⟩
       | false=>rw [h4] at h;cases h
   · rw [if_pos h2] at h;cases h
 · rw [if_pos h1] at h;exact absurd h h1
theorem Rx {n:Int} {x:List Sp} (h1:aH x = 0) (h2:jV x = n) (h3:outW x <= 1048576) (h4:GH x = true):iq n x = 0:=by
 unfold iq;rw [if_neg (by simp [h1]),if_neg (by simp [h2]),if_neg (by omega),if_pos h4]
theorem xu:∀ (l:List (List Sp)) (n:Int) (t:ByteArray),validD t.data.toList = true -> aN t.data.toList = n -> dA n l = 0 -> (∀ x ∈ l,x.length <= 100000000) -> t.size + gV l <= 1000000000 ->
   ∃ u,jK l t = (0,u) /\ validD u.data.toList = true /\ aN u.data.toList = dY n l /\ u.size <= t.size + gV l
 | [],n,t,hv,hc,_,_,_=>⟨t,rfl,hv,hc,by simp [gV]⟩
 | x :: l,n,t,hv,hc,hs,hx,hb=>by
   have h0:iq n x = 0:=by
     simp only [dA] at hs
     by_cases h:iq n x = 0
     · exact h
     · rw [if_neg h] at hs;exact absurd hs h
   simp only [dA] at hs
   rw [if_pos h0] at hs
   obtain ⟨a1,a2,a3,a4⟩:=IY h0
   rw [rQ] at hb
   have hz:mP x t = 0:=yL a1 hv (by rw [a2,<- hc,bU hv])
   obtain ⟨b1,b2,b3,b4⟩:=CB hz (by have:=hx x (by simp);omega) (by omega)
   obtain ⟨u,c1,c2,c3,c4⟩:=xu l (outW x) (rM x t) b1 (by rw [bU b1,b3]) hs (fun y hy=>hx y (by simp [hy])) (by omega)
   refine ⟨u,?_,c2,c3,by rw [rQ];omega⟩
   simp only [jK];rw [if_pos hz];exact c1
theorem vV:∀ (a b:List (List Sp)) (t:ByteArray),(jK a t).1 = 0 -> jK (a ++ b) t = jK b (jK a t).2
 | [],b,t,_=>rfl
 | x :: a,b,t,h=>by
   rw [List.cons_append]
   simp only [jK] at h ⊢
   by_cases h0:mP x t = 0
   · rw [if_pos h0] at h ⊢;rw [if_pos h0];exact vV a b _ h
   · rw [if_neg h0] at h;exact absurd h h0
theorem dJ {c:Lg} (h:nP c = 0):validD c.base.data.toList = true /\ aN c.base.data.toList <= 1048576 /\ rises c.revs = true /\ c.revs.length = c.ah.length + 1 /\ dA (aN c.base.data.toList) c.ah = 0:=by
 unfold nP at h
 by_cases h1:aN c.base.data.toList < 0
 · rw [if_pos h1] at h;cases h
 · rw [if_neg h1] at h
   by_cases h2:1048576 < aN c.base.data.toList
   · rw [if_pos h2] at h;cases h
   · rw [if_neg h2] at h
     by_cases h3:mZ c.revs ≠ 0 ∨ c.revs.length ≠ c.ah.length + 1
     · rw [if_pos h3] at h;cases h
     · rw [if_neg h3] at h
       refine ⟨?_,by omega,?_,by omega,h⟩
       · cases hv:validD c.base.data.toList with
         | true=>rfl
         | false=>rw [oV hv] at h1;omega
       · cases hr:rises c.revs with
         | true=>rfl
         | false=>exact absurd (.inl (by unfold mZ;rw [hr];decide)) h3
theorem ajG {c:Lg} (h1:validD c.base.data.toList = true) (h2:aN c.base.data.toList <= 1048576) (h3:rises c.revs = true) (h4:c.revs.length = c.ah.length + 1) (h5:dA (aN c.base.data.toList) c.ah = 0):nP c = 0:=by
 have:0 <= aN c.base.data.toList:=by rw [bU h1];omega
 unfold nP
 rw [if_neg (by omega),if_neg (by omega),if_neg,h5]
 rintro (h | h)
 · apply h;unfold mZ;rw [h3];rfl
 · exact h h4
theorem gX {l:List (List Sp)} {n:Int} (h:dA n l = 0) (i:Nat):dA n (l.take i) = 0 /\ dA (dY n (l.take i)) (l.drop i) = 0:=by
 have e:=rG (l.take i) (l.drop i) n
 rw [List.take_append_drop,h] at e
 by_cases h0:dA n (l.take i) = 0
 · rw [if_pos h0] at e;exact ⟨h0,e.symm⟩
 · rw [if_neg h0] at e;exact absurd e.symm h0
def jD (c:Lg) (i:Nat):ByteArray:=(jK (c.ah.take i) c.base).2
theorem kC {c:Lg} (h:nP c = 0) (hx:∀ x ∈ c.ah,x.length <= 100000000) (hb:c.base.size + gV c.ah <= 1000000000) (i:Nat):jK (c.ah.take i) c.base = (0,jD c i) /\ validD (jD c i).data.toList = true /\ aN (jD c i).data.toList = dY (aN c.base.data.toList) (c.ah.take i) /\ (jD c i).size <= c.base.size + gV c.ah:=by
 obtain ⟨h1,h2,h3,h4,h5⟩:=dJ h
 have:=wX c.ah i
 obtain ⟨u,c1,c2,c3,c4⟩:=xu (c.ah.take i) _ c.base h1 rfl (gX h5 i).1 (fun x hx'=>hx x (List.mem_of_mem_take hx')) (by omega)
 have:jD c i = u:=by unfold jD;rw [c1]
 rw [this]
 exact ⟨c1,c2,c3,by omega⟩
theorem Nz {c:Lg} (h:nP c = 0) (hx:∀ x ∈ c.ah,x.length <= 100000000) (hb:c.base.size + gV c.ah <= 1000000000) {i:Nat} (hi:i <= c.ah.length):atR c i = (0,jD c i):=by
 unfold atR
 rw [if_neg (by simp [h]),if_neg (by omega),Int.toNat_natCast,Kq,(kC h hx hb i).1]
 rintro ⟨_,e⟩
 rw [(dJ h).1] at e;cases e
theorem IZ {c:Lg} (hc:II c) (h:nP c = 0) (hb:c.base.size + gV c.ah <= 1000000000) {i:Nat} (hi:i <= c.ah.length):aA env 62 [kT c,.v (.int .i64 i)] (fun r hs=>r = .dB [.v (.string (jD c i)),.v (.int .i64 0)] /\ hs = []):=by
 have:=adS c i hc hb
 unfold atA at this
 rwa [Nz h (fun x hx=>(hc.2.2.2 x hx).1) hb hi] at this
theorem Ry:∀ (l:List (List Sp)) (n:Int),dA n l = 0 -> n <= 1048576 -> dY n l <= 1048576
 | [],n,_,h=>h
 | x :: l,n,hs,h=>by
   simp only [dA] at hs
   by_cases h0:iq n x = 0
   · rw [if_pos h0] at hs
     exact Ry l _ hs (IY h0).2.2.1
   · rw [if_neg h0] at hs;exact absurd hs h0
theorem NC {l:List Int} (h0:l ≠ []) (h1:l.length <= 65536) (h2:dM (-1) l = true):rises l = true:=by
 unfold rises;rw [h2,decide_eq_true h1]
 cases l with
 | nil=>exact absurd rfl h0
 | cons x l=>rfl
theorem Yz {x:List Sp} (h:aH x = 0) (hl:x.length <= 1000000000) (ho:outW x <= 1048576):iq (jV x) (norm x) = 0:=by
 obtain ⟨h3,h4⟩:=(gG x).1 h
 exact Rx (MF h hl) (acQ h hl) (by rw [MG h hl];exact ho) (qZ x h3 (by rw [<- ku h3 hl];exact h4))
theorem ND:∀ (W:List (List Sp)) (n:Int),Chn n W -> dA n (W.map norm) = 0
 | [],_,_=>rfl
 | x :: W,n,⟨⟨y,m,e,m1,m2⟩,hin,hr⟩=>by
   have h1:aH x = 0:=by rw [e];exact Fq y (by omega)
   have h2:x.length <= 13:=by rw [e];exact (wW y (by omega)).1
   have h3:outW x <= 1048576:=by rw [e];have:=(QZ y (n:=m) (by omega)).2;omega
   have h4:=Yz h1 (by omega) h3
   rw [hin] at h4
   rw [List.map_cons]
   simp only [dA]
   rw [if_pos h4,MG h1 (by omega)]
   exact ND W _ hr
theorem NG:∀ n:Nat,n <= 1000 -> rises ((List.range (n + 1)).map fun (i:Nat)=>(i:Int)) = true:=by
 have key:∀ n:Nat,n <= 1001 -> dM (-1) ((List.range n).map fun (i:Nat)=>(i:Int)) = true /\ iO (-1) ((List.range n).map fun (i:Nat)=>(i:Int)) = (n:Int) - 1:=by
   intro n
   induction n with
   | zero=>intro _;exact ⟨rfl,rfl⟩
   | succ n ih =>
     intro h
     obtain ⟨a,b⟩:=ih (by omega)
     have e:((List.range (n + 1)).map fun (i:Nat)=>(i:Int)) = ((List.range n).map fun (i:Nat)=>(i:Int)) ++ [(n:Int)]:=by rw [List.range_succ,List.map_append];rfl
     rw [e,mO,yH,a,b]
     refine ⟨?_,by omega⟩
     simp only [Bool.true_and,Bool.and_eq_true,decide_eq_true_eq];omega
 intro n hn
 refine NC ?_ (by simp;omega) (key (n + 1) (by omega)).1
 intro e;have:=congrArg List.length e;simp at this
theorem NH (t:ByteArray) (l:List (List Sp)):nP (jX t l) = 0 /\ II (jX t l) /\ (jX t l).base.size <= 4000 /\ gV (jX t l).ah <= 10000 /\ (jX t l).ah.length <= 20:=by
 refine' afq
 have hb:=LY (t.extract 0 (min t.size 20)) (by omega)
 have hv:=Ie (t.extract 0 (min t.size 20))
 have hc:=BX (t.extract 0 (min t.size 20))
 have hW:=J5 l (n:=aN (lM (t.extract 0 (min t.size 20))).data.toList) (by omega)
 have hN:∀ x ∈ Ve l (aN (lM (t.extract 0 (min t.size 20))).data.toList),(norm x).length <= 13 /\ dw (norm x) <= 312:=by
   intro x hx
   obtain ⟨y,m,rfl,m1,m2⟩:=Ei hW.1 x hx
   exact (MR y (by omega)).2
 have htb:∀ W:List (List Sp),(∀ x ∈ W,dw (norm x) <= 312) -> gV (W.map norm) <= 312 * W.length:=by
   intro W
   induction W with
   | nil=>intro _;simp [gV]
   | cons x W ih =>
     intro h
     have h1:=h x (by simp)
     have h2:=ih (fun y hy=>h y (by simp [hy]))
     rw [List.map_cons,rQ,List.length_cons,Nat.mul_succ];omega
 unfold jX
 generalize lM (t.extract 0 (min t.size 20)) = b at *
 simp only
 have h4:=htb _ (fun x hx=>(hN x hx).2)
 have hs:=ND _ _ hW.1
 refine ⟨ajG hv (by show aN b.data.toList <= _;omega) (NG _ (by omega)) (by simp) hs,⟨by show b.size <= _;omega,by simp;omega,by simp;omega,?_⟩,hb,by have:=hW.2;show gV _ <= _;omega,by simp;exact hW.2⟩
 intro x hx
 obtain ⟨y,hy,rfl⟩:=List.mem_map.1 hx
 exact ⟨by have:=(hN y hy).1;omega,fM (by have:=(hN y hy).2;omega)⟩
theorem aeE:∀ c,Tryd.f125.body = some c -> comp c = (.seq (.reg 0 [I.n 0 2 (I.sb false)]) (.seq (.seq (.reg 1 [I.n 0 4 (I.mv 0),I.n 1 5 (I.ln 4 25),I.n 2 6 (I.bc .eql 3 5 0 3),I.n 3 7 (I.mv 6),I.w 4 8 (I.mv 0) 7 false,I.w 5 9 (I.ln 8 25) 7 false,I.w 6 10 (I.bc .gtr 3 9 65536 3) 7 false,I.n 7 11 (I.pb 7 true 10)]) (.cond (.tmp 11) (.seq (.reg 2 [I.n 0 2 (I.sb false)]) .ret) .skip)) (.seq (.seq (.reg 3 [I.n 0 3 (I.si 0)]) (.block 0 (.loop (.seq (.seq (.reg 4 [I.n 0 12 (I.mv 3),I.n 1 13 (I.mv 0),I.n 2 14 (I.ln 13 25),I.n 3 15 (I.bo .lss 3 12 14 3)]) (.cond (.tmp 15) .skip (.exit 0))) (.seq (.block 1 (.seq (.draw 6 [I.n 0 18 (I.mv 0),I.n 1 19 (I.mv 3),I.n 2 20 (I.ia 25 18 19),I.n 3 21 (I.ld 3 20),I.n 4 22 (I.bc .lss 3 21 0 3),I.n 5 23 (I.mv 22),I.w 6 24 (I.mv 0) 23 false,I.w 7 25 (I.mv 3) 23 false,I.w 8 26 (I.ia 25 24 25) 23 false,I.w 9 27 (I.ld 3 26) 23 false,I.w 10 28 (I.bc .gtr 3 27 268435455 3) 23 false,I.n 11 29 (I.pb 23 true 28),I.n 12 30 (I.mv 29),I.w 13 31 (I.mv 3) 30 false,I.w 14 32 (I.bc .gtr 3 31 0 3) 30 false,I.w 15 33 (I.mv 32) 30 false,I.w 16 34 (I.mv 0) 33 true,I.w 17 35 (I.mv 3) 33 true,I.w 18 36 (I.ia 25 34 35) 33 true,I.w 19 37 (I.ld 3 36) 33 true,I.w 20 38 (I.mv 0) 33 true,I.w 21 39 (I.mv 3) 33 true,I.w 22 40 (I.bc .sub 3 39 1 3) 33 true,I.w 23 41 (I.ia 25 38 40) 33 true,I.w 24 42 (I.ld 3 41) 33 true,I.w 25 43 (I.bo .leq 3 37 42 3) 33 true,I.w 26 44 (I.pc 33 43 false) 30 false,I.n 27 45 (I.pb 30 true 44)] [[],[],[0,1],[2],[3],[4],[5],[5],[6,7,5],[8,5],[9,5],[5,10],[11,5],[12],[13,12],[14,12,12],[15],[15],[16,17,15],[18,15],[15],[15],[21,15],[20,22,15],[23,15],[19,24,15],[15,25,12],[12,26]]) (.cond (.tmp 45) (.seq (.reg 7 [I.n 0 2 (I.sb false)]) .ret) .skip))) (.reg 5 [I.n 0 16 (I.mv 3),I.n 1 17 (I.bc .add 3 16 1 3),I.n 2 3 (I.sa 17)])))))) (.seq (.reg 8 [I.n 0 2 (I.sb true)]) .ret)))):=by
 intro c h
 have:c = Tryd.f125.body.get rfl:=by rw [<- Option.some_inj,<- h];rfl
 rw [this];rfl
theorem ajH:∀ c,Tryd.f85.body = some c -> comp c = (.seq (.reg 0 [I.n 0 1 (.box 27 (.tmp 0)),I.n 1 2 (I.si 0)]) (.seq (.seq (.reg 1 [I.n 0 6 (I.fa 27 1 0),I.n 1 7 (I.ld 9 6),I.n 2 8 (I.c1 99 7 9),I.n 3 9 (.unOp .not 4 (.tmp 8))]) (.cond (.tmp 9) (.seq (.reg 2 [I.n 0 2 (I.si 3)]) .ret) .skip)) (.seq (.reg 3 [I.n 0 10 (I.fa 27 1 0),I.n 1 11 (I.ld 9 10),I.n 2 12 (I.c1 70 11 9),I.n 3 3 (I.sa 12)]) (.seq (.seq (.reg 4 [I.n 0 13 (I.mv 3),I.n 1 14 (I.bc .gtr 3 13 1048576 3)]) (.cond (.tmp 14) (.seq (.reg 5 [I.n 0 2 (I.si 4)]) .ret) .skip)) (.seq (.seq (.reg 6 [I.n 0 15 (I.fa 27 1 1),I.n 1 16 (I.ld 25 15),I.n 2 17 (I.c1 125 16 25),I.n 3 18 (.unOp .not 4 (.tmp 17)),I.n 4 19 (I.mv 18),I.w 5 20 (I.fa 27 1 1) 19 false,I.w 6 21 (I.ld 25 20) 19 false,I.w 7 22 (I.ln 21 25) 19 false,I.w 8 23 (I.fa 27 1 2) 19 false,I.w 9 24 (I.ld 22 23) 19 false,I.w 10 25 (I.ln 24 22) 19 false,I.w 11 26 (I.bc .add 3 25 1 3) 19 false,I.w 12 27 (I.bo .neq 3 22 26 3) 19 false,I.n 13 28 (I.pb 19 true 27)]) (.cond (.tmp 28) (.seq (.reg 7 [I.n 0 2 (I.si 6)]) .ret) .skip)) (.seq (.seq (.reg 8 [I.n 0 4 (I.si 0)]) (.block 0 (.loop (.seq (.seq (.reg 9 [I.n 0 29 (I.mv 4),I.n 1 30 (I.fa 27 1 2),I.n 2 31 (I.ld 22 30),I.n 3 32 (I.ln 31 22),I.n 4 33 (I.bo .lss 3 29 32 3)]) (.cond (.tmp 33) .skip (.exit 0))) (.seq (.block 1 (.seq (.reg 11 [I.n 0 36 (I.fa 27 1 2),I.n 1 37 (I.ld 22 36),I.n 2 38 (I.mv 4),I.n 3 39 (I.ia 22 37 38),I.n 4 40 (I.ld 23 39),I.n 5 41 (I.c1 100 40 23),I.n 6 5 (I.sa 41)]) (.seq (.seq (.reg 12 [I.n 0 42 (I.mv 5),I.n 1 43 (I.bc .neq 30 42 0 30)]) (.cond (.tmp 43) (.seq (.reg 13 [I.n 0 44 (I.mv 5),I.n 1 2 (I.sa 44)]) .ret) .skip)) (.seq (.seq (.reg 14 [I.n 0 45 (I.fa 27 1 2),I.n 1 46 (I.ld 22 45),I.n 2 47 (I.mv 4),I.n 3 48 (I.ia 22 46 47),I.n 4 49 (I.ld 23 48),I.n 5 50 (I.c1 101 49 23),I.n 6 51 (I.mv 3),I.n 7 52 (I.bo .neq 3 50 51 3)]) (.cond (.tmp 52) (.seq (.reg 15 [I.n 0 2 (I.si 5)]) .ret) .skip)) (.seq (.reg 16 [I.n 0 53 (I.fa 27 1 2),I.n 1 54 (I.ld 22 53),I.n 2 55 (I.mv 4),I.n 3 56 (I.ia 22 54 55),I.n 4 57 (I.ld 23 56),I.n 5 58 (I.c1 102 57 23),I.n 6 3 (I.sa 58)]) (.seq (.seq (.reg 17 [I.n 0 59 (I.mv 3),I.n 1 60 (I.bc .gtr 3 59 1048576 3)]) (.cond (.tmp 60) (.seq (.reg 18 [I.n 0 2 (I.si 4)]) .ret) .skip)) (.seq (.reg 19 [I.n 0 61 (I.fa 27 1 2),I.n 1 62 (I.ld 22 61),I.n 2 63 (I.mv 4),I.n 3 64 (I.ia 22 62 63),I.n 4 65 (I.ld 23 64),I.n 5 66 (I.c1 126 65 23),I.n 6 67 (.unOp .not 4 (.tmp 66))]) (.cond (.tmp 67) (.seq (.reg 20 [I.n 0 2 (I.si 8)]) .ret) .skip)))))))) (.reg 10 [I.n 0 34 (I.mv 4),I.n 1 35 (I.bc .add 3 34 1 3),I.n 2 4 (I.sa 35)])))))) (.seq (.reg 21 [I.n 0 2 (I.si 0)]) .ret))))))):=by
 intro c h
 have:c = Tryd.f85.body.get rfl:=by rw [<- Option.some_inj,<- h];rfl
 rw [this];rfl
theorem last_at {l:List Int} {i:Nat} (h0:0 < i) (hi:i <= l.length) (h:i - 1 < l.length):iO (-1) (l.take i) = l[i - 1]:=by
 obtain ⟨j,rfl⟩:∃ j,i = j + 1:=⟨i - 1,by omega⟩
 rw [List.take_succ_eq_append_getElem (by omega),yH];rfl
theorem aeF {l:List Int} {w:Int} {n:Nat} (hw:w = (n:Int)) (h:w.toNat < l.length) (h':n < l.length):l[w.toNat] = l[n]:=by
 subst hw;rfl
theorem ac3{G:Prop}(h:G:=by (repeat' (first | refine' Ev.zS | refine' Ev.zK | ((with_reducible refine Ev.dG ?_);(first | refine Ev.dr 6 [] [0,1,2,3,4,5,6,7,8,9,10,11,12,13,14,15,16,17,18,19,20,21,22,23,24,25,26,27] ?_);intro Q hQ;(simp only [Ev.ak,Ev.au]);conv=>whnf) | refine' Ev.zT | fail));all_goals(rcases(⟨_⟩:PLift _)with⟨h⟩;exact h)):G:=h
theorem aee{G:Prop}(h:G:=by
 refine ⟨by omega,?_⟩
 rw [List.take_succ_eq_append_getElem hi,mO,hr]
 simp only [Bool.true_and,Bool.and_eq_true,decide_eq_true_eq];omega):G:=h
theorem af0{G:Prop}(h:G:=by
 have hi:i < l.length:=by assumption
 have h0:0 < i:=by omega
 have hm:(IntKind.i64.wrap ((i:Int) - 1)).toNat < l.length:=by assumption
 all_goals(rcases(⟨_⟩:PLift _)with⟨h⟩;exact h)):G:=h
theorem agi{G:Prop}(h:G:=by
 have hi:i < l.length:=by assumption
 rw [Am hi (by omega)];exact ⟨rfl,rfl⟩):G:=h
theorem P7 (l:List Int) (hl:l.length <= 100000000):aA env 125 [.lst 1 (ints l)] (fun r hs=>r = .v (.bool (rises l)) /\ hs = []):=by
 have hil:=bP l
 refine Ev.fn [0,2,3,11,15,45] 0 [.tmp 2] Tryd.func125 (aeE _ rfl) ?_
 refine' ac3
 · rw [um (by omega)];exact ⟨rfl,rfl⟩
 · rw [um (by omega)];exact ⟨rfl,rfl⟩
 · refine Ev.loop (fun k s=>∃ i:Nat,s = ⟨[(0,.lst 1 (ints l)),(2,.v (.bool false)),(3,.v (.int .i64 i))],[],0⟩ /\ k + i = l.length /\ dM (-1) (l.take i) = true) ?_ ?_
   · refine Ev.zB ⟨l.length,0,rfl,?_⟩
     exact ⟨by omega,by simp [dM]⟩
   rintro k s1 ⟨i,rfl,hk,hr⟩
   have hw:0 < i -> IntKind.i64.wrap ((i:Int) - 1) = ((i - 1:Nat):Int):=fun h=>by rw [aU (by omega)];omega
   have hrl:=yJ _ _ hr
   refine' ac3
   · refine' agi
   · refine' agi
   · refine' af0
     have hb:l[i] <= l[(IntKind.i64.wrap ((i:Int) - 1)).toNat]:=by assumption
     rw [aeF (hw h0) hm (by omega),<- last_at h0 (by omega) (by omega)] at hb
     rw [Am hi (.inl hb)];exact ⟨rfl,rfl⟩
   · refine' af0
     have hb:¬ l[i] <= l[(IntKind.i64.wrap ((i:Int) - 1)).toNat]:=by assumption
     rw [aeF (hw h0) hm (by omega),<- last_at h0 (by omega) (by omega)] at hb
     refine Ev.zA (k - 1) ⟨i + 1,rfl,?_⟩
     refine' aee
   · have h0:0 < i:=by omega
     refine Ev.Side.of ?_
     show (IntKind.i64.wrap ((i:Int) - 1)).toNat < l.length
     rw [hw h0];omega
   · have hi:i < l.length:=by omega
     have h0:i = 0:=by omega
     subst h0
     have hb:iO (-1) (l.take 0) = -1:=rfl
     refine Ev.zA (k - 1) ⟨0 + 1,rfl,?_⟩
     refine' aee
   · rw [List.take_of_length_le (by omega)] at hr
     rw [NC (by intro e;subst e;simp at *) (by omega) hr];exact ⟨rfl,rfl⟩
theorem ae7{G:Prop}(h:G:=by exact ⟨by rw [hc0.trans (rH hi hz hb (by decide))];rfl,rfl⟩):G:=h
theorem vW (c:Lg) (hc:II c):aA env 85 [kT c] (fun r hs=>r = .v (.int .i64 (nP c)) /\ hs = []):=by
 obtain ⟨h1,h2,h3,h4⟩:=hc
 have hrl:=aW c.ah
 have hil:=bP c.revs
 have hR:=P7 c.revs h2
 have hV:=vH c.base h1
 have hC:=jq c.base h1
 have hw1:IntKind.i64.wrap (((aC c.ah).length:Int) + 1) = (c.ah.length:Int) + 1:=by rw [hrl,aU (by omega)]
 have hX:∀ (i:Nat) (hi:i < c.ah.length),c.ah[i].length <= 100000000 /\ Small c.ah[i]:=fun i hi=>h4 _ (List.getElem_mem hi)
 generalize hn0:aN c.base.data.toList = n0 at *
 have hch:nP c = (if n0 < 0 then 3 else if 1048576 < n0 then 4 else if mZ c.revs ≠ 0 ∨ c.revs.length ≠ c.ah.length + 1 then 6 else dA n0 c.ah):=by subst hn0;rfl
 have hv0:validD c.base.data.toList = true -> 0 <= n0:=fun h=>by rw [<- hn0,bU h];omega
 have hvn:validD c.base.data.toList = false -> n0 = -1:=fun h=>by rw [<- hn0,oV h]
 refine Ev.fn [0,1,2,3,4,5,9,14,28,33,43,52,60,67] 0 [.tmp 2] Tryd.func85 (ajH _ rfl) ?_
 repeat' (first | refine' Ev.zP | refine' Ev.zS | refine' Ev.zK | ((with_reducible refine Ev.ca0 ?_);(first | refine Ev.ca (hV) ?_ | refine Ev.ca (hC) ?_ | refine Ev.ca (hR) ?_);conv=>whnf) | refine' Ev.zT | fail)
 · have:=hv0 (by assumption)
   exact ⟨by rw [hch,if_neg (by omega),if_pos (by assumption)];rfl,rfl⟩
 · have g0:=hv0 (by assumption)
   have hrv:rises c.revs = true:=by assumption
   have hc0:nP c = dA n0 c.ah:=by
     rw [hch,if_neg (by omega),if_neg (by assumption),if_neg]
     rintro (h | h)
     · apply h;unfold mZ;rw [hrv];rfl
     · apply h;omega
   refine Ev.loop (fun k s=>∃ (i m:Nat),s = ⟨[(1,.ptr 0 0 0 0),(2,.v (.int .i64 0)),(3,.v (.int .i64 (dY n0 (c.ah.take i)))),(4,.v (.int .i64 i))],[(0,⟨3,27,0,0,true,[[.v (.string c.base),.lst 1 (ints c.revs),.lst 1 (aC c.ah)]]⟩)],m⟩ /\ k + i = c.ah.length /\ dA n0 (c.ah.take i) = 0) ?_ ?_
   · refine Ev.zB ⟨c.ah.length,0,?_,rfl,?_⟩
     exact ⟨by omega,rfl⟩
   rintro k s1 ⟨i,m,rfl,hk,hz⟩
   repeat' (first | refine' Ev.zP | refine' Ev.zS | refine' Ev.zK | ((with_reducible refine Ev.ca0 ?_);(first | refine Ev.aT (jr _ (by have:=(hX i (by omega)).1;omega) (hX i (by omega)).2) rfl rfl ?_ | refine Ev.aT (lN _ (by have:=(hX i (by omega)).1;omega)) rfl rfl ?_ | refine Ev.aT (kG _ (by have:=(hX i (by omega)).1;omega) (hX i (by omega)).2) rfl rfl ?_ | refine Ev.aT (MK _ (by have:=(hX i (by omega)).1;omega)) rfl rfl ?_ | refine Ev.ca (jr _ (by have:=(hX i (by omega)).1;omega) (hX i (by omega)).2) ?_ | refine Ev.ca (lN _ (by have:=(hX i (by omega)).1;omega)) ?_ | refine Ev.ca (kG _ (by have:=(hX i (by omega)).1;omega) (hX i (by omega)).2) ?_ | refine Ev.ca (MK _ (by have:=(hX i (by omega)).1;omega)) ?_);conv=>whnf) | refine' Ev.zT | fail)
   · have hi:i < c.ah.length:=by omega
     have hb:iq (dY n0 (c.ah.take i)) c.ah[i] = 4:=by
       unfold iq;rw [if_neg (by simp;assumption),if_neg (by simp;assumption),if_pos (by assumption)]
     refine' ae7
   · have hi:i < c.ah.length:=by omega
     have hb:iq (dY n0 (c.ah.take i)) c.ah[i] = 0:=by
       unfold iq;rw [if_neg (by simp;assumption),if_neg (by simp;assumption),if_neg (by assumption),if_pos (by assumption)]
     have e1:c.ah.take (i + 1) = c.ah.take i ++ [c.ah[i]]:=List.take_succ_eq_append_getElem hi
     have e2:dY n0 (c.ah.take (i + 1)) = sumW (fun s=>kW s.k s.n s.t) c.ah[i]:=by rw [e1,Ci];rfl
     refine Ev.zA (k - 1) ⟨i + 1,?_,rfl,?_⟩ (by refine' Ev.zp <;> first | (first | exact wrap_succ (by omega) | exact e2.symm | rfl) | rfl | (refine' Ev.ze;(first | exact wrap_succ (by omega) | exact e2.symm | rfl)) | fail)
     exact ⟨by omega,FN hi hz hb⟩
   · have hi:i < c.ah.length:=by omega
     have hb:iq (dY n0 (c.ah.take i)) c.ah[i] = 8:=by
       unfold iq;rw [if_neg (by simp;assumption),if_neg (by simp;assumption),if_neg (by assumption),if_neg (by simp;assumption)]
     refine' ae7
   · have hi:i < c.ah.length:=by omega
     have hb:iq (dY n0 (c.ah.take i)) c.ah[i] = 5:=by
       unfold iq;rw [if_neg (by simp;assumption),if_pos (by assumption)]
     refine' ae7
   · have hi:i < c.ah.length:=by omega
     have hm0:aH c.ah[i] ≠ 0:=by assumption
     have hb:iq (dY n0 (c.ah.take i)) c.ah[i] = aH c.ah[i]:=by unfold iq;rw [if_pos hm0]
     exact ⟨by rw [hc0.trans (rH hi hz hb hm0)];rfl,rfl⟩
   · rw [List.take_of_length_le (by omega)] at hz
     exact ⟨by rw [hc0.trans hz];rfl,rfl⟩
 · have g0:=hv0 (by assumption)
   exact ⟨by rw [hch,if_neg (by omega),if_neg (by assumption),if_pos (.inr (by omega))];rfl,rfl⟩
 · have g0:=hv0 (by assumption)
   have hrv:rises c.revs = false:=by assumption
   exact ⟨by rw [hch,if_neg (by omega),if_neg (by assumption),if_pos (.inl (by unfold mZ;rw [hrv];decide))];rfl,rfl⟩
 · have g0:=hvn (by assumption)
   exact ⟨by rw [hch,if_pos (by omega)];rfl,rfl⟩
theorem En:∀ c,Tryd.f103.body = some c -> comp c = (.seq (.reg 0 [I.n 0 4 (.assign (.const (Value.string { data:=#[] }))),I.n 1 5 (I.si 0)]) (.seq (.reg 1 [I.n 0 12 (I.mv 0),I.n 1 13 (I.c1 100 12 23),I.n 2 6 (I.sa 13)]) (.seq (.seq (.reg 2 [I.n 0 14 (I.mv 6),I.n 1 15 (I.bc .neq 30 14 0 30)]) (.cond (.tmp 15) (.seq (.reg 3 [I.n 0 16 (I.mv 6),I.n 1 4 (.assign (.const (Value.string { data:=#[] }))),I.n 2 5 (I.sa 16)]) .ret) .skip)) (.seq (.reg 4 [I.n 0 18 (I.mv 1),I.n 1 19 (I.c1 117 18 9),I.n 2 17 (I.mv 19),I.n 3 20 (I.ex 17 0),I.n 4 21 (I.ex 17 1),I.n 5 7 (I.sa 20),I.n 6 8 (I.sa 21)]) (.seq (.seq (.reg 5 [I.n 0 22 (I.mv 8),I.n 1 23 (.unOp .not 4 (.tmp 22))]) (.cond (.tmp 23) (.seq (.reg 6 [I.n 0 4 (.assign (.const (Value.string { data:=#[] }))),I.n 1 5 (I.si 3)]) .ret) .skip)) (.seq (.seq (.reg 7 [I.n 0 24 (I.mv 7),I.n 1 25 (I.ln 24 25),I.n 2 26 (I.bc .sub 3 25 1 3),I.n 3 27 (I.mv 0),I.n 4 28 (I.c1 101 27 23),I.n 5 29 (I.bo .neq 3 26 28 3)]) (.cond (.tmp 29) (.seq (.reg 8 [I.n 0 4 (.assign (.const (Value.string { data:=#[] }))),I.n 1 5 (I.si 5)]) .ret) .skip)) (.seq (.reg 9 [I.n 0 9 (.assign (.const (Value.string { data:=#[] })))]) (.seq (.reg 10 [I.n 0 10 (I.si 0)]) (.seq (.seq (.reg 11 [I.n 0 11 (I.si 0)]) (.block 0 (.loop (.seq (.seq (.reg 12 [I.n 0 30 (I.mv 11),I.n 1 31 (I.mv 0),I.n 2 32 (I.ln 31 23),I.n 3 33 (I.bo .lss 3 30 32 3)]) (.cond (.tmp 33) .skip (.exit 0))) (.seq (.block 1 (.seq (.reg 14 [I.n 0 36 (I.mv 0),I.n 1 37 (I.mv 11),I.n 2 38 (I.ia 23 36 37),I.n 3 39 (I.fa 35 38 0),I.n 4 40 (I.ld 3 39)]) (.block 2 (.seq (.reg 16 [I.n 0 49 (I.bc .eql 3 40 2 3),I.n 1 48 (I.sa 49)]) (.cond (.tmp 48) (.reg 17 [I.n 0 50 (I.mv 9),I.n 1 51 (I.mv 0),I.n 2 52 (I.mv 11),I.n 3 53 (I.ia 23 51 52),I.n 4 54 (I.fa 35 53 2),I.n 5 55 (I.ld 9 54),I.n 6 56 (I.bo .add 9 50 55 9),I.n 7 9 (I.sa 56)]) (.seq (.reg 18 [I.n 0 58 (I.bc .eql 3 40 1 3),I.n 1 57 (I.sa 58)]) (.cond (.tmp 57) (.seq (.draw 19 [I.n 0 59 (I.mv 9),I.n 1 60 (I.mv 1),I.n 2 61 (I.mv 7),I.n 3 62 (I.mv 10),I.n 4 63 (I.ia 25 61 62),I.n 5 64 (I.ld 3 63),I.n 6 65 (I.mv 7),I.n 7 66 (I.mv 10),I.n 8 67 (I.mv 0),I.n 9 68 (I.mv 11),I.n 10 69 (I.ia 23 67 68),I.n 11 70 (I.fa 35 69 1),I.n 12 71 (I.ld 3 70),I.n 13 72 (I.bo .add 3 66 71 3),I.n 14 73 (I.ia 25 65 72),I.n 15 74 (I.ld 3 73),I.n 16 75 (.slice 9 (.tmp 60) (some (.tmp 64)) (some (.tmp 74)) none),I.n 17 76 (I.bo .add 9 59 75 9),I.n 18 9 (I.sa 76)] [[],[],[],[],[2,3],[4],[],[],[],[],[8,9],[10],[11],[7,12],[6,13],[14],[1,5,15],[0,16],[17,0,1,2,3,4,5,6,7,8,9,10,11,12,13,14,15,16,17]]) (.reg 20 [I.n 0 77 (I.mv 10),I.n 1 78 (I.mv 0),I.n 2 79 (I.mv 11),I.n 3 80 (I.ia 23 78 79),I.n 4 81 (I.fa 35 80 1),I.n 5 82 (I.ld 3 81),I.n 6 83 (I.bo .add 3 77 82 3),I.n 7 10 (I.sa 83)])) (.reg 15 [I.n 0 41 (I.mv 10),I.n 1 42 (I.mv 0),I.n 2 43 (I.mv 11),I.n 3 44 (I.ia 23 42 43),I.n 4 45 (I.fa 35 44 1),I.n 5 46 (I.ld 3 45),I.n 6 47 (I.bo .add 3 41 46 3),I.n 7 10 (I.sa 47)])))))))) (.reg 13 [I.n 0 34 (I.mv 11),I.n 1 35 (I.bc .add 3 34 1 3),I.n 2 11 (I.sa 35)])))))) (.seq (.reg 21 [I.n 0 84 (I.mv 9),I.n 1 4 (I.sa 84),I.n 2 5 (I.si 0)]) .ret)))))))))):=by
 intro c h
 have:c = Tryd.f103.body.get rfl:=by rw [<- Option.some_inj,<- h];rfl
 rw [this];rfl
theorem aeG:∀ c,Tryd.f152.body = some c -> comp c = (.seq (.reg 0 [I.n 0 4 (.assign (.const (Value.string { data:=#[] }))),I.n 1 5 (I.si 0)]) (.seq (.seq (.reg 1 [I.n 0 9 (I.mv 0),I.n 1 10 (I.c1 99 9 9),I.n 2 11 (.unOp .not 4 (.tmp 10)),I.n 3 12 (I.mv 11),I.w 4 13 (I.mv 1) 12 true,I.w 5 14 (I.ln 13 22) 12 true,I.w 6 15 (I.bc .eql 3 14 0 3) 12 true,I.n 7 16 (I.pc 12 15 false)]) (.cond (.tmp 16) (.seq (.reg 2 [I.n 0 4 (.assign (.const (Value.string { data:=#[] }))),I.n 1 5 (I.si 3)]) .ret) .skip)) (.seq (.seq (.reg 3 [I.n 0 6 (I.si 0)]) (.block 0 (.loop (.seq (.seq (.reg 4 [I.n 0 17 (I.mv 6),I.n 1 18 (I.mv 1),I.n 2 19 (I.ln 18 22),I.n 3 20 (I.bo .lss 3 17 19 3)]) (.cond (.tmp 20) .skip (.exit 0))) (.seq (.block 1 (.seq (.reg 6 [I.n 0 24 (I.mv 1),I.n 1 25 (I.mv 6),I.n 2 26 (I.ia 22 24 25),I.n 3 27 (I.ld 23 26),I.n 4 28 (I.mv 0),I.n 5 29 (I.c2 103 27 28 23 9),I.n 6 23 (I.mv 29),I.n 7 30 (I.ex 23 0),I.n 8 31 (I.ex 23 1),I.n 9 7 (I.sa 30),I.n 10 8 (I.sa 31)]) (.seq (.seq (.reg 7 [I.n 0 32 (I.mv 8),I.n 1 33 (I.bc .neq 30 32 0 30)]) (.cond (.tmp 33) (.seq (.reg 8 [I.n 0 34 (I.mv 8),I.n 1 4 (.assign (.const (Value.string { data:=#[] }))),I.n 2 5 (I.sa 34)]) .ret) .skip)) (.reg 9 [I.n 0 35 (I.mv 7),I.n 1 0 (I.sa 35)])))) (.reg 5 [I.n 0 21 (I.mv 6),I.n 1 22 (I.bc .add 3 21 1 3),I.n 2 6 (I.sa 22)])))))) (.seq (.reg 10 [I.n 0 36 (I.mv 0),I.n 1 4 (I.sa 36),I.n 2 5 (I.si 0)]) .ret)))):=by
 intro c h
 have:c = Tryd.f152.body.get rfl:=by rw [<- Option.some_inj,<- h];rfl
 rw [this];rfl
theorem aeH:∀ c,Tryd.f110.body = some c -> comp c = (.seq (.reg 0 [I.n 0 2 (.box 27 (.tmp 0)),I.n 1 4 (.assign (.const (Value.string { data:=#[] }))),I.n 2 5 (I.si 0)]) (.seq (.reg 1 [I.n 0 7 (I.ld 27 2),I.n 1 8 (I.c1 85 7 27),I.n 2 6 (I.sa 8)]) (.seq (.seq (.reg 2 [I.n 0 9 (I.mv 6),I.n 1 10 (I.bc .neq 30 9 0 30)]) (.cond (.tmp 10) (.seq (.reg 3 [I.n 0 11 (I.mv 6),I.n 1 4 (.assign (.const (Value.string { data:=#[] }))),I.n 2 5 (I.sa 11)]) .ret) .skip)) (.seq (.seq (.reg 4 [I.n 0 12 (I.mv 1),I.n 1 13 (I.bc .lss 3 12 0 3),I.n 2 14 (I.mv 13),I.w 3 15 (I.mv 1) 14 false,I.w 4 16 (I.fa 27 2 2) 14 false,I.w 5 17 (I.ld 22 16) 14 false,I.w 6 18 (I.ln 17 22) 14 false,I.w 7 19 (I.bo .gtr 3 15 18 3) 14 false,I.n 8 20 (I.pb 14 true 19)]) (.cond (.tmp 20) (.seq (.reg 5 [I.n 0 4 (.assign (.const (Value.string { data:=#[] }))),I.n 1 5 (I.si 6)]) .ret) .skip)) (.seq (.draw 6 [I.n 0 21 (I.fa 27 2 0),I.n 1 22 (I.ld 9 21),I.n 2 23 (I.fa 27 2 2),I.n 3 24 (I.ld 22 23),I.n 4 25 (I.mv 1),I.n 5 26 (.slice 22 (.tmp 24) none (some (.tmp 25)) none),I.n 6 27 (I.c2 152 22 26 9 22),I.n 7 28 (I.ex 27 0),I.n 8 29 (I.ex 27 1),I.n 9 4 (I.sa 28),I.n 10 5 (I.sa 29)] [[],[0],[],[2],[],[3,4],[1,5],[6],[6],[7,6,0,1,2,3,4,5,6,7,8],[8,9,0,1,2,3,4,5,6,7,8,9]]) .ret))))):=by
 intro c h
 have:c = Tryd.f110.body.get rfl:=by rw [<- Option.some_inj,<- h];rfl
 rw [this];rfl
theorem pos_at:∀ l,validD l = true -> ∀ (b:Int) (a:Nat),a <= (pts l).length -> (b :: nC l b)[a]? = some (b + ((fJ ((pts l).take a)).length:Int)):=by
 refine Ah (fun b a ha=>?_) (fun l he hv hd hs ih b a ha=>?_)
 · have:a = 0:=by simpa [JL] using ha
   subst this;simp [fJ]
 · obtain ⟨sc,e⟩:=Du he hd
   have hle:=decodeL_le l he
   cases a with
   | zero=>simp [fJ]
   | succ a =>
     rw [oU he] at ha ⊢
     rw [qW he,List.getElem?_cons_succ,ih (b + (decodeL l).2) a (by simpa using ha),List.take_succ_cons,rJ,List.length_append,e,List.length_take,Nat.min_eq_left hle]
     congr 1;omega
theorem Rz {t:ByteArray} (hv:validD t.data.toList = true) {a n:Nat} (h:a + n <= (pts t.data.toList).length) :
   t.extract (fJ ((pts t.data.toList).take a)).length (fJ ((pts t.data.toList).take (a + n))).length = txt (((pts t.data.toList).drop a).take n) /\ (fJ ((pts t.data.toList).take a)).length <= (fJ ((pts t.data.toList).take (a + n))).length /\ (fJ ((pts t.data.toList).take (a + n))).length <= t.size:=by
 have hp:=(jv _ hv).1
 generalize pts t.data.toList = r at *
 have e1:r.take (a + n) = r.take a ++ (r.drop a).take n:=by rw [List.take_add]
 have e2:r = r.take a ++ (r.drop a).take n ++ r.drop (a + n):=by rw [<- e1,List.take_append_drop]
 have hl:t.data.toList = fJ (r.take a) ++ fJ ((r.drop a).take n) ++ fJ (r.drop (a + n)):=by
   rw [<- hp];conv=>lhs;rw [e2]
   rw [lg,lg]
 have hs:=congrArg List.length hl
 rw [bM,List.length_append,List.length_append] at hs
 rw [e1,lg,List.length_append]
 refine ⟨J8 ?_,by omega,by omega⟩
 rw [fH]
 have:(t.extract (fJ (r.take a)).length ((fJ (r.take a)).length + (fJ ((r.drop a).take n)).length)).data.toList = (t.data.toList.drop (fJ (r.take a)).length).take (fJ ((r.drop a).take n)).length:=by
   rw [ByteArray.data_extract,Array.toList_extract,List.extract_eq_take_drop,Nat.add_sub_cancel_left]
 rw [this,hl,List.append_assoc,List.drop_left,List.take_left]
set_option maxHeartbeats 8000000 in
theorem NI (l:List Sp) (t:ByteArray) (hl:l.length <= 100000000) (hb:dw l + t.size <= 1000000000):aA env 103 [.lst 3 (bD l),.v (.string t)] (fun r hs=>r = toA l t /\ hs = []):=by
  have hsl:=bH l
  have hmx:2000000003 <= maxLen:=by decide
  have hsm:Small l:=fM (by omega)
  have hpl:=nD t.data.toList
  rw [bM] at hpl
  have hM:=jr l (by omega) hsm
  have hI:=lN l (by omega)
  by_cases h1:aH l = 0
  · rw [h1] at hM
    cases hv:validD t.data.toList with
    | false =>
      have hS:=BO (t:=t) (by omega) (by rw [hv];simp)
      have:mP l t = 3:=by unfold mP;rw [if_neg (by simp [h1]),oV hv,if_pos (by omega)]
      rw [qy this (by decide)]
      refine Ev.fn [0,1,4,5,6,7,8,9,10,11,15,23,29,33,40,48,57] 0 [.tmp 4,.tmp 5] Tryd.func103 (En _ rfl) ?_
      repeat' (first | refine' Ev.zP | (with_reducible refine Ev.aJ rfl ?_) | (with_reducible refine Ev.aK rfl ?_) | refine' Ev.zS | refine' Ev.zK | ((with_reducible refine Ev.ca0 ?_);(first | refine Ev.ca (hM) ?_ | refine Ev.ca (hS) ?_);conv=>whnf) | ((with_reducible refine Ev.dG ?_);(first | refine Ev.dr 19 [] [0,1,2,3,4,5,6,7,8,9,10,11,12,13,14,15,16,17,18] ?_);intro Q hQ;(simp only [Ev.ak,Ev.au]);conv=>whnf) | refine' Ev.zT | fail)
      exact ⟨rfl,rfl⟩
    | true =>
      have hS:=BN (t:=t) (by omega) hv
      have hpos:=pos_at _ hv 0
      have hcnt:=bU hv
      have hpd:(nC t.data.toList 0).length = (pts t.data.toList).length:=Ai _ _
      rw [hpd] at hS
      have hw1:IntKind.i64.wrap ((((pts t.data.toList).length + 1:Nat):Int) - 1) = ((pts t.data.toList).length:Int):=by rw [aU (by omega)];omega
      by_cases h3:((pts t.data.toList).length:Int) = jV l
      · have hz:mP l t = 0:=yL h1 hv h3.symm
        have h3':IntKind.i64.wrap ((((pts t.data.toList).length + 1:Nat):Int) - 1) = sumW (fun s=>qo s.k s.n) l:=hw1.trans h3
        rw [Yl hz]
        obtain ⟨h4,h5⟩:=(gG l).1 h1
        have hsum:=ku h4 (by omega)
        have hcp:=fun (a n:Nat) (h:a + n <= (pts t.data.toList).length)=>Rz hv h
        have hsc:=(jv _ hv).1
        generalize pts t.data.toList = r0 at *
        generalize hP:(0 :: nC t.data.toList 0) = P at *
        have hPl:P.length = r0.length + 1:=by rw [<- hP,List.length_cons,hpd]
        have hPi:=bP P
        refine Ev.fn [0,1,4,5,6,7,8,9,10,11,15,23,29,33,40,48,57] 0 [.tmp 4,.tmp 5] Tryd.func103 (En _ rfl) ?_
        repeat' (first | refine' Ev.zP | (with_reducible refine Ev.aJ rfl ?_) | (with_reducible refine Ev.aK rfl ?_) | (((with_reducible refine Ev.aJ h3' ?_);conv=>whnf)) | (with_reducible refine Ev.aK h3' ?_) | refine' Ev.zS | refine' Ev.zK | ((with_reducible refine Ev.ca0 ?_);(first | refine Ev.ca (hM) ?_ | refine Ev.ca (hI) ?_);conv=>whnf) | ((refine Ev.zM hS rfl (by simp) ⟨rfl,trivial⟩ ?_);conv=>whnf) | ((with_reducible refine Ev.dG ?_);(first | refine Ev.dr 19 [] [0,1,2,3,4,5,6,7,8,9,10,11,12,13,14,15,16,17,18] ?_);intro Q hQ;(simp only [Ev.ak,Ev.au]);conv=>whnf) | refine' Ev.zT | fail)
        have hPa:∀ (a:Nat) (h:a < P.length),P[a] = ((fJ (r0.take a)).length:Int):=fun a h=>by
          have:=hpos a (by omega)
          rw [List.getElem?_eq_getElem h] at this
          have:=Option.some.inj this
          omega
        refine Ev.loop (fun k s=>∃ (i A m v z:Nat) (O:List Nat),s = ⟨[(0,.lst 3 (bD l)),(1,.v (.string t)),(7,.own 2056 v 0 (r0.length + 1)),(9,.v (.string (txt O))),(10,.v (.int .i64 A)),(11,.v (.int .i64 i))],[(2056,⟨1,3,v,z,false,ints P⟩)],m⟩ /\
          k + i = l.length /\ A <= r0.length /\ fQ l r0 = O ++ fQ (l.drop i) (r0.drop A) /\ ((r0.length:Int) - A) = bC dV (l.drop i) /\ (fJ O).length + (fJ (r0.drop A)).length <= dw (l.take i) + t.size) ?_ ?_
        · refine Ev.zB ⟨l.length,0,0,?_,?_,?_,[],rfl,?_⟩
          exact ⟨by omega,by omega,rfl,by rw [List.drop_zero];omega,by rw [List.drop_zero,hsc,bM];simp [fJ]⟩
        rintro k s1 ⟨i,A,m,v,z,O,rfl,hk,hA,hap,hR,hsz⟩
        by_cases hil:i < l.length
        · have hs:=h4 _ (List.getElem_mem hil)
          have hsa:=Ym hil
          have hsp:=Ej (fun x hx=>h4 x (List.mem_of_mem_drop hx):∀ x ∈ l.drop (i + 1),cu x)
          have hpa:=Rh hil (r0.drop A)
          rw [List.drop_drop] at hpa
          have htk:=Ak l hil
          have htl:=PS l (i + 1)
          have hi2:(i:Int) < ((bD l).length:Int):=by omega
          have hOs:(txt O).size = (fJ O).length:=by rw [<- bM,fH]
          have hdd:(fJ (r0.drop A)).length = (fJ ((r0.drop A).take l[i].n.toNat)).length + (fJ (r0.drop (A + l[i].n.toNat))).length:=by
            rw [<- List.length_append,<- lg,<- List.drop_drop,List.take_append_drop]
          rcases jJ hs with ⟨a,b,c',d⟩ | ⟨a | a,b,c',d⟩
          · have hP2:x9 l[i] (r0.drop A) = pts l[i].t.data.toList:=by unfold x9;rw [if_pos a]
            have htx:txt O ++ l[i].t = txt (O ++ pts l[i].t.data.toList):=by rw [<- J9,uD d]
            have hes:(fJ (pts l[i].t.data.toList)).length = l[i].t.size:=by rw [(jv _ d).1,bM]
            repeat' (first | refine' Ev.zP | (((with_reducible refine Ev.aJ hi2 ?_);conv=>whnf)) | (with_reducible refine Ev.aK hi2 ?_) | (with_reducible refine Ev.aK a ?_) | refine' Ev.zS | refine' Ev.zK | ((with_reducible refine Ev.dG ?_);(first | refine Ev.dr 19 [] [0,1,2,3,4,5,6,7,8,9,10,11,12,13,14,15,16,17,18] ?_);intro Q hQ;(simp only [Ev.ak,Ev.au]);conv=>whnf) | refine' Ev.zT | fail)
            have hnz:l[i].n.toNat = 0:=by omega
            rw [hnz,Nat.add_zero] at hpa hdd
            refine Ev.zA (k - 1) ⟨i + 1,A,?_,?_,?_,O ++ pts l[i].t.data.toList,rfl,?_⟩ (by refine' Ev.zp <;> first | (first | exact wrap_succ (by omega) | exact congrArg (fun x=>AV.v (.string x)) htx | rfl) | rfl | (refine' Ev.ze;(first | exact wrap_succ (by omega) | exact congrArg (fun x=>AV.v (.string x)) htx | rfl)) | fail)
            refine ⟨by omega,hA,by rw [hap,hpa,hP2,List.append_assoc];rfl,by omega,?_⟩
            rw [lg,List.length_append];omega
          · have a2:¬ l[i].k = 2:=by omega
            have hn:A + l[i].n.toNat <= r0.length:=by omega
            have hP2:x9 l[i] (r0.drop A) = (r0.drop A).take l[i].n.toNat:=by unfold x9;rw [if_neg a2,if_pos a]
            have hwn:IntKind.i64.wrap ((A:Int) + l[i].n) = ((A + l[i].n.toNat:Nat):Int):=by rw [aU (by omega)];omega
            obtain ⟨x1,x2,x3⟩:=hcp A l[i].n.toNat hn
            repeat' (first | refine' Ev.zP | (((with_reducible refine Ev.aJ hi2 ?_);conv=>whnf)) | (with_reducible refine Ev.aK hi2 ?_) | (with_reducible refine Ev.aV a2 ?_) | (with_reducible refine Ev.aK a ?_) | refine' Ev.zS | refine' Ev.zK | ((with_reducible refine Ev.dG ?_);(first | refine Ev.dr 19 [] [0,1,2,3,4,5,6,7,8,9,10,11,12,13,14,15,16,17,18] ?_);intro Q hQ;(simp only [Ev.ak,Ev.au]);conv=>whnf) | refine' Ev.zT | fail)
            · have hm:(IntKind.i64.wrap ((A:Int) + l[i].n)).toNat < P.length:=by assumption
              have hAP:A < P.length:=by omega
              have hq:txt O ++ t.extract P[A].toNat P[(IntKind.i64.wrap ((A:Int) + l[i].n)).toNat].toNat = txt (O ++ (r0.drop A).take l[i].n.toNat):=by
                rw [aeF hwn hm (by omega),hPa A hAP,hPa (A + l[i].n.toNat) (by omega),Int.toNat_natCast,Int.toNat_natCast,x1,J9]
              refine Ev.zA (k - 1) ⟨i + 1,A + l[i].n.toNat,?_,?_,?_,O ++ (r0.drop A).take l[i].n.toNat,rfl,?_⟩ (by refine' Ev.zp <;> first | (first | exact wrap_succ (by omega) | exact hwn | exact congrArg (fun x=>AV.v (.string x)) hq | rfl) | rfl | (refine' Ev.ze;(first | exact wrap_succ (by omega) | exact hwn | exact congrArg (fun x=>AV.v (.string x)) hq | rfl)) | fail)
              refine ⟨by omega,hn,by rw [hap,hpa,hP2,List.append_assoc],by omega,?_⟩
              rw [lg,List.length_append];omega
            · have hm:(IntKind.i64.wrap ((A:Int) + l[i].n)).toNat < P.length:=by assumption
              have hAP:A < P.length:=by omega
              refine Ev.Side.of ?_
              show 0 <= P[A] /\ P[A] <= P[(IntKind.i64.wrap ((A:Int) + l[i].n)).toNat] /\ P[(IntKind.i64.wrap ((A:Int) + l[i].n)).toNat] <= (t.size:Int)
              rw [aeF hwn hm (by omega),hPa A hAP,hPa (A + l[i].n.toNat) (by omega)];omega
            · refine Ev.Side.of ?_
              show (IntKind.i64.wrap ((A:Int) + l[i].n)).toNat < P.length
              rw [hwn];omega
          · have a2:¬ l[i].k = 2:=by omega
            have a1:¬ l[i].k = 1:=by omega
            have hn:A + l[i].n.toNat <= r0.length:=by omega
            have hP2:x9 l[i] (r0.drop A) = []:=by unfold x9;rw [if_neg a2,if_neg a1]
            have hwn:IntKind.i64.wrap ((A:Int) + l[i].n) = ((A + l[i].n.toNat:Nat):Int):=by rw [aU (by omega)];omega
            repeat' (first | refine' Ev.zP | (((with_reducible refine Ev.aJ hi2 ?_);conv=>whnf)) | (with_reducible refine Ev.aK hi2 ?_) | (with_reducible refine Ev.aV a2 ?_) | (with_reducible refine Ev.aV a1 ?_) | refine' Ev.zS | refine' Ev.zK | ((with_reducible refine Ev.dG ?_);(first | refine Ev.dr 19 [] [0,1,2,3,4,5,6,7,8,9,10,11,12,13,14,15,16,17,18] ?_);intro Q hQ;(simp only [Ev.ak,Ev.au]);conv=>whnf) | refine' Ev.zT | fail)
            refine Ev.zA (k - 1) ⟨i + 1,A + l[i].n.toNat,?_,?_,?_,O,rfl,?_⟩ (by refine' Ev.zp <;> first | (first | exact wrap_succ (by omega) | exact hwn | rfl) | rfl | (refine' Ev.ze;(first | exact wrap_succ (by omega) | exact hwn | rfl)) | fail)
            refine ⟨by omega,hn,by rw [hap,hpa,hP2];rfl,by omega,by omega⟩
        · have hi2:¬ (i:Int) < ((bD l).length:Int):=by omega
          have hdl:l.drop i = []:=List.drop_of_length_le (by omega)
          rw [hdl] at hap
          have hO:fQ l r0 = O:=by rw [hap];simp [fQ]
          rw [hO]
          repeat' (first | refine' Ev.zP | (((with_reducible refine Ev.aP hi2 ?_);conv=>whnf)) | (with_reducible refine Ev.aV hi2 ?_) | refine' Ev.zS | refine' Ev.zK | ((with_reducible refine Ev.dG ?_);(first | refine Ev.dr 19 [] [0,1,2,3,4,5,6,7,8,9,10,11,12,13,14,15,16,17,18] ?_);intro Q hQ;(simp only [Ev.ak,Ev.au]);conv=>whnf) | refine' Ev.zT | fail)
          exact ⟨rfl,rfl⟩
      · have h3':¬ IntKind.i64.wrap ((((pts t.data.toList).length + 1:Nat):Int) - 1) = sumW (fun s=>qo s.k s.n) l:=fun e=>h3 (hw1.symm.trans e)
        have:mP l t = 5:=by unfold mP;rw [if_neg (by simp [h1]),hcnt,if_neg (by omega),if_pos h3]
        rw [qy this (by decide)]
        refine Ev.fn [0,1,4,5,6,7,8,9,10,11,15,23,29,33,40,48,57] 0 [.tmp 4,.tmp 5] Tryd.func103 (En _ rfl) ?_
        repeat' (first | refine' Ev.zP | (with_reducible refine Ev.aJ rfl ?_) | (with_reducible refine Ev.aK rfl ?_) | (((with_reducible refine Ev.aP h3' ?_);conv=>whnf)) | (with_reducible refine Ev.aV h3' ?_) | refine' Ev.zS | refine' Ev.zK | ((with_reducible refine Ev.ca0 ?_);(first | refine Ev.ca (hM) ?_ | refine Ev.ca (hI) ?_);conv=>whnf) | ((refine Ev.zM hS rfl (by simp) ⟨rfl,trivial⟩ ?_);conv=>whnf) | ((with_reducible refine Ev.dG ?_);(first | refine Ev.dr 19 [] [0,1,2,3,4,5,6,7,8,9,10,11,12,13,14,15,16,17,18] ?_);intro Q hQ;(simp only [Ev.ak,Ev.au]);conv=>whnf) | refine' Ev.zT | fail)
        exact ⟨rfl,rfl⟩
  · have:mP l t = aH l:=by unfold mP;rw [if_pos h1]
    rw [qy this h1]
    refine Ev.fn [0,1,4,5,6,7,8,9,10,11,15,23,29,33,40,48,57] 0 [.tmp 4,.tmp 5] Tryd.func103 (En _ rfl) ?_
    repeat' (first | refine' Ev.zP | (with_reducible refine Ev.aV h1 ?_) | (((with_reducible refine Ev.aP h1 ?_);conv=>whnf)) | refine' Ev.zS | refine' Ev.zK | ((with_reducible refine Ev.ca0 ?_);(first | refine Ev.ca (hM) ?_);conv=>whnf) | ((with_reducible refine Ev.dG ?_);(first | refine Ev.dr 19 [] [0,1,2,3,4,5,6,7,8,9,10,11,12,13,14,15,16,17,18] ?_);intro Q hQ;(simp only [Ev.ak,Ev.au]);conv=>whnf) | refine' Ev.zT | fail)
    exact ⟨rfl,rfl⟩
theorem aaw{G:Prop}(h:G:=by
 have e1:toA l[i] u = .dB [.v (.string ⟨#[]⟩),.v (.int .i64 (mP l[i] u))]:=qy rfl h0
 rw [e1] at hT
 have e2:jK l t = (mP l[i] u,⟨#[]⟩):=by rw [hg];simp only [jK];rw [if_neg h0]
 rw [e2]
 repeat' (first | refine' Ev.zP | (((with_reducible refine Ev.aJ hi2 ?_);conv=>whnf)) | (with_reducible refine Ev.aK hi2 ?_) | (with_reducible refine Ev.aV h0 ?_) | (((with_reducible refine Ev.aP h0 ?_);conv=>whnf)) | refine' Ev.zS | refine' Ev.zK | ((with_reducible refine Ev.ca0 ?_);(first | refine Ev.ca (hT) ?_);conv=>whnf) | refine' Ev.zT | fail)
 exact ⟨rfl,rfl⟩):G:=h
theorem abe{G:Prop}(h:G:=by
 have hsz:=Rj h0
 have e1:toA l[i] u = .dB [.v (.string (rM l[i] u)),.v (.int .i64 0)]:=by unfold toA;rw [h0]
 rw [e1] at hT
 repeat' (first | refine' Ev.zP | (((with_reducible refine Ev.aJ hi2 ?_);conv=>whnf)) | (with_reducible refine Ev.aK hi2 ?_) | refine' Ev.zS | refine' Ev.zK | ((with_reducible refine Ev.ca0 ?_);(first | refine Ev.ca (hT) ?_);conv=>whnf) | refine' Ev.zT | fail)
 refine Ev.zA (k - 1) ⟨i + 1,?_,rM l[i] u,rfl,?_⟩
 refine ⟨by omega,?_,by omega⟩
 rw [hg];simp only [jK];rw [if_pos h0]):G:=h
theorem aci{G:Prop}(h:G:=by
 refine Ev.zB ⟨l.length,0,?_,t,rfl,?_⟩
 exact ⟨by omega,rfl,by rw [List.drop_zero];exact hb⟩):G:=h
theorem ac1{G:Prop}(h:G:=by
 refine' aam
 refine Ev.loop (fun k s=>∃ (i c:Nat) (u:ByteArray),s = ⟨[(0,.v (.string u)),(1,.lst 1 (aC l)),(4,.v (.string ⟨#[]⟩)),(5,.v (.int .i64 0)),(6,.v (.int .i64 i))],[],c⟩ /\ k + i = l.length /\ jK l t = jK (l.drop i) u /\ u.size + gV (l.drop i) <= 1000000000) ?_ ?_
 all_goals(rcases(⟨_⟩:PLift _)with⟨h⟩;exact h)):G:=h
theorem ac9{G:Prop}(h:G:=by
 refine' abz
 repeat' (first | refine' Ev.zP | (((with_reducible refine Ev.aP hi2 ?_);conv=>whnf)) | (with_reducible refine Ev.aV hi2 ?_) | refine' Ev.zS | refine' Ev.zK | refine' Ev.zT | fail)
 exact ⟨rfl,rfl⟩):G:=h
theorem Vk (t:ByteArray) (l:List (List Sp)) (hl:l.length <= 100000000) (hx:∀ x ∈ l,x.length <= 100000000) (hb:t.size + gV l <= 1000000000):aA env 152 [.v (.string t),.lst 1 (aC l)] (fun r hs=>r = allA t l /\ hs = []):=by
 have hrl:=aW l
 have hpv:=vH t (by omega)
 refine Ev.fn [0,1,4,5,6,7,8,16,20,33] 0 [.tmp 4,.tmp 5] Tryd.func152 (aeG _ rfl) ?_
 refine' agk
 · refine' ac1
   · refine' aci
   rintro k s1 ⟨i,c,u,rfl,hk,hg,hu⟩
   by_cases hi:i < l.length
   · refine' ab9
     have hT:=NI l[i] u (hx _ (List.getElem_mem hi)) (by omega)
     by_cases h0:mP l[i] u = 0
     · refine' abe
     · refine' aaw
   · refine' ac9
 · rename_i hv h0
   refine' aey
 · refine' ac1
   · refine' aci
   rintro k s1 ⟨i,c,u,rfl,hk,hg,hu⟩
   by_cases hi:i < l.length
   · refine' ab9
     have hT:=NI l[i] u (hx _ (List.getElem_mem hi)) (by omega)
     by_cases h0:mP l[i] u = 0
     · refine' abe
     · refine' aaw
   · refine' ac9
theorem P8 (c:Lg) (i:Int) (hc:II c) (hb:c.base.size + gV c.ah <= 1000000000):aA env 110 [kT c,.v (.int .i64 i)] (fun r hs=>r = atA c i /\ hs = []):=by
 have hm:=vW c hc
 obtain ⟨h1,h2,h3,h4⟩:=hc
 have hrl:=aW c.ah
 refine Ev.fn [0,1,2,4,5,6,10,20] 0 [.tmp 4,.tmp 5] Tryd.func110 (aeH _ rfl) ?_
 have hA:∀ hi:¬ i < 0 /\ ¬ (c.ah.length:Int) < i,aA env 152 [.v (.string c.base),.lst 1 (List.take (i.toNat - 0) (List.drop 0 (aC c.ah)))] (fun r hs=>r = allA c.base (c.ah.take i.toNat) /\ hs = []):=fun hi=>by
   refine' afp
   exact Vk _ _ (by rw [List.length_take];omega) (fun x hx=>(h4 x (List.mem_of_mem_take hx)).1) (by omega)
 refine' abq
 · refine' aa9
 · refine' aa9
 · refine' ads
 · refine' af4
def RD:Ev.Pl:=(.one 0 false (.two 1 (.one 2 false (.one 3 false .fin)) 2 (.one 1 false (.one 3 false .fin))))
def RF:Ev.Pl:=(.one 0 false (.two 1 (.one 2 false (.one 3 false .fin)) 2 (.one 1 false (.one 3 false .fin))))
theorem aeI:∀ c,Tryd.f167.body = some c -> comp c = (.seq (.reg 0 [I.n 0 6 (.assign (.const (Value.string { data:=#[] }))),I.n 1 7 (I.si 0)]) (.seq (.reg 1 [I.n 0 11 (I.mv 0),I.n 1 12 (I.c1 117 11 9),I.n 2 10 (I.mv 12),I.n 3 13 (I.ex 10 0),I.n 4 14 (I.ex 10 1),I.n 5 8 (I.sa 13),I.n 6 9 (I.sa 14)]) (.seq (.seq (.reg 2 [I.n 0 15 (I.mv 9),I.n 1 16 (.unOp .not 4 (.tmp 15))]) (.cond (.tmp 16) (.seq (.reg 3 [I.n 0 6 (.assign (.const (Value.string { data:=#[] }))),I.n 1 7 (I.si 3)]) .ret) .skip)) (.seq (.seq (.reg 4 [I.n 0 17 (I.mv 1),I.n 1 18 (I.bc .lss 3 17 0 3),I.n 2 19 (I.mv 18),I.w 3 20 (I.mv 2) 19 false,I.w 4 21 (I.mv 1) 19 false,I.w 5 22 (I.bo .lss 3 20 21 3) 19 false,I.n 6 23 (I.pb 19 true 22),I.n 7 24 (I.mv 23),I.w 8 25 (I.mv 2) 24 false,I.w 9 26 (I.mv 8) 24 false,I.w 10 27 (I.ln 26 25) 24 false,I.w 11 28 (I.bc .sub 3 27 1 3) 24 false,I.w 12 29 (I.bo .gtr 3 25 28 3) 24 false,I.n 13 30 (I.pb 24 true 29)]) (.cond (.tmp 30) (.seq (.reg 5 [I.n 0 6 (.assign (.const (Value.string { data:=#[] }))),I.n 1 7 (I.si 6)]) .ret) .skip)) (.seq (.draw 6 [I.n 0 31 (I.mv 0),I.n 1 32 (I.mv 8),I.n 2 33 (I.mv 1),I.n 3 34 (I.ia 25 32 33),I.n 4 35 (I.ld 3 34),I.n 5 36 (I.mv 8),I.n 6 37 (I.mv 2),I.n 7 38 (I.ia 25 36 37),I.n 8 39 (I.ld 3 38),I.n 9 40 (.slice 9 (.tmp 31) (some (.tmp 35)) (some (.tmp 39)) none),I.n 10 6 (I.sa 40),I.n 11 7 (I.si 0)] [[],[],[],[1,2],[3],[],[],[5,6],[7],[0,4,8],[9,0,1,2,3,4,5,6,7,8,9],[10,0,1,2,3,4,5,6,7,8,9,10]]) .ret))))):=by
 intro c h
 have:c = Tryd.f167.body.get rfl:=by rw [<- Option.some_inj,<- h];rfl
 rw [this];rfl
theorem RG:∀ c,Tryd.f162.body = some c -> comp c = (.seq (.reg 0 [I.n 0 2 (.box 35 (.tmp 0)),I.n 1 4 (.alloc 35),I.n 2 5 (.alloc 35)]) (.seq (.reg 1 [I.n 0 8 (I.ld 35 2),I.n 1 6 (.alloc 35),I.u 2 (I.st 35 6 8)]) (.seq (.reg 2 [I.n 0 9 (I.ld 35 2),I.n 1 7 (.alloc 35),I.u 2 (I.st 35 7 9)]) (.seq (.seq (.reg 3 [I.n 0 10 (I.fa 35 2 0),I.n 1 11 (I.ld 3 10),I.n 2 12 (I.bc .eql 3 11 2 3)]) (.cond (.tmp 12) (.seq (.reg 4 [I.n 0 14 (I.fa 35 2 2),I.n 1 15 (I.ld 9 14),I.n 2 16 (I.mv 1),I.n 3 17 (.call { callee:=.value (.func 167),args:=#[.tmp 15,.const (Value.int .i64 0),.tmp 16],argTypes:=#[9,3,3] }),I.n 4 13 (I.mv 17),I.n 5 18 (I.ex 13 0),I.n 6 19 (I.ex 13 1),I.n 7 20 (I.fa 35 6 2),I.u 8 (I.st 9 20 18)]) (.seq (.draw 5 [I.n 0 22 (I.fa 35 2 2),I.n 1 23 (I.ld 9 22),I.n 2 24 (I.mv 1),I.n 3 25 (I.fa 35 2 2),I.n 4 26 (I.ld 9 25),I.n 5 27 (I.c1 70 26 9),I.n 6 28 (.call { callee:=.value (.func 167),args:=#[.tmp 23,.tmp 24,.tmp 27],argTypes:=#[9,3,3] }),I.n 7 21 (I.mv 28),I.n 8 29 (I.ex 21 0),I.n 9 30 (I.ex 21 1),I.n 10 31 (I.fa 35 7 2),I.u 11 (I.st 9 31 29)] [[],[0],[],[],[3],[4],[1,2,5,5],[6],[7],[7],[0,1,2,3,4,5,6,7,8],[10,8,6,0,1,2,3,4,5,6,7,8]]) (.seq (.draw 6 [I.n 0 32 (I.ld 35 6),I.n 1 33 (I.ld 35 7),I.u 2 (I.st 35 4 32),I.u 3 (I.st 35 5 33)] [[],[],[0,0],[1,2,0,1,2]]) .ret))) .skip)) (.seq (.reg 7 [I.n 0 34 (I.mv 1),I.n 1 35 (I.fa 35 6 1),I.u 2 (I.st 3 35 34)]) (.seq (.reg 8 [I.n 0 36 (I.fa 35 2 1),I.n 1 37 (I.ld 3 36),I.n 2 38 (I.mv 1),I.n 3 39 (I.bo .sub 3 37 38 3),I.n 4 40 (I.fa 35 7 1),I.u 5 (I.st 3 40 39)]) (.seq (.draw 9 [I.n 0 41 (I.ld 35 6),I.n 1 42 (I.ld 35 7),I.u 2 (I.st 35 4 41),I.u 3 (I.st 35 5 42)] [[],[],[0,0],[1,2,0,1,2]]) .ret))))))):=by
 intro c h
 have:c = Tryd.f162.body.get rfl:=by rw [<- Option.some_inj,<- h];rfl
 rw [this];rfl
theorem aeJ:∀ c,Tryd.f163.body = some c -> comp c = (.seq (.reg 0 [I.n 0 1 (.box 35 (.tmp 0)),I.n 1 2 (I.si 0)]) (.seq (.draw 1 [I.n 0 3 (I.ld 35 1),I.n 1 4 (I.c1 143 3 35),I.n 2 5 (I.fa 35 1 2),I.n 3 6 (I.ld 9 5),I.n 4 7 (I.c1 70 6 9),I.n 5 8 (I.bo .add 3 4 7 3),I.n 6 2 (I.sa 8)] [[],[0],[],[2],[3,1],[1,4],[5,4,0,1,2,3,4,5]]) .ret)):=by
 intro c h
 have:c = Tryd.f163.body.get rfl:=by rw [<- Option.some_inj,<- h];rfl
 rw [this];rfl
theorem I4 (t:ByteArray) (ht:t.size <= 1000000000) (hv:validD t.data.toList = true) (a b:Nat) (hab:a <= b) (hb:b <= (pts t.data.toList).length) :
   aA env 167 [.v (.string t),.v (.int .i64 a),.v (.int .i64 b)] (fun r hs=>r = .dB [.v (.string (txt (((pts t.data.toList).drop a).take (b - a)))),.v (.int .i64 0)] /\ hs = []):=by
 have hS:=BN (t:=t) ht hv
 have hpos:=pos_at _ hv 0
 have hpd:(nC t.data.toList 0).length = (pts t.data.toList).length:=Ai _ _
 have hpl:=nD t.data.toList
 rw [bM] at hpl
 rw [hpd] at hS
 have hc:=Rz hv (a:=a) (n:=b - a) (by omega)
 rw [show a + (b - a) = b by omega] at hc
 generalize hP:(0 :: nC t.data.toList 0) = P at *
 have hPl:P.length = (pts t.data.toList).length + 1:=by rw [<- hP,List.length_cons,hpd]
 have hPi:=bP P
 have hPa:∀ (a:Nat) (h:a < P.length),P[a] = ((fJ ((pts t.data.toList).take a)).length:Int):=fun a h=>by
   have:=hpos a (by omega)
   rw [List.getElem?_eq_getElem h] at this
   have:=Option.some.inj this
   omega
 have hw1:IntKind.i64.wrap ((((pts t.data.toList).length + 1:Nat):Int) - 1) = ((pts t.data.toList).length:Int):=by rw [aU (by omega)];omega
 refine Ev.fn [0,1,2,6,7,8,9,16,30] 0 [.tmp 6,.tmp 7] Tryd.func167 (aeI _ rfl) ?_
 repeat' (first | refine' Ev.zP | (with_reducible refine Ev.aJ rfl ?_) | (with_reducible refine Ev.aK rfl ?_) | refine' Ev.zS | refine' Ev.zK | ((refine Ev.zM hS rfl (by simp) ⟨rfl,trivial⟩ ?_);conv=>whnf) | ((with_reducible refine Ev.dG ?_);(first | refine Ev.dr 6 [] [0,1,2,3,4,5,6,7,8,9,10,11] ?_);intro Q hQ;(simp only [Ev.ak,Ev.au]);conv=>whnf) | refine' Ev.zT | fail)
 · exfalso;omega
 · exfalso;rw [hw1] at *;omega
 all_goals
   have ha':=hPa a (by omega)
   have hb':=hPa b (by omega)
   first
     | (refine ⟨?_,rfl⟩
        show AV.dB [AV.v (Value.string (t.extract (P[a]'(by omega)).toNat (P[b]'(by omega)).toNat)),_] = _
        rw [ha',hb',Int.toNat_natCast,Int.toNat_natCast,hc.1])
     | (refine Ev.Side.of ?_
        show 0 <= P[a]'(by omega) /\ P[a]'(by omega) <= P[b]'(by omega) /\ P[b]'(by omega) <= (t.size:Int)
        rw [ha',hb'];omega)
theorem su (s:Sp) (hs:cu s) (ht:s.t.size <= 1000000000):aA env 163 [mY s.k s.n s.t] (fun r hs=>r = .v (.int .i64 (eu s)) /\ hs = []):=by
 refine Ev.fn [0,1,2] 0 [.tmp 2] Tryd.func163 (aeJ _ rfl) ?_
 repeat' (first | refine' Ev.zS | refine' Ev.zK | ((with_reducible refine Ev.ca0 ?_);(first | refine Ev.aT (Fp _ _ _) rfl rfl ?_ | refine Ev.aT (jq _ ht) rfl rfl ?_ | refine Ev.ca (Fp _ _ _) ?_ | refine Ev.ca (jq _ ht) ?_);conv=>whnf) | ((with_reducible refine Ev.dG ?_);(first | refine Ev.dr 1 [] [0,2,3,1,4,5,6] ?_);intro Q hQ;(simp only [Ev.ak,Ev.au]);conv=>whnf) | refine' Ev.zT | fail)
 refine ⟨congrArg (fun z=>AV.v (Value.int IntKind.i64 z)) ?_,rfl⟩
 unfold qo
 rcases hs.cases with ⟨a,b,c,d⟩ | ⟨a,b,c⟩
 · have:aN s.t.data.toList = 0:=by rw [d];rfl
   rw [if_pos a,this,iy (by omega),aU (by omega)];omega
 · have h1:=bU c
   have hp:=nD s.t.data.toList
   rw [bM] at hp
   rw [if_neg (by omega),xk a,aU (by omega)];omega
theorem Dx (s:Sp) (m:Nat) (hs:cu s) (ht:s.t.size <= 1000000000) (hm:m <= eu s):aA env 162 [mY s.k s.n s.t,.v (.int .i64 m)] (fun r hs=>r = .dB [mY (eF s m).k (eF s m).n (eF s m).t,mY (dI s m).k (dI s m).n (dI s m).t] /\ hs = []):=by
 by_cases hk:s.k = 2
 · obtain ⟨hn,hv⟩:s.n = 0 /\ validD s.t.data.toList = true:=by
     rcases hs.cases with ⟨a,_⟩ | ⟨a,b,c⟩
     · omega
     · exact ⟨b,c⟩
   rw [xk hk] at hm
   have hC1:=I4 s.t ht hv 0 m (by omega) hm
   have hC2:=I4 s.t ht hv m (pts s.t.data.toList).length hm (Nat.le_refl _)
   have hN:=jq s.t ht
   have hc:=bU hv
   rw [hc] at hN
   have e1:eF s m = ⟨2,0,txt ((pts s.t.data.toList).take m)⟩:=if_pos hk
   have e2:dI s m = ⟨2,0,txt ((pts s.t.data.toList).drop m)⟩:=if_pos hk
   rw [List.drop_zero,Nat.sub_zero] at hC1
   rw [List.take_of_length_le (by simp)] at hC2
   rw [e1,e2,hk,hn]
   refine Ev.fn [0,1,2,4,5,6,7,12] 0 [.cell 4 35,.cell 5 35] Tryd.func162 (RG _ rfl) ?_
   repeat' (first | refine' Ev.zP | (with_reducible refine Ev.aJ rfl ?_) | (with_reducible refine Ev.aK rfl ?_) | refine' Ev.zS | refine' Ev.zK | ((with_reducible refine Ev.ca0 ?_);(first | refine Ev.ca (hN) ?_ | refine Ev.ca (hC1) ?_ | refine Ev.ca (hC2) ?_);conv=>whnf) | ((with_reducible refine Ev.dG ?_);(first | refine Ev.dr 5 [] [0,1,2,3,4,5,6,7,8,9,10,11] ?_);intro Q hQ;(simp only [Ev.ak,Ev.au]);conv=>whnf) | ((with_reducible refine Ev.dG ?_);(first | refine Ev.H7 6 [] RD ?_ | refine Ev.H7 9 [] RF ?_);intro Q hQ;(simp only [Ev.gK,Ev.eP,Ev.eU,Ev.gQ]);conv=>whnf) | ((with_reducible refine Ev.both ?_ ?_) <;> (conv=>whnf)) | refine' Ev.zT | fail)
   all_goals exact ⟨rfl,rfl⟩
 · obtain ⟨d,hb⟩:s.t = ⟨#[]⟩ /\ 0 <= s.n /\ s.n <= 1048576:=by
     rcases hs.cases with ⟨a,b,c,d⟩ | ⟨a,b,c⟩
     · exact ⟨d,b,c⟩
     · exact absurd a hk
   rw [iy hk] at hm
   rw [vT _ hk,FY _ hk,d]
   have hw:IntKind.i64.wrap (s.n - m) = s.n - m:=aU (by omega)
   refine Ev.fn [0,1,2,4,5,6,7,12] 0 [.cell 4 35,.cell 5 35] Tryd.func162 (RG _ rfl) ?_
   repeat' (first | (with_reducible refine Ev.aP hk ?_) | (with_reducible refine Ev.aV hk ?_) | refine' Ev.zP | refine' Ev.zS | refine' Ev.zK | ((with_reducible refine Ev.dG ?_);(first | refine Ev.dr 5 [] [0,1,2,3,4,5,6,7,8,9,10,11] ?_);intro Q hQ;(simp only [Ev.ak,Ev.au]);conv=>whnf) | ((with_reducible refine Ev.dG ?_);(first | refine Ev.H7 6 [] RD ?_ | refine Ev.H7 9 [] RF ?_);intro Q hQ;(simp only [Ev.gK,Ev.eP,Ev.eU,Ev.gQ]);conv=>whnf) | ((with_reducible refine Ev.both ?_ ?_) <;> (conv=>whnf)) | refine' Ev.zT | fail)
   all_goals (refine ⟨?_,rfl⟩;show AV.dB [_,AV.agg [_,AV.v (Value.int .i64 (IntKind.i64.wrap (s.n - m))),_]] = _;rw [hw])
theorem RH:∀ c,Tryd.f149.body = some c -> comp c = (.seq (.reg 0 [I.n 0 4 I.sn,I.n 1 5 (I.si 0)]) (.seq (.reg 1 [I.n 0 16 (I.mv 0),I.n 1 17 (I.c1 100 16 23),I.n 2 6 (I.sa 17)]) (.seq (.reg 2 [I.n 0 18 (I.mv 1),I.n 1 19 (I.c1 100 18 23),I.n 2 7 (I.sa 19)]) (.seq (.seq (.reg 3 [I.n 0 20 (I.mv 6),I.n 1 21 (I.bc .neq 30 20 0 30)]) (.cond (.tmp 21) (.seq (.reg 4 [I.n 0 22 (I.mv 6),I.n 1 4 I.sn,I.n 2 5 (I.sa 22)]) .ret) .skip)) (.seq (.seq (.reg 5 [I.n 0 23 (I.mv 7),I.n 1 24 (I.bc .neq 30 23 0 30)]) (.cond (.tmp 24) (.seq (.reg 6 [I.n 0 25 (I.mv 7),I.n 1 4 I.sn,I.n 2 5 (I.sa 25)]) .ret) .skip)) (.seq (.seq (.reg 7 [I.n 0 26 (I.mv 0),I.n 1 27 (I.c1 102 26 23),I.n 2 28 (I.mv 1),I.n 3 29 (I.c1 101 28 23),I.n 4 30 (I.bo .neq 3 27 29 3)]) (.cond (.tmp 30) (.seq (.reg 8 [I.n 0 4 I.sn,I.n 1 5 (I.si 5)]) .ret) .skip)) (.seq (.reg 9 [I.n 0 31 (I.mv 0),I.n 1 32 (I.c1 71 31 23),I.n 2 8 (I.sa 32)]) (.seq (.reg 10 [I.n 0 33 (I.mv 1),I.n 1 34 (I.c1 71 33 23),I.n 2 9 (I.sa 34)]) (.seq (.reg 11 [I.n 0 35 (.buildSlice 23 0 #[]),I.n 1 10 (I.sa 35)]) (.seq (.block 0 (.loop (.seq (.seq (.reg 12 [I.n 0 36 (I.mv 8),I.n 1 37 (I.ln 36 23),I.n 2 38 (I.bc .gtr 3 37 0 3),I.n 3 39 (I.mv 38),I.w 4 40 (I.mv 9) 39 false,I.w 5 41 (I.ln 40 23) 39 false,I.w 6 42 (I.bc .gtr 3 41 0 3) 39 false,I.n 7 43 (I.pb 39 true 42)]) (.cond (.tmp 43) .skip (.exit 0))) (.block 1 (.seq (.seq (.reg 13 [I.n 0 44 (I.mv 9),I.n 1 45 (I.ln 44 23),I.n 2 46 (I.bc .gtr 3 45 0 3),I.n 3 47 (I.mv 46),I.w 4 48 (I.mv 9) 47 true,I.w 5 49 (I.ic 23 48 0) 47 true,I.w 6 50 (I.fa 35 49 0) 47 true,I.w 7 51 (I.ld 3 50) 47 true,I.w 8 52 (I.bc .eql 3 51 2 3) 47 true,I.n 9 53 (I.pc 47 52 false)]) (.cond (.tmp 53) (.seq (.reg 14 [I.n 0 54 (I.mv 10),I.n 1 55 (I.mv 9),I.n 2 56 (I.ic 23 55 0),I.n 3 57 (I.ld 35 56),I.n 4 58 (I.b1 23 57),I.n 5 59 (I.ap 54 58 23 23),I.n 6 10 (I.sa 59)]) (.seq (.reg 15 [I.n 0 60 (I.mv 9),I.n 1 61 (.slice 23 (.tmp 60) (some (.const (Value.int .i64 1))) none none),I.n 2 9 (I.sa 61)]) (.exit 1))) .skip)) (.seq (.seq (.reg 16 [I.n 0 62 (I.mv 8),I.n 1 63 (I.ic 23 62 0),I.n 2 64 (I.fa 35 63 0),I.n 3 65 (I.ld 3 64),I.n 4 66 (I.bc .eql 3 65 3 3)]) (.cond (.tmp 66) (.seq (.reg 17 [I.n 0 67 (I.mv 10),I.n 1 68 (I.mv 8),I.n 2 69 (I.ic 23 68 0),I.n 3 70 (I.ld 35 69),I.n 4 71 (I.b1 23 70),I.n 5 72 (I.ap 67 71 23 23),I.n 6 10 (I.sa 72)]) (.seq (.reg 18 [I.n 0 73 (I.mv 8),I.n 1 74 (.slice 23 (.tmp 73) (some (.const (Value.int .i64 1))) none none),I.n 2 8 (I.sa 74)]) (.exit 1))) .skip)) (.seq (.draw 19 [I.n 0 75 (I.mv 8),I.n 1 76 (I.ic 23 75 0),I.n 2 77 (I.ld 35 76),I.n 3 78 (I.c1 163 77 35),I.n 4 79 (I.mv 9),I.n 5 80 (I.ic 23 79 0),I.n 6 81 (I.ld 35 80),I.n 7 82 (I.c1 163 81 35),I.n 8 83 (.call { callee:=.builtin .min,args:=#[.tmp 78,.tmp 82],argTypes:=#[3,3] }),I.n 9 11 (I.sa 83)] [[],[0],[1],[2],[],[4],[5],[6,3],[3,7],[8,7,0,1,2,3,4,5,6,7,8]]) (.seq (.reg 20 [I.n 0 85 (I.mv 8),I.n 1 86 (I.ic 23 85 0),I.n 2 87 (I.ld 35 86),I.n 3 88 (I.mv 11),I.n 4 89 (I.c2 162 87 88 35 3),I.n 5 84 (I.mv 89),I.n 6 90 (I.ex 84 0),I.n 7 91 (I.ex 84 1),I.n 8 12 (.alloc 35),I.n 9 13 (.alloc 35),I.u 10 (I.st 35 12 90),I.u 11 (I.st 35 13 91)]) (.seq (.reg 21 [I.n 0 93 (I.mv 9),I.n 1 94 (I.ic 23 93 0),I.n 2 95 (I.ld 35 94),I.n 3 96 (I.mv 11),I.n 4 97 (I.c2 162 95 96 35 3),I.n 5 92 (I.mv 97),I.n 6 98 (I.ex 92 0),I.n 7 99 (I.ex 92 1),I.n 8 14 (.alloc 35),I.n 9 15 (.alloc 35),I.u 10 (I.st 35 14 98),I.u 11 (I.st 35 15 99)]) (.seq (.seq (.reg 22 [I.n 0 100 (I.fa 35 14 0),I.n 1 101 (I.ld 3 100),I.n 2 102 (I.bc .eql 3 101 1 3)]) (.cond (.tmp 102) (.reg 23 [I.n 0 103 (I.mv 10),I.n 1 104 (I.ld 35 12),I.n 2 105 (I.b1 23 104),I.n 3 106 (I.ap 103 105 23 23),I.n 4 10 (I.sa 106)]) (.seq (.reg 24 [I.n 0 107 (I.fa 35 12 0),I.n 1 108 (I.ld 3 107),I.n 2 109 (I.bc .eql 3 108 1 3)]) (.cond (.tmp 109) (.reg 25 [I.n 0 110 (I.mv 10),I.n 1 111 (I.ld 35 14),I.n 2 112 (I.b1 23 111),I.n 3 113 (I.ap 110 112 23 23),I.n 4 10 (I.sa 113)]) .skip)))) (.seq (.draw 26 [I.n 0 114 (I.ld 35 13),I.n 1 115 (I.b1 23 114),I.n 2 116 (I.mv 8),I.n 3 117 (.slice 23 (.tmp 116) (some (.const (Value.int .i64 1))) none none),I.n 4 118 (I.ap 115 117 23 23),I.n 5 8 (I.sa 118)] [[],[0],[],[2],[1,3],[4,4,0,1,2,3,4]]) (.seq (.draw 27 [I.n 0 119 (I.ld 35 15),I.n 1 120 (I.b1 23 119),I.n 2 121 (I.mv 9),I.n 3 122 (.slice 23 (.tmp 121) (some (.const (Value.int .i64 1))) none none),I.n 4 123 (I.ap 120 122 23 23),I.n 5 9 (I.sa 123)] [[],[0],[],[2],[1,3],[4,4,0,1,2,3,4]]) (.seq (.seq (.reg 28 [I.n 0 124 (I.ld 35 13),I.n 1 125 (I.c1 163 124 35),I.n 2 126 (I.bc .eql 3 125 0 3)]) (.cond (.tmp 126) (.reg 29 [I.n 0 127 (I.mv 8),I.n 1 128 (.slice 23 (.tmp 127) (some (.const (Value.int .i64 1))) none none),I.n 2 8 (I.sa 128)]) .skip)) (.seq (.reg 30 [I.n 0 129 (I.ld 35 15),I.n 1 130 (I.c1 163 129 35),I.n 2 131 (I.bc .eql 3 130 0 3)]) (.cond (.tmp 131) (.reg 31 [I.n 0 132 (I.mv 9),I.n 1 133 (.slice 23 (.tmp 132) (some (.const (Value.int .i64 1))) none none),I.n 2 9 (I.sa 133)]) .skip))))))))))))))) (.seq (.reg 32 [I.n 0 134 (I.mv 10),I.n 1 135 (I.c1 71 134 23),I.n 2 4 (I.sa 135),I.n 3 5 (I.si 0)]) .ret))))))))))):=by
 intro c h
 have:c = Tryd.f149.body.get rfl:=by rw [<- Option.some_inj,<- h];rfl
 rw [this];rfl
set_option maxHeartbeats 4000000 in
theorem aeK (a b:List Sp) (la:a.length <= 10000000) (lb:b.length <= 10000000) (ta:dw a <= 100000000) (tb:dw b <= 100000000) (sa:Small a) (sb:Small b) (ma:aH a = 0) (mb:aH b = 0)
    (ho:sumW (fun s=>kW s.k s.n s.t) a = sumW (fun s=>qo s.k s.n) b):aA env 149 [.lst 3 (bD a),.lst 3 (bD b)] (fun r hs=>r = .dB [.lst 3 (bD (jR a b)),.v (.int .i64 0)] /\ hs = []):=by
  have hA:=jr a (by omega) sa
  have hB:=jr b (by omega) sb
  rw [ma] at hA
  rw [mb] at hB
  have hO:=kG a (by omega) sa
  have hIn:=lN b (by omega)
  have oa:=(qM.of ma (by omega)).1
  have ob:=(qM.of mb (by omega)).1
  have na:=oa.norm
  have nb:=ob.norm
  have hNA:=rF a (by omega) (by omega)
  have hNB:=rF b (by omega) (by omega)
  have ho':bC dK a = bC dV b:=by
    have h1:=(qM.of mb (by omega)).2
    have h2:=jf a
    have h3:=mV a oa.all
    have h4:=oa.bnd
    rw [aU (by omega)] at h2
    rw [<- h2,<- h1];exact ho
  have hco:=pG oa ob ho'
  have hmm:bg (dO (norm a)) = bV (dO (norm b)):=by
    have e1:=bI oa.all
    have e2:=bI ob.all
    rw [na.2.2.1,nb.2.2.1];omega
  obtain ⟨C,hC⟩:∃ C,C = lF ((norm a).length + (norm b).length) (norm a) (norm b):=⟨_,rfl⟩
  have hcC:aB.norm C = jR a b:=by rw [hC];exact hco.2.2.2.2.1
  have hcL:C.length <= 20000000 /\ dw C <= 200000000:=by
    have h1:=hco.2.2.2.2.2.2.2.1
    have h2:=hco.2.2.2.2.2.2.2.2.1
    rw [hC];omega
  have hp:∀ (s:Sp) (l:List Sp),(0:Int) < ((bD (s :: l)).length:Int):=fun s l=>by rw [bH,List.length_cons];omega
  have hd:∀ (s:Sp) (l:List Sp),List.take ((bD (s :: l)).length - Int.toNat 1) (List.drop (Int.toNat 1) (bD (s :: l))) = bD l:=fun s l=>by
    show List.take ((bD (s :: l)).length - 1) (bD l) = bD l
    rw [List.take_of_length_le]
    rw [bH,bH,List.length_cons];omega
  have fA:∀ (r s:Sp) (l:List Sp),List.take (1 + (List.take ((bD (s :: l)).length - Int.toNat 1) (List.drop (Int.toNat 1) (bD (s :: l)))).length) (List.drop 0 ([[AV.v (.int .i64 r.k),AV.v (.int .i64 r.n),AV.v (.string r.t)]] ++ List.take ((bD (s :: l)).length - Int.toNat 1) (List.drop (Int.toNat 1) (bD (s :: l))))) = bD (r :: l):=fun r s l=>by
    rw [hd,List.drop_zero,List.take_of_length_le (by simp;omega)];rfl
  have fB:∀ (r s:Sp) (l:List Sp),List.take ((List.take (1 + (List.take ((bD (s :: l)).length - Int.toNat 1) (List.drop (Int.toNat 1) (bD (s :: l)))).length) (List.drop 0 ([[AV.v (.int .i64 r.k),AV.v (.int .i64 r.n),AV.v (.string r.t)]] ++ List.take ((bD (s :: l)).length - Int.toNat 1) (List.drop (Int.toNat 1) (bD (s :: l)))))).length - Int.toNat 1) (List.drop (Int.toNat 1) (List.take (1 + (List.take ((bD (s :: l)).length - Int.toNat 1) (List.drop (Int.toNat 1) (bD (s :: l)))).length) (List.drop 0 ([[AV.v (.int .i64 r.k),AV.v (.int .i64 r.n),AV.v (.string r.t)]] ++ List.take ((bD (s :: l)).length - Int.toNat 1) (List.drop (Int.toNat 1) (bD (s :: l))))))) = bD l:=fun r s l=>by
    rw [fA,hd]
  refine Ev.fn [0,1,4,5,6,7,8,9,10,11,12,13,14,15,21,24,30,43,53,66,102,109,126,131] 0 [.tmp 4,.tmp 5] Tryd.func149 (RH _ rfl) ?_
  repeat' (first | refine' Ev.zP | refine' Ev.zS | refine' Ev.zK | ((with_reducible refine Ev.ca0 ?_);(first | refine Ev.ca (hA) ?_ | refine Ev.ca (hB) ?_ | refine Ev.ca (hO) ?_ | refine Ev.ca (hIn) ?_ | refine Ev.ca (hNA) ?_ | refine Ev.ca (hNB) ?_);conv=>whnf) | ((with_reducible refine Ev.dG ?_);(first | refine Ev.dr 19 [] [0,1,2,4,5,6,3,7,8,9] ?_);intro Q hQ;(simp only [Ev.ak,Ev.au]);conv=>whnf) | ((with_reducible refine Ev.dG ?_);(first | refine Ev.drv 26 [] [(2,false),(3,true),(0,false),(1,false),(4,false),(5,false)] ?_ | refine Ev.drv 27 [] [(2,false),(3,true),(0,false),(1,false),(4,false),(5,false)] ?_);intro Q hQ;(simp only [Ev.aX,Ev.aY,Ev.bG]);conv=>whnf) | refine' Ev.zT | fail)
  · refine Ev.loop (fun k s=>∃ (c v:Nat) (x y out:List Sp),s = ⟨[(8,.lst 3 (bD x)),(9,.lst 3 (bD y)),(10,.own 5632 v 0 out.length)],[(5632,⟨3,35,v,0,false,bD out⟩)],c⟩ /\ CI C k x y out) ?_ ?_
    · refine Ev.zB ⟨(norm a).length + (norm b).length,?_,?_,norm a,norm b,[],rfl,?_⟩
      exact ⟨by omega,na.1.all,nb.1.all,na.2.2.2.2.2.2.2,nb.2.2.2.2.2.2.2,hmm,by rw [hC];rfl,by simp;omega,by omega⟩
    rintro k s1 ⟨c,v,x,y,out,rfl,hI⟩
    have hol:=bH out
    have hbl:=hI.bl
    rcases x with _ | ⟨u,x⟩ <;> rcases y with _ | ⟨w,y⟩ <;> simp only [List.length_cons,List.length_nil] at hbl
    · have hout:=hI.fin
      subst hout
      repeat' (first | refine' Ev.zP | refine' Ev.zS | refine' Ev.zK | ((with_reducible refine Ev.ca0 ?_);(first | refine Ev.aT (rF out (by omega) (by omega)) rfl rfl ?_ | refine Ev.ca (rF out (by omega) (by omega)) ?_);conv=>whnf) | ((with_reducible refine Ev.dG ?_);(first | refine Ev.dr 19 [] [0,1,2,4,5,6,3,7,8,9] ?_);intro Q hQ;(simp only [Ev.ak,Ev.au]);conv=>whnf) | ((with_reducible refine Ev.dG ?_);(first | refine Ev.drv 26 [] [(2,false),(3,true),(0,false),(1,false),(4,false),(5,false)] ?_ | refine Ev.drv 27 [] [(2,false),(3,true),(0,false),(1,false),(4,false),(5,false)] ?_);intro Q hQ;(simp only [Ev.aX,Ev.aY,Ev.bG]);conv=>whnf) | refine' Ev.zT | fail)
      exact ⟨by rw [hcC];rfl,rfl⟩
    · have hk:w.k = 2:=hI.vk
      obtain ⟨k',rfl,hJ⟩:=hI.s1 hk
      repeat' (first | (with_reducible refine Ev.aK hk ?_) | (with_reducible refine Ev.aJ hk ?_) | (with_reducible refine Ev.aK (hp w y) ?_) | (with_reducible refine Ev.aJ (hp w y) ?_) | refine' Ev.zP | refine' Ev.zS | refine' Ev.zK | ((with_reducible refine Ev.dG ?_);(first | refine Ev.dr 19 [] [0,1,2,4,5,6,3,7,8,9] ?_);intro Q hQ;(simp only [Ev.ak,Ev.au]);conv=>whnf) | ((with_reducible refine Ev.dG ?_);(first | refine Ev.drv 26 [] [(2,false),(3,true),(0,false),(1,false),(4,false),(5,false)] ?_ | refine Ev.drv 27 [] [(2,false),(3,true),(0,false),(1,false),(4,false),(5,false)] ?_);intro Q hQ;(simp only [Ev.aX,Ev.aY,Ev.bG]);conv=>whnf) | refine' Ev.zT | fail)
      refine Ev.zA (k') ⟨?_,?_,[],y,out ++ [w],rfl,?_⟩ (by refine' Ev.zp <;> first | (first | exact Ev.aZ (hd _ _) | (rw [aO];rfl) | (simp;done) | rfl) | rfl | (refine' Ev.ze;(first | exact Ev.aZ (hd _ _) | (rw [aO];rfl) | (simp;done) | rfl)) | fail)
      exact hJ
    · have hk:u.k = 3:=hI.uk
      obtain ⟨k',rfl,hJ⟩:=hI.s2 hk (by simp)
      repeat' (first | (with_reducible refine Ev.aK hk ?_) | (with_reducible refine Ev.aJ hk ?_) | (with_reducible refine Ev.aK (hp u x) ?_) | (with_reducible refine Ev.aJ (hp u x) ?_) | refine' Ev.zP | refine' Ev.zS | refine' Ev.zK | ((with_reducible refine Ev.dG ?_);(first | refine Ev.dr 19 [] [0,1,2,4,5,6,3,7,8,9] ?_);intro Q hQ;(simp only [Ev.ak,Ev.au]);conv=>whnf) | ((with_reducible refine Ev.dG ?_);(first | refine Ev.drv 26 [] [(2,false),(3,true),(0,false),(1,false),(4,false),(5,false)] ?_ | refine Ev.drv 27 [] [(2,false),(3,true),(0,false),(1,false),(4,false),(5,false)] ?_);intro Q hQ;(simp only [Ev.aX,Ev.aY,Ev.bG]);conv=>whnf) | refine' Ev.zT | fail)
      refine Ev.zA (k') ⟨?_,?_,x,[],out ++ [u],rfl,?_⟩ (by refine' Ev.zp <;> first | (first | exact Ev.aZ (hd _ _) | (rw [aO];rfl) | (simp;done) | rfl) | rfl | (refine' Ev.ze;(first | exact Ev.aZ (hd _ _) | (rw [aO];rfl) | (simp;done) | rfl)) | fail)
      exact hJ
    · by_cases hw2:w.k = 2
      · obtain ⟨k',rfl,hJ⟩:=hI.s1 hw2
        repeat' (first | (with_reducible refine Ev.aK hw2 ?_) | (with_reducible refine Ev.aJ hw2 ?_) | (with_reducible refine Ev.aK (hp u x) ?_) | (with_reducible refine Ev.aJ (hp u x) ?_) | (with_reducible refine Ev.aK (hp w y) ?_) | (with_reducible refine Ev.aJ (hp w y) ?_) | refine' Ev.zP | refine' Ev.zS | refine' Ev.zK | ((with_reducible refine Ev.dG ?_);(first | refine Ev.dr 19 [] [0,1,2,4,5,6,3,7,8,9] ?_);intro Q hQ;(simp only [Ev.ak,Ev.au]);conv=>whnf) | ((with_reducible refine Ev.dG ?_);(first | refine Ev.drv 26 [] [(2,false),(3,true),(0,false),(1,false),(4,false),(5,false)] ?_ | refine Ev.drv 27 [] [(2,false),(3,true),(0,false),(1,false),(4,false),(5,false)] ?_);intro Q hQ;(simp only [Ev.aX,Ev.aY,Ev.bG]);conv=>whnf) | refine' Ev.zT | fail)
        refine Ev.zA (k') ⟨?_,?_,u :: x,y,out ++ [w],rfl,?_⟩ (by refine' Ev.zp <;> first | (first | exact Ev.aZ (hd _ _) | (rw [aO];rfl) | (simp;done) | rfl) | rfl | (refine' Ev.ze;(first | exact Ev.aZ (hd _ _) | (rw [aO];rfl) | (simp;done) | rfl)) | fail)
        exact hJ
      by_cases hu3:u.k = 3
      · obtain ⟨k',rfl,hJ⟩:=hI.s2 hu3 (by simpa using hw2)
        repeat' (first | (with_reducible refine Ev.aK hu3 ?_) | (with_reducible refine Ev.aJ hu3 ?_) | (with_reducible refine Ev.aV hw2 ?_) | (with_reducible refine Ev.aP hw2 ?_) | (with_reducible refine Ev.aK (hp u x) ?_) | (with_reducible refine Ev.aJ (hp u x) ?_) | (with_reducible refine Ev.aK (hp w y) ?_) | (with_reducible refine Ev.aJ (hp w y) ?_) | refine' Ev.zP | refine' Ev.zS | refine' Ev.zK | ((with_reducible refine Ev.dG ?_);(first | refine Ev.dr 19 [] [0,1,2,4,5,6,3,7,8,9] ?_);intro Q hQ;(simp only [Ev.ak,Ev.au]);conv=>whnf) | ((with_reducible refine Ev.dG ?_);(first | refine Ev.drv 26 [] [(2,false),(3,true),(0,false),(1,false),(4,false),(5,false)] ?_ | refine Ev.drv 27 [] [(2,false),(3,true),(0,false),(1,false),(4,false),(5,false)] ?_);intro Q hQ;(simp only [Ev.aX,Ev.aY,Ev.bG]);conv=>whnf) | refine' Ev.zT | fail)
        refine Ev.zA (k') ⟨?_,?_,x,w :: y,out ++ [u],rfl,?_⟩ (by refine' Ev.zp <;> first | (first | exact Ev.aZ (hd _ _) | (rw [aO];rfl) | (simp;done) | rfl) | rfl | (refine' Ev.ze;(first | exact Ev.aZ (hd _ _) | (rw [aO];rfl) | (simp;done) | rfl)) | fail)
        exact hJ
      have Yy:w.t.size <= 1000000000:=by have:=hI.bt;rw [aQ,aQ] at this;omega
      have htu:u.t.size <= 1000000000:=by have:=hI.bt;rw [aQ,aQ] at this;omega
      obtain ⟨n,hn⟩:∃ n,min (eu u) (eu w) = n:=⟨_,rfl⟩
      obtain ⟨hnu,hnv,k',rfl,hJ⟩:=hI.s3 hw2 hu3 hn
      have hou:=hI.ax.head
      have how:=hI.ay.head
      obtain ⟨p1,p2,p3,p4,p5,p6,p7⟩:=mD hou hnu
      obtain ⟨q1,q2,q3,q4,q5,q6,q7⟩:=mD how hnv
      have zu:eu (dI u n) = eu u - n:=by rw [<- mg p2,p4,List.length_drop,mg hou]
      have zw:eu (dI w n) = eu w - n:=by rw [<- mg q2,q4,List.length_drop,mg how]
      have hmin:min ((eu u:Nat):Int) ((eu w:Nat):Int) = ((n:Nat):Int):=by omega
      repeat' (first | (with_reducible refine Ev.aV hu3 ?_) | (with_reducible refine Ev.aP hu3 ?_) | (with_reducible refine Ev.aV hw2 ?_) | (with_reducible refine Ev.aP hw2 ?_) | (with_reducible refine Ev.aK (hp u x) ?_) | (with_reducible refine Ev.aJ (hp u x) ?_) | (with_reducible refine Ev.aK (hp w y) ?_) | (with_reducible refine Ev.aJ (hp w y) ?_) | (((with_reducible refine Ev.HY 28 8 rfl rfl ?_ ?_);rotate_left;conv=>whnf)) | (((with_reducible refine Ev.HY 28 9 rfl rfl ?_ ?_);rotate_left;conv=>whnf)) | refine' Ev.zP | refine' Ev.zS | refine' Ev.zK | ((with_reducible refine Ev.ca0 ?_);(first | refine Ev.aT (su (dI u n) p2 (by omega)) rfl rfl ?_ | refine Ev.aT (su (dI w n) q2 (by omega)) rfl rfl ?_ | refine Ev.ca (su u hou htu) ?_ | refine Ev.ca (su w how Yy) ?_ | refine Ev.ca (Dx u n hou htu hnu) ?_ | refine Ev.ca (Dx w n how Yy hnv) ?_ | refine Ev.ca (su (dI u n) p2 (by omega)) ?_ | refine Ev.ca (su (dI w n) q2 (by omega)) ?_);conv=>whnf) | ((with_reducible refine Ev.dG ?_);(first | refine Ev.dr 19 [] [0,1,2,4,5,6,3,7,8,9] ?_);intro Q hQ;(simp only [Ev.ak,Ev.au]);conv=>whnf) | ((with_reducible refine Ev.dG ?_);(first | refine Ev.drv 26 [] [(2,false),(3,true),(0,false),(1,false),(4,false),(5,false)] ?_ | refine Ev.drv 27 [] [(2,false),(3,true),(0,false),(1,false),(4,false),(5,false)] ?_);intro Q hQ;(simp only [Ev.aX,Ev.aY,Ev.bG]);conv=>whnf) | refine' Ev.zT | fail)
      · have hx:bf u n x = x:=if_pos (by omega)
        have hy:bf w n y = y:=if_pos (by omega)
        have hwk:w.k = 1:=by rw [<- q6];assumption
        rw [if_pos hwk,hx,hy] at hJ
        refine Ev.zA (k') ⟨?_,?_,x,y,out ++ [eF u n],rfl,?_⟩ (by refine' Ev.zp <;> first | (first | exact Ev.aZ (fB _ _ _) | exact Ev.aZ (fA _ _ _) | (rw [aO];rfl) | (simp;done) | rfl) | rfl | (refine' Ev.ze;(first | exact Ev.aZ (fB _ _ _) | exact Ev.aZ (fA _ _ _) | (rw [aO];rfl) | (simp;done) | rfl)) | fail)
        exact hJ
      · have hx:bf u n x = x:=if_pos (by omega)
        have hy:bf w n y = dI w n :: y:=if_neg (by omega)
        have hwk:w.k = 1:=by rw [<- q6];assumption
        rw [if_pos hwk,hx,hy] at hJ
        refine Ev.zA (k') ⟨?_,?_,x,dI w n :: y,out ++ [eF u n],rfl,?_⟩ (by refine' Ev.zp <;> first | (first | exact Ev.aZ (fB _ _ _) | exact Ev.aZ (fA _ _ _) | (rw [aO];rfl) | (simp;done) | rfl) | rfl | (refine' Ev.ze;(first | exact Ev.aZ (fB _ _ _) | exact Ev.aZ (fA _ _ _) | (rw [aO];rfl) | (simp;done) | rfl)) | fail)
        exact hJ
      · have hx:bf u n x = dI u n :: x:=if_neg (by omega)
        have hy:bf w n y = y:=if_pos (by omega)
        have hwk:w.k = 1:=by rw [<- q6];assumption
        rw [if_pos hwk,hx,hy] at hJ
        refine Ev.zA (k') ⟨?_,?_,dI u n :: x,y,out ++ [eF u n],rfl,?_⟩ (by refine' Ev.zp <;> first | (first | exact Ev.aZ (fB _ _ _) | exact Ev.aZ (fA _ _ _) | (rw [aO];rfl) | (simp;done) | rfl) | rfl | (refine' Ev.ze;(first | exact Ev.aZ (fB _ _ _) | exact Ev.aZ (fA _ _ _) | (rw [aO];rfl) | (simp;done) | rfl)) | fail)
        exact hJ
      · have hx:bf u n x = dI u n :: x:=if_neg (by omega)
        have hy:bf w n y = dI w n :: y:=if_neg (by omega)
        have hwk:w.k = 1:=by rw [<- q6];assumption
        rw [if_pos hwk,hx,hy] at hJ
        refine Ev.zA (k') ⟨?_,?_,dI u n :: x,dI w n :: y,out ++ [eF u n],rfl,?_⟩ (by refine' Ev.zp <;> first | (first | exact Ev.aZ (fB _ _ _) | exact Ev.aZ (fA _ _ _) | (rw [aO];rfl) | (simp;done) | rfl) | rfl | (refine' Ev.ze;(first | exact Ev.aZ (fB _ _ _) | exact Ev.aZ (fA _ _ _) | (rw [aO];rfl) | (simp;done) | rfl)) | fail)
        exact hJ
      · rw [hd];exact Ev.mW rfl (jU _) (by rw [bH];omega) (by decide)
      · rw [hd];exact Ev.mW rfl (jU _) (by rw [bH];omega) (by decide)
      · have hx:bf u n x = x:=if_pos (by omega)
        have hy:bf w n y = y:=if_pos (by omega)
        have hwk:¬ w.k = 1:=by rw [<- q6];assumption
        have yQ:u.k = 1:=by rw [<- p6];assumption
        rw [if_neg hwk,if_pos yQ,hx,hy] at hJ
        refine Ev.zA (k') ⟨?_,?_,x,y,out ++ [eF w n],rfl,?_⟩ (by refine' Ev.zp <;> first | (first | exact Ev.aZ (fB _ _ _) | exact Ev.aZ (fA _ _ _) | (rw [aO];rfl) | (simp;done) | rfl) | rfl | (refine' Ev.ze;(first | exact Ev.aZ (fB _ _ _) | exact Ev.aZ (fA _ _ _) | (rw [aO];rfl) | (simp;done) | rfl)) | fail)
        exact hJ
      · have hx:bf u n x = x:=if_pos (by omega)
        have hy:bf w n y = dI w n :: y:=if_neg (by omega)
        have hwk:¬ w.k = 1:=by rw [<- q6];assumption
        have yQ:u.k = 1:=by rw [<- p6];assumption
        rw [if_neg hwk,if_pos yQ,hx,hy] at hJ
        refine Ev.zA (k') ⟨?_,?_,x,dI w n :: y,out ++ [eF w n],rfl,?_⟩ (by refine' Ev.zp <;> first | (first | exact Ev.aZ (fB _ _ _) | exact Ev.aZ (fA _ _ _) | (rw [aO];rfl) | (simp;done) | rfl) | rfl | (refine' Ev.ze;(first | exact Ev.aZ (fB _ _ _) | exact Ev.aZ (fA _ _ _) | (rw [aO];rfl) | (simp;done) | rfl)) | fail)
        exact hJ
      · have hx:bf u n x = dI u n :: x:=if_neg (by omega)
        have hy:bf w n y = y:=if_pos (by omega)
        have hwk:¬ w.k = 1:=by rw [<- q6];assumption
        have yQ:u.k = 1:=by rw [<- p6];assumption
        rw [if_neg hwk,if_pos yQ,hx,hy] at hJ
        refine Ev.zA (k') ⟨?_,?_,dI u n :: x,y,out ++ [eF w n],rfl,?_⟩ (by refine' Ev.zp <;> first | (first | exact Ev.aZ (fB _ _ _) | exact Ev.aZ (fA _ _ _) | (rw [aO];rfl) | (simp;done) | rfl) | rfl | (refine' Ev.ze;(first | exact Ev.aZ (fB _ _ _) | exact Ev.aZ (fA _ _ _) | (rw [aO];rfl) | (simp;done) | rfl)) | fail)
        exact hJ
      · have hx:bf u n x = dI u n :: x:=if_neg (by omega)
        have hy:bf w n y = dI w n :: y:=if_neg (by omega)
        have hwk:¬ w.k = 1:=by rw [<- q6];assumption
        have yQ:u.k = 1:=by rw [<- p6];assumption
        rw [if_neg hwk,if_pos yQ,hx,hy] at hJ
        refine Ev.zA (k') ⟨?_,?_,dI u n :: x,dI w n :: y,out ++ [eF w n],rfl,?_⟩ (by refine' Ev.zp <;> first | (first | exact Ev.aZ (fB _ _ _) | exact Ev.aZ (fA _ _ _) | (rw [aO];rfl) | (simp;done) | rfl) | rfl | (refine' Ev.ze;(first | exact Ev.aZ (fB _ _ _) | exact Ev.aZ (fA _ _ _) | (rw [aO];rfl) | (simp;done) | rfl)) | fail)
        exact hJ
      · rw [hd];exact Ev.mW rfl (jU _) (by rw [bH];omega) (by decide)
      · rw [hd];exact Ev.mW rfl (jU _) (by rw [bH];omega) (by decide)
      · have hx:bf u n x = x:=if_pos (by omega)
        have hy:bf w n y = y:=if_pos (by omega)
        have hwk:¬ w.k = 1:=by rw [<- q6];assumption
        have yQ:¬ u.k = 1:=by rw [<- p6];assumption
        rw [if_neg hwk,if_neg yQ,List.append_nil,hx,hy] at hJ
        refine Ev.zA (k') ⟨?_,v,x,y,out,rfl,?_⟩ (by refine' Ev.zp <;> first | (first | exact Ev.aZ (fB _ _ _) | exact Ev.aZ (fA _ _ _) | (rw [aO];rfl) | (simp;done) | rfl) | rfl | (refine' Ev.ze;(first | exact Ev.aZ (fB _ _ _) | exact Ev.aZ (fA _ _ _) | (rw [aO];rfl) | (simp;done) | rfl)) | fail)
        exact hJ
      · have hx:bf u n x = x:=if_pos (by omega)
        have hy:bf w n y = dI w n :: y:=if_neg (by omega)
        have hwk:¬ w.k = 1:=by rw [<- q6];assumption
        have yQ:¬ u.k = 1:=by rw [<- p6];assumption
        rw [if_neg hwk,if_neg yQ,List.append_nil,hx,hy] at hJ
        refine Ev.zA (k') ⟨?_,v,x,dI w n :: y,out,rfl,?_⟩ (by refine' Ev.zp <;> first | (first | exact Ev.aZ (fB _ _ _) | exact Ev.aZ (fA _ _ _) | (rw [aO];rfl) | (simp;done) | rfl) | rfl | (refine' Ev.ze;(first | exact Ev.aZ (fB _ _ _) | exact Ev.aZ (fA _ _ _) | (rw [aO];rfl) | (simp;done) | rfl)) | fail)
        exact hJ
      · have hx:bf u n x = dI u n :: x:=if_neg (by omega)
        have hy:bf w n y = y:=if_pos (by omega)
        have hwk:¬ w.k = 1:=by rw [<- q6];assumption
        have yQ:¬ u.k = 1:=by rw [<- p6];assumption
        rw [if_neg hwk,if_neg yQ,List.append_nil,hx,hy] at hJ
        refine Ev.zA (k') ⟨?_,v,dI u n :: x,y,out,rfl,?_⟩ (by refine' Ev.zp <;> first | (first | exact Ev.aZ (fB _ _ _) | exact Ev.aZ (fA _ _ _) | (rw [aO];rfl) | (simp;done) | rfl) | rfl | (refine' Ev.ze;(first | exact Ev.aZ (fB _ _ _) | exact Ev.aZ (fA _ _ _) | (rw [aO];rfl) | (simp;done) | rfl)) | fail)
        exact hJ
      · have hx:bf u n x = dI u n :: x:=if_neg (by omega)
        have hy:bf w n y = dI w n :: y:=if_neg (by omega)
        have hwk:¬ w.k = 1:=by rw [<- q6];assumption
        have yQ:¬ u.k = 1:=by rw [<- p6];assumption
        rw [if_neg hwk,if_neg yQ,List.append_nil,hx,hy] at hJ
        refine Ev.zA (k') ⟨?_,v,dI u n :: x,dI w n :: y,out,rfl,?_⟩ (by refine' Ev.zp <;> first | (first | exact Ev.aZ (fB _ _ _) | exact Ev.aZ (fA _ _ _) | (rw [aO];rfl) | (simp;done) | rfl) | rfl | (refine' Ev.ze;(first | exact Ev.aZ (fB _ _ _) | exact Ev.aZ (fA _ _ _) | (rw [aO];rfl) | (simp;done) | rfl)) | fail)
        exact hJ
      · rw [hd];exact Ev.mW rfl (jU _) (by rw [bH];omega) (by decide)
      · rw [hd];exact Ev.mW rfl (jU _) (by rw [bH];omega) (by decide)
  · rename_i h;exact absurd ho h
def jh (a b:List Sp):Int:=if aH a ≠ 0 then aH a else if aH b ≠ 0 then aH b else if outW a ≠ jV b then 5 else 0
def Vl (a b:List Sp):AV:=.dB [if jh a b = 0 then .lst 3 (bD (jR a b)) else nilA,.v (.int .i64 (jh a b))]
theorem sD {a b:List Sp} {e:Int} (h:jh a b = e) (h0:e ≠ 0):Vl a b = .dB [nilA,.v (.int .i64 e)]:=by
 unfold Vl;rw [h,if_neg h0]
theorem RJ {a b:List Sp} (h:jh a b = 0):Vl a b = .dB [.lst 3 (bD (jR a b)),.v (.int .i64 0)]:=by
 unfold Vl;rw [h,if_pos rfl]
theorem aa5{G:Prop}(h:G:=by
 refine Ev.fn [0,1,4,5,7,8,9,10,11,12,13,14,17,18,19,20,26,33,38,49,60,80,88] 0 [.tmp 4,.tmp 5] Tryd.func113 (Rw _ rfl) ?_
 refine' Ev.zW
 refine Ev.jumps (r:=?_) 0 (fun k s=>False) (by rfl) ?_ (fun _ _ h=>h.elim)
 all_goals(rcases(⟨_⟩:PLift _)with⟨h⟩;exact h)):G:=h
theorem ae9{G:Prop}(h:G:=by
 have:jh a b = 5:=by unfold jh;rw [if_neg (by simpa using ma),if_neg (by simpa using mb),if_pos (by simpa [outW,jV] using ho)]
 rw [sD this (by decide)]
 all_goals(rcases(⟨_⟩:PLift _)with⟨h⟩;exact h)):G:=h
theorem afu{G:Prop}(h:G:=by
 have:jh a b = 0:=by unfold jh;rw [if_neg (by simpa using ma),if_neg (by simpa using mb),if_neg (by simpa [outW,jV] using ho)]
 rw [RJ this]
 all_goals(rcases(⟨_⟩:PLift _)with⟨h⟩;exact h)):G:=h
theorem YA (a b:List Sp) (la:a.length <= 10000000) (lb:b.length <= 10000000) (ta:dw a <= 100000000) (tb:dw b <= 100000000) (sa:Small a) (sb:Small b) :
   aA env 113 [.lst 3 (bD a),.lst 3 (bD b)] (fun r hs=>r = Vl a b /\ hs = []):=by
 have hA:=dW a (by omega) sa
 have hB:=dW b (by omega) sb
 by_cases ma:aH a = 0
 · by_cases mb:aH b = 0
   · by_cases ho:sumW (fun s=>kW s.k s.n s.t) a = sumW (fun s=>qo s.k s.n) b
     · refine' afu
       exact ajF a b la lb ta tb sa sb ma mb ho
     · refine' ae9
       have hO:=oP a (by omega) sa
       have hIn:=gy b (by omega)
       rw [ma] at hA
       rw [mb] at hB
       refine' aa5
       repeat' (first | refine' Ev.zP | (with_reducible refine Ev.aV ho ?_) | (with_reducible refine Ev.aP ho ?_) | refine' Ev.zS | refine' Ev.zK | (with_reducible refine Ev.oK 3 ?_) | ((with_reducible refine Ev.ca0 ?_);(first | refine Ev.ca (hA) ?_ | refine Ev.ca (hB) ?_ | refine Ev.ca (hO) ?_ | refine Ev.ca (hIn) ?_);conv=>whnf) | refine' Ev.zT | fail)
       exact ⟨rfl,rfl⟩
   · have:jh a b = aH b:=by unfold jh;rw [if_neg (by simpa using ma),if_pos mb]
     rw [sD this mb]
     rw [ma] at hA
     refine' aa5
     repeat' (first | refine' Ev.zP | (with_reducible refine Ev.aV mb ?_) | (with_reducible refine Ev.aP mb ?_) | refine' Ev.zS | refine' Ev.zK | (with_reducible refine Ev.oK 3 ?_) | ((with_reducible refine Ev.ca0 ?_);(first | refine Ev.ca (hA) ?_ | refine Ev.ca (hB) ?_);conv=>whnf) | refine' Ev.zT | fail)
     exact ⟨rfl,rfl⟩
 · have:jh a b = aH a:=by unfold jh;rw [if_pos ma]
   rw [sD this ma]
   refine' aa5
   repeat' (first | refine' Ev.zP | (with_reducible refine Ev.aV ma ?_) | (with_reducible refine Ev.aP ma ?_) | refine' Ev.zS | refine' Ev.zK | (with_reducible refine Ev.oK 3 ?_) | ((with_reducible refine Ev.ca0 ?_);(first | refine Ev.ca (hA) ?_ | refine Ev.ca (hB) ?_);conv=>whnf) | refine' Ev.zT | fail)
   exact ⟨rfl,rfl⟩
theorem ada{G:Prop}(h:G:=by (refine Ev.fn [0,1,4,5,6,7,8,9,10,11,12,13,14,15,21,24,30,43,53,66,102,109,126,131] 0 [.tmp 4,.tmp 5] Tryd.func149 (RH _ rfl) ?_);all_goals(rcases(⟨_⟩:PLift _)with⟨h⟩;exact h)):G:=h
theorem Vm (a b:List Sp) (la:a.length <= 10000000) (lb:b.length <= 10000000) (ta:dw a <= 100000000) (tb:dw b <= 100000000) (sa:Small a) (sb:Small b) :
   aA env 149 [.lst 3 (bD a),.lst 3 (bD b)] (fun r hs=>r = Vl a b /\ hs = []):=by
 have hA:=jr a (by omega) sa
 have hB:=jr b (by omega) sb
 by_cases ma:aH a = 0
 · by_cases mb:aH b = 0
   · by_cases ho:sumW (fun s=>kW s.k s.n s.t) a = sumW (fun s=>qo s.k s.n) b
     · refine' afu
       exact aeK a b la lb ta tb sa sb ma mb ho
     · refine' ae9
       have hO:=kG a (by omega) sa
       have hIn:=lN b (by omega)
       rw [ma] at hA
       rw [mb] at hB
       refine' ada
       repeat' (first | refine' Ev.zP | (with_reducible refine Ev.aV ho ?_) | (with_reducible refine Ev.aP ho ?_) | refine' Ev.zS | refine' Ev.zK | ((with_reducible refine Ev.ca0 ?_);(first | refine Ev.ca (hA) ?_ | refine Ev.ca (hB) ?_ | refine Ev.ca (hO) ?_ | refine Ev.ca (hIn) ?_);conv=>whnf) | ((with_reducible refine Ev.dG ?_);(first | refine Ev.dr 19 [] [0,1,2,4,5,6,3,7,8,9] ?_);intro Q hQ;(simp only [Ev.ak,Ev.au]);conv=>whnf) | ((with_reducible refine Ev.dG ?_);(first | refine Ev.drv 26 [] [(2,false),(3,true),(0,false),(1,false),(4,false),(5,false)] ?_ | refine Ev.drv 27 [] [(2,false),(3,true),(0,false),(1,false),(4,false),(5,false)] ?_);intro Q hQ;(simp only [Ev.aX,Ev.aY,Ev.bG]);conv=>whnf) | refine' Ev.zT | fail)
       exact ⟨rfl,rfl⟩
   · have:jh a b = aH b:=by unfold jh;rw [if_neg (by simpa using ma),if_pos mb]
     rw [sD this mb]
     rw [ma] at hA
     refine' ada
     repeat' (first | refine' Ev.zP | (with_reducible refine Ev.aV mb ?_) | (with_reducible refine Ev.aP mb ?_) | refine' Ev.zS | refine' Ev.zK | ((with_reducible refine Ev.ca0 ?_);(first | refine Ev.ca (hA) ?_ | refine Ev.ca (hB) ?_);conv=>whnf) | ((with_reducible refine Ev.dG ?_);(first | refine Ev.dr 19 [] [0,1,2,4,5,6,3,7,8,9] ?_);intro Q hQ;(simp only [Ev.ak,Ev.au]);conv=>whnf) | ((with_reducible refine Ev.dG ?_);(first | refine Ev.drv 26 [] [(2,false),(3,true),(0,false),(1,false),(4,false),(5,false)] ?_ | refine Ev.drv 27 [] [(2,false),(3,true),(0,false),(1,false),(4,false),(5,false)] ?_);intro Q hQ;(simp only [Ev.aX,Ev.aY,Ev.bG]);conv=>whnf) | refine' Ev.zT | fail)
     exact ⟨rfl,rfl⟩
 · have:jh a b = aH a:=by unfold jh;rw [if_pos ma]
   rw [sD this ma]
   refine' ada
   repeat' (first | refine' Ev.zP | (with_reducible refine Ev.aV ma ?_) | (with_reducible refine Ev.aP ma ?_) | refine' Ev.zS | refine' Ev.zK | ((with_reducible refine Ev.ca0 ?_);(first | refine Ev.ca (hA) ?_ | refine Ev.ca (hB) ?_);conv=>whnf) | ((with_reducible refine Ev.dG ?_);(first | refine Ev.dr 19 [] [0,1,2,4,5,6,3,7,8,9] ?_);intro Q hQ;(simp only [Ev.ak,Ev.au]);conv=>whnf) | ((with_reducible refine Ev.dG ?_);(first | refine Ev.drv 26 [] [(2,false),(3,true),(0,false),(1,false),(4,false),(5,false)] ?_ | refine Ev.drv 27 [] [(2,false),(3,true),(0,false),(1,false),(4,false),(5,false)] ?_);intro Q hQ;(simp only [Ev.aX,Ev.aY,Ev.bG]);conv=>whnf) | refine' Ev.zT | fail)
   exact ⟨rfl,rfl⟩
theorem ajI:∀ c,Tryd.f83.body = some c -> comp c = (.seq (.reg 0 [I.n 0 4 I.sn]) (.seq (.seq (.reg 1 [I.n 0 5 (I.mv 0),I.n 1 6 (I.ic 23 5 0),I.n 2 7 (I.fa 35 6 1),I.n 3 8 (I.ld 3 7),I.n 4 9 (I.mv 1),I.n 5 10 (I.bo .sub 3 8 9 3),I.n 6 11 (I.ic 23 5 0),I.n 7 12 (I.fa 35 11 1),I.u 8 (I.st 3 12 10)]) (.seq (.reg 2 [I.n 0 13 (I.mv 0),I.n 1 14 (I.ic 23 13 0),I.n 2 15 (I.fa 35 14 1),I.n 3 16 (I.ld 3 15),I.n 4 17 (I.bc .eql 3 16 0 3)]) (.cond (.tmp 17) (.seq (.reg 3 [I.n 0 18 (I.mv 0),I.n 1 19 (.slice 23 (.tmp 18) (some (.const (Value.int .i64 1))) none none),I.n 2 4 (I.sa 19)]) .ret) .skip))) (.seq (.reg 4 [I.n 0 20 (I.mv 0),I.n 1 4 (I.sa 20)]) .ret))):=by
 intro c h
 have:c = Tryd.f83.body.get rfl:=by rw [<- Option.some_inj,<- h];rfl
 rw [this];rfl
def NJ (x E:List Sp) (off:Nat):Prop:=off + x.length <= E.length /\ (E.drop off).take x.length = x
theorem NJ.cons {s:Sp} {l E:List Sp} {off:Nat} (h:NJ (s :: l) E off):∃ h:off < E.length,E[off] = s /\ NJ l E (off + 1):=by
 obtain ⟨h1,h2⟩:=h
 simp only [List.length_cons] at h1 h2
 have hlt:off < E.length:=by omega
 rw [List.drop_eq_getElem_cons hlt,List.take_succ_cons] at h2
 injection h2 with a b
 exact ⟨hlt,a,by omega,b⟩
theorem NJ.set {s u:Sp} {l E:List Sp} {off:Nat} (h:NJ (s :: l) E off):NJ (u :: l) (E.set off u) off /\ NJ l (E.set off u) (off + 1):=by
 obtain ⟨h1,h2,h3,h4⟩:=h.cons
 have e:NJ l (E.set off u) (off + 1):=⟨by simpa using h3,by rw [List.drop_set_of_lt (by omega)];exact h4⟩
 refine ⟨⟨by have:=h.1;simpa using this,?_⟩,e⟩
 have hlt:off < (E.set off u).length:=by simpa using h1
 rw [List.drop_eq_getElem_cons hlt,List.length_cons,List.take_succ_cons,e.2,List.getElem_set_self]
theorem Inv.RN {E:Env} {M0:pR} {w0:World} {c:Nat} {M:Mem} {J:cO} {W:World} {R R' sz ty v gJ:Nat} {es:List (List AV)} (inv:Inv E M0 w0 c M J ⟨[],[(R,⟨sz,ty,v,gJ,false,es⟩)],0⟩ #[] W) :
   Inv E M0 w0 c M J ⟨[],[(R',⟨sz,ty,v,gJ,false,es⟩)],0⟩ #[] W:=by
 have gR:get [(R,(⟨sz,ty,v,gJ,false,es⟩:aG))] R = some ⟨sz,ty,v,gJ,false,es⟩:=by rw [aF,if_pos rfl]
 have out:∀ {r:Nat} {k:aG},get [(R',(⟨sz,ty,v,gJ,false,es⟩:aG))] r = some k -> r = R' /\ k = ⟨sz,ty,v,gJ,false,es⟩:=by
   intro r k h
   rw [aF] at h
   split at h
   · rename_i e;exact ⟨e,(Option.some.inj h).symm⟩
   · rw [get_nil] at h;cases h
 refine ⟨inv.below,inv.mem,inv.kD,inv.jM,inv.glob,fun t x h=>by simp [get_nil] at h,?_,?_,?_,inv.vers,inv.jE,inv.far⟩
 · intro r k hk
   obtain ⟨rfl,rfl⟩:=out hk
   exact inv.heap _ _ gR
 · intro r r' k k' L L' hk hk' hL hL' hN hN' hr
   obtain ⟨rfl,rfl⟩:=out hk
   obtain ⟨rfl,rfl⟩:=out hk'
   exact absurd rfl hr
 · intro r k L o u hk hL hN hu
   obtain ⟨rfl,rfl⟩:=out hk
   exact inv.owns _ _ L o u gR hL hN hu
abbrev YB (R v:Nat) (E:List Sp):List (Nat × aG):=[(R,⟨3,35,v,0,false,bD E⟩)]
theorem aej{G:Prop}(h:G:=by
 refine Ev.fnH [0,1,4,17] 65536 [.tmp 4] Tryd.func83 (ajI _ rfl) (fun ct=>?_)
 repeat' (first | refine' Ev.zS | refine' Ev.zK | ((refine PZ (by rw [bH];omega) ?_);conv=>whnf) | refine' Ev.zT | fail)
 all_goals(rcases(⟨_⟩:PLift _)with⟨h⟩;exact h)):G:=h
theorem YC (v:Nat) {s:Sp} {l E:List Sp} {off n:Nat} (h:NJ (s :: l) E off) (hs:cu s) (hk:s.k ≠ 2) (hm:n <= eu s) :
   iM env 65536 83 [.own 7000 v off (l.length + 1),.v (.int .i64 n)] (YB 7000 v E) (fun r hp1=>∃ (E':List Sp) (off':Nat),r = .own 7000 v off' (bf s n l).length /\ hp1 = (7000,⟨3,35,v,0,false,bD E'⟩) :: YB 7000 v E /\ NJ (bf s n l) E' off'):=by
 have hE:=bH E
 obtain ⟨h1,h2,h3⟩:=h.cons
 have hl:off + (l.length + 1) <= E.length:=h.1
 obtain ⟨hn,ht⟩:(0 <= s.n /\ s.n <= 1048576) /\ s.t = ⟨#[]⟩:=by
   rcases hs.cases with ⟨a,b,c,d⟩ | ⟨a,b,c⟩
   · exact ⟨⟨b,c⟩,d⟩
   · exact absurd a hk
 rw [iy hk] at hm
 obtain ⟨r1,r2⟩:=h.set (u:=dI s n)
 have hst:dI s n = ⟨s.k,s.n - n,⟨#[]⟩⟩:=FY n hk
 have hE0:∀ h:off + Int.toNat 0 < E.length,E[off + Int.toNat 0]'h = s:=fun _=>h2
 have hrow:∀ h:off + Int.toNat 0 < E.length,(bD E).set (off + Int.toNat 0) (dP (sV (E[off + Int.toNat 0]'h)) (0 + 1) [.v (.int .i64 (IntKind.i64.wrap ((E[off + Int.toNat 0]'h).n - n)))]) = bD (E.set off (dI s n)):=by
   intro h
   rw [hE0 h,aU (by omega),<- nH,hst]
   obtain ⟨k,m,t⟩:=s
   simp only at ht
   subst ht
   rfl
 unfold bf
 rw [iy hk]
 by_cases hz:s.n.toNat = n
 · rw [if_pos hz]
   have hw:∀ h:off + Int.toNat 0 < E.length,IntKind.i64.wrap ((E[off + Int.toNat 0]'h).n - n) = 0:=fun h=>by rw [hE0 h,aU (by omega)];omega
   refine' aej
   · exact ⟨_,off + 1,rfl,congrArg (fun e=>(7000,(⟨3,35,v,0,false,e⟩:aG)) :: YB 7000 v E) (hrow _),r2⟩
   · exact absurd (hw _) (by assumption)
 · rw [if_neg hz]
   have hw:∀ h:off + Int.toNat 0 < E.length,¬ IntKind.i64.wrap ((E[off + Int.toNat 0]'h).n - n) = 0:=fun h=>by rw [hE0 h,aU (by omega)];omega
   refine' aej
   · exact absurd (by assumption) (hw _)
   · exact ⟨_,off,rfl,congrArg (fun e=>(7000,(⟨3,35,v,0,false,e⟩:aG)) :: YB 7000 v E) (hrow _),r1⟩
theorem Vo (v:Nat) {s:Sp} {l E:List Sp} {off n:Nat} (h:NJ (s :: l) E off) (hs:cu s) (hk:s.k ≠ 2) (hm:n <= eu s) :
   iM env 65536 83 [.own 7000 v off (l.length + 1),.v (.int .i64 n)] (YB 7000 v E) (fun r hp1=>∃ (E':List Sp) (off':Nat),r = .own 7000 v off' (bf s n l).length /\ hp1 = YB 7000 v E' /\ NJ (bf s n l) E' off'):=by
 refine rZ (YC v h hs hk hm) ?_
 rintro r hp1 ⟨E',off',rfl,rfl,h'⟩
 exact ⟨YB 7000 v E',⟨E',off',rfl,rfl,h'⟩,⟨Ev.aj rfl rfl,trivial⟩⟩
theorem YD:∀ c,Tryd.f36.body = some c -> comp c = (.seq (.reg 0 [I.n 0 4 (.alloc 23),I.n 1 5 (I.si 0)]) (.seq (.seq (.reg 1 [I.n 0 10 (I.mv 0),I.n 1 11 (I.mv 1),I.n 2 12 (.buildSlice 22 2 #[(0,.tmp 10),(1,.tmp 11)]),I.n 3 13 (I.ln 12 22),I.n 4 14 (.move (.const (Value.int .i64 0)))]) (.block 0 (.loop (.seq (.reg 2 [I.n 0 15 (I.bo .lss 3 14 13 3)]) (.seq (.cond (.tmp 15) .skip (.exit 0)) (.seq (.block 1 (.seq (.reg 3 [I.n 0 16 (I.ia 22 12 14),I.n 1 17 (I.ld 23 16),I.n 2 7 (I.sa 17)]) (.seq (.reg 4 [I.n 0 18 (I.mv 7),I.n 1 19 (I.c1 72 18 23),I.n 2 8 (I.sa 19)]) (.seq (.reg 5 [I.n 0 20 (I.mv 8),I.n 1 21 (I.bc .neq 30 20 0 30)]) (.cond (.tmp 21) (.seq (.reg 6 [I.n 0 22 (I.mv 8),I.u 1 (.store 23 (.tmp 4) (.const (Value.slice none 0 0))),I.n 2 5 (I.sa 22)]) .ret) .skip))))) (.reg 7 [I.n 0 23 (I.bc .add 3 14 1 3),I.n 1 14 (I.mv 23)]))))))) (.seq (.seq (.reg 8 [I.n 0 24 (I.mv 0),I.n 1 25 (I.c1 74 24 23),I.n 2 26 (I.mv 1),I.n 3 27 (I.c1 74 26 23),I.n 4 28 (I.bo .neq 3 25 27 3)]) (.cond (.tmp 28) (.seq (.reg 9 [I.u 0 (.store 23 (.tmp 4) (.const (Value.slice none 0 0))),I.n 1 5 (I.si 5)]) .ret) .skip)) (.seq (.reg 10 [I.n 0 29 (.makeFunc (.func 81) #[] #[.tmp 4]),I.u 1 (.defer { callee:=.value (.tmp 29),args:=#[],argTypes:=#[] })]) (.seq (.reg 11 [I.n 0 30 (I.mv 0),I.n 1 31 (I.c1 35 30 23),I.n 2 32 (I.mv 1),I.n 3 33 (I.c1 35 32 23),I.n 4 0 (I.sa 31),I.n 5 1 (I.sa 33)]) (.seq (.block 2 (.loop (.seq (.seq (.reg 12 [I.n 0 34 (I.mv 0),I.n 1 35 (I.ln 34 23),I.n 2 36 (I.bc .gtr 3 35 0 3),I.n 3 37 (I.mv 36),I.w 4 38 (I.mv 1) 37 false,I.w 5 39 (I.ln 38 23) 37 false,I.w 6 40 (I.bc .gtr 3 39 0 3) 37 false,I.n 7 41 (I.pb 37 true 40)]) (.cond (.tmp 41) .skip (.exit 2))) (.block 3 (.block 4 (.seq (.reg 17 [I.n 0 72 (I.mv 1),I.n 1 73 (I.ln 72 23),I.n 2 74 (I.bc .gtr 3 73 0 3),I.n 3 75 (I.mv 74),I.w 4 76 (I.mv 1) 75 true,I.w 5 77 (I.ic 23 76 0) 75 true,I.w 6 78 (I.fa 35 77 0) 75 true,I.w 7 79 (I.ld 3 78) 75 true,I.w 8 80 (I.bc .eql 3 79 2 3) 75 true,I.n 9 81 (I.pc 75 80 false),I.n 10 71 (I.sa 81)]) (.cond (.tmp 71) (.seq (.draw 18 [I.n 0 82 (I.ld 23 4),I.n 1 83 (I.mv 1),I.n 2 84 (I.ic 23 83 0),I.n 3 85 (I.ld 35 84),I.n 4 86 (I.c1 82 85 35),I.n 5 87 (.build 35 #[(0,.const (Value.int .i64 1)),(1,.tmp 86)]),I.n 6 88 (I.b1 23 87),I.n 7 89 (I.ap 82 88 23 23),I.u 8 (I.st 23 4 89)] [[],[],[1],[2],[3],[4],[5],[0,6,4],[7,7,0,1,2,3,4,5,6,7]]) (.reg 19 [I.n 0 90 (I.mv 1),I.n 1 91 (.slice 23 (.tmp 90) (some (.const (Value.int .i64 1))) none none),I.n 2 1 (I.sa 91)])) (.seq (.reg 20 [I.n 0 93 (I.mv 0),I.n 1 94 (I.ln 93 23),I.n 2 95 (I.bc .gtr 3 94 0 3),I.n 3 96 (I.mv 95),I.w 4 97 (I.mv 0) 96 true,I.w 5 98 (I.ic 23 97 0) 96 true,I.w 6 99 (I.fa 35 98 0) 96 true,I.w 7 100 (I.ld 3 99) 96 true,I.w 8 101 (I.bc .eql 3 100 2 3) 96 true,I.n 9 102 (I.pc 96 101 false),I.n 10 92 (I.sa 102)]) (.cond (.tmp 92) (.seq (.draw 21 [I.n 0 103 (I.ld 23 4),I.n 1 104 (I.mv 0),I.n 2 105 (I.ic 23 104 0),I.n 3 106 (I.ld 35 105),I.n 4 107 (I.b1 23 106),I.n 5 108 (I.ap 103 107 23 23),I.u 6 (I.st 23 4 108)] [[],[],[1],[2],[3],[0,4],[5,5,0,1,2,3,4,5]]) (.reg 22 [I.n 0 109 (I.mv 0),I.n 1 110 (.slice 23 (.tmp 109) (some (.const (Value.int .i64 1))) none none),I.n 2 0 (I.sa 110)])) (.seq (.draw 13 [I.n 0 42 (I.mv 0),I.n 1 43 (I.ic 23 42 0),I.n 2 44 (I.fa 35 43 1),I.n 3 45 (I.ld 3 44),I.n 4 46 (I.mv 1),I.n 5 47 (I.ic 23 46 0),I.n 6 48 (I.fa 35 47 1),I.n 7 49 (I.ld 3 48),I.n 8 50 (.call { callee:=.builtin .min,args:=#[.tmp 45,.tmp 49],argTypes:=#[3,3] }),I.n 9 9 (I.sa 50)] [[],[0],[1],[2],[],[4],[5],[6],[3,7],[8,0,1,2,3,4,5,6,7,8]]) (.seq (.seq (.reg 14 [I.n 0 51 (I.mv 1),I.n 1 52 (I.ic 23 51 0),I.n 2 53 (I.fa 35 52 0),I.n 3 54 (I.ld 3 53),I.n 4 55 (I.bc .eql 3 54 1 3)]) (.cond (.tmp 55) (.draw 15 [I.n 0 56 (I.ld 23 4),I.n 1 57 (I.mv 0),I.n 2 58 (I.ic 23 57 0),I.n 3 59 (I.fa 35 58 0),I.n 4 60 (I.ld 3 59),I.n 5 61 (I.mv 9),I.n 6 62 (.build 35 #[(0,.tmp 60),(1,.tmp 61)]),I.n 7 63 (I.b1 23 62),I.n 8 64 (I.ap 56 63 23 23),I.u 9 (I.st 23 4 64)] [[],[],[1],[2],[3],[],[4,5],[6],[0,7],[8,8,0,1,2,3,4,5,6,7,8]]) .skip)) (.reg 16 [I.n 0 65 (I.mv 0),I.n 1 66 (I.mv 9),I.n 2 67 (I.c2 83 65 66 23 3),I.n 3 68 (I.mv 1),I.n 4 69 (I.mv 9),I.n 5 70 (I.c2 83 68 69 23 3),I.n 6 0 (I.sa 67),I.n 7 1 (I.sa 70)])))))))))))) (.seq (.reg 23 [I.n 0 111 (I.ld 23 4),I.u 1 (I.st 23 4 111),I.n 2 5 (I.si 0)]) .ret))))))):=by
 intro c h
 have:c = Tryd.f36.body.get rfl:=by rw [<- Option.some_inj,<- h];rfl
 rw [this];rfl
theorem ajJ:∀ c,Tryd.f81.body = some c -> comp c = (.reg 0 [I.n 0 1 (I.ld 23 0),I.n 1 2 (I.c1 35 1 23),I.u 2 (I.st 23 0 2)]):=by
 intro c h
 have:c = Tryd.f81.body.get rfl:=by rw [<- Option.some_inj,<- h];rfl
 rw [this];rfl
theorem Vp (v0 v:Nat) (C:List Sp) (hl:C.length <= 100000000) (hb:dw C <= 1000000000) :
   Fb env 81 [.ptr 0 v0 0 0] [(0,⟨1,23,v0,0,true,[[.own 9000 v 0 C.length]]⟩),(9000,⟨3,35,v,0,false,bD C⟩)]
     (fun h=>h = [(0,⟨1,23,v0,0,true,[[.lst 3 (bD (norm C))]]⟩),(9000,⟨3,35,v,max 0 (min (0 + C.length) (bD C).length),false,bD C⟩),(0,⟨1,23,v0,0,true,[[.own 9000 v 0 C.length]]⟩),(9000,⟨3,35,v,0,false,bD C⟩)]):=by
 have hE:=bH C
 refine Ev.fnD [0] 65536 [] Tryd.func81 (ajJ _ rfl) (fun ct=>?_)
 repeat' (first | refine' Ev.zS | refine' Ev.zK | ((with_reducible refine Ev.ca0 ?_);(first | refine Ev.ca (Aw C hl hb) ?_);conv=>whnf) | refine' Ev.zT | fail)
 rfl
theorem RP {nm ct n:Nat} {ni:Int} {hp:List (Nat × aG)} {K:AV -> List (Nat × aG) -> Nat -> Prop} (B:Nat) (F:List (Nat × aG)) {v:Nat} {s:Sp} {l E:List Sp} {off:Nat} (h:NJ (s :: l) E off) (hok:cu s) (hk2:s.k ≠ 2) (hm:n <= eu s) (hni:ni = (n:Int))
   (hs:subs hp (YB B v E)) (hF:subs hp F) (hB:get F B = none)
   (hk:∀ E' off',NJ (bf s n l) E' off' -> ∀ c',ct + 8 <= c' -> K (.own B v off' (bf s n l).length) (YB B v E' ++ F) c'):Ev.lG env nm 83 [.own B v off (l.length + 1),.v (.int .i64 ni)] hp ct K:=by
 subst hni
 have hc:=Vo v h hok hk2 hm
 have hc':iM env 65536 83 [.own B v off (l.length + 1),.v (.int .i64 n)] (YB B v E) (fun r hp1=>∃ (E':List Sp) (off':Nat),r = .own B v off' (bf s n l).length /\ hp1 = YB B v E' /\ NJ (bf s n l) E' off'):=by
   intro M0 w0 c M J W vs inv hn hr
   obtain ⟨a,b⟩:=hc M0 w0 c M J W vs (inv.RN (R':=7000)) hn (fun i x v hx hv=>by
     cases i with
     | zero=>obtain rfl:=Option.some.inj hx;exact Kz (hr 0 _ v rfl hv)
     | succ i=>exact hr (i + 1) x v hx hv)
   refine ⟨a,b.mono ?_⟩
   rintro e w' ⟨v,r,hp1,c',M',J',x1,⟨E',off',rfl,rfl,x2⟩,x3,x4,x5⟩
   exact ⟨v,_,_,c',M',J',x1,⟨E',off',rfl,rfl,x2⟩,x3.RN,Kz x4,x5⟩
 refine Ev.Dw F hc' rfl hs hF ?_ ?_
 · intro r hr
   rw [aF,get_nil] at hr
   split at hr
   · rename_i e;rw [e];exact hB
   · exact absurd rfl hr
 · rintro r hp1 ⟨E',off',rfl,rfl,h'⟩
   refine ⟨fun q hq=>?_,hk E' off' h'⟩
   rw [aF,get_nil] at hq
   split at hq
   · rename_i e;rw [e];exact hB
   · exact absurd rfl hq
theorem YE {a s:List Sp} (ma:aH a = 0) (ms:aH s = 0) (la:a.length <= 10000000) (ls:s.length <= 10000000) (ho:jV a = jV s):bC dV a = bC dV s:=by
 have h1:=(qM.of ma (by omega)).2
 have h2:=(qM.of ms (by omega)).2
 omega
set_option maxHeartbeats 8000000 in
theorem ajK (a b:List Sp) (la:a.length <= 10000000) (lb:b.length <= 10000000) (ta:dw a <= 100000000) (tb:dw b <= 100000000) (sa:Small a) (sb:Small b) (ma:aH a = 0) (mb:aH b = 0)
    (ho:jV a = jV b) (hb:bC dK b <= 1048576):aA env 36 [.lst 3 (bD a),.lst 3 (bD b)] (fun r hs=>r = .dB [.lst 3 (bD (qN a b)),.v (.int .i64 0)] /\ hs = []):=by
  have hA:=dW a (by omega) sa
  have hB:=dW b (by omega) sb
  rw [ma] at hA
  rw [mb] at hB
  have hIa:=gy a (by omega)
  have hIb:=gy b (by omega)
  have hoo:sumW (fun s=>qo s.k s.n) a = sumW (fun s=>qo s.k s.n) b:=ho
  rw [hoo] at hIa
  have oa:=(qM.of ma (by omega)).1
  have ob:=(qM.of mb (by omega)).1
  have na:=oa.norm
  have nb:=ob.norm
  have ho':=YE ma mb la lb ho
  have hco:=FZ oa ob ho' hb
  have hmm:bV (dO (norm a)) = bV (dO (norm b)):=by
    have e1:=bI oa.all
    have e2:=bI ob.all
    rw [na.2.2.1,nb.2.2.1];omega
  have hob:bg (dO (norm b)) <= 1048576:=by
    have e2:=bI ob.all
    rw [nb.2.2.1];omega
  obtain ⟨C,hC⟩:∃ C,C = lZ ((norm a).length + (norm b).length) (norm a) (norm b):=⟨_,rfl⟩
  have hcC:aB.norm C = qN a b:=by rw [hC];exact hco.2.2.2.1
  have hcL:C.length <= 20000000 /\ dw C <= 100000000:=by
    have h1:=hco.2.2.2.2.2.2.1
    have h2:=hco.2.2.2.2.2.2.2.1
    rw [hC];omega
  refine Ev.fnV [0,1,4,5,7,8,9,12,13,14,15,21,28,41,55,71,92] 0 [.cell 4 23,.tmp 5] Tryd.func36 (YD _ rfl) ?_
  refine Ev.H6 ?_
  repeat' (first | refine' Ev.zS | refine' Ev.zK | ((with_reducible refine Ev.dG ?_);(first | refine Ev.dr 18 [] [0,1,2,3,4,5,6,7,8] ?_ | refine Ev.dr 21 [] [0,1,2,3,4,5,6] ?_ | refine Ev.dr 13 [] [0,1,2,3,4,5,6,7,8,9] ?_ | refine Ev.dr 15 [] [0,1,5,2,3,4,6,7,8,9] ?_);intro Q hQ;(simp only [Ev.ak,Ev.au]);conv=>whnf) | refine' Ev.zT | fail)
  refine Ev.H6 ?_
  repeat' (first | refine' Ev.zP | refine' Ev.zS | refine' Ev.zK | (with_reducible refine Ev.oK 3 ?_) | ((with_reducible refine Ev.ca0 ?_);(first | refine Ev.ca (hA) ?_ | refine Ev.ca (hB) ?_);conv=>whnf) | ((with_reducible refine Ev.dG ?_);(first | refine Ev.dr 18 [] [0,1,2,3,4,5,6,7,8] ?_ | refine Ev.dr 21 [] [0,1,2,3,4,5,6] ?_ | refine Ev.dr 13 [] [0,1,2,3,4,5,6,7,8,9] ?_ | refine Ev.dr 15 [] [0,1,5,2,3,4,6,7,8,9] ?_);intro Q hQ;(simp only [Ev.ak,Ev.au]);conv=>whnf) | refine' Ev.zT | fail)
  refine Ev.H6 ?_
  have hxx:sumW (fun s=>qo s.k s.n) b = sumW (fun s=>qo s.k s.n) b:=rfl
  repeat' (first | (with_reducible refine Ev.aK hxx ?_) | (with_reducible refine Ev.aJ hxx ?_) | refine' Ev.zP | refine' Ev.zS | refine' Ev.zK | ((with_reducible refine Ev.ca0 ?_);(first | refine Ev.ca (hIa) ?_ | refine Ev.ca (hIb) ?_);conv=>whnf) | ((with_reducible refine Ev.dG ?_);(first | refine Ev.dr 18 [] [0,1,2,3,4,5,6,7,8] ?_ | refine Ev.dr 21 [] [0,1,2,3,4,5,6] ?_ | refine Ev.dr 13 [] [0,1,2,3,4,5,6,7,8,9] ?_ | refine Ev.dr 15 [] [0,1,5,2,3,4,6,7,8,9] ?_);intro Q hQ;(simp only [Ev.ak,Ev.au]);conv=>whnf) | refine' Ev.zT | fail)
  refine Ev.aiT (Ev.alb (hs:=[]) (yD _ _) ?_)
  conv=>whnf
  repeat' (first | refine' Ev.zS | refine' Ev.zK | ((((with_reducible refine Ev.ca0 ?_);refine ⟨(Kt a (by omega) (by omega)).mono ?_⟩;rintro _ _ ⟨A,rfl,rfl,hA1,hA2⟩;refine ⟨Nat.le_of_ble_eq_true rfl,⟨rfl,trivial⟩,?_⟩;conv=>whnf));conv=>whnf) | ((((with_reducible refine Ev.ca0 ?_);refine ⟨(Kt b (by omega) (by omega)).mono ?_⟩;rintro _ _ ⟨B,rfl,rfl,hB1,hB2⟩;refine ⟨Nat.le_of_ble_eq_true rfl,⟨rfl,trivial⟩,?_⟩;conv=>whnf));conv=>whnf) | ((with_reducible refine Ev.dG ?_);(first | refine Ev.dr 18 [] [0,1,2,3,4,5,6,7,8] ?_ | refine Ev.dr 21 [] [0,1,2,3,4,5,6] ?_ | refine Ev.dr 13 [] [0,1,2,3,4,5,6,7,8,9] ?_ | refine Ev.dr 15 [] [0,1,5,2,3,4,6,7,8,9] ?_);intro Q hQ;(simp only [Ev.ak,Ev.au]);conv=>whnf) | refine' Ev.zT | fail)
  refine Ev.Ny 0 9000 3 35 0 rfl rfl rfl ?_
  refine Ev.loop (fun k st=>∃ (c va vb v:Nat) (A B:List Sp) (oa ob:Nat) (x y out:List Sp),st = ⟨[(0,.own 5640 va oa x.length),(1,.own 5656 vb ob y.length),(4,.ptr 0 0 0 0)],[(0,⟨1,23,0,0,true,[[.own 9000 v 0 out.length]]⟩),(5640,⟨3,35,va,0,false,bD A⟩),(5656,⟨3,35,vb,0,false,bD B⟩),(9000,⟨3,35,v,0,false,bD out⟩)],c⟩ /\ NJ x A oa /\ NJ y B ob /\ OI C k x y out) ?_ ?_
  · refine Ev.zB ⟨(norm a).length + (norm b).length,?_,?_,?_,?_,A,B,0,0,norm a,norm b,[],rfl,?_⟩
    exact ⟨⟨by rw [<- hA1,List.length_take];omega,hA1⟩,⟨by rw [<- hB1,List.length_take];omega,hB1⟩,by omega,na.1.all,nb.1.all,na.2.2.2.2.2.2.2,nb.2.2.2.2.2.2.2,hmm,hob,by rw [hC];rfl,by simp;omega,by omega⟩
  rintro k s1 ⟨c,va,vb,v,A,B,oa,ob,x,y,out,rfl,hS,hT,hI⟩
  have hol:=bH out
  have hAl:=bH A
  have hBl:=bH B
  have hbl:=hI.bl
  have hS1:=hS.1
  have hT1:=hT.1
  rcases x with _ | ⟨u,x⟩ <;> rcases y with _ | ⟨w,y⟩ <;> simp only [List.length_cons,List.length_nil] at hbl hS1 hT1
  · have hout:=hI.fin
    subst hout
    repeat' (first | refine' Ev.zP | refine' Ev.zS | refine' Ev.zK | ((with_reducible refine Ev.dG ?_);(first | refine Ev.dr 18 [] [0,1,2,3,4,5,6,7,8] ?_ | refine Ev.dr 21 [] [0,1,2,3,4,5,6] ?_ | refine Ev.dr 13 [] [0,1,2,3,4,5,6,7,8,9] ?_ | refine Ev.dr 15 [] [0,1,5,2,3,4,6,7,8,9] ?_);intro Q hQ;(simp only [Ev.ak,Ev.au]);conv=>whnf) | refine' Ev.zT | fail)
    refine Ev.aiV (Ev.aiW (Vp 0 _ out (by omega) (by omega)) rfl ⟨Ev.aj rfl rfl,Ev.aj rfl rfl,trivial⟩ (fun F hF=>?_))
    conv=>whnf
    repeat' (first | refine' Ev.zS | refine' Ev.zK | ((with_reducible refine Ev.dG ?_);(first | refine Ev.dr 18 [] [0,1,2,3,4,5,6,7,8] ?_ | refine Ev.dr 21 [] [0,1,2,3,4,5,6] ?_ | refine Ev.dr 13 [] [0,1,2,3,4,5,6,7,8,9] ?_ | refine Ev.dr 15 [] [0,1,5,2,3,4,6,7,8,9] ?_);intro Q hQ;(simp only [Ev.ak,Ev.au]);conv=>whnf) | refine' Ev.zT | fail)
    exact ⟨by rw [hcC];rfl,rfl⟩
  · have hwk:w.k = 2:=hI.vk
    have htw:w.t.size <= 1000000000:=by have:=hI.bt;rw [aQ w] at this;omega
    obtain ⟨k',rfl,hJ⟩:=hI.s1 hwk
    obtain ⟨hB0,hB1,hB2⟩:=hT.cons
    have pB:(0:Int) < ((w :: y).length:Int):=by simp only [List.length_cons];omega
    have eB:∀ h:ob + Int.toNat 0 < B.length,B[ob + Int.toNat 0]'h = w:=fun _=>hB1
    have hkB:∀ h:ob + Int.toNat 0 < B.length,(B[ob + Int.toNat 0]'h).k = 2:=fun h=>by rw [eB h];exact hwk
    have hz:∀ h:ob + Int.toNat 0 < B.length,(B[ob + Int.toNat 0]'h).t.size <= 1000000000:=fun h=>by rw [eB h];exact htw
    repeat' (first | (with_reducible refine Ev.aK pB ?_) | (with_reducible refine Ev.aJ pB ?_) | (with_reducible refine Ev.aK (hkB _) ?_) | (with_reducible refine Ev.aJ (hkB _) ?_) | refine' Ev.zP | refine' Ev.zS | ((with_reducible refine Ev.kr (hs:=[83]) (fun Q hQ=>?_));refine' Ev.zR) | ((with_reducible refine Ev.ca0 ?_);(first | refine Ev.aT (vJ _ _ _ (hz _)) rfl rfl ?_ | refine Ev.ca (vJ _ _ _ (hz _)) ?_);conv=>whnf) | ((with_reducible refine Ev.dG ?_);(first | refine Ev.dr 18 [83] [0,1,2,3,4,5,6,7,8] ?_ | refine Ev.dr 21 [83] [0,1,2,3,4,5,6] ?_ | refine Ev.dr 13 [83] [0,1,2,3,4,5,6,7,8,9] ?_ | refine Ev.dr 15 [83] [0,1,5,2,3,4,6,7,8,9] ?_);intro Q hQ;(simp only [Ev.ak,Ev.au]);conv=>whnf) | refine' Ev.zT | fail)
    refine Ev.zA (k') ⟨?_,va,vb,?_,A,B,oa,ob + 1,[],y,out ++ [kpO w],rfl,?_⟩ (by refine' Ev.zp <;> first | (first | (rw [List.length_append];rfl) | (simp only [eA,eB];rw [aO];rfl) | (simp only [eB];rw [aO];rfl) | (simp only [eA];rw [aO];rfl) | (simp;done) | omega | rfl) | rfl | (refine' Ev.ze;(first | (rw [List.length_append];rfl) | (simp only [eA,eB];rw [aO];rfl) | (simp only [eB];rw [aO];rfl) | (simp only [eA];rw [aO];rfl) | (simp;done) | omega | rfl)) | fail)
    exact ⟨hS,hB2,hJ⟩
  · have yQ:u.k = 2:=hI.uk
    obtain ⟨k',rfl,hJ⟩:=hI.s2 yQ (by simp)
    obtain ⟨hA0,hA1,hA2⟩:=hS.cons
    have pA:(0:Int) < ((u :: x).length:Int):=by simp only [List.length_cons];omega
    have eA:∀ h:oa + Int.toNat 0 < A.length,A[oa + Int.toNat 0]'h = u:=fun _=>hA1
    have Zf:∀ h:oa + Int.toNat 0 < A.length,(A[oa + Int.toNat 0]'h).k = 2:=fun h=>by rw [eA h];exact yQ
    repeat' (first | (with_reducible refine Ev.aK pA ?_) | (with_reducible refine Ev.aJ pA ?_) | (with_reducible refine Ev.aK (Zf _) ?_) | (with_reducible refine Ev.aJ (Zf _) ?_) | refine' Ev.zP | refine' Ev.zS | ((with_reducible refine Ev.kr (hs:=[83]) (fun Q hQ=>?_));refine' Ev.zR) | ((with_reducible refine Ev.dG ?_);(first | refine Ev.dr 18 [83] [0,1,2,3,4,5,6,7,8] ?_ | refine Ev.dr 21 [83] [0,1,2,3,4,5,6] ?_ | refine Ev.dr 13 [83] [0,1,2,3,4,5,6,7,8,9] ?_ | refine Ev.dr 15 [83] [0,1,5,2,3,4,6,7,8,9] ?_);intro Q hQ;(simp only [Ev.ak,Ev.au]);conv=>whnf) | refine' Ev.zT | fail)
    refine Ev.zA (k') ⟨?_,va,vb,?_,A,B,oa + 1,ob,x,[],out ++ [u],rfl,?_⟩ (by refine' Ev.zp <;> first | (first | (rw [List.length_append];rfl) | (simp only [eA,eB];rw [aO];rfl) | (simp only [eB];rw [aO];rfl) | (simp only [eA];rw [aO];rfl) | (simp;done) | omega | rfl) | rfl | (refine' Ev.ze;(first | (rw [List.length_append];rfl) | (simp only [eA,eB];rw [aO];rfl) | (simp only [eB];rw [aO];rfl) | (simp only [eA];rw [aO];rfl) | (simp;done) | omega | rfl)) | fail)
    exact ⟨hA2,hT,hJ⟩
  · have htw:w.t.size <= 1000000000:=by have:=hI.bt;rw [aQ,aQ] at this;omega
    obtain ⟨hA0,hA1,hA2⟩:=hS.cons
    have pA:(0:Int) < ((u :: x).length:Int):=by simp only [List.length_cons];omega
    have eA:∀ h:oa + Int.toNat 0 < A.length,A[oa + Int.toNat 0]'h = u:=fun _=>hA1
    obtain ⟨hB0,hB1,hB2⟩:=hT.cons
    have pB:(0:Int) < ((w :: y).length:Int):=by simp only [List.length_cons];omega
    have eB:∀ h:ob + Int.toNat 0 < B.length,B[ob + Int.toNat 0]'h = w:=fun _=>hB1
    have hz:∀ h:ob + Int.toNat 0 < B.length,(B[ob + Int.toNat 0]'h).t.size <= 1000000000:=fun h=>by rw [eB h];exact htw
    by_cases hwk:w.k = 2
    · obtain ⟨k',rfl,hJ⟩:=hI.s1 hwk
      have hkB:∀ h:ob + Int.toNat 0 < B.length,(B[ob + Int.toNat 0]'h).k = 2:=fun h=>by rw [eB h];exact hwk
      repeat' (first | (with_reducible refine Ev.aK pA ?_) | (with_reducible refine Ev.aJ pA ?_) | (with_reducible refine Ev.aK pB ?_) | (with_reducible refine Ev.aJ pB ?_) | (with_reducible refine Ev.aK (hkB _) ?_) | (with_reducible refine Ev.aJ (hkB _) ?_) | refine' Ev.zP | refine' Ev.zS | ((with_reducible refine Ev.kr (hs:=[83]) (fun Q hQ=>?_));refine' Ev.zR) | ((with_reducible refine Ev.ca0 ?_);(first | refine Ev.aT (vJ _ _ _ (hz _)) rfl rfl ?_ | refine Ev.ca (vJ _ _ _ (hz _)) ?_);conv=>whnf) | ((with_reducible refine Ev.dG ?_);(first | refine Ev.dr 18 [83] [0,1,2,3,4,5,6,7,8] ?_ | refine Ev.dr 21 [83] [0,1,2,3,4,5,6] ?_ | refine Ev.dr 13 [83] [0,1,2,3,4,5,6,7,8,9] ?_ | refine Ev.dr 15 [83] [0,1,5,2,3,4,6,7,8,9] ?_);intro Q hQ;(simp only [Ev.ak,Ev.au]);conv=>whnf) | refine' Ev.zT | fail)
      refine Ev.zA (k') ⟨?_,va,vb,?_,A,B,oa,ob + 1,u :: x,y,out ++ [kpO w],rfl,?_⟩ (by refine' Ev.zp <;> first | (first | (rw [List.length_append];rfl) | (simp only [eA,eB];rw [aO];rfl) | (simp only [eB];rw [aO];rfl) | (simp only [eA];rw [aO];rfl) | (simp;done) | omega | rfl) | rfl | (refine' Ev.ze;(first | (rw [List.length_append];rfl) | (simp only [eA,eB];rw [aO];rfl) | (simp only [eB];rw [aO];rfl) | (simp only [eA];rw [aO];rfl) | (simp;done) | omega | rfl)) | fail)
      exact ⟨hS,hB2,hJ⟩
    have hkB:∀ h:ob + Int.toNat 0 < B.length,¬ (B[ob + Int.toNat 0]'h).k = 2:=fun h=>by rw [eB h];exact hwk
    by_cases yQ:u.k = 2
    · obtain ⟨k',rfl,hJ⟩:=hI.s2 yQ (by simpa using hwk)
      have Zf:∀ h:oa + Int.toNat 0 < A.length,(A[oa + Int.toNat 0]'h).k = 2:=fun h=>by rw [eA h];exact yQ
      repeat' (first | (with_reducible refine Ev.aK pA ?_) | (with_reducible refine Ev.aJ pA ?_) | (with_reducible refine Ev.aK pB ?_) | (with_reducible refine Ev.aJ pB ?_) | (with_reducible refine Ev.aV (hkB _) ?_) | (with_reducible refine Ev.aP (hkB _) ?_) | (with_reducible refine Ev.aK (Zf _) ?_) | (with_reducible refine Ev.aJ (Zf _) ?_) | refine' Ev.zP | refine' Ev.zS | ((with_reducible refine Ev.kr (hs:=[83]) (fun Q hQ=>?_));refine' Ev.zR) | ((with_reducible refine Ev.dG ?_);(first | refine Ev.dr 18 [83] [0,1,2,3,4,5,6,7,8] ?_ | refine Ev.dr 21 [83] [0,1,2,3,4,5,6] ?_ | refine Ev.dr 13 [83] [0,1,2,3,4,5,6,7,8,9] ?_ | refine Ev.dr 15 [83] [0,1,5,2,3,4,6,7,8,9] ?_);intro Q hQ;(simp only [Ev.ak,Ev.au]);conv=>whnf) | refine' Ev.zT | fail)
      refine Ev.zA (k') ⟨?_,va,vb,?_,A,B,oa + 1,ob,x,w :: y,out ++ [u],rfl,?_⟩ (by refine' Ev.zp <;> first | (first | (rw [List.length_append];rfl) | (simp only [eA,eB];rw [aO];rfl) | (simp only [eB];rw [aO];rfl) | (simp only [eA];rw [aO];rfl) | (simp;done) | omega | rfl) | rfl | (refine' Ev.ze;(first | (rw [List.length_append];rfl) | (simp only [eA,eB];rw [aO];rfl) | (simp only [eB];rw [aO];rfl) | (simp only [eA];rw [aO];rfl) | (simp;done) | omega | rfl)) | fail)
      exact ⟨hA2,hT,hJ⟩
    have Zf:∀ h:oa + Int.toNat 0 < A.length,¬ (A[oa + Int.toNat 0]'h).k = 2:=fun h=>by rw [eA h];exact yQ
    obtain ⟨n,hn⟩:∃ n,min (eu u) (eu w) = n:=⟨_,rfl⟩
    obtain ⟨hnu,hnw,k',rfl,hJ⟩:=hI.s3 hwk yQ hn
    have hou:=hI.ax.head
    have how:=hI.ay.head
    have zu:(eu u:Int) = u.n:=by
      rw [iy yQ]
      rcases hou.cases with ⟨a,b,c,d⟩ | ⟨a,b,c⟩ <;> omega
    have zw:(eu w:Int) = w.n:=by
      rw [iy hwk]
      rcases how.cases with ⟨a,b,c,d⟩ | ⟨a,b,c⟩ <;> omega
    have hmin:∀ (h:oa + Int.toNat 0 < A.length) (h':ob + Int.toNat 0 < B.length),min (A[oa + Int.toNat 0]'h).n (B[ob + Int.toNat 0]'h').n = ((n:Nat):Int):=fun h h'=>by rw [eA h,eB h'];omega
    have afX:min u.n w.n = ((n:Nat):Int):=by omega
    have hfs:eF u n = ⟨u.k,n,⟨#[]⟩⟩:=vT n yQ
    by_cases hw1:w.k = 1
    · rw [if_pos hw1] at hJ
      have hkC:∀ h:ob + Int.toNat 0 < B.length,(B[ob + Int.toNat 0]'h).k = 1:=fun h=>by rw [eB h];exact hw1
      repeat' (first | (with_reducible refine Ev.aK pA ?_) | (with_reducible refine Ev.aJ pA ?_) | (with_reducible refine Ev.aK pB ?_) | (with_reducible refine Ev.aJ pB ?_) | (with_reducible refine Ev.aV (hkB _) ?_) | (with_reducible refine Ev.aP (hkB _) ?_) | (with_reducible refine Ev.aV (Zf _) ?_) | (with_reducible refine Ev.aP (Zf _) ?_) | (with_reducible refine Ev.aK (hkC _) ?_) | (with_reducible refine Ev.aJ (hkC _) ?_) | refine' Ev.zP | refine' Ev.zS | ((with_reducible refine Ev.kr (hs:=[83]) (fun Q hQ=>?_));refine' Ev.zR) | ((((with_reducible refine Ev.lC ?_);refine RP 5640 [(0,_),(5656,_),(9000,_)] hS hou yQ hnu (hmin _ _) ⟨Ev.aj rfl rfl,trivial⟩ ⟨Ev.aj rfl rfl,Ev.aj rfl rfl,Ev.aj rfl rfl,trivial⟩ rfl (fun A' oa' hA' c' _=>?_);conv=>whnf));conv=>whnf) | ((((with_reducible refine Ev.lC ?_);refine RP 5656 [(0,_),(5640,_),(9000,_)] hT how hwk hnw (hmin _ _) ⟨Ev.aj rfl rfl,trivial⟩ ⟨Ev.aj rfl rfl,Ev.aj rfl rfl,Ev.aj rfl rfl,trivial⟩ rfl (fun B' ob' hB' c' _=>?_);conv=>whnf));conv=>whnf) | ((with_reducible refine Ev.dG ?_);(first | refine Ev.dr 18 [83] [0,1,2,3,4,5,6,7,8] ?_ | refine Ev.dr 21 [83] [0,1,2,3,4,5,6] ?_ | refine Ev.dr 13 [83] [0,1,2,3,4,5,6,7,8,9] ?_ | refine Ev.dr 15 [83] [0,1,5,2,3,4,6,7,8,9] ?_);intro Q hQ;(simp only [Ev.ak,Ev.au]);conv=>whnf) | refine' Ev.zT | fail)
      refine Ev.zA (k') ⟨?_,va,vb,?_,A',B',oa',ob',bf u n x,bf w n y,out ++ [eF u n],rfl,?_⟩ (by refine' Ev.zp <;> first | (first | (rw [List.length_append];rfl) | (simp only [eA,eB,afX];rw [hfs,aO];rfl) | (simp;done) | omega | rfl) | rfl | (refine' Ev.ze;(first | (rw [List.length_append];rfl) | (simp only [eA,eB,afX];rw [hfs,aO];rfl) | (simp;done) | omega | rfl)) | fail)
      exact ⟨hA',hB',hJ⟩
    · rw [if_neg hw1,List.append_nil] at hJ
      have hkC:∀ h:ob + Int.toNat 0 < B.length,¬ (B[ob + Int.toNat 0]'h).k = 1:=fun h=>by rw [eB h];exact hw1
      repeat' (first | (with_reducible refine Ev.aK pA ?_) | (with_reducible refine Ev.aJ pA ?_) | (with_reducible refine Ev.aK pB ?_) | (with_reducible refine Ev.aJ pB ?_) | (with_reducible refine Ev.aV (hkB _) ?_) | (with_reducible refine Ev.aP (hkB _) ?_) | (with_reducible refine Ev.aV (Zf _) ?_) | (with_reducible refine Ev.aP (Zf _) ?_) | (with_reducible refine Ev.aV (hkC _) ?_) | (with_reducible refine Ev.aP (hkC _) ?_) | refine' Ev.zP | refine' Ev.zS | ((with_reducible refine Ev.kr (hs:=[83]) (fun Q hQ=>?_));refine' Ev.zR) | ((((with_reducible refine Ev.lC ?_);refine RP 5640 [(0,_),(5656,_),(9000,_)] hS hou yQ hnu (hmin _ _) ⟨Ev.aj rfl rfl,trivial⟩ ⟨Ev.aj rfl rfl,Ev.aj rfl rfl,Ev.aj rfl rfl,trivial⟩ rfl (fun A' oa' hA' c' _=>?_);conv=>whnf));conv=>whnf) | ((((with_reducible refine Ev.lC ?_);refine RP 5656 [(0,_),(5640,_),(9000,_)] hT how hwk hnw (hmin _ _) ⟨Ev.aj rfl rfl,trivial⟩ ⟨Ev.aj rfl rfl,Ev.aj rfl rfl,Ev.aj rfl rfl,trivial⟩ rfl (fun B' ob' hB' c' _=>?_);conv=>whnf));conv=>whnf) | ((with_reducible refine Ev.dG ?_);(first | refine Ev.dr 18 [83] [0,1,2,3,4,5,6,7,8] ?_ | refine Ev.dr 21 [83] [0,1,2,3,4,5,6] ?_ | refine Ev.dr 13 [83] [0,1,2,3,4,5,6,7,8,9] ?_ | refine Ev.dr 15 [83] [0,1,5,2,3,4,6,7,8,9] ?_);intro Q hQ;(simp only [Ev.ak,Ev.au]);conv=>whnf) | refine' Ev.zT | fail)
      refine Ev.zA (k') ⟨?_,va,vb,v,A',B',oa',ob',bf u n x,bf w n y,out,rfl,?_⟩
      exact ⟨hA',hB',hJ⟩
end Go.Proofs.YtadlnaljicikfaaDoor.aB
