/- CompactFloor, whatever the input, is true: the row and its tied card. No condition. -/
import Derived.Test.YtadlnaljicikfaaDoorZCompactFloor12
set_option linter.unusedVariables false
set_option linter.unusedSimpArgs false
namespace Go.Proofs.YtadlnaljicikfaaDoor
open Go Go.ChangeShapes Go.WideShapes Go.ChangeAt Go.RowKit
open Go.ChangeMaps (open_string shut_string)
theorem qF:Rows.compactFloorRow.laid = Rows.historyKeepsRow.laid:=by rfl
set_option maxRecDepth 100000 in
theorem xO (os:Os) (started:os.Started) (H:Type) (enc:TypeId × Value -> H) :
    ReturnsInHanded {} Tryd.checked os 17 .any (fun w args=>(Rows.compactFloorSpec.pre enc Tryd.prog Tryd.f17 [] false w args /\ laidMetH Tryd.prog Rows.compactFloorRow.laid w) /\ sizedMet enc Tryd.prog Tryd.f17 (OpenSpec.ofChange Rows.compactFloorSpec) false w args)
      (Rows.compactFloorSpec.post enc Tryd.prog Tryd.f17 false true false false):=by
  refine returnsInHanded_of_change_and (C:=Tryd.checked) (X:=fun w _=>laidMetH Tryd.prog Rows.compactFloorRow.laid w) (fun _ _ _ hh h=>h.of_heap hh) own started (by kernel_rfl) Tryd.func17
    (ChangeSpec.witness_at (enc:=enc) (C:=Tryd.checked) (os:=os) (X:=fun w _=>laidMetH Tryd.prog Rows.compactFloorRow.laid w) false (laidWorld os) #[.string ⟨#[]⟩,.slice none 0 0,.agg #[.int .u8 0,.int .u8 0]] 8 rfl (by kernel_rfl) (by kernel_rfl) (by kernel_rfl) (by kernel_rfl) (by kernel_rfl) (by rw [qF];exact nK os _)) ?_
  intro W base args ds gs before hval0 hW _ _ hL _
  have hval:∀ (j:Nat) t v,Tryd.f17.params[j]? = some t -> args[j]? = some v -> Value.okWide Tryd.prog W .any base t v:=hval0
  have hW':=hW
  obtain ⟨p,q,hA0,hV,rfl,hfz,hnd⟩:=hW
  have hA:DataW.TrodAll enc Tryd.prog W 0 (fun _=>true) true Tryd.f17.params.toList args.toList ds p:=hA0
  rw [Tryd.params17] at hA hval
  obtain ⟨v0,vs0,d0,ds0,p0,q0,hargs,rfl,rfl,h0,r0⟩:=trodAll_cons hA
  obtain ⟨v1,vs1,d1,ds1,p1,q1,rfl,rfl,rfl,h1,r1⟩:=trodAll_cons r0
  obtain ⟨v2,vs2,d2,ds2,p2,q2,rfl,rfl,rfl,h2,r2⟩:=trodAll_cons r1
  obtain ⟨rfl,rfl,rfl⟩:=trodAll_nil r2
  obtain rfl:args = #[v0,v1,v2]:=by cases args;simp_all
  obtain ⟨rfl,rfl⟩:=trodVars_none hV
  have w0:=hval 0 9 v0 rfl rfl
  obtain ⟨a0,g0,b0⟩:∃ a:ByteArray,a.size <= maxLen /\ aB.dF (aB.kM W) (.v (.string a)) v0:=by
    obtain ⟨n,e,_,_,w⟩:=open_string Tryd.underlying9 w0 h0
    exact ⟨n,w,by rw [e];exact .v _⟩
  have w1:=hval 1 22 v1 rfl rfl
  obtain ⟨a1,g1,b1⟩:=(aB.Opn.one (show aB.Opn Tryd.prog W 22 _ _ from (aB.Opn.slice (sz:=1) Tryd.underlying22 (by kernel_rfl) (by decide) (fun _=>rfl) (aB.Opn.slice (sz:=3) Tryd.underlying23 (by kernel_rfl) (by decide) (fun _=>rfl) (aB.Opn.span (aB.Opn.st3 Tryd.underlying35 (by kernel_rfl) ⟨rfl,rfl,rfl⟩ ⟨by kernel_rfl,by kernel_rfl,by kernel_rfl⟩ (aB.Opn.int Tryd.underlying3) (aB.Opn.int Tryd.underlying3) (aB.Opn.str Tryd.underlying9)))))) h1 (aB.mM Tryd.underlying22 w1))
  have w2:=hval 2 71 v2 rfl rfl
  obtain ⟨a2,g2,b2⟩:=(aB.Opn.agg (show aB.Opn Tryd.prog W 71 _ _ from (aB.Opn.arr Tryd.underlying71 (by kernel_rfl) (by kernel_rfl) (aB.Opn.int Tryd.underlying5))) h2 (aB.UO Tryd.underlying71 w2))
  have hG:=iV (by rw [qF] at hL;exact hL)
  obtain ⟨x,y,rfl⟩:∃ x y:Int,a2 = [x,y]:=by
    have hl:=g2.1
    rcases a2 with _ | ⟨x,_ | ⟨y,_ | ⟨z,l⟩⟩⟩ <;> simp at hl
    exact ⟨_,_,rfl⟩
  have hC:=aB.Bf a0 a1 x y (by have:=bounds_u8 (g2.2 x (by simp));omega) (by have:=bounds_u8 (g2.2 y (by simp));omega)
  refine (aB.qX hC (vs:=#[v0,v1,v2]) hG rfl (fun i x v hx hv=>?_)).mono ?_
  · rcases i with _ | _ | _ | i <;> simp at hx hv <;> subst hx <;> subst hv <;> assumption
  rintro e W' ⟨rfl,bel⟩
  exact ⟨_,rfl,_,_,_,[],_,[],hW',trodAll_mk1 (shut_bool Tryd.underlying4 _),trodAll_cons_mk (Below.trod (by kernel_rfl) (by kernel_rfl) (of_decide_eq_true (by kernel_rfl)) h0 bel (let ⟨_,hf⟩:=h0;DataW.trod_lt _ _ _ _ hf)) (trodAll_cons_mk (Below.trod (by kernel_rfl) (by kernel_rfl) (of_decide_eq_true (by kernel_rfl)) h1 bel (let ⟨_,hf⟩:=h1;DataW.trod_lt _ _ _ _ hf)) (trodAll_cons_mk (Below.trod (by kernel_rfl) (by kernel_rfl) (of_decide_eq_true (by kernel_rfl)) h2 bel (let ⟨_,hf⟩:=h2;DataW.trod_lt _ _ _ _ hf)) (trodAll_mk0))),rfl,bel.frame _,fun h=>by cases h⟩
theorem xP:joinedFacts Tryd.checked.prog 17 Tryd.f17 Rows.compactFloorSpec Rows.compactFloorRow = true:=by
 unfold joinedFacts;rw [lQ,lS,nM];kernel_rfl
theorem y9:Rows.CompactFloorSaid :=
 OpenClaim.holds_of_wide 17 Tryd.f17 rfl rfl rfl rfl rfl rfl rfl ⟨rfl,rfl,rfl,rfl,rfl⟩ rfl rfl rfl rfl rfl (by kernel_rfl) Tryd.func17 xP
   (of_decide_eq_true (by kernel_rfl)) (by unfold Func.isWrapper;first | (rw [if_pos (by decide +kernel)];kernel_rfl) | (rw [if_neg (by decide +kernel)];exact ⟨rfl,rfl⟩))
   (fun os started H enc _=>xO os started H enc)
theorem compactFloor_card_holds:Rows.CompactFloorCardSaid :=
 Claim7.holds_tied_plain_at .later [] [.data,.data,.pinned] true (true,"8cfac6e2e416323f8e197ee86058fe9ea384c7c01e00caf80bac7b31fc9ad4bf") false
   y9 (fun _ h=>by cases h) (by kernel_rfl) (fun _ h=>by cases h) compactFloor_row_tie rfl ⟨rfl,rfl⟩ nN rfl
   (fun f fn hf hfn=>by
     obtain rfl:f = 17:=Option.some.inj ((show Tryd.prog.funcNamed "epitome/epitomelaw20.CompactFloor" = some 17 by kernel_rfl).symm.trans hf) |>.symm
     obtain rfl:fn = Tryd.f17:=(Option.some.inj (Tryd.func17.symm.trans hfn)).symm
     exact ⟨by kernel_rfl,fun j t ht=>by
       rw [Tryd.params17] at ht
       have h3:t = 9 ∨ t = 22 ∨ t = 71:=by
         rcases j with _ | _ | _ | j <;> simp at ht <;> subst ht <;> simp
       rcases h3 with rfl | rfl | rfl
       · exact (show Tryd.prog.wantsStandIn 9 = false by kernel_rfl)
       · exact (show Tryd.prog.wantsStandIn 22 = false by kernel_rfl)
       · exact (show Tryd.prog.wantsStandIn 71 = false by kernel_rfl)⟩)
   (by kernel_rfl)
end Go.Proofs.YtadlnaljicikfaaDoor
