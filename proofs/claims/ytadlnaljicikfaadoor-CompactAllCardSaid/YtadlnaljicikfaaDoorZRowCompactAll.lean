/- CompactAll, whatever the input, is true: the row and its tied card. No condition. -/
import Derived.Test.YtadlnaljicikfaaDoorZC11
set_option linter.unusedVariables false
set_option linter.unusedSimpArgs false
namespace Go.Proofs.YtadlnaljicikfaaDoor
open Go Go.ChangeShapes Go.WideShapes Go.ChangeAt Go.RowKit
open Go.ChangeMaps (open_string shut_string)
theorem uK:Rows.compactAllRow.laid = Rows.historyKeepsRow.laid:=by rfl
set_option maxRecDepth 100000 in
theorem AY (os:Os) (started:os.Started) (H:Type) (enc:TypeId × Value -> H) :
    ReturnsInHanded {} Tryd.checked os 13 .any (fun w args=>(Rows.compactAllSpec.pre enc Tryd.prog Tryd.f13 [] false w args /\ laidMetH Tryd.prog Rows.compactAllRow.laid w) /\ sizedMet enc Tryd.prog Tryd.f13 (OpenSpec.ofChange Rows.compactAllSpec) false w args)
      (Rows.compactAllSpec.post enc Tryd.prog Tryd.f13 false true false false):=by
  refine returnsInHanded_of_change_and (C:=Tryd.checked) (X:=fun w _=>laidMetH Tryd.prog Rows.compactAllRow.laid w) (fun _ _ _ hh h=>h.of_heap hh) own started (by kernel_rfl) Tryd.func13
    (ChangeSpec.witness_at (enc:=enc) (C:=Tryd.checked) (os:=os) (X:=fun w _=>laidMetH Tryd.prog Rows.compactAllRow.laid w) false (laidWorld os) #[.agg #[.string ⟨#[]⟩,.slice none 0 0,.slice none 0 0],.agg #[.slice none 0 0,.int .i64 0]] 8 rfl (by kernel_rfl) (by kernel_rfl) (by kernel_rfl) (by kernel_rfl) (by kernel_rfl) (by rw [uK];exact nK os _)) ?_
  intro W base args ds gs before hval0 hW _ _ hL _
  have hval:∀ (j:Nat) t v,Tryd.f13.params[j]? = some t -> args[j]? = some v -> Value.okWide Tryd.prog W .any base t v:=hval0
  have hW':=hW
  obtain ⟨p,q,hA0,hV,rfl,hfz,hnd⟩:=hW
  have hA:DataW.TrodAll enc Tryd.prog W 0 (fun _=>true) true Tryd.f13.params.toList args.toList ds p:=hA0
  rw [Tryd.params13] at hA hval
  obtain ⟨v0,vs0,d0,ds0,p0,q0,hargs,rfl,rfl,h0,r0⟩:=trodAll_cons hA
  obtain ⟨v1,vs1,d1,ds1,p1,q1,rfl,rfl,rfl,h1,r1⟩:=trodAll_cons r0
  obtain ⟨rfl,rfl,rfl⟩:=trodAll_nil r1
  obtain rfl:args = #[v0,v1]:=by cases args;simp_all
  obtain ⟨rfl,rfl⟩:=trodVars_none hV
  have w0:=hval 0 27 v0 rfl rfl
  obtain ⟨a0,g0,b0⟩:=(aB.Opn.agg (show aB.Opn Tryd.prog W 27 _ _ from (aB.Opn.st3 Tryd.underlying27 (by kernel_rfl) ⟨rfl,rfl,rfl⟩ ⟨by kernel_rfl,by kernel_rfl,by kernel_rfl⟩ (aB.Opn.str Tryd.underlying9) (aB.Opn.slice (sz:=1) Tryd.underlying25 (by kernel_rfl) (by decide) (fun _=>rfl) (aB.Opn.int Tryd.underlying3)) (aB.Opn.slice (sz:=1) Tryd.underlying22 (by kernel_rfl) (by decide) (fun _=>rfl) (aB.Opn.slice (sz:=3) Tryd.underlying23 (by kernel_rfl) (by decide) (fun _=>rfl) (aB.Opn.span (aB.Opn.st3 Tryd.underlying35 (by kernel_rfl) ⟨rfl,rfl,rfl⟩ ⟨by kernel_rfl,by kernel_rfl,by kernel_rfl⟩ (aB.Opn.int Tryd.underlying3) (aB.Opn.int Tryd.underlying3) (aB.Opn.str Tryd.underlying9))))))) h0 (aB.uh Tryd.underlying27 w0))
  have w1:=hval 1 85 v1 rfl rfl
  obtain ⟨a1,g1,b1⟩:=(aB.Opn.agg (show aB.Opn Tryd.prog W 85 _ _ from (aB.Opn.st2 Tryd.underlying85 (by kernel_rfl) ⟨rfl,rfl⟩ ⟨by kernel_rfl,by kernel_rfl⟩ (aB.Opn.slice (sz:=1) Tryd.underlying25 (by kernel_rfl) (by decide) (fun _=>rfl) (aB.Opn.int Tryd.underlying3)) (aB.Opn.int Tryd.underlying3))) h1 (aB.uh Tryd.underlying85 w1))
  have hG:=iV (by rw [uK] at hL;exact hL)
  have hC:=aB.DV ⟨a0.1,a0.2.1,a0.2.2⟩ a1.1 a1.2
  refine (aB.qX hC (vs:=#[v0,v1]) hG rfl (fun i x v hx hv=>?_)).mono ?_
  · rcases i with _ | _ | i <;> simp at hx hv <;> subst hx <;> subst hv <;> assumption
  rintro e W' ⟨rfl,bel⟩
  exact ⟨_,rfl,_,_,_,[],_,[],hW',trodAll_mk1 (shut_bool Tryd.underlying4 _),trodAll_cons_mk (Below.trod (by kernel_rfl) (by kernel_rfl) (of_decide_eq_true (by kernel_rfl)) h0 bel (let ⟨_,hf⟩:=h0;DataW.trod_lt _ _ _ _ hf)) (trodAll_cons_mk (Below.trod (by kernel_rfl) (by kernel_rfl) (of_decide_eq_true (by kernel_rfl)) h1 bel (let ⟨_,hf⟩:=h1;DataW.trod_lt _ _ _ _ hf)) (trodAll_mk0)),rfl,bel.frame _,fun h=>by cases h⟩
theorem AZ:joinedFacts Tryd.checked.prog 13 Tryd.f13 Rows.compactAllSpec Rows.compactAllRow = true:=by
 unfold joinedFacts;rw [lQ,lS,nM];kernel_rfl
theorem CW:Rows.CompactAllSaid :=
 OpenClaim.holds_of_wide 13 Tryd.f13 rfl rfl rfl rfl rfl rfl rfl ⟨rfl,rfl,rfl,rfl,rfl⟩ rfl rfl rfl rfl rfl (by kernel_rfl) Tryd.func13 AZ
   (of_decide_eq_true (by kernel_rfl)) (by unfold Func.isWrapper;first | (rw [if_pos (by decide +kernel)];kernel_rfl) | (rw [if_neg (by decide +kernel)];exact ⟨rfl,rfl⟩))
   (fun os started H enc _=>AY os started H enc)
theorem compactAll_card_holds:Rows.CompactAllCardSaid :=
 Claim7.holds_tied_plain_at .later [] [.data,.data,.pinned] true (true,"8cfac6e2e416323f8e197ee86058fe9ea384c7c01e00caf80bac7b31fc9ad4bf") false
   CW (fun _ h=>by cases h) (by kernel_rfl) (fun _ h=>by cases h) compactAll_row_tie rfl ⟨rfl,rfl⟩ nN rfl
   (fun f fn hf hfn=>by
     obtain rfl:f = 13:=Option.some.inj ((show Tryd.prog.funcNamed "epitome/epitomelaw20.CompactAll" = some 13 by kernel_rfl).symm.trans hf) |>.symm
     obtain rfl:fn = Tryd.f13:=(Option.some.inj (Tryd.func13.symm.trans hfn)).symm
     exact ⟨by kernel_rfl,fun j t ht=>by
       rw [Tryd.params13] at ht
       have h3:t = 27 ∨ t = 85:=by
         rcases j with _ | _ | j <;> simp at ht <;> subst ht <;> simp
       rcases h3 with rfl | rfl
       · exact (show Tryd.prog.wantsStandIn 27 = false by kernel_rfl)
       · exact (show Tryd.prog.wantsStandIn 85 = false by kernel_rfl)⟩)
   (by kernel_rfl)
end Go.Proofs.YtadlnaljicikfaaDoor
