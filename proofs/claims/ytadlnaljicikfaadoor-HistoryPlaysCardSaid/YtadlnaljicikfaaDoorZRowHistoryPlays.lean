/- HistoryPlays, whatever the input, is true: the row and its tied card. No condition. -/
import Derived.Test.YtadlnaljicikfaaDoorZN12
set_option linter.unusedVariables false
set_option linter.unusedSimpArgs false
namespace Go.Proofs.YtadlnaljicikfaaDoor
open Go Go.ChangeShapes Go.WideShapes Go.ChangeAt Go.RowKit
open Go.ChangeMaps (open_string shut_string)
theorem oC:Rows.historyPlaysRow.laid = Rows.historyKeepsRow.laid:=by rfl
set_option maxRecDepth 100000 in
theorem uz (os:Os) (started:os.Started) (H:Type) (enc:TypeId × Value -> H) :
    ReturnsInHanded {} Tryd.checked os 11 .any (fun w args=>(Rows.historyPlaysSpec.pre enc Tryd.prog Tryd.f11 [] false w args /\ laidMetH Tryd.prog Rows.historyPlaysRow.laid w) /\ sizedMet enc Tryd.prog Tryd.f11 (OpenSpec.ofChange Rows.historyPlaysSpec) false w args)
      (Rows.historyPlaysSpec.post enc Tryd.prog Tryd.f11 false true false false):=by
  refine returnsInHanded_of_change_and (C:=Tryd.checked) (X:=fun w _=>laidMetH Tryd.prog Rows.historyPlaysRow.laid w) (fun _ _ _ hh h=>h.of_heap hh) own started (by kernel_rfl) Tryd.func11
    (ChangeSpec.witness_at (enc:=enc) (C:=Tryd.checked) (os:=os) (X:=fun w _=>laidMetH Tryd.prog Rows.historyPlaysRow.laid w) false (laidWorld os) #[.string ⟨#[]⟩,.slice none 0 0,.agg #[.slice none 0 0,.int .i64 0,.int .i64 0]] 8 rfl (by kernel_rfl) (by kernel_rfl) (by kernel_rfl) (by kernel_rfl) (by kernel_rfl) (by rw [oC];exact OQ os _)) ?_
  intro W base args ds gs before hval0 hW _ _ hL _
  have hval:∀ (j:Nat) t v,Tryd.f11.params[j]? = some t -> args[j]? = some v -> Value.okWide Tryd.prog W .any base t v:=hval0
  have hW':=hW
  obtain ⟨p,q,hA0,hV,rfl,hfz,hnd⟩:=hW
  have hA:DataW.TrodAll enc Tryd.prog W 0 (fun _=>true) true Tryd.f11.params.toList args.toList ds p:=hA0
  rw [Tryd.params11] at hA hval
  obtain ⟨v0,vs0,d0,ds0,p0,q0,hargs,rfl,rfl,h0,r0⟩:=trodAll_cons hA
  obtain ⟨v1,vs1,d1,ds1,p1,q1,rfl,rfl,rfl,h1,r1⟩:=trodAll_cons r0
  obtain ⟨v2,vs2,d2,ds2,p2,q2,rfl,rfl,rfl,h2,r2⟩:=trodAll_cons r1
  obtain ⟨rfl,rfl,rfl⟩:=trodAll_nil r2
  obtain rfl:args = #[v0,v1,v2]:=by cases args;simp_all
  obtain ⟨rfl,rfl⟩:=trodVars_none hV
  have w0:=hval 0 9 v0 rfl rfl
  obtain ⟨a0,g0,b0⟩:∃ a:ByteArray,a.size <= maxLen /\ aI.cZ (aI.oh W) (.v (.string a)) v0:=by
    obtain ⟨n,e,_,_,w⟩:=open_string Tryd.underlying9 w0 h0
    exact ⟨n,w,by rw [e];exact .v _⟩
  have w1:=hval 1 22 v1 rfl rfl
  obtain ⟨a1,g1,b1⟩:=(aI.Opn.one (show aI.Opn Tryd.prog W 22 _ _ from (aI.Opn.slice (sz:=1) Tryd.underlying22 (by kernel_rfl) (by decide) (fun _=>rfl) (aI.Opn.slice (sz:=3) Tryd.underlying23 (by kernel_rfl) (by decide) (fun _=>rfl) (aI.Opn.span (aI.Opn.st3 Tryd.underlying35 (by kernel_rfl) ⟨rfl,rfl,rfl⟩ ⟨by kernel_rfl,by kernel_rfl,by kernel_rfl⟩ (aI.Opn.int Tryd.underlying3) (aI.Opn.int Tryd.underlying3) (aI.Opn.str Tryd.underlying9)))))) h1 (aI.GZ Tryd.underlying22 w1))
  have w2:=hval 2 74 v2 rfl rfl
  obtain ⟨a2,g2,b2⟩:=(aI.Opn.agg (show aI.Opn Tryd.prog W 74 _ _ from (aI.Opn.st3 Tryd.underlying74 (by kernel_rfl) ⟨rfl,rfl,rfl⟩ ⟨by kernel_rfl,by kernel_rfl,by kernel_rfl⟩ (aI.Opn.slice (sz:=3) Tryd.underlying23 (by kernel_rfl) (by decide) (fun _=>rfl) (aI.Opn.span (aI.Opn.st3 Tryd.underlying35 (by kernel_rfl) ⟨rfl,rfl,rfl⟩ ⟨by kernel_rfl,by kernel_rfl,by kernel_rfl⟩ (aI.Opn.int Tryd.underlying3) (aI.Opn.int Tryd.underlying3) (aI.Opn.str Tryd.underlying9)))) (aI.Opn.int Tryd.underlying3) (aI.Opn.int Tryd.underlying3))) h2 (aI.JL Tryd.underlying74 w2))
  have hG:=CQ (by rw [oC] at hL;exact hL)
  have hC:=aI.xR a0 a1 a2.1 a2.2.1 a2.2.2
  refine (aI.SH hC (vs:=#[v0,v1,v2]) hG rfl (fun i x v hx hv=>?_)).mono ?_
  · rcases i with _ | _ | _ | i <;> simp at hx hv <;> subst hx <;> subst hv <;> assumption
  rintro e W' ⟨rfl,bel⟩
  exact ⟨_,rfl,_,_,_,[],_,[],hW',trodAll_mk1 (shut_bool Tryd.underlying4 _),trodAll_cons_mk (Below.trod (by kernel_rfl) (by kernel_rfl) (of_decide_eq_true (by kernel_rfl)) h0 bel (let ⟨_,hf⟩:=h0;DataW.trod_lt _ _ _ _ hf)) (trodAll_cons_mk (Below.trod (by kernel_rfl) (by kernel_rfl) (of_decide_eq_true (by kernel_rfl)) h1 bel (let ⟨_,hf⟩:=h1;DataW.trod_lt _ _ _ _ hf)) (trodAll_cons_mk (Below.trod (by kernel_rfl) (by kernel_rfl) (of_decide_eq_true (by kernel_rfl)) h2 bel (let ⟨_,hf⟩:=h2;DataW.trod_lt _ _ _ _ hf)) (trodAll_mk0))),rfl,bel.frame _,fun h=>by cases h⟩
theorem uD:joinedFacts Tryd.checked.prog 11 Tryd.f11 Rows.historyPlaysSpec Rows.historyPlaysRow = true:=by
 unfold joinedFacts;rw [JQ,JR,OT];kernel_rfl
theorem vU:Rows.HistoryPlaysSaid :=
 OpenClaim.holds_of_wide 11 Tryd.f11 rfl rfl rfl rfl rfl rfl rfl ⟨rfl,rfl,rfl,rfl,rfl⟩ rfl rfl rfl rfl rfl (by kernel_rfl) Tryd.func11 uD
   (of_decide_eq_true (by kernel_rfl)) (by unfold Func.isWrapper;first | (rw [if_pos (by decide +kernel)];kernel_rfl) | (rw [if_neg (by decide +kernel)];exact ⟨rfl,rfl⟩))
   (fun os started H enc _=>uz os started H enc)
theorem historyPlays_card_holds:Rows.HistoryPlaysCardSaid :=
 Claim7.holds_tied_plain_at .later [] [.data,.data,.pinned] true (true,"8cfac6e2e416323f8e197ee86058fe9ea384c7c01e00caf80bac7b31fc9ad4bf") false
   vU (fun _ h=>by cases h) (by kernel_rfl) (fun _ h=>by cases h) historyPlays_row_tie rfl ⟨rfl,rfl⟩ OW rfl
   (fun f fn hf hfn=>by
     obtain rfl:f = 11:=Option.some.inj ((show Tryd.prog.funcNamed "epitome/epitomelaw17.HistoryPlays" = some 11 by kernel_rfl).symm.trans hf) |>.symm
     obtain rfl:fn = Tryd.f11:=(Option.some.inj (Tryd.func11.symm.trans hfn)).symm
     exact ⟨by kernel_rfl,fun j t ht=>by
       rw [Tryd.params11] at ht
       have h3:t = 9 ∨ t = 22 ∨ t = 74:=by
         rcases j with _ | _ | _ | j <;> simp at ht <;> subst ht <;> simp
       rcases h3 with rfl | rfl | rfl
       · exact (show Tryd.prog.wantsStandIn 9 = false by kernel_rfl)
       · exact (show Tryd.prog.wantsStandIn 22 = false by kernel_rfl)
       · exact (show Tryd.prog.wantsStandIn 74 = false by kernel_rfl)⟩)
   (by kernel_rfl)
end Go.Proofs.YtadlnaljicikfaaDoor
