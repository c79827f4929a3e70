/- A part of the proof: a calculus over values, and contracts of functions. No condition. -/
import Derived.Test.YtadlnaljicikfaaDoorZN3
import Derived.Defers
set_option linter.unusedVariables false
set_option linter.unusedSimpArgs false
namespace Go.Proofs.YtadlnaljicikfaaDoor.aI
open Go Go.RowKit
namespace Ev
def RS (cl:Call):Bool:=match cl.callee with | .builtin .min=>true | _=>false
theorem Ws {cl:Call} (h:RS cl = true):cl.callee = .builtin .min:=by
 unfold RS at h;split at h
 · assumption
 · cases h
def GI (E:Env) (sl:List (Nat × AV)):Op -> Bool
 | .indexAddr _ x _=>(match aZ E sl x with | some (.lst _ _)=>true | _=>false)
 | .load _ p=>(match aZ E sl p with | some (.fO _)=>true | _=>false)
 | .convert _ _ x=>(match aZ E sl x with | some (.lst _ _)=>true | some (.v _)=>true | _=>false)
 | .binOp _ _ x y _=>(match aZ E sl x,aZ E sl y with | some (.v (.int _ _)),some (.v (.int _ _))=>true | _,_=>false)
 | .slice _ x _ _ _=>(match aZ E sl x with | some (.lst _ _)=>true | some (.v _)=>true | _=>false)
 | .build _ _=>true
 | .call cl=>RS cl
 | _=>false
def rU:Op -> Bool
 | .binOp _ _ _ _ _=>true
 | .slice _ _ _ _ _=>true
 | .build _ _=>true
 | .call cl=>RS cl || Qq cl
 | op=>oG op
def wP (E:Env) (sl:List (Nat × AV)) (a:Ins):Bool:=match a.g with | none=>GI E sl a.op | some _=>false
section
variable {E:Env} {T:Tab} {hs:List FuncId} {sl sl':List (Nat × AV)} {hp hp':List (Nat × aG)} {ct nm base:Nat}
theorem agv{G:Prop}(h:G:=by rename_i h1 h2;exact ⟨_,h,fun hp' K' h'=>by simp only [nM,h1,h2];exact h'⟩):G:=h
theorem Oz {src dst:TypeId} {a:AV} (ha:(∃ s xs,a = .lst s xs) ∨ ∃ v,a = .v v) {K:AV -> Prop} (h:nM T src dst hp a K):∃ x,K x /\ ∀ (hp':List (Nat × aG)) (K':AV -> Prop),K' x -> nM T src dst hp' a K':=by
 have els:∀ {K:List (List AV) -> Prop},uw hp a K -> ∃ xs,K xs /\ ∀ (hp':List (Nat × aG)) (K':List (List AV) -> Prop),K' xs -> uw hp' a K':=by
   intro K h
   unfold uw at h
   try simp only [bF] at h
   split at h
   · rename_i xs;exact ⟨_,h,fun hp' K' h'=>h'⟩
   · exact ⟨_,h,fun hp' K' h'=>h'⟩
   · rcases ha with ⟨_,_,e⟩ | ⟨_,e⟩ <;> cases e
   · exact h.elim
 unfold nM at h
 split at h
 · refine' agv
 · refine' agv
 · rename_i h1 h2
   split at h
   · rename_i h3;exact ⟨_,h,fun hp' K' h'=>by simp only [nM,h1,h2,h3];exact h'⟩
   · rename_i h3;exact ⟨_,h.2,fun hp' K' h'=>by simp only [nM,h1,h2,h3];exact ⟨h.1,h'⟩⟩
   · exact h.elim
 · rename_i h1 h2
   split at h
   · rename_i h3
     obtain ⟨xs,h4,h5⟩:=els h
     obtain ⟨bs,hb,h6⟩:=qw h4
     exact ⟨_,h6,fun hp' K' h'=>by simp only [nM,h1,h2,h3];exact h5 hp' _ (CY bs hb h')⟩
   · rename_i h3
     obtain ⟨xs,h4,h5⟩:=els h
     obtain ⟨bs,hb,h6⟩:=qx h4
     exact ⟨_,h6,fun hp' K' h'=>by simp only [nM,h1,h2,h3];exact h5 hp' _ (CZ bs hb h')⟩
   · exact h.elim
 · exact h.elim
theorem JF {op:BinOp} {k:IntKind} {a b:Int} {K:Value -> Prop} (h:Ez op k a b K):∃ v,K v /\ ∀ K':Value -> Prop,K' v -> Ez op k a b K':=by
 cases op <;> simp only [Ez] at h ⊢ <;> first | exact ⟨_,h,fun K' h'=>h'⟩ | exact ⟨_,h.2,fun K' h'=>⟨h.1,h'⟩⟩
theorem y9 {places:List (Nat × Nat)}:∀ (l:List (Nat × AV)) {cells:List AV} {K:List AV -> Prop},uM places cells l K -> ∃ cs,K cs /\ ∀ K':List AV -> Prop,K' cs -> uM places cells l K'
 | [],cells,K,h=>⟨cells,h,fun K' h'=>h'⟩
 | (i,x) :: l,cells,K,h=>by
   simp only [uM] at h ⊢
   split at h
   · rename_i off size cs h1 h2
     obtain ⟨hb,h⟩:=eH h
     obtain ⟨cs',h3,h4⟩:=y9 l h
     exact ⟨cs',h3,fun K' h'=>mV (h4 K' h') hb⟩
   · exact h.elim
theorem agy{G:Prop}(h:G:=by exact ⟨_,_,h.2,fun K' h'=>⟨h.1,h'⟩⟩):G:=h
theorem vw {len:Nat} {lo hi:Option Int} {K:Nat -> Nat -> Prop} (h:zI len lo hi K):∃ a b,K a b /\ ∀ K':Nat -> Nat -> Prop,K' a b -> zI len lo hi K':=by
 unfold zI at h ⊢
 split at h
 · exact ⟨_,_,h,fun K' h'=>h'⟩
 · refine' agy
 · refine' agy
 · refine' agy
theorem ad7{G:Prop}(h:G:=by
 rename_i h1
 obtain ⟨p,q,h2,h3⟩:=vw h
 exact ⟨_,h2,fun hp' K' h'=>by simp only [iZ,h1];exact h3 _ h'⟩):G:=h
theorem rV {t:TypeId} {a:AV} {lo hi mx:Option Int} (ha:(∃ s xs,a = .lst s xs) ∨ ∃ v,a = .v v) {K:AV -> Prop} (h:iZ T t hp a lo hi mx K):∃ x,K x /\ ∀ (hp':List (Nat × aG)) (K':AV -> Prop),K' x -> iZ T t hp' a lo hi mx K':=by
 unfold iZ at h
 split at h
 · split at h
   · refine' ad7
   · exact h.elim
 · split at h
   · refine' ad7
   · exact h.elim
 · split at h
   · rename_i h1
     obtain ⟨hb,h⟩:=eH h
     obtain ⟨p,q,h2,h3⟩:=vw h
     cases mx with
     | none=>exact ⟨_,h2,fun hp' K' h'=>by simp only [iZ,h1];exact mV (h3 _ h') hb⟩
     | some m=>exact ⟨_,h2.2,fun hp' K' h'=>by simp only [iZ,h1];exact mV (h3 _ ⟨h2.1,h'⟩) hb⟩
   · exact h.elim
 · rcases ha with ⟨_,_,e⟩ | ⟨_,e⟩ <;> cases e
 · exact h.elim
theorem aei{G:Prop}(h:G:=by (rw [<- og (sl:=sl) (sl':=sl') (fun t ht=>(hu t ht).symm)]);all_goals(rcases(⟨_⟩:PLift _)with⟨h⟩;exact h)):G:=h
theorem Dv {op:Op} {R:AV -> List (Nat × aG) -> Nat -> Prop} (hs':rU op = true) (hpu:GI E sl op = true) (h:bP E T hs nm op sl hp ct R) :
   ∃ x,R x hp ct /\ ∀ (sl':List (Nat × AV)) (hp':List (Nat × aG)) (aW:Nat) (R':AV -> List (Nat × aG) -> Nat -> Prop),(∀ t ∈ uses op,get sl' t = get sl t) -> R' x hp' aW -> bP E T hs nm op sl' hp' aW R':=by
 cases op <;> simp only [GI,Bool.false_eq_true] at hpu <;> simp only [bP] at h
 case slice t x lo hi mx =>
   split at h
   · rename_i a l h0 m h1 h2 h3 h4
     have ha:(∃ s xs,a = .lst s xs) ∨ ∃ v,a = .v v:=by
       rw [h1] at hpu
       cases a with
       | lst s xs=>exact .inl ⟨_,_,rfl⟩
       | v v=>exact .inr ⟨_,rfl⟩
       | _=>simp at hpu
     obtain ⟨z,h5,h6⟩:=rV ha h
     refine ⟨z,h5,fun sl' hp' aW R' hu h'=>?_⟩
     refine' aei
     simp only [bP,h1,h2,h3,h4]
     exact h6 hp' _ h'
   · exact h.elim
 case build t parts =>
   split at h
   · rename_i z places l h1 h2
     obtain ⟨cs,h3,h4⟩:=y9 l h
     refine ⟨_,h3,fun sl' hp' aW R' hu h'=>?_⟩
     refine' aei
     simp only [bP,h1,h2]
     exact h4 _ h'
   · exact h.elim
 case call cl =>
   have hce:=Ws hpu
   unfold uN at h
   split at h
   all_goals first | (rename_i h1 _ _;rw [hce] at h1;cases h1;done) | (rename_i h1 _;rw [hce] at h1;cases h1;done) | (rename_i h1;rw [hce] at h1;cases h1;done) | skip
   · rename_i x y h1 h2
     split at h
     · rename_i k a k' b ha hb
       refine ⟨_,h,fun sl' hp' aW R' hu h'=>?_⟩
       refine' aei
       simp only [bP,uN,hce,h2,ha,hb]
       exact h'
     · exact h.elim
   · exact h.elim
 case binOp o t x y c =>
   have cx:∀ sl',(∀ t' ∈ uses (Op.binOp o t x y c),get sl' t' = get sl t') -> aZ E sl' x = aZ E sl x:=fun sl' hu=>aH (fun t ht=>hu t (by simp only [uses];exact List.mem_append_left _ ht))
   have cy:∀ sl',(∀ t' ∈ uses (Op.binOp o t x y c),get sl' t' = get sl t') -> aZ E sl' y = aZ E sl y:=fun sl' hu=>aH (fun t ht=>hu t (by simp only [uses];exact List.mem_append_right _ ht))
   split at hpu
   · rename_i k1 n1 k2 n2 hx0 hy0
     rw [hx0,hy0] at h
     simp only [Gt] at h
     obtain ⟨hb,h1⟩:=eH h
     obtain ⟨v,h3,h4⟩:=JF h1
     refine ⟨_,h3,fun sl' hp' aW R' hu h'=>?_⟩
     simp only [bP,cx sl' hu,cy sl' hu,hx0,hy0,Gt]
     exact mV (h4 _ h') hb
   · cases hpu
 case convert a b x =>
   have hne:Nat.beq a b = false:=by simpa [rU,oG] using hs'
   split at h
   · rename_i y hy
     have hy':(∃ s xs,y = .lst s xs) ∨ ∃ v,y = .v v:=by
       rw [hy] at hpu
       cases y with
       | lst s xs=>exact .inl ⟨_,_,rfl⟩
       | v v=>exact .inr ⟨_,rfl⟩
       | _=>simp at hpu
     split at h
     · rename_i e;rw [hne] at e;cases e
     · obtain ⟨z,h1,h2⟩:=Oz hy' h
       refine ⟨z,h1,fun sl' hp' aW R' hu h'=>?_⟩
       simp only [bP,aH (E:=E) (x:=x) hu,hy,hne]
       exact h2 hp' _ h'
   · exact h.elim
 case load t p =>
   split at hpu
   · rename_i cs ha
     rw [ha] at h
     simp only [cellsE] at h
     obtain ⟨x,h3,h4⟩:=rP h
     refine ⟨x,h3,fun sl' hp' aW R' hu h'=>?_⟩
     simp only [bP,aH (E:=E) (x:=p) hu,ha,cellsE]
     exact h4 _ h'
   · cases hpu
 case indexAddr t x i =>
   have cx:∀ sl',(∀ t ∈ uses (Op.indexAddr t x i),get sl' t = get sl t) -> aZ E sl' x = aZ E sl x:=fun sl' hu=>aH (fun t ht=>hu t (by simp only [uses];exact List.mem_append_left _ ht))
   have ci:∀ sl',(∀ t ∈ uses (Op.indexAddr t x i),get sl' t = get sl t) -> aZ E sl' i = aZ E sl i:=fun sl' hu=>aH (fun t ht=>hu t (by simp only [uses];exact List.mem_append_right _ ht))
   split at hpu
   · rename_i z0 xs0 hx0
     split at h
     · rename_i z xs k n ha hi
       split at h
       · rename_i e sz q hl
         obtain ⟨hb,h1,h2⟩:=eH h
         obtain ⟨e',h3,h4⟩:=Dl h2
         refine ⟨_,h3,fun sl' hp' aW R' hu h'=>?_⟩
         simp only [bP,cx sl' hu,ci sl' hu,ha,hi,hl]
         exact mV ⟨h1,h4 _ h'⟩ hb
       · exact h.elim
     · rename_i r v off len k n ha hi;rw [hx0] at ha;cases ha
     · rename_i cs k n ha hi;rw [hx0] at ha;cases ha
     · rename_i r v j o k n ha hi;rw [hx0] at ha;cases ha
     · exact h.elim
   · cases hpu
theorem Bj {a:Ins} {d:Nat} {R:List (Nat × AV) -> List (Nat × aG) -> Nat -> Prop} (hd:a.dst = some d) (hs':rU a.op = true) (hpu:wP E sl a = true) (h:gZ E T hs base a sl hp ct R) :
   ∃ x sl1,ig sl1 ((d,x) :: sl) /\ R sl1 hp ct /\ ∀ (sl':List (Nat × AV)) (hp':List (Nat × aG)),(∀ t ∈ gV a,get sl' t = get sl t) -> wO E T hs base a d x sl' hp':=by
 obtain ⟨i,d0,op,g⟩:=a
 simp only at hd hs';subst hd
 cases g with
 | none =>
   simp only [gZ] at h
   obtain ⟨x,h1,h2⟩:=Dv hs' hpu h
   refine ⟨x,_,ig.refl _,h1,fun sl' hp' hu aW R' h'=>?_⟩
   simp only [gZ]
   exact h2 sl' hp' aW _ (fun t ht=>hu t (by simp only [gV];exact List.mem_append_right _ ht)) (h' _ (ig.refl _))
 | some g=>simp [wP] at hpu
variable {l:List Ins} {deps:List (List Nat)} {Q:St -> Prop}
def KP (ld:Bool) (hs:List FuncId) (l:List Ins) (deps:List (List Nat)) (L:List Nat) (i:Nat) (a:Ins):Prop :=
 ∀ j b,j ≠ i -> L.contains j = false -> l[j]? = some b -> (∀ ds,deps[j]? = some ds -> ds.contains i = false) -> indep a b = true /\ (ld = true -> qX hs b.op = false)
theorem jH (ld:Bool) {i d:Nat} {a:Ins} {x:AV} (hi:l[i]? = some a) (hd:a.dst = some d):∀ (n:Nat) {L:List Nat} {sl:List (Nat × AV)} {hp:List (Nat × aG)} {ct:Nat},KP ld hs l deps L i a -> qF deps L i = true ->
   (∀ (sl':List (Nat × AV)) (hp':List (Nat × aG)),(∀ t ∈ gV a,get sl' t = get sl t) -> (ld = true -> Ext hp hp') -> wO E T hs base a d x sl' hp') ->
   AnyS E T hs base l deps n (i :: L) ((d,x) :: sl) hp ct Q -> AnyS E T hs base l deps (n + 1) L sl hp ct Q
 | n,L,sl,hp,ct,hf,hr,hst,h=>by
   refine ⟨⟨i,hr⟩,fun j b hj hb=>?_⟩
   by_cases e:j = i
   · subst e
     rw [hi] at hb;obtain rfl:=Option.some.inj hb
     refine hst sl hp (fun _ _=>rfl) (fun _=>Ext.refl _) ct _ (fun sl1 h1=>?_)
     exact fJ n (fun _=>rfl) h1.symm h
   · have I5:L.contains j = false:=by unfold qF at hj;rw [Bool.and_eq_true] at hj;simpa using hj.1
     have hnd:∀ ds,deps[j]? = some ds -> ds.contains i = false:=by
       intro ds hds
       unfold qF at hj hr
       rw [Bool.and_eq_true] at hj hr
       rw [hds] at hj
       cases hc:ds.contains i with
       | false=>rfl
       | true =>
         have:=List.all_eq_true.1 hj.2 i (by simpa using hc)
         have h2:=hr.1
         rw [this] at h2;simp at h2
     obtain ⟨hin,hmu⟩:=hf j b e I5 hb hnd
     have ⟨p1,p2,p3⟩:(∀ t ∈ gV b,t ≠ d) /\ (b.dst ≠ some d) /\ (∀ d',b.dst = some d' -> d' ∉ gV a):=by
       simp only [indep,hd,Bool.and_eq_true,Bool.not_eq_true',bne_iff_ne,ne_eq] at hin
       refine ⟨fun t ht e=>?_,hin.1.2,fun d' hd' hm=>?_⟩
       · subst e;have:=hin.1.1;simp only [List.contains_eq_mem,decide_eq_false_iff_not] at this;exact this ht
       · have:=hin.2;rw [hd'] at this;simp only [Bool.not_eq_true',List.contains_eq_mem,decide_eq_false_iff_not] at this;exact this hm
     cases n with
     | zero =>
       exfalso
       have hlt:j < deps.length:=by
         unfold qF at hj;rw [Bool.and_eq_true] at hj
         cases hg:deps[j]? with
         | none=>rw [hg] at hj;simp at hj
         | some ds=>exact (List.getElem?_eq_some_iff.1 hg).1
       have:=h.1 j hlt
       rw [List.contains_cons,I5] at this
       simp at this;exact e this
     | succ n =>
       obtain ⟨_,h⟩:=h
       have hj':qF deps (i :: L) j = true:=by
         unfold qF at hj ⊢
         rw [Bool.and_eq_true] at hj ⊢
         refine ⟨by rw [List.contains_cons,I5];simp [e],?_⟩
         cases hg:deps[j]? with
         | none=>rw [hg] at hj;exact hj.2
         | some ds =>
           rw [hg] at hj
           simp only [List.all_eq_true] at hj ⊢
           intro k hk;rw [List.contains_cons,hj.2 k hk];simp
       refine iM (h j b hj' hb) (fun t ht=>by rw [au,if_neg (p1 t ht)]) (fun u hp' aW hu he h'=>?_)
       have hsw:ig (u ++ (d,x) :: sl) ((d,x) :: (u ++ sl)):=A8 (fun p hp e=>by
         rcases hu p hp with h1 | h1
         · rw [e] at h1;exact p2 h1.symm
         · exact p1 p.1 (by simp only [gV];exact List.mem_append_left _ h1.1) e)
       have h2:AnyS E T hs base l deps n (i :: j :: L) ((d,x) :: (u ++ sl)) hp' aW Q:=fJ n (fun k=>by simp only [List.contains_cons];cases (k == j) <;> cases (k == i) <;> rfl) hsw h'
       refine jH ld hi hd n (fun k c hk YI hc hcd=>hf k c hk (by rw [List.contains_cons] at YI;simp at YI;simpa using YI.2) hc hcd) ?_ ?_ h2
       · unfold qF at hr ⊢
         rw [Bool.and_eq_true] at hr ⊢
         refine ⟨by rw [List.contains_cons];have:=hr.1;simp at this ⊢;exact ⟨fun e'=>e e'.symm,this⟩,?_⟩
         cases hg:deps[i]? with
         | none=>rw [hg] at hr;exact hr.2
         | some ds =>
           rw [hg] at hr
           simp only [List.all_eq_true] at hr ⊢
           intro k hk;rw [List.contains_cons,hr.2 k hk];simp
       · intro sl2 hp2 hu2 he2
         refine hst sl2 hp2 (fun t ht=>?_) (fun hl=>(he (hmu hl)).trans (he2 hl))
         rw [hu2 t ht]
         refine EI (fun p hp e'=>?_)
         rcases hu p hp with h1 | h1
         · exact absurd ht (by rw [<- e'];exact p3 p.1 h1.symm)
         · have h2:=h1.2
           rw [au,if_neg (p1 p.1 (by simp only [gV];exact List.mem_append_left _ h1.1)),e'] at h2
           exact h2
 termination_by n=>n
def XZ (pu:Bool) (hs:List FuncId) (l:List Ins) (deps:List (List Nat)) (L:List Nat) (i:Nat) (a:Ins):Bool :=
 (List.range l.length).all fun j=>j == i || L.contains j || (match l[j]? with
   | some b=>(match deps[j]? with | some ds=>ds.contains i | none=>false) || (indep a b && (!(jw a.op && !pu) || !qX hs b.op))
   | none=>true)
def Dw (hs:List FuncId) (l:List Ins) (deps:List (List Nat)):List (Nat × Bool) -> List Nat -> Bool
 | [],L=>(List.range deps.length).all fun j=>L.contains j
 | (i,pu) :: rest,L=>qF deps L i && (KI deps L i || (match l[i]? with | some a=>(match pu with | true=>rU a.op | false=>oG a.op) && a.dst.isSome && XZ pu hs l deps L i a | none=>false)) && Dw hs l deps rest (i :: L)
def Dx (l:List Ins):List (Nat × Bool) -> Option (List (Ins × Bool))
 | []=>some []
 | (i,pu) :: r=>match l[i]?,Dx l r with | some a,some q=>some ((a,pu) :: q) | _,_=>none
def wQ (E:Env) (T:Tab) (hs:List FuncId) (base:Nat):List (Ins × Bool) -> List (Nat × AV) -> List (Nat × aG) -> Nat -> (St -> Prop) -> Prop
 | [],sl,hp,ct,Q=>wG sl E.keep [] fun sl'=>Q ⟨sl',hp,ct⟩
 | (i,false) :: rest,sl,hp,ct,Q=>gZ E T hs base i sl hp ct fun sl' hp' aW=>wQ E T hs base rest sl' hp' aW Q
 | (i,true) :: rest,sl,hp,ct,Q=>AO (wP E sl i) (gZ E T hs base i sl hp ct fun sl' hp' aW=>wQ E T hs base rest sl' hp' aW Q)
def RU (E:Env) (T:Tab) (hs:List FuncId) (base:Nat) (a:Ins) (r:List (Nat × AV) -> List (Nat × aG) -> Nat -> (St -> Prop) -> Prop):List (Nat × AV) -> List (Nat × aG) -> Nat -> (St -> Prop) -> Prop :=
 fun sl hp ct Q=>AO (wP E sl a) (gZ E T hs base a sl hp ct fun sl' hp' aW=>r sl' hp' aW Q)
theorem dw {E:Env} {T:Tab} {hs:List FuncId} {base:Nat}:wQ E T hs base [] = UQ E:=rfl
theorem bn {E:Env} {T:Tab} {hs:List FuncId} {base:Nat} {a:Ins} {l:List (Ins × Bool)}:wQ E T hs base ((a,false) :: l) = KE E T hs base a (wQ E T hs base l):=rfl
theorem bC {E:Env} {T:Tab} {hs:List FuncId} {base:Nat} {a:Ins} {l:List (Ins × Bool)}:wQ E T hs base ((a,true) :: l) = RU E T hs base a (wQ E T hs base l):=rfl
theorem EM:∀ (plan:List (Nat × Bool)) {L:List Nat} {pl:List (Ins × Bool)} {sl:List (Nat × AV)} {hp:List (Nat × aG)} {ct:Nat},Dw hs l deps plan L = true -> Dx l plan = some pl ->
   wQ E T hs base pl sl hp ct Q -> AnyS E T hs base l deps plan.length L sl hp ct Q
 | [],L,pl,sl,hp,ct,hp',hl,h=>by
   simp only [Dx,Option.some.injEq] at hl;subst hl
   simp only [wQ,mO] at h
   simp only [Dw,List.all_eq_true,List.mem_range] at hp'
   exact ⟨hp',h⟩
 | (i,pu) :: rest,L,pl,sl,hp,ct,hpl,hl,h=>by
   simp only [Dx] at hl
   split at hl
   · rename_i a q ha hq
     obtain rfl:=Option.some.inj hl
     have hpu:pu = true -> wP E sl a = true:=by
       rintro rfl
       simp only [wQ] at h
       exact (eH h).1
     have hI:gZ E T hs base a sl hp ct fun sl' hp' aW=>wQ E T hs base q sl' hp' aW Q:=by
       cases pu with
       | false=>exact h
       | true=>simp only [wQ] at h;exact (eH h).2
     simp only [Dw,Bool.and_eq_true,Bool.or_eq_true] at hpl
     obtain ⟨⟨hr,hc⟩,hrest⟩:=hpl
     rcases hc with hc | hc
     · refine ⟨⟨i,hr⟩,fun j b hj hb=>?_⟩
       have:j = i:=by
         have:=List.all_eq_true.1 hc j (by rw [List.mem_range];exact rQ hj)
         rw [hj] at this;simpa using this
       subst this
       rw [ha] at hb;obtain rfl:=Option.some.inj hb
       exact iM hI (fun _ _=>rfl) (fun u hp' aW _ _ h'=>EM rest hrest hq h')
     · rw [ha] at hc
       simp only [Bool.and_eq_true] at hc
       obtain ⟨⟨hs',hd⟩,hf⟩:=hc
       obtain ⟨d,hd⟩:=Option.isSome_iff_exists.1 hd
       have hF:KP (jw a.op && !pu) hs l deps L i a:=by
         refine fun j b hj I5 hb hcd=>?_
         have:=List.all_eq_true.1 hf j (by rw [List.mem_range];exact (List.getElem?_eq_some_iff.1 hb).1)
         rw [hb,I5] at this
         simp only [Bool.or_eq_true,beq_iff_eq,hj,Bool.false_eq_true,false_or,or_false,Bool.and_eq_true,Bool.not_eq_true'] at this
         rcases this with this | this
         · split at this
           · rename_i ds hds;rw [hcd ds hds] at this;cases this
           · cases this
         · refine ⟨this.1,fun hl=>?_⟩
           rcases this.2 with h3 | h3
           · rw [hl] at h3;cases h3
           · exact h3
       cases pu with
       | false =>
         obtain ⟨x,sl1,e1,h1,hst⟩:=yh hd hs' hI
         have h2:=fJ rest.length (fun _=>rfl) e1 (EM rest hrest hq h1)
         exact jH (jw a.op && !false) ha hd rest.length hF hr (fun sl' hp' hu he=>hst sl' hp' hu (fun hl=>he (by rw [hl];rfl))) h2
       | true =>
         obtain ⟨x,sl1,e1,h1,hst⟩:=Bj hd hs' (hpu rfl) hI
         have h2:=fJ rest.length (fun _=>rfl) e1 (EM rest hrest hq h1)
         exact jH (jw a.op && !true) ha hd rest.length hF hr (fun sl' hp' hu he=>hst sl' hp' hu) h2
   · cases hl
theorem Wu {nt:Nat} (hT:jA E.P T) (hm:E.P.follows .mixedOrders = true) (plan:List (Nat × Bool)) {K:Exit -> St -> Prop} {sl:List (Nat × AV)} {hp:List (Nat × aG)} {ct:Nat} {id:Nat} {pl:List (Ins × Bool)}
   (mW:Dw hs l deps plan [] = true) (hlen:plan.length = deps.length) (hpick:Dx l plan = some pl) (h:∀ Q:St -> Prop,(∀ s,K .normal s -> Q s) -> wQ E T hs (E.N + id * 512) pl sl hp ct Q) :
   Wp E nt (.draw id l deps) K ⟨sl,hp,ct⟩:=by
 intro c' e hok M0 w0 M J tm w inv hnt
 refine' ac1
 have h1:=EM plan mW hpick (h (K .normal) (fun _ h=>h))
 have hn:plan.length = ops.size:=by rw [hlen,Bc];simp
 refine' abh
end
end Ev
end Go.Proofs.YtadlnaljicikfaaDoor.aI
namespace Go.Proofs.YtadlnaljicikfaaDoor.aI
open Go
theorem afo{G:Prop}(h:G:=by
 refine .agg (by omega) h0 (fun i c v hc hv=>?_)
 obtain ⟨c0,hc0⟩:=get i c hc
 all_goals(rcases(⟨_⟩:PLift _)with⟨h⟩;exact h)):G:=h
theorem uy.agg {cs cs':List AV} (hn:cs.length = cs'.length) (h:∀ (i:Nat) (c c':AV),cs[i]? = some c -> cs'[i]? = some c' -> uy c c'):uy (.agg cs) (.agg cs'):=by
 intro M J v hr
 have get:∀ (i:Nat) (c':AV),cs'[i]? = some c' -> ∃ c,cs[i]? = some c:=fun i c' hc'=>by
   have:=(List.getElem?_eq_some_iff.1 hc').1
   exact ⟨cs[i]'(by omega),List.getElem?_eq_getElem (by omega)⟩
 cases hr with
 | pure hp =>
   cases hp with
   | agg h1 h0 h2 =>
     refine' afo
     exact h i c0 c hc0 hc M J v (.pure (h2 i c0 v hc0 hv))
 | agg h1 h0 h2 =>
   refine' afo
   exact h i c0 c hc0 hc M J v (h2 i c0 v hc0 hv)
theorem Le.agg {cs cs':List AV} (hn:cs.length = cs'.length) (h:∀ (i:Nat) (c c':AV),cs[i]? = some c -> cs'[i]? = some c' -> Le c c'):Le (.agg cs) (.agg cs'):=by
 intro M v hr
 have get:∀ (i:Nat) (c':AV),cs'[i]? = some c' -> ∃ c,cs[i]? = some c:=fun i c' hc'=>by
   have:=(List.getElem?_eq_some_iff.1 hc').1
   exact ⟨cs[i]'(by omega),List.getElem?_eq_getElem (by omega)⟩
 cases hr with
 | agg h1 h0 h2 =>
   refine' afo
   exact h i c0 c hc0 hc M v (h2 i c0 v hc0 hv)
end Go.Proofs.YtadlnaljicikfaaDoor.aI
namespace Go.Proofs.YtadlnaljicikfaaDoor.aI
open Go Go.RowKit
namespace Ev
inductive Pl where
 | fin
 | one (i:Nat) (pu:Bool) (k:Pl)
 | two (i:Nat) (k:Pl) (j:Nat) (m:Pl)
def Pl.depth:Pl -> Nat
 | .fin=>0
 | .one _ _ k=>k.depth + 1
 | .two _ k _ _=>k.depth + 1
def wR (hs:List FuncId) (l:List Ins) (deps:List (List Nat)):Pl -> List Nat -> Bool
 | .fin,L=>(List.range deps.length).all fun j=>L.contains j
 | .one i pu k,L=>qF deps L i && (KI deps L i || (match l[i]? with | some a=>(match pu with | true=>rU a.op | false=>oG a.op) && a.dst.isSome && XZ pu hs l deps L i a | none=>false)) && wR hs l deps k (i :: L)
 | .two i k j m,L=>qF deps L i && ((List.range deps.length).all fun x=>x == i || x == j || !qF deps L x) && k.depth == m.depth && wR hs l deps k (i :: L) && wR hs l deps m (j :: L)
inductive RV where
 | fin
 | one (a:Ins) (pu:Bool) (k:RV)
 | two (a:Ins) (k:RV) (b:Ins) (m:RV)
def wS (l:List Ins):Pl -> Option RV
 | .fin=>some .fin
 | .one i pu k=>match l[i]?,wS l k with | some a,some q=>some (.one a pu q) | _,_=>none
 | .two i k j m=>match l[i]?,wS l k,l[j]?,wS l m with | some a,some q,some b,some r=>some (.two a q b r) | _,_,_,_=>none
structure Both (A B:Prop):Prop where
 l:A
 r:B
theorem both {A B:Prop} (a:A) (b:B):Both A B:=⟨a,b⟩
def runT (E:Env) (T:Tab) (hs:List FuncId) (base:Nat):RV -> List (Nat × AV) -> List (Nat × aG) -> Nat -> (St -> Prop) -> Prop
 | .fin,sl,hp,ct,Q=>wG sl E.keep [] fun sl'=>Q ⟨sl',hp,ct⟩
 | .one i false k,sl,hp,ct,Q=>gZ E T hs base i sl hp ct fun sl' hp' aW=>runT E T hs base k sl' hp' aW Q
 | .one i true k,sl,hp,ct,Q=>AO (wP E sl i) (gZ E T hs base i sl hp ct fun sl' hp' aW=>runT E T hs base k sl' hp' aW Q)
 | .two i k j m,sl,hp,ct,Q=>Both (gZ E T hs base i sl hp ct fun sl' hp' aW=>runT E T hs base k sl' hp' aW Q) (gZ E T hs base j sl hp ct fun sl' hp' aW=>runT E T hs base m sl' hp' aW Q)
def afE (E:Env) (T:Tab) (hs:List FuncId) (base:Nat) (a:Ins) (r:List (Nat × AV) -> List (Nat × aG) -> Nat -> (St -> Prop) -> Prop) (b:Ins) (s:List (Nat × AV) -> List (Nat × aG) -> Nat -> (St -> Prop) -> Prop):List (Nat × AV) -> List (Nat × aG) -> Nat -> (St -> Prop) -> Prop :=
 fun sl hp ct Q=>Both (gZ E T hs base a sl hp ct fun sl' hp' aW=>r sl' hp' aW Q) (gZ E T hs base b sl hp ct fun sl' hp' aW=>s sl' hp' aW Q)
theorem dU {E:Env} {T:Tab} {hs:List FuncId} {base:Nat}:runT E T hs base .fin = UQ E:=by funext sl hp ct Q;simp only [runT];rfl
theorem dA {E:Env} {T:Tab} {hs:List FuncId} {base:Nat} {a:Ins} {k:RV}:runT E T hs base (.one a false k) = KE E T hs base a (runT E T hs base k):=by funext sl hp ct Q;simp only [runT];rfl
theorem dB {E:Env} {T:Tab} {hs:List FuncId} {base:Nat} {a:Ins} {k:RV}:runT E T hs base (.one a true k) = RU E T hs base a (runT E T hs base k):=by funext sl hp ct Q;simp only [runT];rfl
theorem dV {E:Env} {T:Tab} {hs:List FuncId} {base:Nat} {a b:Ins} {k m:RV}:runT E T hs base (.two a k b m) = afE E T hs base a (runT E T hs base k) b (runT E T hs base m):=by funext sl hp ct Q;simp only [runT];rfl
section
variable {E:Env} {T:Tab} {hs:List FuncId} {base:Nat} {l:List Ins} {deps:List (List Nat)} {Q:St -> Prop}
theorem yt:∀ (p:Pl) {L:List Nat} {q:RV} {sl:List (Nat × AV)} {hp:List (Nat × aG)} {ct:Nat},wR hs l deps p L = true -> wS l p = some q ->
   runT E T hs base q sl hp ct Q -> AnyS E T hs base l deps p.depth L sl hp ct Q
 | .fin,L,q,sl,hp,ct,hp',hl,h=>by
   simp only [wS,Option.some.injEq] at hl;subst hl
   simp only [runT,mO] at h
   simp only [wR,List.all_eq_true,List.mem_range] at hp'
   exact ⟨hp',h⟩
 | .one i pu rest,L,q,sl,hp,ct,hpl,hl,h=>by
   simp only [wS] at hl
   split at hl
   · rename_i a q' ha hq
     obtain rfl:=Option.some.inj hl
     have hpu:pu = true -> wP E sl a = true:=by
       rintro rfl
       simp only [runT] at h
       exact (eH h).1
     have hI:gZ E T hs base a sl hp ct fun sl' hp' aW=>runT E T hs base q' sl' hp' aW Q:=by
       cases pu with
       | false=>simp only [runT] at h;exact h
       | true=>simp only [runT] at h;exact (eH h).2
     simp only [wR,Bool.and_eq_true,Bool.or_eq_true] at hpl
     obtain ⟨⟨hr,hc⟩,hrest⟩:=hpl
     rcases hc with hc | hc
     · refine ⟨⟨i,hr⟩,fun j b hj hb=>?_⟩
       have:j = i:=by
         have:=List.all_eq_true.1 hc j (by rw [List.mem_range];exact rQ hj)
         rw [hj] at this;simpa using this
       subst this
       rw [ha] at hb;obtain rfl:=Option.some.inj hb
       exact iM hI (fun _ _=>rfl) (fun u hp' aW _ _ h'=>yt rest hrest hq h')
     · rw [ha] at hc
       simp only [Bool.and_eq_true] at hc
       obtain ⟨⟨hs',hd⟩,hf⟩:=hc
       obtain ⟨d,hd⟩:=Option.isSome_iff_exists.1 hd
       have hF:KP (jw a.op && !pu) hs l deps L i a:=by
         refine fun j b hj I5 hb hcd=>?_
         have:=List.all_eq_true.1 hf j (by rw [List.mem_range];exact (List.getElem?_eq_some_iff.1 hb).1)
         rw [hb,I5] at this
         simp only [Bool.or_eq_true,beq_iff_eq,hj,Bool.false_eq_true,false_or,or_false,Bool.and_eq_true,Bool.not_eq_true'] at this
         rcases this with this | this
         · split at this
           · rename_i ds hds;rw [hcd ds hds] at this;cases this
           · cases this
         · refine ⟨this.1,fun hl=>?_⟩
           rcases this.2 with h3 | h3
           · rw [hl] at h3;cases h3
           · exact h3
       cases pu with
       | false =>
         obtain ⟨x,sl1,e1,h1,hst⟩:=yh hd hs' hI
         have h2:=fJ rest.depth (fun _=>rfl) e1 (yt rest hrest hq h1)
         exact jH (jw a.op && !false) ha hd rest.depth hF hr (fun sl' hp' hu he=>hst sl' hp' hu (fun hl=>he (by rw [hl];rfl))) h2
       | true =>
         obtain ⟨x,sl1,e1,h1,hst⟩:=Bj hd hs' (hpu rfl) hI
         have h2:=fJ rest.depth (fun _=>rfl) e1 (yt rest hrest hq h1)
         exact jH (jw a.op && !true) ha hd rest.depth hF hr (fun sl' hp' hu he=>hst sl' hp' hu) h2
   · cases hl
 | .two i k j m,L,q,sl,hp,ct,hpl,hl,h=>by
   simp only [wS] at hl
   split at hl
   · rename_i a q1 b q2 ha hq1 hb hq2
     obtain rfl:=Option.some.inj hl
     simp only [runT] at h
     simp only [wR,Bool.and_eq_true] at hpl
     obtain ⟨⟨⟨⟨hr,hall⟩,hd⟩,h1⟩,h2⟩:=hpl
     have hd:k.depth = m.depth:=by simpa using hd
     refine ⟨⟨i,hr⟩,fun x c hx hc=>?_⟩
     have:=List.all_eq_true.1 hall x (by rw [List.mem_range];exact rQ hx)
     rw [hx] at this
     simp only [Bool.not_true,Bool.or_false,Bool.or_eq_true,beq_iff_eq] at this
     rcases this with rfl | rfl
     · rw [ha] at hc;obtain rfl:=Option.some.inj hc
       exact iM h.l (fun _ _=>rfl) (fun u hp' aW _ _ h'=>yt k h1 hq1 h')
     · rw [hb] at hc;obtain rfl:=Option.some.inj hc
       rw [hd]
       exact iM h.r (fun _ _=>rfl) (fun u hp' aW _ _ h'=>yt m h2 hq2 h')
   · cases hl
theorem Wv {nt:Nat} (hT:jA E.P T) (hm:E.P.follows .mixedOrders = true) (plan:Pl) {K:Exit -> St -> Prop} {sl:List (Nat × AV)} {hp:List (Nat × aG)} {ct:Nat} {id:Nat} {pl:RV}
   (mW:wR hs l deps plan [] = true) (hlen:plan.depth = deps.length) (hpick:wS l plan = some pl) (h:∀ Q:St -> Prop,(∀ s,K .normal s -> Q s) -> runT E T hs (E.N + id * 512) pl sl hp ct Q) :
   Wp E nt (.draw id l deps) K ⟨sl,hp,ct⟩:=by
 intro c' e hok M0 w0 M J tm w inv hnt
 refine' ac1
 have h1:=yt plan mW hpick (h (K .normal) (fun _ h=>h))
 have hn:plan.depth = ops.size:=by rw [hlen,Bc];simp
 refine' abh
end
end Ev
namespace Ev
def qI (dd deps:List (List Nat)):Bool:=dd.length == deps.length && (List.range dd.length).all fun i=>match dd[i]?,deps[i]? with
 | some a,some b=>a.all (fun x=>b.contains x) && b.all (fun x=>a.contains x || a.any fun m=>match deps[m]? with | some c=>c.contains x | none=>false)
 | _,_=>false
theorem zf {dd deps:List (List Nat)} (h:qI dd deps = true):deps.length = dd.length:=by
 unfold qI at h;rw [Bool.and_eq_true] at h;exact (by simpa using h.1:dd.length = deps.length).symm
def Closed (deps:List (List Nat)) (L:List Nat):Prop:=∀ m c x,L.contains m = true -> deps[m]? = some c -> c.contains x = true -> L.contains x = true
theorem Closed.nil (deps:List (List Nat)):Closed deps []:=fun m c x h=>by simp at h
theorem Closed.cons {deps:List (List Nat)} {L:List Nat} (h:Closed deps L) {i:Nat} (hr:qF deps L i = true):Closed deps (i :: L):=by
 intro m c x hm hc hx
 rw [List.contains_cons,Bool.or_eq_true] at hm ⊢
 rcases hm with hm | hm
 · have:m = i:=by simpa using hm
   subst this
   unfold qF at hr
   rw [hc,Bool.and_eq_true] at hr
   exact .inr (List.all_eq_true.1 hr.2 x (by simpa using hx))
 · exact .inr (h m c x hm hc hx)
theorem OA {dd deps:List (List Nat)} (ht:qI dd deps = true) {L:List Nat} (hc:Closed deps L) (i:Nat):qF dd L i = qF deps L i:=by
 have hlen:=zf ht
 unfold qI at ht
 rw [Bool.and_eq_true] at ht
 unfold qF
 congr 1
 cases h1:dd[i]? with
 | none =>
   have:deps[i]? = none:=List.getElem?_eq_none (by have:=List.getElem?_eq_none_iff.1 h1;omega)
   rw [this]
 | some a =>
   have hi:=(List.getElem?_eq_some_iff.1 h1).1
   have h2:=List.all_eq_true.1 ht.2 i (by rw [List.mem_range];exact hi)
   rw [h1] at h2
   cases h3:deps[i]? with
   | none=>rw [h3] at h2;cases h2
   | some b =>
     rw [h3] at h2
     simp only [Bool.and_eq_true,List.all_eq_true] at h2
     simp only
     rw [Bool.eq_iff_iff,List.all_eq_true,List.all_eq_true]
     constructor
     · intro h x hx
       have:=h2.2 x hx
       rw [Bool.or_eq_true] at this
       rcases this with h4 | h4
       · exact h x (by simpa using h4)
       · rw [List.any_eq_true] at h4
         obtain ⟨m,hm,h5⟩:=h4
         split at h5
         · rename_i c hcm;exact hc m c x (h m hm) hcm h5
         · cases h5
     · intro h x hx
       exact h x (by simpa using h2.1 x hx)
def EN:Op -> Bool
 | .slice _ _ _ _ _=>true
 | .build _ _=>true
 | .call cl=>RS cl || Qq cl
 | op=>oG op
def mX:Op -> Bool
 | .slice _ _ _ _ _=>true
 | op=>jw op
section
variable {E:Env} {T:Tab} {hs:List FuncId} {sl sl':List (Nat × AV)} {hp hp':List (Nat × aG)} {ct nm base:Nat}
theorem JG {t:TypeId} {a:AV} {lo hi mx:Option Int} {K:AV -> Prop} (h:iZ T t hp a lo hi mx K):∃ x,K x /\ ∀ (hp':List (Nat × aG)) (K':AV -> Prop),Ext hp hp' -> K' x -> iZ T t hp' a lo hi mx K':=by
 cases a with
 | lst s xs=>obtain ⟨x,h1,h2⟩:=rV (.inl ⟨_,_,rfl⟩) h;exact ⟨x,h1,fun hp' K' _ h'=>h2 hp' K' h'⟩
 | v v=>obtain ⟨x,h1,h2⟩:=rV (.inr ⟨_,rfl⟩) h;exact ⟨x,h1,fun hp' K' _ h'=>h2 hp' K' h'⟩
 | own r ver off len =>
   simp only [iZ] at h
   split at h
   · rename_i sz' q k h1 h2
     obtain ⟨hb,h3⟩:=eY h
     obtain ⟨p,q',h4,h5⟩:=vw h3
     refine ⟨_,h4,fun hp' K' he h'=>?_⟩
     obtain ⟨k2,g,e1,e2,e3,e4,e5⟩:=he r k h2
     simp only [iZ,h1,g]
     exact jB (h5 _ h') (by rw [e2,e3];exact hb)
   · exact h.elim
 | _=>simp only [iZ] at h
theorem zh {op:Op} {R:AV -> List (Nat × aG) -> Nat -> Prop} (hs':EN op = true) (h:bP E T hs nm op sl hp ct R) :
   ∃ x,R x hp ct /\ ∀ (sl':List (Nat × AV)) (hp':List (Nat × aG)) (aW:Nat) (R':AV -> List (Nat × aG) -> Nat -> Prop),(∀ t ∈ uses op,get sl' t = get sl t) -> (mX op = true -> Ext hp hp') -> R' x hp' aW -> bP E T hs nm op sl' hp' aW R':=by
 have old:oG op = true -> (jw op = true -> mX op = true) -> ∃ x,R x hp ct /\ ∀ (sl':List (Nat × AV)) (hp':List (Nat × aG)) (aW:Nat) (R':AV -> List (Nat × aG) -> Nat -> Prop),(∀ t ∈ uses op,get sl' t = get sl t) -> (mX op = true -> Ext hp hp') -> R' x hp' aW -> bP E T hs nm op sl' hp' aW R':=fun ho hl=>by
   obtain ⟨x,h1,h2⟩:=uZ ho h
   exact ⟨x,h1,fun sl' hp' aW R' hu he h'=>h2 sl' hp' aW R' hu (fun h3=>he (hl h3)) h'⟩
 have new:rU op = true -> GI E sl op = true -> ∃ x,R x hp ct /\ ∀ (sl':List (Nat × AV)) (hp':List (Nat × aG)) (aW:Nat) (R':AV -> List (Nat × aG) -> Nat -> Prop),(∀ t ∈ uses op,get sl' t = get sl t) -> (mX op = true -> Ext hp hp') -> R' x hp' aW -> bP E T hs nm op sl' hp' aW R':=fun hv hp0=>by
   obtain ⟨x,h1,h2⟩:=Dv hv hp0 h
   exact ⟨x,h1,fun sl' hp' aW R' hu _ h'=>h2 sl' hp' aW R' hu h'⟩
 cases op
 case slice t x lo hi mx =>
   simp only [bP] at h
   split at h
   · rename_i a l h0 m h1 h2 h3 h4
     obtain ⟨z,h5,h6⟩:=JG h
     refine ⟨z,h5,fun sl' hp' aW R' hu he h'=>?_⟩
     refine' aei
     simp only [bP,h1,h2,h3,h4]
     exact h6 hp' _ (he rfl) h'
   · exact h.elim
 case build t parts=>exact new rfl rfl
 case call cl =>
   simp only [EN,Bool.or_eq_true] at hs'
   rcases hs' with hs' | hs'
   · exact new (by simp only [rU,hs',Bool.true_or]) (by simp only [GI,hs'])
   · exact old hs' (fun h=>h)
 all_goals exact old hs' (fun h=>h)
theorem JH {a:Ins} {d:Nat} {R:List (Nat × AV) -> List (Nat × aG) -> Nat -> Prop} (hd:a.dst = some d) (hs':EN a.op = true) (h:gZ E T hs base a sl hp ct R) :
   ∃ x sl1,ig sl1 ((d,x) :: sl) /\ R sl1 hp ct /\ ∀ (sl':List (Nat × AV)) (hp':List (Nat × aG)),(∀ t ∈ gV a,get sl' t = get sl t) -> (mX a.op = true -> Ext hp hp') -> wO E T hs base a d x sl' hp':=by
 obtain ⟨i,d0,op,g⟩:=a
 simp only at hd hs';subst hd
 cases g with
 | none =>
   simp only [gZ] at h
   obtain ⟨x,h1,h2⟩:=zh hs' h
   refine' ade
 | some g =>
   refine' aat
   · rename_i b hb
     have skip:∀ c,b = c -> (R ((d,.v (.tuple #[])) :: (t,.v (.bool c)) :: sl) hp ct) -> (want = !c) -> ∃ x sl1,ig sl1 ((d,x) :: sl) /\ R sl1 hp ct /\ ∀ (sl':List (Nat × AV)) (hp':List (Nat × aG)),(∀ t' ∈ gV ⟨i,some d,op,some (t,want)⟩,get sl' t' = get sl t') -> (mX op = true -> Ext hp hp') -> wO E T hs base ⟨i,some d,op,some (t,want)⟩ d x sl' hp':=by
       rintro c rfl h hw
       refine' ads
       cases b <;> subst hw <;> exact this
     have go:∀ c,b = c -> (bP E T hs (base + i * 8) op ((t,.v (.bool c)) :: sl) hp ct fun x hp' aW=>R ((d,x) :: (t,.v (.bool c)) :: sl) hp' aW) -> (want = c) -> ∃ x sl1,ig sl1 ((d,x) :: sl) /\ R sl1 hp ct /\ ∀ (sl':List (Nat × AV)) (hp':List (Nat × aG)),(∀ t' ∈ gV ⟨i,some d,op,some (t,want)⟩,get sl' t' = get sl t') -> (mX op = true -> Ext hp hp') -> wO E T hs base ⟨i,some d,op,some (t,want)⟩ d x sl' hp':=by
       rintro c rfl h hw
       obtain ⟨x,h1,h2⟩:=zh hs' h
       refine' abk
       cases b <;> subst hw <;> exact this
     split at h
     · cases b
       · exact skip false rfl h rfl
       · exact go true rfl h rfl
     · cases b
       · exact go false rfl h rfl
       · exact skip true rfl h rfl
   · refine' acr
   · exact h.elim
end
def afF (pu:Bool) (hs:List FuncId) (l:List Ins) (deps:List (List Nat)) (L:List Nat) (i:Nat) (a:Ins):Bool :=
 (List.range l.length).all fun j=>j == i || L.contains j || (match l[j]? with
   | some b=>(match deps[j]? with | some ds=>ds.contains i | none=>false) || (indep a b && (!(mX a.op && !pu) || !qX hs b.op))
   | none=>true)
inductive Tr where
 | fin
 | stop
 | one (i:Nat) (pu:Bool) (k:Tr)
 | any (r:Tr)
 | alt (i:Nat) (k:Tr) (r:Tr)
def Tr.depth:Tr -> Nat
 | .fin=>0
 | .stop=>0
 | .one _ _ k=>k.depth + 1
 | .any r=>r.depth
 | .alt _ k _=>k.depth + 1
def Tr.opts:Tr -> List Nat
 | .alt i _ r=>i :: r.opts
 | _=>[]
def Tr.X0:Tr -> Bool
 | .alt _ _ _=>true
 | _=>false
def Tr.uO:Tr -> Bool
 | .alt _ _ _ | .stop=>true
 | _=>false
def Tr.same (n:Nat):Tr -> Bool
 | .alt _ k r=>k.depth + 1 == n && r.same n
 | _=>true
def rW (hs:List FuncId) (l:List Ins) (deps:List (List Nat)):Tr -> List Nat -> Bool
 | .fin,L=>(List.range deps.length).all fun j=>L.contains j
 | .stop,L=>true
 | .one i pu k,L=>qF deps L i && (KI deps L i || (match l[i]? with | some a=>(match pu with | true=>rU a.op | false=>EN a.op) && a.dst.isSome && afF pu hs l deps L i a | none=>false)) && (!k.uO && rW hs l deps k (i :: L))
 | .any r,L=>r.X0 && r.same r.depth && (r.opts.any fun i=>qF deps L i) && ((List.range deps.length).all fun x=>r.opts.contains x || !qF deps L x) && rW hs l deps r L
 | .alt i k r,L=>r.uO && (!k.uO && rW hs l deps k (i :: L)) && rW hs l deps r L
inductive OB where
 | fin
 | stop
 | one (a:Ins) (pu:Bool) (k:OB)
 | any (r:OB)
 | alt (a:Ins) (k:OB) (r:OB)
def rX (l:List Ins):Tr -> Option OB
 | .fin=>some .fin
 | .stop=>some .stop
 | .one i pu k=>match l[i]?,rX l k with | some a,some q=>some (.one a pu q) | _,_=>none
 | .any r=>match rX l r with | some q=>some (.any q) | none=>none
 | .alt i k r=>match l[i]?,rX l k,rX l r with | some a,some q,some p=>some (.alt a q p) | _,_,_=>none
def jy (E:Env) (T:Tab) (hs:List FuncId) (base:Nat):OB -> List (Nat × AV) -> List (Nat × aG) -> Nat -> (St -> Prop) -> Prop
 | .fin,sl,hp,ct,Q=>wG sl E.keep [] fun sl'=>Q ⟨sl',hp,ct⟩
 | .stop,_,_,_,_=>True
 | .one i false k,sl,hp,ct,Q=>gZ E T hs base i sl hp ct fun sl' hp' aW=>jy E T hs base k sl' hp' aW Q
 | .one i true k,sl,hp,ct,Q=>AO (wP E sl i) (gZ E T hs base i sl hp ct fun sl' hp' aW=>jy E T hs base k sl' hp' aW Q)
 | .any r,sl,hp,ct,Q=>jy E T hs base r sl hp ct Q
 | .alt a k r,sl,hp,ct,Q=>Both (gZ E T hs base a sl hp ct fun sl' hp' aW=>jy E T hs base k sl' hp' aW Q) (jy E T hs base r sl hp ct Q)
def ahP (E:Env) (T:Tab) (hs:List FuncId) (base:Nat) (a:Ins) (r:List (Nat × AV) -> List (Nat × aG) -> Nat -> (St -> Prop) -> Prop) (s:List (Nat × AV) -> List (Nat × aG) -> Nat -> (St -> Prop) -> Prop):List (Nat × AV) -> List (Nat × aG) -> Nat -> (St -> Prop) -> Prop :=
 fun sl hp ct Q=>Both (gZ E T hs base a sl hp ct fun sl' hp' aW=>r sl' hp' aW Q) (s sl hp ct Q)
def afG:List (Nat × AV) -> List (Nat × aG) -> Nat -> (St -> Prop) -> Prop:=fun _ _ _ _=>True
theorem jX {E:Env} {T:Tab} {hs:List FuncId} {base:Nat}:jy E T hs base .fin = UQ E:=by funext sl hp ct Q;simp only [jy];rfl
theorem jl {E:Env} {T:Tab} {hs:List FuncId} {base:Nat}:jy E T hs base .stop = afG:=by funext sl hp ct Q;simp only [jy];rfl
theorem jm {E:Env} {T:Tab} {hs:List FuncId} {base:Nat} {a:Ins} {k:OB}:jy E T hs base (.one a false k) = KE E T hs base a (jy E T hs base k):=by funext sl hp ct Q;simp only [jy];rfl
theorem jo {E:Env} {T:Tab} {hs:List FuncId} {base:Nat} {a:Ins} {k:OB}:jy E T hs base (.one a true k) = RU E T hs base a (jy E T hs base k):=by funext sl hp ct Q;simp only [jy];rfl
theorem jY {E:Env} {T:Tab} {hs:List FuncId} {base:Nat} {r:OB}:jy E T hs base (.any r) = jy E T hs base r:=by funext sl hp ct Q;simp only [jy]
theorem jZ {E:Env} {T:Tab} {hs:List FuncId} {base:Nat} {a:Ins} {k r:OB}:jy E T hs base (.alt a k r) = ahP E T hs base a (jy E T hs base k) (jy E T hs base r):=by funext sl hp ct Q;simp only [jy];rfl
section
variable {E:Env} {T:Tab} {hs:List FuncId} {base nt:Nat} {l:List Ins} {deps:List (List Nat)} {Q:St -> Prop}
theorem Bl:∀ (p:Tr) {L:List Nat} {q:OB} {sl:List (Nat × AV)} {hp:List (Nat × aG)} {ct:Nat},rW hs l deps p L = true -> rX l p = some q -> jy E T hs base q sl hp ct Q ->
   (p.uO = false -> AnyS E T hs base l deps p.depth L sl hp ct Q) /\ (∀ n,p.same (n + 1) = true -> ∀ x c,p.opts.contains x = true -> l[x]? = some c -> gZ E T hs base c sl hp ct fun sl' hp' aW=>AnyS E T hs base l deps n (x :: L) sl' hp' aW Q)
 | .fin,L,q,sl,hp,ct,hp',hl,h=>by
   simp only [rX,Option.some.injEq] at hl;subst hl
   simp only [jy,mO] at h
   simp only [rW,List.all_eq_true,List.mem_range] at hp'
   exact ⟨fun _=>⟨hp',h⟩,fun n _ x c hx=>by simp [Tr.opts] at hx⟩
 | .stop,L,q,sl,hp,ct,hp',hl,h=>⟨fun e=>by simp [Tr.uO] at e,fun n _ x c hx=>by simp [Tr.opts] at hx⟩
 | .any r,L,q,sl,hp,ct,hpl,hl,h=>by
   refine ⟨fun _=>?_,fun n _ x c hx=>by simp [Tr.opts] at hx⟩
   simp only [rX] at hl
   split at hl
   · rename_i q' hq
     obtain rfl:=Option.some.inj hl
     simp only [jy] at h
     simp only [rW,Bool.and_eq_true] at hpl
     obtain ⟨⟨⟨⟨ha,hsm⟩,hex⟩,hall⟩,hr⟩:=hpl
     obtain ⟨m,hm⟩:∃ m,r.depth = m + 1:=by
       cases r <;> simp [Tr.X0] at ha
       exact ⟨_,rfl⟩
     rw [show (Tr.any r).depth = r.depth from rfl]
     rw [hm] at hsm ⊢
     obtain ⟨i,hi,hri⟩:=List.any_eq_true.1 hex
     refine ⟨⟨i,hri⟩,fun x c hx hc=>?_⟩
     have:=List.all_eq_true.1 hall x (by rw [List.mem_range];exact rQ hx)
     rw [hx] at this
     simp only [Bool.not_true,Bool.or_false] at this
     exact (Bl r hr hq h).2 m hsm x c this hc
   · cases hl
 | .alt i k r,L,q,sl,hp,ct,hpl,hl,h=>by
   refine ⟨fun e=>by simp [Tr.uO] at e,fun n hn x c hx hc=>?_⟩
   simp only [rX] at hl
   split at hl
   · rename_i a q1 q2 ha hq1 hq2
     obtain rfl:=Option.some.inj hl
     simp only [jy] at h
     simp only [rW,Bool.and_eq_true] at hpl
     obtain ⟨⟨hend,hke,hk⟩,hr⟩:=hpl
     simp only [Tr.same,Bool.and_eq_true,beq_iff_eq] at hn
     obtain ⟨hn1,hn2⟩:=hn
     have hn1:k.depth = n:=by omega
     simp only [Tr.opts,List.contains_cons,Bool.or_eq_true,beq_iff_eq] at hx
     by_cases e:x = i
     · subst e
       rw [ha] at hc;obtain rfl:=Option.some.inj hc
       have hke:k.uO = false:=by simpa using hke
       refine iM h.l (fun _ _=>rfl) (fun u hp' aW _ _ h'=>?_)
       rw [<- hn1];exact (Bl k hk hq1 h').1 hke
     · exact (Bl r hr hq2 h.r).2 n hn2 x c (hx.resolve_left e) hc
   · cases hl
 | .one i pu rest,L,q,sl,hp,ct,hpl,hl,h=>by
   refine ⟨fun _=>?_,fun n _ x c hx=>by simp [Tr.opts] at hx⟩
   simp only [rX] at hl
   split at hl
   · rename_i a q' ha hq
     obtain rfl:=Option.some.inj hl
     have hpu:pu = true -> wP E sl a = true:=by
       rintro rfl
       simp only [jy] at h
       exact (eH h).1
     have hI:gZ E T hs base a sl hp ct fun sl' hp' aW=>jy E T hs base q' sl' hp' aW Q:=by
       cases pu with
       | false=>simp only [jy] at h;exact h
       | true=>simp only [jy] at h;exact (eH h).2
     simp only [rW,Bool.and_eq_true,Bool.or_eq_true] at hpl
     obtain ⟨⟨hr,hc⟩,hrest⟩:=hpl
     obtain ⟨hne,hrest⟩:=hrest
     have hne:rest.uO = false:=by simpa using hne
     have goK:∀ {L':List Nat} {sl:List (Nat × AV)} {hp:List (Nat × aG)} {ct:Nat},L' = i :: L -> jy E T hs base q' sl hp ct Q -> AnyS E T hs base l deps rest.depth L' sl hp ct Q:=fun e h'=>by subst e;exact (Bl rest hrest hq h').1 hne
     rcases hc with hc | hc
     · refine ⟨⟨i,hr⟩,fun j b hj hb=>?_⟩
       have:j = i:=by
         have:=List.all_eq_true.1 hc j (by rw [List.mem_range];exact rQ hj)
         rw [hj] at this;simpa using this
       subst this
       rw [ha] at hb;obtain rfl:=Option.some.inj hb
       exact iM hI (fun _ _=>rfl) (fun u hp' aW _ _ h'=>goK rfl h')
     · rw [ha] at hc
       simp only [Bool.and_eq_true] at hc
       obtain ⟨⟨hs',hd⟩,hf⟩:=hc
       obtain ⟨d,hd⟩:=Option.isSome_iff_exists.1 hd
       have hF:KP (mX a.op && !pu) hs l deps L i a:=by
         refine fun j b hj I5 hb hcd=>?_
         have:=List.all_eq_true.1 hf j (by rw [List.mem_range];exact (List.getElem?_eq_some_iff.1 hb).1)
         rw [hb,I5] at this
         simp only [Bool.or_eq_true,beq_iff_eq,hj,Bool.false_eq_true,false_or,or_false,Bool.and_eq_true,Bool.not_eq_true'] at this
         rcases this with this | this
         · split at this
           · rename_i ds hds;rw [hcd ds hds] at this;cases this
           · cases this
         · refine ⟨this.1,fun hl=>?_⟩
           rcases this.2 with h3 | h3
           · rw [hl] at h3;cases h3
           · exact h3
       cases pu with
       | false =>
         obtain ⟨x,sl1,e1,h1,hst⟩:=JH hd hs' hI
         have h2:=fJ rest.depth (fun _=>rfl) e1 (goK rfl h1)
         exact jH (mX a.op && !false) ha hd rest.depth hF hr (fun sl' hp' hu he=>hst sl' hp' hu (fun hl=>he (by rw [hl];rfl))) h2
       | true =>
         obtain ⟨x,sl1,e1,h1,hst⟩:=Bj hd hs' (hpu rfl) hI
         have h2:=fJ rest.depth (fun _=>rfl) e1 (goK rfl h1)
         exact jH (mX a.op && !true) ha hd rest.depth hF hr (fun sl' hp' hu he=>hst sl' hp' hu) h2
   · cases hl
section
variable {M0:qV} {w0:World} {M:Mem} {J:bJ} {tm:Array Value} {w:World} {ops:Array Oper}
theorem RX (hT:jA E.P T) (hl:insL ops (numbered ops) = some l) {dd:List (List Nat)} (Bc:dd = ops.toList.map direct) (htr:qI dd deps = true) {K:Exit -> St -> Prop} (hK:∀ s,Q s -> K .normal s) :
   ∀ (n:Nat) {L:List Nat} {listed:Array Bool} {sl:List (Nat × AV)} {hp:List (Nat × aG)} {ct:Nat} {M:Mem} {J:bJ} {tm:Array Value} {w:World},wz tm.size ops = true -> tm.size = nt -> AnyS E T hs base l deps n L sl hp ct Q -> Inv E M0 w0 ct M J ⟨sl,hp,ct⟩ tm w ->
     listed.size = ops.size -> (∀ i,i < ops.size -> listed.getD i true = L.contains i) -> (∀ i,L.contains i = true -> i < ops.size) -> Closed deps L -> wpAny E.P .any ops (Post E M0 w0 nt K) n listed ⟨tm,M0.d⟩ w:=by
 have hdl:dd.length = ops.size:=by rw [Bc];simp
 have hlen:deps.length = ops.size:=by rw [<- hdl];exact zf htr
 have key:∀ {L:List Nat} {listed:Array Bool},listed.size = ops.size -> (∀ i,i < ops.size -> listed.getD i true = L.contains i) -> (∀ i,L.contains i = true -> i < ops.size) -> Closed deps L -> ∀ i,i ∈ Region.ready .any ops listed ↔ (qF deps L i = true):=by
   intro L listed hsz hL hLb hcl i
   rw [<- OA htr hcl]
   refine' ab1
   · rintro ⟨h0,o,ho,hall⟩
     refine' aa5
     · rw [gd _ _ h'] at this;exact this
     · refine' agw
   · intro h
     rw [Bool.and_eq_true] at h
     cases ho:ops[i]? with
     | none=>rw [ho] at h;simp at h
     | some o =>
       refine' abg
       · rw [gd _ _ h'];exact this
       · have:=hLb _ this;omega
 intro n
 induction n with
 | zero =>
   intro L listed sl hp ct M J tm w hok hnt h inv hsz hL hLb hcl
   refine ⟨?_,_,M,J,hK _ h.2,inv.only E.keep,hnt,rfl⟩
   apply List.eq_nil_iff_forall_not_mem.2
   intro i hi
   rw [key hsz hL hLb hcl] at hi
   refine' af9
 | succ n ih =>
   intro L listed sl hp ct M J tm w hok hnt h inv hsz hL hLb hcl
   obtain ⟨⟨i0,hi0⟩,h⟩:=h
   refine ⟨fun he=>?_,fun i hi=>?_⟩
   · have:=(key hsz hL hLb hcl i0).2 hi0
     rw [he] at this;cases this
   · rw [key hsz hL hLb hcl] at hi
     refine' abq
     refine ih (by rw [hs'];exact hok) (by rw [hs',hnt]) hr hinv (by simp [hsz]) (fun k hk=>?_) (fun k hk=>?_) (hcl.cons hi)
     rotate_left
     · rw [List.contains_cons,Bool.or_eq_true] at hk
       rcases hk with hk | hk
       · have:k = i:=by simpa using hk
         omega
       · exact hLb k hk
     rw [List.contains_cons]
     by_cases e:k = i
     · subst e;simp [hsz,hlt]
     · rw [getD_set_ne true (Ne.symm e),hL k hk];simp [e]
end
theorem Wx {nt:Nat} (hT:jA E.P T) (hm:E.P.follows .mixedOrders = true) (Dy:List (List Nat)) (plan:Tr) {K:Exit -> St -> Prop} {sl:List (Nat × AV)} {hp:List (Nat × aG)} {ct:Nat} {id:Nat} {pl:OB}
   (htr:qI deps Dy = true) (hend:plan.uO = false) (mW:rW hs l Dy plan [] = true) (hlen:plan.depth = deps.length) (hpick:rX l plan = some pl) (h:∀ Q:St -> Prop,(∀ s,K .normal s -> Q s) -> jy E T hs (E.N + id * 512) pl sl hp ct Q) :
   Wp E nt (.draw id l deps) K ⟨sl,hp,ct⟩:=by
 intro c' e hok M0 w0 M J tm w inv hnt
 refine' ac1
 have h1:=(Bl plan mW hpick (h (K .normal) (fun _ h=>h))).1 hend
 have hn:plan.depth = ops.size:=by rw [hlen,Bc];simp
 rw [hn] at h1
 exact RX hT hl Bc htr (fun _ h=>h) ops.size (by rw [hnt];exact hok) hnt h1 (Inv.drew inv) (by simp) (fun i hi=>by simp [hi]) (fun i hi=>by simp at hi) (Closed.nil _)
end
end Ev
end Go.Proofs.YtadlnaljicikfaaDoor.aI
namespace Go.Proofs.YtadlnaljicikfaaDoor.aI
open Go Go.Lib Go.RowKit
namespace Ev
theorem OC {E:Env} {sl:List (Nat × AV)} {hp hp':List (Nat × aG)} {ct t:Nat} {x y:AV} (hg:get sl t = some x)
   (h:∀ K:AV -> List (Nat × aG) -> Prop,K y hp' -> oD hp deep x fun y m=>wF hp m fun hp'=>K y hp'):Gh E ⟨sl,hp,ct⟩ ⟨(t,y) :: sl,hp',ct⟩:=by
 intro M0 w0 M J tm w inv
 obtain ⟨v,hv,hr⟩:=inv.slot t x hg
 have hpu:=qy (sl:=sl) (ct:=ct) (h (fun a b=>a = y /\ b = hp') ⟨rfl,rfl⟩) (K':=fun a s=>a = y /\ s = (⟨sl,hp',ct⟩:St)) (fun a b ⟨e1,e2⟩=>⟨e1,by rw [e2]⟩)
 obtain ⟨y',s',M',⟨e1,e2⟩,hsub,i1,pr,hc⟩:=inv.pure hr hpu
 subst e1;subst e2
 refine ⟨M',J,⟨i1.below,i1.mem,i1.kH,i1.jV,i1.glob,?_,i1.heap,i1.apart,i1.owns,i1.vers,i1.jF,i1.far⟩⟩
 intro t' x' hx'
 rw [au] at hx'
 split at hx'
 · rename_i e
   subst e
   obtain rfl:=Option.some.inj hx'
   exact ⟨v,hv,.pure pr⟩
 · exact i1.slot t' x' hx'
theorem lS {E:Env} {nt:Nat} (id t:Nat) {l:List Ins} {K:Exit -> St -> Prop} {sl:List (Nat × AV)} {hp:List (Nat × aG)} {ct:Nat} {r v off len sz ty fH:Nat} {es:List (List AV)}
   (hg:get sl t = some (.own r v off len)) (hk:get hp r = some ⟨sz,ty,v,fH,false,es⟩) (hl:Side (off + len <= es.length))
   (h:Wp E nt (.reg id l) K ⟨(t,.lst sz ((es.drop off).take len)) :: sl,(r,⟨sz,ty,v,max fH (min (off + len) es.length),false,es⟩) :: hp,ct⟩):Wp E nt (.reg id l) K ⟨sl,hp,ct⟩:=by
 refine uK.ghost (OC hg (fun K hK=>?_)) h
 have q1:(Nat.beq v v && !false) = true:=by simp
 simp only [oD,deep,hk,kX]
 refine jB (sided ?_ hl) q1
 simp only [wF,hk,kX]
 exact hK
end Ev
end Go.Proofs.YtadlnaljicikfaaDoor.aI
namespace Go.Proofs.YtadlnaljicikfaaDoor.aI
open Go Go.RowKit
section
variable {E:Env} {M0:qV} {w0:World} {c c':Nat} {M M1:Mem} {J J1:bJ} {s s':St} {tm tm':Array Value} {w w':World} {ds:List Deferred}
theorem Inv.aaL (inv:Inv E M0 w0 c M J s tm w):Inv E ⟨M,J,M0.x,ds⟩ w0 c M J s tm w :=
 ⟨inv.below,inv.mem,fun _ _ _ h=>.inl h,fun _ _ _ h=>h,inv.glob,inv.slot,inv.heap,inv.apart,inv.owns,inv.vers,fun r L h=>h,inv.far⟩
theorem Inv.aaM (inv:Inv E M0 w0 c M J s tm w) (i1:Inv E ⟨M,J,M0.x,ds⟩ w0 c' M1 J1 s' tm' w'):Inv E M0 w0 c' M1 J1 s' tm' w' :=
 ⟨i1.below,i1.mem,fun b o u hu=>(i1.kH b o u hu).elim (fun h=>inv.kH b o u h) .inr,fun b o u hu=>i1.jV b o u (inv.jV b o u hu),i1.glob,i1.slot,i1.heap,i1.apart,i1.owns,i1.vers,
   fun r L h=>i1.jF r L (inv.jF r L h),i1.far⟩
end
def Bo (E:Env) (f:FuncId) (args:List AV) (hp:List (Nat × aG)) (R:List (Nat × aG) -> Prop):Prop :=
 ∀ (M0:qV) (w0:World) (c:Nat) (M:Mem) (J:bJ) (w:World) (vs:Array Value),Inv E M0 w0 c M J ⟨[],hp,0⟩ #[] w -> vs.size = args.length ->
   (∀ (i:Nat) (x:AV) (v:Value),args[i]? = some x -> vs[i]? = some v -> Rel M J x v) ->
   (callFunc f vs).run E.P w = .ok (.enter f vs) w /\
   CallsD E.P f vs .returning w fun e u w'=>u = .returning /\ ∃ v hp' c' M' J',e = .returned v /\ R hp' /\ Inv E M0 w0 c' M' J' ⟨[],hp',0⟩ #[] w' /\ Sub M M' /\ iG J J'
def Wy (E:Env) (M:Mem) (J:bJ) (ds:List Deferred) (g:FuncId) (xs:List AV):Prop :=
 ∃ cap ag,ds = [⟨.fn (.func g) cap,ag⟩] /\ (ag ++ cap).size = xs.length /\ ∀ (i:Nat) (x:AV) (v:Value),xs[i]? = some x -> (ag ++ cap)[i]? = some v -> Rel M J x v
theorem Wy.mono {E:Env} {M M':Mem} {J J':bJ} {ds:List Deferred} {g:FuncId} {xs:List AV} (h:Wy E M J ds g xs) (hm:Sub M M') (hj:iG J J'):Wy E M' J' ds g xs :=
 let ⟨cap,ag,a,b,d⟩:=h;⟨cap,ag,a,b,fun i x v h1 h2=>(d i x v h1 h2).mono hm hj⟩
def KQ (E:Env) (M0:qV) (w0:World) (nt:Nat) (K0:Exit -> St -> Prop) (K1:FuncId -> List AV -> Exit -> St -> Prop) (e:Exit) (a:Act) (w:World):Prop :=
 (∃ s M J,K0 e s /\ Inv E M0 w0 s.ctr M J s a.tmps w /\ a.tmps.size = nt /\ a.defers = []) ∨
 (∃ g xs s M J,K1 g xs e s /\ Inv E M0 w0 s.ctr M J s a.tmps w /\ a.tmps.size = nt /\ Wy E M J a.defers g xs)
def WA (E:Env) (nt:Nat) (cc:CC) (K0:Exit -> St -> Prop) (K1:FuncId -> List AV -> Exit -> St -> Prop) (s:St):Prop :=
 ∀ c,comp c = cc -> bQ nt c = true -> ∀ (M0:qV) (w0:World) (M:Mem) (J:bJ) (tm:Array Value) (w:World),M0.d = [] -> Inv E M0 w0 s.ctr M J s tm w -> tm.size = nt -> c.wp E.P (KQ E M0 w0 nt K0 K1) ⟨tm,[]⟩ w
theorem RY {c:Code} {id:Nat} {l:List Ins} (h:comp c = .reg id l):∃ ops,c = .region id ops false /\ insL ops (numbered ops) = some l:=by
 cases c
 case region i ops dr =>
   cases dr <;> simp only [comp] at h <;> split at h
   · rename_i l' hl;injection h with h1 h2;subst h1;subst h2;exact ⟨ops,rfl,hl⟩
   all_goals cases h
 all_goals (simp only [comp] at h;cases h)
theorem GK {ops:Array Oper}:∀ {L:List (Nat × Oper)} {l:List Ins},insL ops L = some l -> l.length = L.length
 | [],l,h=>by simp only [insL,Option.some.injEq] at h;subst h;rfl
 | p :: L,l,h=>by
   simp only [insL] at h
   split at h
   · rename_i a r ha hr
     obtain rfl:=Option.some.inj h
     rw [List.length_cons,List.length_cons,GK hr]
   · cases h
namespace Ev
section
variable {E:Env} {T:Tab} {hs:List FuncId} {nt:Nat} {K0:Exit -> St -> Prop} {K1:FuncId -> List AV -> Exit -> St -> Prop}
theorem Dz {a b:CC} {s:St} (h:Wp E nt a (kM (WA E nt b K0 K1) K0) s):WA E nt (.seq a b) K0 K1 s:=by
 intro c hc hok M0 w0 M J tm w hd inv hs
 obtain ⟨a',b',rfl,ha,hb⟩:=Az hc
 simp only [bQ,Bool.and_eq_true] at hok
 have h1:=h a' ha hok.1 M0 w0 M J tm w inv hs
 rw [hd] at h1
 refine wp_seq (wp_mono h1 ?_)
 rintro e ⟨tm',ds'⟩ w' ⟨s',M',J',hk,hi,hz,hd'⟩
 simp only at hd'
 rw [hd] at hd'
 subst hd'
 cases e <;> simp only [Exit.then]
 case normal=>exact hk b' hb hok.2 M0 w0 M' J' tm' w' hd hi hz
 all_goals exact .inl ⟨s',M',J',hk,hi,hz,rfl⟩
theorem aaN {a b:CC} {s:St} (h:WA E nt a (kM (WA E nt b K0 K1) K0) (fun g xs=>kM (fun s'=>Wp E nt b (K1 g xs) s') (K1 g xs)) s):WA E nt (.seq a b) K0 K1 s:=by
 intro c hc hok M0 w0 M J tm w hd inv hs
 obtain ⟨a',b',rfl,ha,hb⟩:=Az hc
 simp only [bQ,Bool.and_eq_true] at hok
 refine wp_seq (wp_mono (h a' ha hok.1 M0 w0 M J tm w hd inv hs) ?_)
 rintro e ⟨tm',ds'⟩ w' (⟨s',M',J',hk,hi,hz,hd'⟩ | ⟨g,xs,s',M',J',hk,hi,hz,hd'⟩)
 · simp only at hd'
   subst hd'
   cases e <;> simp only [Exit.then]
   case normal=>exact hk b' hb hok.2 M0 w0 M' J' tm' w' hd hi hz
   all_goals exact .inl ⟨s',M',J',hk,hi,hz,rfl⟩
 · cases e <;> simp only [Exit.then]
   case normal =>
     refine wp_mono (hk b' hb hok.2 ⟨M',J',M0.x,ds'⟩ w0 M' J' tm' w' (Inv.aaL hi) hz) ?_
     rintro e a w'' ⟨s2,M2,J2,hk2,hi2,hz2,hd2⟩
     exact .inr ⟨g,xs,s2,M2,J2,hk2,Inv.aaM hi hi2,hz2,by rw [hd2];exact hd'.mono hi2.jV hi2.jF⟩
   all_goals exact .inr ⟨g,xs,s',M',J',hk,hi,hz,hd'⟩
def WB (sl:List (Nat × AV)) (t:Nat) (K:FuncId -> List AV -> Prop):Prop :=
 match get sl t with
 | some (.clo (.func g) first caps)=>K g (first ++ caps)
 | _=>False
theorem ac4{G:Prop}(h:G:=by
 obtain ⟨ops,rfl,hl⟩:=RY hc
 obtain ⟨z1,z2⟩:=Aw ops
 refine wp_region ?_
 rw [<- z2]
 change insL ops (ops.toList.zipIdx.map fun p=>(p.2,p.1)) = _ at hl
 generalize ops.toList.zipIdx.map (fun p=>(p.2,p.1)) = L at hl z1 ⊢
 have hlen:=GK hl
 all_goals(rcases(⟨_⟩:PLift _)with⟨h⟩;exact h)):G:=h
theorem ahc{G:Prop}(h:G:=by
 obtain rfl:=Option.some.inj hr2
 obtain rfl:=Option.some.inj hr
 obtain hl:=Option.some.inj hl
 injection hl with hl1 hl2
 injection hl2 with hl2 _
 subst hl1;subst hl2
 obtain ⟨i',o1⟩:=p
 obtain ⟨j',o2⟩:=q
 all_goals(rcases(⟨_⟩:PLift _)with⟨h⟩;exact h)):G:=h
theorem ahf{G:Prop}(h:G:=by
 simp only [List.map_cons,List.map_nil,wpOps,e1,e2]
 have w1:Region.wanted o1 (yielded ops tm) = true:=by simp [Region.wanted,g1]
 rw [if_pos w1]
 all_goals(rcases(⟨_⟩:PLift _)with⟨h⟩;exact h)):G:=h
theorem ahg{G:Prop}(h:G:=by
 obtain ⟨k1,rfl,k3,k4⟩:=hg2
 have e1:ops[i']? = some o1:=z1 (i',o1) (by simp)
 have e2:ops[j']? = some o2:=z1 (j',o2) (by simp)
 all_goals(rcases(⟨_⟩:PLift _)with⟨h⟩;exact h)):G:=h
theorem afH (hT:jA E.P T) {id i j d t:Nat} {op:Op} {tys:Array TypeId} {sl:List (Nat × AV)} {hp:List (Nat × aG)} {ct:Nat}
   (h:bP E T hs (E.N + id * 512 + i * 8) op sl hp ct fun x hp' aW=>qW (some d) x sl fun sl'=>WB sl' t fun g xs=>K1 g xs .normal ⟨sl',hp',aW⟩) :
   WA E nt (.reg id [⟨i,some d,op,none⟩,⟨j,none,.defer { callee:=.value (.tmp t),args:=#[],argTypes:=tys },none⟩]) K0 K1 ⟨sl,hp,ct⟩:=by
 intro c hc hok M0 w0 M J tm w hd inv hsz
 refine' ac4
 match L,hl with
 | [],hl=>simp at hlen
 | [p],hl=>simp at hlen
 | p :: q :: r :: L',hl=>simp at hlen
 | [p,q],hl =>
   simp only [insL] at hl
   split at hl
   case h_2=>cases hl
   rename_i a r ha hr
   split at hr
   case h_2=>cases hr
   rename_i a2 r2 ha2 hr2
   refine' ahc
   have hg1:o1.guard = none /\ i' = i /\ o1.dst = some d /\ o1.op = op:=by
     simp only [insOf] at ha
     split at ha
     · rename_i hg;injection Option.some.inj ha with h1 h2 h3;exact ⟨hg,h1,h2,h3⟩
     · rw [Option.map_eq_some_iff] at ha;obtain ⟨t',_,h'⟩:=ha;injection h' with _ _ _ h4;cases h4
   have hg2:o2.guard = none /\ j' = j /\ o2.dst = none /\ o2.op = .defer { callee:=.value (.tmp t),args:=#[],argTypes:=tys }:=by
     simp only [insOf] at ha2
     split at ha2
     · rename_i hg;injection Option.some.inj ha2 with h1 h2 h3;exact ⟨hg,h1,h2,h3⟩
     · rw [Option.map_eq_some_iff] at ha2;obtain ⟨t',_,h'⟩:=ha2;injection h' with _ _ _ h4;cases h4
   obtain ⟨g1,rfl,g3,g4⟩:=hg1
   refine' ahg
   have hd1:∀ t,o1.dst = some t -> t < tm.size:=by
     intro t ht
     simp only [bQ,wz] at hok
     rw [List.all_eq_true] at hok
     have:=hok o1 (by rw [Array.mem_toList_iff];exact Array.mem_of_getElem? e1)
     rw [ht] at this;rw [hsz];simpa using this
   refine' ahf
   refine .inl ?_
   have hS:opS E (E.N + id * 512 + i' * 8) o1 ⟨sl,hp,ct⟩ fun s'=>∃ sl' hp' aW,s' = ⟨sl',hp',aW⟩ /\ WB sl' t fun g xs=>K1 g xs .normal ⟨sl',hp',aW⟩:=by
     unfold opS
     rw [g4,g3]
     refine nY hT h (fun x hp' aW h'=>?_)
     obtain ⟨sl',e,h''⟩:=qC (hp:=hp') (ct:=aW) h'
     exact ⟨sl',hp',aW,e,h''⟩
   have fin:∀ (a:Act) (w':World) (M':Mem) (J':bJ) (s':St),(∃ sl' hp' aW,s' = ⟨sl',hp',aW⟩ /\ WB sl' t fun g xs=>K1 g xs .normal ⟨sl',hp',aW⟩) -> Inv E M0 w0 s'.ctr M' J' s' a.tmps w' -> a.tmps.size = tm.size -> a.defers = M0.d -> wpOps E.P ops (KQ E M0 w0 nt K0 K1) [j'] a w':=by
     rintro ⟨tm',ds'⟩ w' M' J' s' ⟨sl',hp',aW,rfl,hdef⟩ hi hz hdd
     simp only at hdd hz hi
     rw [hd] at hdd
     subst hdd
     simp only [wpOps,e2]
     have w2:Region.wanted o2 (yielded ops tm') = true:=by simp [Region.wanted,k1]
     rw [if_pos w2]
     refine .inl ?_
     unfold WB at hdef
     split at hdef
     · rename_i g first caps hget
       obtain ⟨v,hv,hr⟩:=hi.slot t _ hget
       obtain ⟨fs,cs,ef,hfs,hcs,h1,h2⟩:=hr.zQ
       have hev:(⟨tm',[]⟩:Act).eval (.tmp t) = .func (.func g) fs cs:=by
         simp [Act.eval,hv,ef]
       unfold Oper.wp execOp
       rw [k4]
       simp only [resolve,Sem.run_bind,hev,Deferred.ofValue,Sem.run_pure,Result.andThen_ok,Oper.upon_defer,k3,Act.put]
       refine .inr ⟨g,first ++ caps,_,M',J',hdef,hi,by rw [hz,hsz],cs,_,rfl,?_,?_⟩
       · simp [hfs,hcs]
       · have:=rH (R:=Rel M' J') (a:=first) (b:=caps) (va:=fs) (vb:=cs) hfs h1 h2
         simpa using this
     · exact hdef.elim
   have key:=IL (E:=E) (M0:=M0) (w0:=w0) (M:=M) (J:=J) (s:=⟨sl,hp,ct⟩) (tm:=tm) (w:=w) inv (nm:=E.N + id * 512 + i' * 8) (o:=o1) hS hd1 (next:=wpOps E.P ops (KQ E M0 w0 nt K0 K1) [j']) (Q:=KQ E M0 w0 nt K0 K1) fin
   rw [hd] at key
   simpa only [wpOps,e2] using key
end
def RZ (E:Env) (T:Tab) (rs:List ResultVar) (R:AV -> List aG -> Prop) (g:FuncId) (xs:List AV) (s:St):Prop :=
 ∃ Q,Bo E g xs s.hp Q /\ ∀ hp',Q hp' -> rO rs ⟨s.sl,hp',0⟩ T R
def aaO (E:Env) (T:Tab) (rs:List ResultVar) (R:AV -> List aG -> Prop) (g:FuncId) (xs:List AV):Exit -> St -> Prop
 | .normal,s=>RZ E T rs R g xs s
 | .ret,s=>RZ E T rs R g xs s
 | _,_=>False
theorem aaP {E:Env} {T:Tab} {rs:List ResultVar} {R:AV -> List aG -> Prop} {g:FuncId} {xs:List AV} {s:St} (h:RZ E T rs R g xs s):aaO E T rs R g xs .ret s:=h
theorem aaQ {E:Env} {T:Tab} {rs:List ResultVar} {R:AV -> List aG -> Prop} {g:FuncId} {xs xs':List AV} {s:St} {hp H:List (Nat × aG)} (hc:Bo E g xs' hp fun h=>h = H) (ha:xs = xs') (hs:subs s.hp hp)
   (h:∀ F:Prop -> Prop,(∀ p,p -> F p) -> KG rs ⟨s.sl,H,0⟩ T R F):RZ E T rs R g xs s:=by
 subst ha
 refine ⟨fun h=>h = H,fun M0 w0 c M J w vs inv hn hr=>hc M0 w0 c M J w vs (inv.less (s':=⟨[],hp,0⟩) (fun t x h=>by simp [get_nil] at h) (kW hs)) hn hr,?_⟩
 rintro hp' rfl
 exact yg (h Fin (fun _ h=>h))
theorem afI {E0:Env} {T:Tab} (hT:jA E0.P T) (keep:List Nat) (N:Nat) {f:FuncId} {fn:Func} {c:Code} {args:List AV} {hp:List (Nat × aG)} {R:List (Nat × aG) -> Prop} (hf:E0.P.funcs[f]? = some fn) (hb:fn.body = some c)
   (hname:(fn.name == "runtime.NumGoroutine") = false) (hnt:args.length <= fn.ntmps) (hok:bQ fn.ntmps c = true) {cc:CC} (hcc:comp c = cc) {rs:List ResultVar} (hrs:fn.results.toList = rs)
   (h:∀ ct,Wp { E0 with keep:=keep,N:=N } fn.ntmps cc (GH T rs (fun _ hp'=>R hp')) ⟨params 0 args,hp,ct⟩):Bo E0 f args hp R:=by
 subst hrs
 intro M0 w0 ct M J w vs inv hn hr
 refine ⟨ji hf hb hname w,?_⟩
 have key:c.wp E0.P (bodyPost E0.P fn fun e w'=>∃ v hp' c' M' J',e = .returned v /\ R hp' /\ Inv E0 M0 w0 c' M' J' ⟨[],hp',0⟩ #[] w' /\ Sub M M' /\ iG J J') { tmps:=vs ++ Array.replicate (fn.ntmps - vs.size) undef,defers:=[] } w:=by
   refine' acz
   have out:Qy T fn.results.toList s' (fun _ hp'=>R hp') -> a.defers = [] /\ ∃ v,(results fn a.tmps).run E0.P w' = .ok v w' /\ ∃ v' hp' c' M' J',Ending.returned v = Ending.returned v' /\ R hp' /\ Inv E0 M0 w0 c' M' J' ⟨[],hp',0⟩ #[] w' /\ Sub M M' /\ iG J J':=by
     intro h'
     refine' ael
     refine ⟨hd,_,h3,_,s'.hp,s'.ctr,M1,J1,rfl,h2,?_,i1.jV,i1.jF⟩
     refine' abz
   cases e with
   | normal=>exact out hk
   | ret=>exact out hk
   | _=>exact hk.elim
 exact (callsD_of_wp hf hb key).mono fun e u' w' h=>h
theorem Si {E:Env} {M:Mem} {w0:World} {M1:Mem} {J:bJ} {s:St} {tm:Array Value} {w:World} {fn:Func} {R:AV -> List aG -> Prop} (inv:Inv E ⟨M,fun _=>none,fun _=>none,[]⟩ w0 s.ctr M1 J s tm w) (hQ:endP E fn.results.toList s R) :
   ∃ v r hs M' J',(results fn tm).run E.P w = .ok v w /\ R r hs /\ Inv E ⟨M,fun _=>none,fun _=>none,[]⟩ w0 hs.length M' J' ⟨[],eX 0 hs,0⟩ #[] w /\ Rel M' J' r v:=by
 unfold endP at hQ
 split at hQ
 · rename_i xs hxs
   obtain ⟨vs,h1,h2,h3⟩:=kU inv hxs
   obtain ⟨ys,s',M',hR,_,i',hl,hrel⟩:=Inv.nP xs (vs:=vs) inv h2 h3 hQ
   refine ⟨_,_,[],M',fun _=>none,h1,hR,?_,.pure (tq (R:=cZ M') (fun xs vs a b=>.dM a b) (by rw [h2,hl]) hrel)⟩
   exact ⟨i'.below,i'.mem,i'.kH,i'.jV,i'.glob,fun t x h=>by simp [get_nil,au] at h,fun r k h=>by simp [eX,get_nil,au] at h,fun r r' k k' L L' h=>by simp [eX,get_nil,au] at h,fun r k L o u h=>by simp [eX,get_nil,au] at h,fun r L h=>by simp at h,fun r L h=>h,i'.far⟩
 · exact hQ.elim
theorem OD {E:Env} {T:Tab} (hT:jA E.P T) {rs:List ResultVar} {s:St} {R:AV -> List aG -> Prop} (h':rO rs s T R) (c:Nat):endP E rs { s with ctr:=c } R:=by
 obtain ⟨xs,h1,h2⟩:=kP (E:=E) hT (ct:=c) rs h'
 unfold endP
 have h1':mD E { s with ctr:=c } rs = some xs:=h1
 rw [h1']
 exact kY (sl:=s.sl) (ct:=c) _ h2 (fun ys hp' h=>h)
theorem afJ {E0:Env} {T:Tab} (hT:jA E0.P T) (keep:List Nat) (N:Nat) {f:FuncId} {fn:Func} {c:Code} {args:List AV} {R:AV -> List aG -> Prop} (hf:E0.P.funcs[f]? = some fn) (hb:fn.body = some c)
   (hname:(fn.name == "runtime.NumGoroutine") = false) (hnt:args.length <= fn.ntmps) (hok:bQ fn.ntmps c = true) {cc:CC} (hcc:comp c = cc) {rs:List ResultVar} (hrs:fn.results.toList = rs)
   (h:WA { E0 with keep:=keep,N:=N } fn.ntmps cc (MS T rs R) (aaO E0 T rs R) ⟨params 0 args,[],0⟩):aO E0 f args R:=by
 subst hrs
 intro M w vs hm hg hn hr
 refine ⟨ji hf hb hname w,?_⟩
 refine calls_of_wp_defers hf hb ?_
 refine wp_mono (h c hcc hok ⟨M,fun _=>none,fun _=>none,[]⟩ w M _ _ w rfl (CX (E0:=E0) (E:={ E0 with keep:=keep,N:=N }) rfl rfl hm hg hn hr) (by simp [hn];omega)) ?_
 have fin:∀ {s:St} {c:Nat} {M1:Mem} {J:bJ} {tm:Array Value} {w':World},rO fn.results.toList s T R -> Inv { E0 with keep:=keep,N:=N } ⟨M,fun _=>none,fun _=>none,[]⟩ w c M1 J s tm w' ->
     ∃ v,(results fn tm).run E0.P w' = .ok v w' /\ ∃ v' r hs M' J',Ending.returned v = Ending.returned v' /\ R r hs /\ Inv E0 ⟨M,fun _=>none,fun _=>none,[]⟩ w hs.length M' J' ⟨[],eX 0 hs,0⟩ #[] w' /\ Rel M' J' r v':=by
   intro s c M1 J tm w' hF inv0
   have inv:Inv { E0 with keep:=keep,N:=N } ⟨M,fun _=>none,fun _=>none,[]⟩ w ({ s with ctr:=c }:St).ctr M1 J { s with ctr:=c } tm w' :=
     ⟨inv0.below,inv0.mem,inv0.kH,inv0.jV,inv0.glob,inv0.slot,inv0.heap,inv0.apart,inv0.owns,inv0.vers,inv0.jF,inv0.far⟩
   obtain ⟨v,r,hs,M',J',h1,h2,h3,h4⟩:=Si (s:={ s with ctr:=c }) (fn:=fn) inv (OD (E:={ E0 with keep:=keep,N:=N }) hT hF c)
   have h3':Inv E0 ⟨M,fun _=>none,fun _=>none,[]⟩ w hs.length M' J' ⟨[],eX 0 hs,0⟩ #[] w':=Inv.env (E:={ E0 with keep:=keep,N:=N }) (E':=E0) rfl h3
   exact ⟨v,h1,v,r,hs,M',J',rfl,h2,h3',h4⟩
 rintro e a w' (⟨s',M1,J1,hk,inv,hz,hd⟩ | ⟨g,xs,s',M1,J1,hk,inv,hz,hd⟩)
 · have out:rO fn.results.toList s' T R -> bodyPostD E0.P fn (fun e w'=>∃ v r hs M' J',e = .returned v /\ R r hs /\ Inv E0 ⟨M,fun _=>none,fun _=>none,[]⟩ w hs.length M' J' ⟨[],eX 0 hs,0⟩ #[] w' /\ Rel M' J' r v) .ret a w':=by
     intro h'
     show Leaves E0.P fn a.tmps _ a.defers .returning w'
     rw [hd]
     exact fin h' inv
   cases e with
   | normal=>exact out hk
   | ret=>exact out hk
   | _=>exact hk.elim
 · have out:RZ E0 T fn.results.toList R g xs s' -> bodyPostD E0.P fn (fun e w'=>∃ v r hs M' J',e = .returned v /\ R r hs /\ Inv E0 ⟨M,fun _=>none,fun _=>none,[]⟩ w hs.length M' J' ⟨[],eX 0 hs,0⟩ #[] w' /\ Rel M' J' r v) .ret a w':=by
     rintro ⟨Q,hc,hQ⟩
     obtain ⟨cap,ag,hds,hsz,hrel⟩:=hd
     show Leaves E0.P fn a.tmps _ a.defers .returning w'
     rw [hds]
     have i0:Inv E0 ⟨M,fun _=>none,fun _=>none,[]⟩ w s'.ctr M1 J1 ⟨[],s'.hp,0⟩ #[] w':=Inv.env (E:={ E0 with keep:=keep,N:=N }) (E':=E0) rfl (Inv.bare inv)
     obtain ⟨hen,hcd⟩:=hc _ w _ M1 J1 w' (ag ++ cap) i0 hsz hrel
     refine leaves_cons (f:=g) (args:=ag ++ cap) (by simp) ?_ ?_
     · simpa [invoke] using hen
     · refine hcd.mono ?_
       rintro e u w2 ⟨rfl,v,hp',c',M',J',rfl,hq,hi,hsub,hJ⟩
       show Leaves E0.P fn a.tmps _ [] .returning w2
       have i2:Inv { E0 with keep:=keep,N:=N } ⟨M,fun _=>none,fun _=>none,[]⟩ w c' M' J' ⟨s'.sl,hp',0⟩ a.tmps w2:=by
         have hi':=Inv.env (E:=E0) (E':={ E0 with keep:=keep,N:=N }) rfl hi
         refine { hi' with slot:=fun t x hx=>?_ }
         obtain ⟨v,a1,a2⟩:=inv.slot t x hx
         exact ⟨v,a1,a2.mono hsub hJ⟩
       exact fin (hQ hp' hq) i2
   cases e with
   | normal=>exact out hk
   | ret=>exact out hk
   | _=>exact hk.elim
end Ev
attribute [irreducible] WA
end Go.Proofs.YtadlnaljicikfaaDoor.aI
