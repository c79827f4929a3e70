/- A part of the proof: a calculus over values, and contracts of functions. No condition. -/
import Derived.Test.YtadlnaljicikfaaDoorZM3
import Derived.Defers
set_option linter.unusedVariables false
set_option linter.unusedSimpArgs false
namespace Go.Proofs.YtadlnaljicikfaaDoor.aB
open Go Go.RowKit
namespace Ev
def Rl (cl:Call):Bool:=match cl.callee with | .builtin .min=>true | _=>false
theorem VF {cl:Call} (h:Rl cl = true):cl.callee = .builtin .min:=by
 unfold Rl at h;split at h
 · assumption
 · cases h
def FW (E:Env) (sl:List (Nat × AV)):Op -> Bool
 | .indexAddr _ x _=>(match aP E sl x with | some (.lst _ _)=>true | _=>false)
 | .load _ p=>(match aP E sl p with | some (.dQ _)=>true | _=>false)
 | .convert _ _ x=>(match aP E sl x with | some (.lst _ _)=>true | some (.v _)=>true | _=>false)
 | .binOp _ _ x y _=>(match aP E sl x,aP E sl y with | some (.v (.int _ _)),some (.v (.int _ _))=>true | _,_=>false)
 | .slice _ x _ _ _=>(match aP E sl x with | some (.lst _ _)=>true | some (.v _)=>true | _=>false)
 | .build _ _=>true
 | .call cl=>Rl cl
 | _=>false
def qm:Op -> Bool
 | .binOp _ _ _ _ _=>true
 | .slice _ _ _ _ _=>true
 | .build _ _=>true
 | .call cl=>Rl cl || P8 cl
 | op=>mO op
def uT (E:Env) (sl:List (Nat × AV)) (a:Ins):Bool:=match a.g with | none=>FW E sl a.op | some _=>false
section
variable {E:Env} {T:Tab} {hs:List FuncId} {sl sl':List (Nat × AV)} {hp hp':List (Nat × au)} {ct nm base:Nat}
theorem afd{G:Prop}(h:G:=by rename_i h1 h2;exact ⟨_,h,fun hp' K' h'=>by simp only [lG,h1,h2];exact h'⟩):G:=h
theorem NZ {src dst:TypeId} {a:AV} (ha:(∃ s xs,a = .lst s xs) ∨ ∃ v,a = .v v) {K:AV -> Prop} (h:lG T src dst hp a K):∃ x,K x /\ ∀ (hp':List (Nat × au)) (K':AV -> Prop),K' x -> lG T src dst hp' a K':=by
 have els:∀ {K:List (List AV) -> Prop},rX hp a K -> ∃ xs,K xs /\ ∀ (hp':List (Nat × au)) (K':List (List AV) -> Prop),K' xs -> rX hp' a K':=by
   intro K h
   unfold rX at h
   try simp only [aU] at h
   split at h
   · rename_i xs;exact ⟨_,h,fun hp' K' h'=>h'⟩
   · exact ⟨_,h,fun hp' K' h'=>h'⟩
   · rcases ha with ⟨_,_,e⟩ | ⟨_,e⟩ <;> cases e
   · exact h.elim
 unfold lG at h
 split at h
 · refine' afd
 · refine' afd
 · rename_i h1 h2
   split at h
   · rename_i h3;exact ⟨_,h,fun hp' K' h'=>by simp only [lG,h1,h2,h3];exact h'⟩
   · rename_i h3;exact ⟨_,h.2,fun hp' K' h'=>by simp only [lG,h1,h2,h3];exact ⟨h.1,h'⟩⟩
   · exact h.elim
 · rename_i h1 h2
   split at h
   · rename_i h3
     obtain ⟨xs,h4,h5⟩:=els h
     obtain ⟨bs,hb,h6⟩:=oH h4
     exact ⟨_,h6,fun hp' K' h'=>by simp only [lG,h1,h2,h3];exact h5 hp' _ (Bq bs hb h')⟩
   · rename_i h3
     obtain ⟨xs,h4,h5⟩:=els h
     obtain ⟨bs,hb,h6⟩:=oI h4
     exact ⟨_,h6,fun hp' K' h'=>by simp only [lG,h1,h2,h3];exact h5 hp' _ (Bv bs hb h')⟩
   · exact h.elim
 · exact h.elim
theorem Ju {op:BinOp} {k:IntKind} {a b:Int} {K:Value -> Prop} (h:DY op k a b K):∃ v,K v /\ ∀ K':Value -> Prop,K' v -> DY op k a b K':=by
 cases op <;> simp only [DY] at h ⊢ <;> first | exact ⟨_,h,fun K' h'=>h'⟩ | exact ⟨_,h.2,fun K' h'=>⟨h.1,h'⟩⟩
theorem xI {places:List (Nat × Nat)}:∀ (l:List (Nat × AV)) {cells:List AV} {K:List AV -> Prop},sJ places cells l K -> ∃ cs,K cs /\ ∀ K':List AV -> Prop,K' cs -> sJ places cells l K'
 | [],cells,K,h=>⟨cells,h,fun K' h'=>h'⟩
 | (i,x) :: l,cells,K,h=>by
   simp only [sJ] at h ⊢
   split at h
   · rename_i off size cs h1 h2
     obtain ⟨hb,h⟩:=dI h
     obtain ⟨cs',h3,h4⟩:=xI l h
     exact ⟨cs',h3,fun K' h'=>kT (h4 K' h') hb⟩
   · exact h.elim
theorem afg{G:Prop}(h:G:=by exact ⟨_,_,h.2,fun K' h'=>⟨h.1,h'⟩⟩):G:=h
theorem tK {len:Nat} {lo hi:Option Int} {K:Nat -> Nat -> Prop} (h:yh len lo hi K):∃ a b,K a b /\ ∀ K':Nat -> Nat -> Prop,K' a b -> yh len lo hi K':=by
 unfold yh at h ⊢
 split at h
 · exact ⟨_,_,h,fun K' h'=>h'⟩
 · refine' afg
 · refine' afg
 · refine' afg
theorem ada{G:Prop}(h:G:=by
 rename_i h1
 obtain ⟨p,q,h2,h3⟩:=tK h
 exact ⟨_,h2,fun hp' K' h'=>by simp only [gX,h1];exact h3 _ h'⟩):G:=h
theorem qo {t:TypeId} {a:AV} {lo hi mx:Option Int} (ha:(∃ s xs,a = .lst s xs) ∨ ∃ v,a = .v v) {K:AV -> Prop} (h:gX T t hp a lo hi mx K):∃ x,K x /\ ∀ (hp':List (Nat × au)) (K':AV -> Prop),K' x -> gX T t hp' a lo hi mx K':=by
 unfold gX at h
 split at h
 · split at h
   · refine' ada
   · exact h.elim
 · split at h
   · refine' ada
   · exact h.elim
 · split at h
   · rename_i h1
     obtain ⟨hb,h⟩:=dI h
     obtain ⟨p,q,h2,h3⟩:=tK h
     cases mx with
     | none=>exact ⟨_,h2,fun hp' K' h'=>by simp only [gX,h1];exact kT (h3 _ h') hb⟩
     | some m=>exact ⟨_,h2.2,fun hp' K' h'=>by simp only [gX,h1];exact kT (h3 _ ⟨h2.1,h'⟩) hb⟩
   · exact h.elim
 · rcases ha with ⟨_,_,e⟩ | ⟨_,e⟩ <;> cases e
 · exact h.elim
theorem adk{G:Prop}(h:G:=by (rw [<- lX (sl:=sl) (sl':=sl') (fun t ht=>(hu t ht).symm)]);all_goals(rcases(⟨_⟩:PLift _)with⟨h⟩;exact h)):G:=h
theorem BQ {op:Op} {R:AV -> List (Nat × au) -> Nat -> Prop} (hs':qm op = true) (hpu:FW E sl op = true) (h:aX E T hs nm op sl hp ct R) :
   ∃ x,R x hp ct /\ ∀ (sl':List (Nat × AV)) (hp':List (Nat × au)) (aN:Nat) (R':AV -> List (Nat × au) -> Nat -> Prop),(∀ t ∈ uses op,get sl' t = get sl t) -> R' x hp' aN -> aX E T hs nm op sl' hp' aN R':=by
 cases op <;> simp only [FW,Bool.false_eq_true] at hpu <;> simp only [aX] at h
 case slice t x lo hi mx =>
   split at h
   · rename_i a l h0 m h1 h2 h3 h4
     have ha:(∃ s xs,a = .lst s xs) ∨ ∃ v,a = .v v:=by
       rw [h1] at hpu
       cases a with
       | lst s xs=>exact .inl ⟨_,_,rfl⟩
       | v v=>exact .inr ⟨_,rfl⟩
       | _=>simp at hpu
     obtain ⟨z,h5,h6⟩:=qo ha h
     refine ⟨z,h5,fun sl' hp' aN R' hu h'=>?_⟩
     refine' adk
     simp only [aX,h1,h2,h3,h4]
     exact h6 hp' _ h'
   · exact h.elim
 case build t parts =>
   split at h
   · rename_i z places l h1 h2
     obtain ⟨cs,h3,h4⟩:=xI l h
     refine ⟨_,h3,fun sl' hp' aN R' hu h'=>?_⟩
     refine' adk
     simp only [aX,h1,h2]
     exact h4 _ h'
   · exact h.elim
 case call cl =>
   have hce:=VF hpu
   unfold sK at h
   split at h
   all_goals first | (rename_i h1 _ _;rw [hce] at h1;cases h1;done) | (rename_i h1 _;rw [hce] at h1;cases h1;done) | (rename_i h1;rw [hce] at h1;cases h1;done) | skip
   · rename_i x y h1 h2
     split at h
     · rename_i k a k' b ha hb
       refine ⟨_,h,fun sl' hp' aN R' hu h'=>?_⟩
       refine' adk
       simp only [aX,sK,hce,h2,ha,hb]
       exact h'
     · exact h.elim
   · exact h.elim
 case binOp o t x y c =>
   have cx:∀ sl',(∀ t' ∈ uses (Op.binOp o t x y c),get sl' t' = get sl t') -> aP E sl' x = aP E sl x:=fun sl' hu=>ak (fun t ht=>hu t (by simp only [uses];exact List.mem_append_left _ ht))
   have cy:∀ sl',(∀ t' ∈ uses (Op.binOp o t x y c),get sl' t' = get sl t') -> aP E sl' y = aP E sl y:=fun sl' hu=>ak (fun t ht=>hu t (by simp only [uses];exact List.mem_append_right _ ht))
   split at hpu
   · rename_i k1 n1 k2 n2 hx0 hy0
     rw [hx0,hy0] at h
     simp only [FM] at h
     obtain ⟨hb,h1⟩:=dI h
     obtain ⟨v,h3,h4⟩:=Ju h1
     refine ⟨_,h3,fun sl' hp' aN R' hu h'=>?_⟩
     simp only [aX,cx sl' hu,cy sl' hu,hx0,hy0,FM]
     exact kT (h4 _ h') hb
   · cases hpu
 case convert a b x =>
   have hne:Nat.beq a b = false:=by simpa [qm,mO] using hs'
   split at h
   · rename_i y hy
     have hy':(∃ s xs,y = .lst s xs) ∨ ∃ v,y = .v v:=by
       rw [hy] at hpu
       cases y with
       | lst s xs=>exact .inl ⟨_,_,rfl⟩
       | v v=>exact .inr ⟨_,rfl⟩
       | _=>simp at hpu
     split at h
     · rename_i e;rw [hne] at e;cases e
     · obtain ⟨z,h1,h2⟩:=NZ hy' h
       refine ⟨z,h1,fun sl' hp' aN R' hu h'=>?_⟩
       simp only [aX,ak (E:=E) (x:=x) hu,hy,hne]
       exact h2 hp' _ h'
   · exact h.elim
 case load t p =>
   split at hpu
   · rename_i cs ha
     rw [ha] at h
     simp only [cellsE] at h
     obtain ⟨x,h3,h4⟩:=qj h
     refine ⟨x,h3,fun sl' hp' aN R' hu h'=>?_⟩
     simp only [aX,ak (E:=E) (x:=p) hu,ha,cellsE]
     exact h4 _ h'
   · cases hpu
 case indexAddr t x i =>
   have cx:∀ sl',(∀ t ∈ uses (Op.indexAddr t x i),get sl' t = get sl t) -> aP E sl' x = aP E sl x:=fun sl' hu=>ak (fun t ht=>hu t (by simp only [uses];exact List.mem_append_left _ ht))
   have ci:∀ sl',(∀ t ∈ uses (Op.indexAddr t x i),get sl' t = get sl t) -> aP E sl' i = aP E sl i:=fun sl' hu=>ak (fun t ht=>hu t (by simp only [uses];exact List.mem_append_right _ ht))
   split at hpu
   · rename_i z0 xs0 hx0
     split at h
     · rename_i z xs k n ha hi
       split at h
       · rename_i e sz q hl
         obtain ⟨hb,h1,h2⟩:=dI h
         obtain ⟨e',h3,h4⟩:=BL h2
         refine ⟨_,h3,fun sl' hp' aN R' hu h'=>?_⟩
         simp only [aX,cx sl' hu,ci sl' hu,ha,hi,hl]
         exact kT ⟨h1,h4 _ h'⟩ hb
       · exact h.elim
     · rename_i r v off len k n ha hi;rw [hx0] at ha;cases ha
     · rename_i cs k n ha hi;rw [hx0] at ha;cases ha
     · rename_i r v j o k n ha hi;rw [hx0] at ha;cases ha
     · exact h.elim
   · cases hpu
theorem zL {a:Ins} {d:Nat} {R:List (Nat × AV) -> List (Nat × au) -> Nat -> Prop} (hd:a.dst = some d) (hs':qm a.op = true) (hpu:uT E sl a = true) (h:fG E T hs base a sl hp ct R) :
   ∃ x sl1,fH sl1 ((d,x) :: sl) /\ R sl1 hp ct /\ ∀ (sl':List (Nat × AV)) (hp':List (Nat × au)),(∀ t ∈ fC a,get sl' t = get sl t) -> uS E T hs base a d x sl' hp':=by
 obtain ⟨i,d0,op,g⟩:=a
 simp only at hd hs';subst hd
 cases g with
 | none =>
   simp only [fG] at h
   obtain ⟨x,h1,h2⟩:=BQ hs' hpu h
   refine ⟨x,_,fH.refl _,h1,fun sl' hp' hu aN R' h'=>?_⟩
   simp only [fG]
   exact h2 sl' hp' aN _ (fun t ht=>hu t (by simp only [fC];exact List.mem_append_right _ ht)) (h' _ (fH.refl _))
 | some g=>simp [uT] at hpu
variable {l:List Ins} {deps:List (List Nat)} {Q:St -> Prop}
def J8 (ld:Bool) (hs:List FuncId) (l:List Ins) (deps:List (List Nat)) (L:List Nat) (i:Nat) (a:Ins):Prop :=
 ∀ j b,j ≠ i -> L.contains j = false -> l[j]? = some b -> (∀ ds,deps[j]? = some ds -> ds.contains i = false) -> indep a b = true /\ (ld = true -> pK hs b.op = false)
theorem iQ (ld:Bool) {i d:Nat} {a:Ins} {x:AV} (hi:l[i]? = some a) (hd:a.dst = some d):∀ (n:Nat) {L:List Nat} {sl:List (Nat × AV)} {hp:List (Nat × au)} {ct:Nat},J8 ld hs l deps L i a -> oM deps L i = true ->
   (∀ (sl':List (Nat × AV)) (hp':List (Nat × au)),(∀ t ∈ fC a,get sl' t = get sl t) -> (ld = true -> Ext hp hp') -> uS E T hs base a d x sl' hp') ->
   AnyS E T hs base l deps n (i :: L) ((d,x) :: sl) hp ct Q -> AnyS E T hs base l deps (n + 1) L sl hp ct Q
 | n,L,sl,hp,ct,hf,hr,hst,h=>by
   refine ⟨⟨i,hr⟩,fun j b hj hb=>?_⟩
   by_cases e:j = i
   · subst e
     rw [hi] at hb;obtain rfl:=Option.some.inj hb
     refine hst sl hp (fun _ _=>rfl) (fun _=>Ext.refl _) ct _ (fun sl1 h1=>?_)
     exact dN n (fun _=>rfl) h1.symm h
   · have IK:L.contains j = false:=by unfold oM at hj;rw [Bool.and_eq_true] at hj;simpa using hj.1
     have hnd:∀ ds,deps[j]? = some ds -> ds.contains i = false:=by
       intro ds hds
       unfold oM at hj hr
       rw [Bool.and_eq_true] at hj hr
       rw [hds] at hj
       cases hc:ds.contains i with
       | false=>rfl
       | true =>
         have:=List.all_eq_true.1 hj.2 i (by simpa using hc)
         have h2:=hr.1
         rw [this] at h2;simp at h2
     obtain ⟨hin,hmu⟩:=hf j b e IK hb hnd
     have ⟨p1,p2,p3⟩:(∀ t ∈ fC b,t ≠ d) /\ (b.dst ≠ some d) /\ (∀ d',b.dst = some d' -> d' ∉ fC a):=by
       simp only [indep,hd,Bool.and_eq_true,Bool.not_eq_true',bne_iff_ne,ne_eq] at hin
       refine ⟨fun t ht e=>?_,hin.1.2,fun d' hd' hm=>?_⟩
       · subst e;have:=hin.1.1;simp only [List.contains_eq_mem,decide_eq_false_iff_not] at this;exact this ht
       · have:=hin.2;rw [hd'] at this;simp only [Bool.not_eq_true',List.contains_eq_mem,decide_eq_false_iff_not] at this;exact this hm
     cases n with
     | zero =>
       exfalso
       have hlt:j < deps.length:=by
         unfold oM at hj;rw [Bool.and_eq_true] at hj
         cases hg:deps[j]? with
         | none=>rw [hg] at hj;simp at hj
         | some ds=>exact (List.getElem?_eq_some_iff.1 hg).1
       have:=h.1 j hlt
       rw [List.contains_cons,IK] at this
       simp at this;exact e this
     | succ n =>
       obtain ⟨_,h⟩:=h
       have hj':oM deps (i :: L) j = true:=by
         unfold oM at hj ⊢
         rw [Bool.and_eq_true] at hj ⊢
         refine ⟨by rw [List.contains_cons,IK];simp [e],?_⟩
         cases hg:deps[j]? with
         | none=>rw [hg] at hj;exact hj.2
         | some ds =>
           rw [hg] at hj
           simp only [List.all_eq_true] at hj ⊢
           intro k hk;rw [List.contains_cons,hj.2 k hk];simp
       refine fZ (h j b hj' hb) (fun t ht=>by rw [aj,if_neg (p1 t ht)]) (fun u hp' aN hu he h'=>?_)
       have hsw:fH (u ++ (d,x) :: sl) ((d,x) :: (u ++ sl)):=zD (fun p hp e=>by
         rcases hu p hp with h1 | h1
         · rw [e] at h1;exact p2 h1.symm
         · exact p1 p.1 (by simp only [fC];exact List.mem_append_left _ h1.1) e)
       have h2:AnyS E T hs base l deps n (i :: j :: L) ((d,x) :: (u ++ sl)) hp' aN Q:=dN n (fun k=>by simp only [List.contains_cons];cases (k == j) <;> cases (k == i) <;> rfl) hsw h'
       refine iQ ld hi hd n (fun k c hk Ya hc hcd=>hf k c hk (by rw [List.contains_cons] at Ya;simp at Ya;simpa using Ya.2) hc hcd) ?_ ?_ h2
       · unfold oM at hr ⊢
         rw [Bool.and_eq_true] at hr ⊢
         refine ⟨by rw [List.contains_cons];have:=hr.1;simp at this ⊢;exact ⟨fun e'=>e e'.symm,this⟩,?_⟩
         cases hg:deps[i]? with
         | none=>rw [hg] at hr;exact hr.2
         | some ds =>
           rw [hg] at hr
           simp only [List.all_eq_true] at hr ⊢
           intro k hk;rw [List.contains_cons,hr.2 k hk];simp
       · intro sl2 hp2 hu2 he2
         refine hst sl2 hp2 (fun t ht=>?_) (fun hl=>(he (hmu hl)).trans (he2 hl))
         rw [hu2 t ht]
         refine D9 (fun p hp e'=>?_)
         rcases hu p hp with h1 | h1
         · exact absurd ht (by rw [<- e'];exact p3 p.1 h1.symm)
         · have h2:=h1.2
           rw [aj,if_neg (p1 p.1 (by simp only [fC];exact List.mem_append_left _ h1.1)),e'] at h2
           exact h2
 termination_by n=>n
def Xo (pu:Bool) (hs:List FuncId) (l:List Ins) (deps:List (List Nat)) (L:List Nat) (i:Nat) (a:Ins):Bool :=
 (List.range l.length).all fun j=>j == i || L.contains j || (match l[j]? with
   | some b=>(match deps[j]? with | some ds=>ds.contains i | none=>false) || (indep a b && (!(iH a.op && !pu) || !pK hs b.op))
   | none=>true)
def BR (hs:List FuncId) (l:List Ins) (deps:List (List Nat)):List (Nat × Bool) -> List Nat -> Bool
 | [],L=>(List.range deps.length).all fun j=>L.contains j
 | (i,pu) :: rest,L=>oM deps L i && (J6 deps L i || (match l[i]? with | some a=>(match pu with | true=>qm a.op | false=>mO a.op) && a.dst.isSome && Xo pu hs l deps L i a | none=>false)) && BR hs l deps rest (i :: L)
def BU (l:List Ins):List (Nat × Bool) -> Option (List (Ins × Bool))
 | []=>some []
 | (i,pu) :: r=>match l[i]?,BU l r with | some a,some q=>some ((a,pu) :: q) | _,_=>none
def uU (E:Env) (T:Tab) (hs:List FuncId) (base:Nat):List (Ins × Bool) -> List (Nat × AV) -> List (Nat × au) -> Nat -> (St -> Prop) -> Prop
 | [],sl,hp,ct,Q=>uJ sl E.keep [] fun sl'=>Q ⟨sl',hp,ct⟩
 | (i,false) :: rest,sl,hp,ct,Q=>fG E T hs base i sl hp ct fun sl' hp' aN=>uU E T hs base rest sl' hp' aN Q
 | (i,true) :: rest,sl,hp,ct,Q=>zh (uT E sl i) (fG E T hs base i sl hp ct fun sl' hp' aN=>uU E T hs base rest sl' hp' aN Q)
def Rn (E:Env) (T:Tab) (hs:List FuncId) (base:Nat) (a:Ins) (r:List (Nat × AV) -> List (Nat × au) -> Nat -> (St -> Prop) -> Prop):List (Nat × AV) -> List (Nat × au) -> Nat -> (St -> Prop) -> Prop :=
 fun sl hp ct Q=>zh (uT E sl a) (fG E T hs base a sl hp ct fun sl' hp' aN=>r sl' hp' aN Q)
theorem FX {E:Env} {T:Tab} {hs:List FuncId} {base:Nat}:uU E T hs base [] = Ud E:=rfl
theorem zM {E:Env} {T:Tab} {hs:List FuncId} {base:Nat} {a:Ins} {l:List (Ins × Bool)}:uU E T hs base ((a,false) :: l) = J4 E T hs base a (uU E T hs base l):=rfl
theorem zN {E:Env} {T:Tab} {hs:List FuncId} {base:Nat} {a:Ins} {l:List (Ins × Bool)}:uU E T hs base ((a,true) :: l) = Rn E T hs base a (uU E T hs base l):=rfl
theorem Ef:∀ (plan:List (Nat × Bool)) {L:List Nat} {pl:List (Ins × Bool)} {sl:List (Nat × AV)} {hp:List (Nat × au)} {ct:Nat},BR hs l deps plan L = true -> BU l plan = some pl ->
   uU E T hs base pl sl hp ct Q -> AnyS E T hs base l deps plan.length L sl hp ct Q
 | [],L,pl,sl,hp,ct,hp',hl,h=>by
   simp only [BU,Option.some.injEq] at hl;subst hl
   simp only [uU,kQ] at h
   simp only [BR,List.all_eq_true,List.mem_range] at hp'
   exact ⟨hp',h⟩
 | (i,pu) :: rest,L,pl,sl,hp,ct,hpl,hl,h=>by
   simp only [BU] at hl
   split at hl
   · rename_i a q ha hq
     obtain rfl:=Option.some.inj hl
     have hpu:pu = true -> uT E sl a = true:=by
       rintro rfl
       simp only [uU] at h
       exact (dI h).1
     have hI:fG E T hs base a sl hp ct fun sl' hp' aN=>uU E T hs base q sl' hp' aN Q:=by
       cases pu with
       | false=>exact h
       | true=>simp only [uU] at h;exact (dI h).2
     simp only [BR,Bool.and_eq_true,Bool.or_eq_true] at hpl
     obtain ⟨⟨hr,hc⟩,hrest⟩:=hpl
     rcases hc with hc | hc
     · refine ⟨⟨i,hr⟩,fun j b hj hb=>?_⟩
       have:j = i:=by
         have:=List.all_eq_true.1 hc j (by rw [List.mem_range];exact ql hj)
         rw [hj] at this;simpa using this
       subst this
       rw [ha] at hb;obtain rfl:=Option.some.inj hb
       exact fZ hI (fun _ _=>rfl) (fun u hp' aN _ _ h'=>Ef rest hrest hq h')
     · rw [ha] at hc
       simp only [Bool.and_eq_true] at hc
       obtain ⟨⟨hs',hd⟩,hf⟩:=hc
       obtain ⟨d,hd⟩:=Option.isSome_iff_exists.1 hd
       have hF:J8 (iH a.op && !pu) hs l deps L i a:=by
         refine fun j b hj IK hb hcd=>?_
         have:=List.all_eq_true.1 hf j (by rw [List.mem_range];exact (List.getElem?_eq_some_iff.1 hb).1)
         rw [hb,IK] at this
         simp only [Bool.or_eq_true,beq_iff_eq,hj,Bool.false_eq_true,false_or,or_false,Bool.and_eq_true,Bool.not_eq_true'] at this
         rcases this with this | this
         · split at this
           · rename_i ds hds;rw [hcd ds hds] at this;cases this
           · cases this
         · refine ⟨this.1,fun hl=>?_⟩
           rcases this.2 with h3 | h3
           · rw [hl] at h3;cases h3
           · exact h3
       cases pu with
       | false =>
         obtain ⟨x,sl1,e1,h1,hst⟩:=wF hd hs' hI
         have h2:=dN rest.length (fun _=>rfl) e1 (Ef rest hrest hq h1)
         exact iQ (iH a.op && !false) ha hd rest.length hF hr (fun sl' hp' hu he=>hst sl' hp' hu (fun hl=>he (by rw [hl];rfl))) h2
       | true =>
         obtain ⟨x,sl1,e1,h1,hst⟩:=zL hd hs' (hpu rfl) hI
         have h2:=dN rest.length (fun _=>rfl) e1 (Ef rest hrest hq h1)
         exact iQ (iH a.op && !true) ha hd rest.length hF hr (fun sl' hp' hu he=>hst sl' hp' hu) h2
   · cases hl
theorem VG {nt:Nat} (hT:jB E.P T) (hm:E.P.follows .mixedOrders = true) (plan:List (Nat × Bool)) {K:Exit -> St -> Prop} {sl:List (Nat × AV)} {hp:List (Nat × au)} {ct:Nat} {id:Nat} {pl:List (Ins × Bool)}
   (kU:BR hs l deps plan [] = true) (hlen:plan.length = deps.length) (hpick:BU l plan = some pl) (h:∀ Q:St -> Prop,(∀ s,K .normal s -> Q s) -> uU E T hs (E.N + id * 512) pl sl hp ct Q) :
   Wp E nt (.draw id l deps) K ⟨sl,hp,ct⟩:=by
 intro c' e hok M0 w0 M J tm w inv hnt
 refine' ace
 have h1:=Ef plan kU hpick (h (K .normal) (fun _ h=>h))
 have hn:plan.length = ops.size:=by rw [hlen,zG];simp
 refine' aa9
end
end Ev
end Go.Proofs.YtadlnaljicikfaaDoor.aB
namespace Go.Proofs.YtadlnaljicikfaaDoor.aB
open Go
theorem aeh{G:Prop}(h:G:=by
 refine .agg (by omega) h0 (fun i c v hc hv=>?_)
 obtain ⟨c0,hc0⟩:=get i c hc
 all_goals(rcases(⟨_⟩:PLift _)with⟨h⟩;exact h)):G:=h
theorem nC.agg {cs cs':List AV} (hn:cs.length = cs'.length) (h:∀ (i:Nat) (c c':AV),cs[i]? = some c -> cs'[i]? = some c' -> nC c c'):nC (.agg cs) (.agg cs'):=by
 intro M J v hr
 have get:∀ (i:Nat) (c':AV),cs'[i]? = some c' -> ∃ c,cs[i]? = some c:=fun i c' hc'=>by
   have:=(List.getElem?_eq_some_iff.1 hc').1
   exact ⟨cs[i]'(by omega),List.getElem?_eq_getElem (by omega)⟩
 cases hr with
 | pure hp =>
   cases hp with
   | agg h1 h0 h2 =>
     refine' aeh
     exact h i c0 c hc0 hc M J v (.pure (h2 i c0 v hc0 hv))
 | agg h1 h0 h2 =>
   refine' aeh
   exact h i c0 c hc0 hc M J v (h2 i c0 v hc0 hv)
theorem nC.adW {a a' b b' d d':AV} (h:nC a a') (h':nC b b') (h'':nC d d'):nC (.agg [a,b,d]) (.agg [a',b',d']) :=
 nC.agg rfl (fun i c c' hc hc'=>by
   rcases i with _ | _ | _ | i
   · simp at hc hc';subst hc;subst hc';exact h
   · simp at hc hc';subst hc;subst hc';exact h'
   · simp at hc hc';subst hc;subst hc';exact h''
   · simp at hc)
theorem Le.agg {cs cs':List AV} (hn:cs.length = cs'.length) (h:∀ (i:Nat) (c c':AV),cs[i]? = some c -> cs'[i]? = some c' -> Le c c'):Le (.agg cs) (.agg cs'):=by
 intro M v hr
 have get:∀ (i:Nat) (c':AV),cs'[i]? = some c' -> ∃ c,cs[i]? = some c:=fun i c' hc'=>by
   have:=(List.getElem?_eq_some_iff.1 hc').1
   exact ⟨cs[i]'(by omega),List.getElem?_eq_getElem (by omega)⟩
 cases hr with
 | agg h1 h0 h2 =>
   refine' aeh
   exact h i c0 c hc0 hc M v (h2 i c0 v hc0 hv)
theorem Le.adW {a a' b b' d d':AV} (h:Le a a') (h':Le b b') (h'':Le d d'):Le (.agg [a,b,d]) (.agg [a',b',d']) :=
 Le.agg rfl (fun i c c' hc hc'=>by
   rcases i with _ | _ | _ | i
   · simp at hc hc';subst hc;subst hc';exact h
   · simp at hc hc';subst hc;subst hc';exact h'
   · simp at hc hc';subst hc;subst hc';exact h''
   · simp at hc)
end Go.Proofs.YtadlnaljicikfaaDoor.aB
namespace Go.Proofs.YtadlnaljicikfaaDoor.aB
open Go Go.RowKit
namespace Ev
inductive Pl where
 | fin
 | one (i:Nat) (pu:Bool) (k:Pl)
 | two (i:Nat) (k:Pl) (j:Nat) (m:Pl)
def Pl.depth:Pl -> Nat
 | .fin=>0
 | .one _ _ k=>k.depth + 1
 | .two _ k _ _=>k.depth + 1
def uV (hs:List FuncId) (l:List Ins) (deps:List (List Nat)):Pl -> List Nat -> Bool
 | .fin,L=>(List.range deps.length).all fun j=>L.contains j
 | .one i pu k,L=>oM deps L i && (J6 deps L i || (match l[i]? with | some a=>(match pu with | true=>qm a.op | false=>mO a.op) && a.dst.isSome && Xo pu hs l deps L i a | none=>false)) && uV hs l deps k (i :: L)
 | .two i k j m,L=>oM deps L i && ((List.range deps.length).all fun x=>x == i || x == j || !oM deps L x) && k.depth == m.depth && uV hs l deps k (i :: L) && uV hs l deps m (j :: L)
inductive Ro where
 | fin
 | one (a:Ins) (pu:Bool) (k:Ro)
 | two (a:Ins) (k:Ro) (b:Ins) (m:Ro)
def uX (l:List Ins):Pl -> Option Ro
 | .fin=>some .fin
 | .one i pu k=>match l[i]?,uX l k with | some a,some q=>some (.one a pu q) | _,_=>none
 | .two i k j m=>match l[i]?,uX l k,l[j]?,uX l m with | some a,some q,some b,some r=>some (.two a q b r) | _,_,_,_=>none
structure Both (A B:Prop):Prop where
 l:A
 r:B
theorem both {A B:Prop} (a:A) (b:B):Both A B:=⟨a,b⟩
def runT (E:Env) (T:Tab) (hs:List FuncId) (base:Nat):Ro -> List (Nat × AV) -> List (Nat × au) -> Nat -> (St -> Prop) -> Prop
 | .fin,sl,hp,ct,Q=>uJ sl E.keep [] fun sl'=>Q ⟨sl',hp,ct⟩
 | .one i false k,sl,hp,ct,Q=>fG E T hs base i sl hp ct fun sl' hp' aN=>runT E T hs base k sl' hp' aN Q
 | .one i true k,sl,hp,ct,Q=>zh (uT E sl i) (fG E T hs base i sl hp ct fun sl' hp' aN=>runT E T hs base k sl' hp' aN Q)
 | .two i k j m,sl,hp,ct,Q=>Both (fG E T hs base i sl hp ct fun sl' hp' aN=>runT E T hs base k sl' hp' aN Q) (fG E T hs base j sl hp ct fun sl' hp' aN=>runT E T hs base m sl' hp' aN Q)
def adX (E:Env) (T:Tab) (hs:List FuncId) (base:Nat) (a:Ins) (r:List (Nat × AV) -> List (Nat × au) -> Nat -> (St -> Prop) -> Prop) (b:Ins) (s:List (Nat × AV) -> List (Nat × au) -> Nat -> (St -> Prop) -> Prop):List (Nat × AV) -> List (Nat × au) -> Nat -> (St -> Prop) -> Prop :=
 fun sl hp ct Q=>Both (fG E T hs base a sl hp ct fun sl' hp' aN=>r sl' hp' aN Q) (fG E T hs base b sl hp ct fun sl' hp' aN=>s sl' hp' aN Q)
theorem dW {E:Env} {T:Tab} {hs:List FuncId} {base:Nat}:runT E T hs base .fin = Ud E:=by funext sl hp ct Q;simp only [runT];rfl
theorem dF {E:Env} {T:Tab} {hs:List FuncId} {base:Nat} {a:Ins} {k:Ro}:runT E T hs base (.one a false k) = J4 E T hs base a (runT E T hs base k):=by funext sl hp ct Q;simp only [runT];rfl
theorem dG {E:Env} {T:Tab} {hs:List FuncId} {base:Nat} {a:Ins} {k:Ro}:runT E T hs base (.one a true k) = Rn E T hs base a (runT E T hs base k):=by funext sl hp ct Q;simp only [runT];rfl
theorem dX {E:Env} {T:Tab} {hs:List FuncId} {base:Nat} {a b:Ins} {k m:Ro}:runT E T hs base (.two a k b m) = adX E T hs base a (runT E T hs base k) b (runT E T hs base m):=by funext sl hp ct Q;simp only [runT];rfl
section
variable {E:Env} {T:Tab} {hs:List FuncId} {base:Nat} {l:List Ins} {deps:List (List Nat)} {Q:St -> Prop}
theorem wK:∀ (p:Pl) {L:List Nat} {q:Ro} {sl:List (Nat × AV)} {hp:List (Nat × au)} {ct:Nat},uV hs l deps p L = true -> uX l p = some q ->
   runT E T hs base q sl hp ct Q -> AnyS E T hs base l deps p.depth L sl hp ct Q
 | .fin,L,q,sl,hp,ct,hp',hl,h=>by
   simp only [uX,Option.some.injEq] at hl;subst hl
   simp only [runT,kQ] at h
   simp only [uV,List.all_eq_true,List.mem_range] at hp'
   exact ⟨hp',h⟩
 | .one i pu rest,L,q,sl,hp,ct,hpl,hl,h=>by
   simp only [uX] at hl
   split at hl
   · rename_i a q' ha hq
     obtain rfl:=Option.some.inj hl
     have hpu:pu = true -> uT E sl a = true:=by
       rintro rfl
       simp only [runT] at h
       exact (dI h).1
     have hI:fG E T hs base a sl hp ct fun sl' hp' aN=>runT E T hs base q' sl' hp' aN Q:=by
       cases pu with
       | false=>simp only [runT] at h;exact h
       | true=>simp only [runT] at h;exact (dI h).2
     simp only [uV,Bool.and_eq_true,Bool.or_eq_true] at hpl
     obtain ⟨⟨hr,hc⟩,hrest⟩:=hpl
     rcases hc with hc | hc
     · refine ⟨⟨i,hr⟩,fun j b hj hb=>?_⟩
       have:j = i:=by
         have:=List.all_eq_true.1 hc j (by rw [List.mem_range];exact ql hj)
         rw [hj] at this;simpa using this
       subst this
       rw [ha] at hb;obtain rfl:=Option.some.inj hb
       exact fZ hI (fun _ _=>rfl) (fun u hp' aN _ _ h'=>wK rest hrest hq h')
     · rw [ha] at hc
       simp only [Bool.and_eq_true] at hc
       obtain ⟨⟨hs',hd⟩,hf⟩:=hc
       obtain ⟨d,hd⟩:=Option.isSome_iff_exists.1 hd
       have hF:J8 (iH a.op && !pu) hs l deps L i a:=by
         refine fun j b hj IK hb hcd=>?_
         have:=List.all_eq_true.1 hf j (by rw [List.mem_range];exact (List.getElem?_eq_some_iff.1 hb).1)
         rw [hb,IK] at this
         simp only [Bool.or_eq_true,beq_iff_eq,hj,Bool.false_eq_true,false_or,or_false,Bool.and_eq_true,Bool.not_eq_true'] at this
         rcases this with this | this
         · split at this
           · rename_i ds hds;rw [hcd ds hds] at this;cases this
           · cases this
         · refine ⟨this.1,fun hl=>?_⟩
           rcases this.2 with h3 | h3
           · rw [hl] at h3;cases h3
           · exact h3
       cases pu with
       | false =>
         obtain ⟨x,sl1,e1,h1,hst⟩:=wF hd hs' hI
         have h2:=dN rest.depth (fun _=>rfl) e1 (wK rest hrest hq h1)
         exact iQ (iH a.op && !false) ha hd rest.depth hF hr (fun sl' hp' hu he=>hst sl' hp' hu (fun hl=>he (by rw [hl];rfl))) h2
       | true =>
         obtain ⟨x,sl1,e1,h1,hst⟩:=zL hd hs' (hpu rfl) hI
         have h2:=dN rest.depth (fun _=>rfl) e1 (wK rest hrest hq h1)
         exact iQ (iH a.op && !true) ha hd rest.depth hF hr (fun sl' hp' hu he=>hst sl' hp' hu) h2
   · cases hl
 | .two i k j m,L,q,sl,hp,ct,hpl,hl,h=>by
   simp only [uX] at hl
   split at hl
   · rename_i a q1 b q2 ha hq1 hb hq2
     obtain rfl:=Option.some.inj hl
     simp only [runT] at h
     simp only [uV,Bool.and_eq_true] at hpl
     obtain ⟨⟨⟨⟨hr,hall⟩,hd⟩,h1⟩,h2⟩:=hpl
     have hd:k.depth = m.depth:=by simpa using hd
     refine ⟨⟨i,hr⟩,fun x c hx hc=>?_⟩
     have:=List.all_eq_true.1 hall x (by rw [List.mem_range];exact ql hx)
     rw [hx] at this
     simp only [Bool.not_true,Bool.or_false,Bool.or_eq_true,beq_iff_eq] at this
     rcases this with rfl | rfl
     · rw [ha] at hc;obtain rfl:=Option.some.inj hc
       exact fZ h.l (fun _ _=>rfl) (fun u hp' aN _ _ h'=>wK k h1 hq1 h')
     · rw [hb] at hc;obtain rfl:=Option.some.inj hc
       rw [hd]
       exact fZ h.r (fun _ _=>rfl) (fun u hp' aN _ _ h'=>wK m h2 hq2 h')
   · cases hl
theorem VH {nt:Nat} (hT:jB E.P T) (hm:E.P.follows .mixedOrders = true) (plan:Pl) {K:Exit -> St -> Prop} {sl:List (Nat × AV)} {hp:List (Nat × au)} {ct:Nat} {id:Nat} {pl:Ro}
   (kU:uV hs l deps plan [] = true) (hlen:plan.depth = deps.length) (hpick:uX l plan = some pl) (h:∀ Q:St -> Prop,(∀ s,K .normal s -> Q s) -> runT E T hs (E.N + id * 512) pl sl hp ct Q) :
   Wp E nt (.draw id l deps) K ⟨sl,hp,ct⟩:=by
 intro c' e hok M0 w0 M J tm w inv hnt
 refine' ace
 have h1:=wK plan kU hpick (h (K .normal) (fun _ h=>h))
 have hn:plan.depth = ops.size:=by rw [hlen,zG];simp
 refine' aa9
end
end Ev
namespace Ev
def oO (dd deps:List (List Nat)):Bool:=dd.length == deps.length && (List.range dd.length).all fun i=>match dd[i]?,deps[i]? with
 | some a,some b=>a.all (fun x=>b.contains x) && b.all (fun x=>a.contains x || a.any fun m=>match deps[m]? with | some c=>c.contains x | none=>false)
 | _,_=>false
theorem xJ {dd deps:List (List Nat)} (h:oO dd deps = true):deps.length = dd.length:=by
 unfold oO at h;rw [Bool.and_eq_true] at h;exact (by simpa using h.1:dd.length = deps.length).symm
def Closed (deps:List (List Nat)) (L:List Nat):Prop:=∀ m c x,L.contains m = true -> deps[m]? = some c -> c.contains x = true -> L.contains x = true
theorem Closed.nil (deps:List (List Nat)):Closed deps []:=fun m c x h=>by simp at h
theorem Closed.cons {deps:List (List Nat)} {L:List Nat} (h:Closed deps L) {i:Nat} (hr:oM deps L i = true):Closed deps (i :: L):=by
 intro m c x hm hc hx
 rw [List.contains_cons,Bool.or_eq_true] at hm ⊢
 rcases hm with hm | hm
 · have:m = i:=by simpa using hm
   subst this
   unfold oM at hr
   rw [hc,Bool.and_eq_true] at hr
   exact .inr (List.all_eq_true.1 hr.2 x (by simpa using hx))
 · exact .inr (h m c x hm hc hx)
theorem N7 {dd deps:List (List Nat)} (ht:oO dd deps = true) {L:List Nat} (hc:Closed deps L) (i:Nat):oM dd L i = oM deps L i:=by
 have hlen:=xJ ht
 unfold oO at ht
 rw [Bool.and_eq_true] at ht
 unfold oM
 congr 1
 cases h1:dd[i]? with
 | none =>
   have:deps[i]? = none:=List.getElem?_eq_none (by have:=List.getElem?_eq_none_iff.1 h1;omega)
   rw [this]
 | some a =>
   have hi:=(List.getElem?_eq_some_iff.1 h1).1
   have h2:=List.all_eq_true.1 ht.2 i (by rw [List.mem_range];exact hi)
   rw [h1] at h2
   cases h3:deps[i]? with
   | none=>rw [h3] at h2;cases h2
   | some b =>
     rw [h3] at h2
     simp only [Bool.and_eq_true,List.all_eq_true] at h2
     simp only
     rw [Bool.eq_iff_iff,List.all_eq_true,List.all_eq_true]
     constructor
     · intro h x hx
       have:=h2.2 x hx
       rw [Bool.or_eq_true] at this
       rcases this with h4 | h4
       · exact h x (by simpa using h4)
       · rw [List.any_eq_true] at h4
         obtain ⟨m,hm,h5⟩:=h4
         split at h5
         · rename_i c hcm;exact hc m c x (h m hm) hcm h5
         · cases h5
     · intro h x hx
       exact h x (by simpa using h2.1 x hx)
def Eh:Op -> Bool
 | .slice _ _ _ _ _=>true
 | .build _ _=>true
 | .call cl=>Rl cl || P8 cl
 | op=>mO op
def kW:Op -> Bool
 | .slice _ _ _ _ _=>true
 | op=>iH op
section
variable {E:Env} {T:Tab} {hs:List FuncId} {sl sl':List (Nat × AV)} {hp hp':List (Nat × au)} {ct nm base:Nat}
theorem Jv {t:TypeId} {a:AV} {lo hi mx:Option Int} {K:AV -> Prop} (h:gX T t hp a lo hi mx K):∃ x,K x /\ ∀ (hp':List (Nat × au)) (K':AV -> Prop),Ext hp hp' -> K' x -> gX T t hp' a lo hi mx K':=by
 cases a with
 | lst s xs=>obtain ⟨x,h1,h2⟩:=qo (.inl ⟨_,_,rfl⟩) h;exact ⟨x,h1,fun hp' K' _ h'=>h2 hp' K' h'⟩
 | v v=>obtain ⟨x,h1,h2⟩:=qo (.inr ⟨_,rfl⟩) h;exact ⟨x,h1,fun hp' K' _ h'=>h2 hp' K' h'⟩
 | own r ver off len =>
   simp only [gX] at h
   split at h
   · rename_i sz' q k h1 h2
     obtain ⟨hb,h3⟩:=dL h
     obtain ⟨p,q',h4,h5⟩:=tK h3
     refine ⟨_,h4,fun hp' K' he h'=>?_⟩
     obtain ⟨k2,g,e1,e2,e3,e4,e5⟩:=he r k h2
     simp only [gX,h1,g]
     exact iJ (h5 _ h') (by rw [e2,e3];exact hb)
   · exact h.elim
 | _=>simp only [gX] at h
theorem xK {op:Op} {R:AV -> List (Nat × au) -> Nat -> Prop} (hs':Eh op = true) (h:aX E T hs nm op sl hp ct R) :
   ∃ x,R x hp ct /\ ∀ (sl':List (Nat × AV)) (hp':List (Nat × au)) (aN:Nat) (R':AV -> List (Nat × au) -> Nat -> Prop),(∀ t ∈ uses op,get sl' t = get sl t) -> (kW op = true -> Ext hp hp') -> R' x hp' aN -> aX E T hs nm op sl' hp' aN R':=by
 have old:mO op = true -> (iH op = true -> kW op = true) -> ∃ x,R x hp ct /\ ∀ (sl':List (Nat × AV)) (hp':List (Nat × au)) (aN:Nat) (R':AV -> List (Nat × au) -> Nat -> Prop),(∀ t ∈ uses op,get sl' t = get sl t) -> (kW op = true -> Ext hp hp') -> R' x hp' aN -> aX E T hs nm op sl' hp' aN R':=fun ho hl=>by
   obtain ⟨x,h1,h2⟩:=tJ ho h
   exact ⟨x,h1,fun sl' hp' aN R' hu he h'=>h2 sl' hp' aN R' hu (fun h3=>he (hl h3)) h'⟩
 have new:qm op = true -> FW E sl op = true -> ∃ x,R x hp ct /\ ∀ (sl':List (Nat × AV)) (hp':List (Nat × au)) (aN:Nat) (R':AV -> List (Nat × au) -> Nat -> Prop),(∀ t ∈ uses op,get sl' t = get sl t) -> (kW op = true -> Ext hp hp') -> R' x hp' aN -> aX E T hs nm op sl' hp' aN R':=fun hv hp0=>by
   obtain ⟨x,h1,h2⟩:=BQ hv hp0 h
   exact ⟨x,h1,fun sl' hp' aN R' hu _ h'=>h2 sl' hp' aN R' hu h'⟩
 cases op
 case slice t x lo hi mx =>
   simp only [aX] at h
   split at h
   · rename_i a l h0 m h1 h2 h3 h4
     obtain ⟨z,h5,h6⟩:=Jv h
     refine ⟨z,h5,fun sl' hp' aN R' hu he h'=>?_⟩
     refine' adk
     simp only [aX,h1,h2,h3,h4]
     exact h6 hp' _ (he rfl) h'
   · exact h.elim
 case build t parts=>exact new rfl rfl
 case call cl =>
   simp only [Eh,Bool.or_eq_true] at hs'
   rcases hs' with hs' | hs'
   · exact new (by simp only [qm,hs',Bool.true_or]) (by simp only [FW,hs'])
   · exact old hs' (fun h=>h)
 all_goals exact old hs' (fun h=>h)
theorem Jw {a:Ins} {d:Nat} {R:List (Nat × AV) -> List (Nat × au) -> Nat -> Prop} (hd:a.dst = some d) (hs':Eh a.op = true) (h:fG E T hs base a sl hp ct R) :
   ∃ x sl1,fH sl1 ((d,x) :: sl) /\ R sl1 hp ct /\ ∀ (sl':List (Nat × AV)) (hp':List (Nat × au)),(∀ t ∈ fC a,get sl' t = get sl t) -> (kW a.op = true -> Ext hp hp') -> uS E T hs base a d x sl' hp':=by
 obtain ⟨i,d0,op,g⟩:=a
 simp only at hd hs';subst hd
 cases g with
 | none =>
   simp only [fG] at h
   obtain ⟨x,h1,h2⟩:=xK hs' h
   refine' acn
 | some g =>
   refine' aao
   · rename_i b hb
     have skip:∀ c,b = c -> (R ((d,.v (.tuple #[])) :: (t,.v (.bool c)) :: sl) hp ct) -> (want = !c) -> ∃ x sl1,fH sl1 ((d,x) :: sl) /\ R sl1 hp ct /\ ∀ (sl':List (Nat × AV)) (hp':List (Nat × au)),(∀ t' ∈ fC ⟨i,some d,op,some (t,want)⟩,get sl' t' = get sl t') -> (kW op = true -> Ext hp hp') -> uS E T hs base ⟨i,some d,op,some (t,want)⟩ d x sl' hp':=by
       rintro c rfl h hw
       refine' ac1
       cases b <;> subst hw <;> exact this
     have go:∀ c,b = c -> (aX E T hs (base + i * 8) op ((t,.v (.bool c)) :: sl) hp ct fun x hp' aN=>R ((d,x) :: (t,.v (.bool c)) :: sl) hp' aN) -> (want = c) -> ∃ x sl1,fH sl1 ((d,x) :: sl) /\ R sl1 hp ct /\ ∀ (sl':List (Nat × AV)) (hp':List (Nat × au)),(∀ t' ∈ fC ⟨i,some d,op,some (t,want)⟩,get sl' t' = get sl t') -> (kW op = true -> Ext hp hp') -> uS E T hs base ⟨i,some d,op,some (t,want)⟩ d x sl' hp':=by
       rintro c rfl h hw
       obtain ⟨x,h1,h2⟩:=xK hs' h
       refine' abe
       cases b <;> subst hw <;> exact this
     split at h
     · cases b
       · exact skip false rfl h rfl
       · exact go true rfl h rfl
     · cases b
       · exact go false rfl h rfl
       · exact skip true rfl h rfl
   · refine' ab6
   · exact h.elim
end
def adY (pu:Bool) (hs:List FuncId) (l:List Ins) (deps:List (List Nat)) (L:List Nat) (i:Nat) (a:Ins):Bool :=
 (List.range l.length).all fun j=>j == i || L.contains j || (match l[j]? with
   | some b=>(match deps[j]? with | some ds=>ds.contains i | none=>false) || (indep a b && (!(kW a.op && !pu) || !pK hs b.op))
   | none=>true)
inductive Tr where
 | fin
 | stop
 | one (i:Nat) (pu:Bool) (k:Tr)
 | any (r:Tr)
 | alt (i:Nat) (k:Tr) (r:Tr)
def Tr.depth:Tr -> Nat
 | .fin=>0
 | .stop=>0
 | .one _ _ k=>k.depth + 1
 | .any r=>r.depth
 | .alt _ k _=>k.depth + 1
def Tr.opts:Tr -> List Nat
 | .alt i _ r=>i :: r.opts
 | _=>[]
def Tr.Xp:Tr -> Bool
 | .alt _ _ _=>true
 | _=>false
def Tr.sN:Tr -> Bool
 | .alt _ _ _ | .stop=>true
 | _=>false
def Tr.same (n:Nat):Tr -> Bool
 | .alt _ k r=>k.depth + 1 == n && r.same n
 | _=>true
def qp (hs:List FuncId) (l:List Ins) (deps:List (List Nat)):Tr -> List Nat -> Bool
 | .fin,L=>(List.range deps.length).all fun j=>L.contains j
 | .stop,L=>true
 | .one i pu k,L=>oM deps L i && (J6 deps L i || (match l[i]? with | some a=>(match pu with | true=>qm a.op | false=>Eh a.op) && a.dst.isSome && adY pu hs l deps L i a | none=>false)) && (!k.sN && qp hs l deps k (i :: L))
 | .any r,L=>r.Xp && r.same r.depth && (r.opts.any fun i=>oM deps L i) && ((List.range deps.length).all fun x=>r.opts.contains x || !oM deps L x) && qp hs l deps r L
 | .alt i k r,L=>r.sN && (!k.sN && qp hs l deps k (i :: L)) && qp hs l deps r L
inductive N8 where
 | fin
 | stop
 | one (a:Ins) (pu:Bool) (k:N8)
 | any (r:N8)
 | alt (a:Ins) (k:N8) (r:N8)
def qw (l:List Ins):Tr -> Option N8
 | .fin=>some .fin
 | .stop=>some .stop
 | .one i pu k=>match l[i]?,qw l k with | some a,some q=>some (.one a pu q) | _,_=>none
 | .any r=>match qw l r with | some q=>some (.any q) | none=>none
 | .alt i k r=>match l[i]?,qw l k,qw l r with | some a,some q,some p=>some (.alt a q p) | _,_,_=>none
def iI (E:Env) (T:Tab) (hs:List FuncId) (base:Nat):N8 -> List (Nat × AV) -> List (Nat × au) -> Nat -> (St -> Prop) -> Prop
 | .fin,sl,hp,ct,Q=>uJ sl E.keep [] fun sl'=>Q ⟨sl',hp,ct⟩
 | .stop,_,_,_,_=>True
 | .one i false k,sl,hp,ct,Q=>fG E T hs base i sl hp ct fun sl' hp' aN=>iI E T hs base k sl' hp' aN Q
 | .one i true k,sl,hp,ct,Q=>zh (uT E sl i) (fG E T hs base i sl hp ct fun sl' hp' aN=>iI E T hs base k sl' hp' aN Q)
 | .any r,sl,hp,ct,Q=>iI E T hs base r sl hp ct Q
 | .alt a k r,sl,hp,ct,Q=>Both (fG E T hs base a sl hp ct fun sl' hp' aN=>iI E T hs base k sl' hp' aN Q) (iI E T hs base r sl hp ct Q)
def af8 (E:Env) (T:Tab) (hs:List FuncId) (base:Nat) (a:Ins) (r:List (Nat × AV) -> List (Nat × au) -> Nat -> (St -> Prop) -> Prop) (s:List (Nat × AV) -> List (Nat × au) -> Nat -> (St -> Prop) -> Prop):List (Nat × AV) -> List (Nat × au) -> Nat -> (St -> Prop) -> Prop :=
 fun sl hp ct Q=>Both (fG E T hs base a sl hp ct fun sl' hp' aN=>r sl' hp' aN Q) (s sl hp ct Q)
def adZ:List (Nat × AV) -> List (Nat × au) -> Nat -> (St -> Prop) -> Prop:=fun _ _ _ _=>True
theorem qx {E:Env} {T:Tab} {hs:List FuncId} {base:Nat}:iI E T hs base .fin = Ud E:=by funext sl hp ct Q;simp only [iI];rfl
theorem nD {E:Env} {T:Tab} {hs:List FuncId} {base:Nat}:iI E T hs base .stop = adZ:=by funext sl hp ct Q;simp only [iI];rfl
theorem nG {E:Env} {T:Tab} {hs:List FuncId} {base:Nat} {a:Ins} {k:N8}:iI E T hs base (.one a false k) = J4 E T hs base a (iI E T hs base k):=by funext sl hp ct Q;simp only [iI];rfl
theorem nH {E:Env} {T:Tab} {hs:List FuncId} {base:Nat} {a:Ins} {k:N8}:iI E T hs base (.one a true k) = Rn E T hs base a (iI E T hs base k):=by funext sl hp ct Q;simp only [iI];rfl
theorem qy {E:Env} {T:Tab} {hs:List FuncId} {base:Nat} {r:N8}:iI E T hs base (.any r) = iI E T hs base r:=by funext sl hp ct Q;simp only [iI]
theorem qA {E:Env} {T:Tab} {hs:List FuncId} {base:Nat} {a:Ins} {k r:N8}:iI E T hs base (.alt a k r) = af8 E T hs base a (iI E T hs base k) (iI E T hs base r):=by funext sl hp ct Q;simp only [iI];rfl
section
variable {E:Env} {T:Tab} {hs:List FuncId} {base nt:Nat} {l:List Ins} {deps:List (List Nat)} {Q:St -> Prop}
theorem zO:∀ (p:Tr) {L:List Nat} {q:N8} {sl:List (Nat × AV)} {hp:List (Nat × au)} {ct:Nat},qp hs l deps p L = true -> qw l p = some q -> iI E T hs base q sl hp ct Q ->
   (p.sN = false -> AnyS E T hs base l deps p.depth L sl hp ct Q) /\ (∀ n,p.same (n + 1) = true -> ∀ x c,p.opts.contains x = true -> l[x]? = some c -> fG E T hs base c sl hp ct fun sl' hp' aN=>AnyS E T hs base l deps n (x :: L) sl' hp' aN Q)
 | .fin,L,q,sl,hp,ct,hp',hl,h=>by
   simp only [qw,Option.some.injEq] at hl;subst hl
   simp only [iI,kQ] at h
   simp only [qp,List.all_eq_true,List.mem_range] at hp'
   exact ⟨fun _=>⟨hp',h⟩,fun n _ x c hx=>by simp [Tr.opts] at hx⟩
 | .stop,L,q,sl,hp,ct,hp',hl,h=>⟨fun e=>by simp [Tr.sN] at e,fun n _ x c hx=>by simp [Tr.opts] at hx⟩
 | .any r,L,q,sl,hp,ct,hpl,hl,h=>by
   refine ⟨fun _=>?_,fun n _ x c hx=>by simp [Tr.opts] at hx⟩
   simp only [qw] at hl
   split at hl
   · rename_i q' hq
     obtain rfl:=Option.some.inj hl
     simp only [iI] at h
     simp only [qp,Bool.and_eq_true] at hpl
     obtain ⟨⟨⟨⟨ha,hsm⟩,hex⟩,hall⟩,hr⟩:=hpl
     obtain ⟨m,hm⟩:∃ m,r.depth = m + 1:=by
       cases r <;> simp [Tr.Xp] at ha
       exact ⟨_,rfl⟩
     rw [show (Tr.any r).depth = r.depth from rfl]
     rw [hm] at hsm ⊢
     obtain ⟨i,hi,hri⟩:=List.any_eq_true.1 hex
     refine ⟨⟨i,hri⟩,fun x c hx hc=>?_⟩
     have:=List.all_eq_true.1 hall x (by rw [List.mem_range];exact ql hx)
     rw [hx] at this
     simp only [Bool.not_true,Bool.or_false] at this
     exact (zO r hr hq h).2 m hsm x c this hc
   · cases hl
 | .alt i k r,L,q,sl,hp,ct,hpl,hl,h=>by
   refine ⟨fun e=>by simp [Tr.sN] at e,fun n hn x c hx hc=>?_⟩
   simp only [qw] at hl
   split at hl
   · rename_i a q1 q2 ha hq1 hq2
     obtain rfl:=Option.some.inj hl
     simp only [iI] at h
     simp only [qp,Bool.and_eq_true] at hpl
     obtain ⟨⟨hend,hke,hk⟩,hr⟩:=hpl
     simp only [Tr.same,Bool.and_eq_true,beq_iff_eq] at hn
     obtain ⟨hn1,hn2⟩:=hn
     have hn1:k.depth = n:=by omega
     simp only [Tr.opts,List.contains_cons,Bool.or_eq_true,beq_iff_eq] at hx
     by_cases e:x = i
     · subst e
       rw [ha] at hc;obtain rfl:=Option.some.inj hc
       have hke:k.sN = false:=by simpa using hke
       refine fZ h.l (fun _ _=>rfl) (fun u hp' aN _ _ h'=>?_)
       rw [<- hn1];exact (zO k hk hq1 h').1 hke
     · exact (zO r hr hq2 h.r).2 n hn2 x c (hx.resolve_left e) hc
   · cases hl
 | .one i pu rest,L,q,sl,hp,ct,hpl,hl,h=>by
   refine ⟨fun _=>?_,fun n _ x c hx=>by simp [Tr.opts] at hx⟩
   simp only [qw] at hl
   split at hl
   · rename_i a q' ha hq
     obtain rfl:=Option.some.inj hl
     have hpu:pu = true -> uT E sl a = true:=by
       rintro rfl
       simp only [iI] at h
       exact (dI h).1
     have hI:fG E T hs base a sl hp ct fun sl' hp' aN=>iI E T hs base q' sl' hp' aN Q:=by
       cases pu with
       | false=>simp only [iI] at h;exact h
       | true=>simp only [iI] at h;exact (dI h).2
     simp only [qp,Bool.and_eq_true,Bool.or_eq_true] at hpl
     obtain ⟨⟨hr,hc⟩,hrest⟩:=hpl
     obtain ⟨hne,hrest⟩:=hrest
     have hne:rest.sN = false:=by simpa using hne
     have goK:∀ {L':List Nat} {sl:List (Nat × AV)} {hp:List (Nat × au)} {ct:Nat},L' = i :: L -> iI E T hs base q' sl hp ct Q -> AnyS E T hs base l deps rest.depth L' sl hp ct Q:=fun e h'=>by subst e;exact (zO rest hrest hq h').1 hne
     rcases hc with hc | hc
     · refine ⟨⟨i,hr⟩,fun j b hj hb=>?_⟩
       have:j = i:=by
         have:=List.all_eq_true.1 hc j (by rw [List.mem_range];exact ql hj)
         rw [hj] at this;simpa using this
       subst this
       rw [ha] at hb;obtain rfl:=Option.some.inj hb
       exact fZ hI (fun _ _=>rfl) (fun u hp' aN _ _ h'=>goK rfl h')
     · rw [ha] at hc
       simp only [Bool.and_eq_true] at hc
       obtain ⟨⟨hs',hd⟩,hf⟩:=hc
       obtain ⟨d,hd⟩:=Option.isSome_iff_exists.1 hd
       have hF:J8 (kW a.op && !pu) hs l deps L i a:=by
         refine fun j b hj IK hb hcd=>?_
         have:=List.all_eq_true.1 hf j (by rw [List.mem_range];exact (List.getElem?_eq_some_iff.1 hb).1)
         rw [hb,IK] at this
         simp only [Bool.or_eq_true,beq_iff_eq,hj,Bool.false_eq_true,false_or,or_false,Bool.and_eq_true,Bool.not_eq_true'] at this
         rcases this with this | this
         · split at this
           · rename_i ds hds;rw [hcd ds hds] at this;cases this
           · cases this
         · refine ⟨this.1,fun hl=>?_⟩
           rcases this.2 with h3 | h3
           · rw [hl] at h3;cases h3
           · exact h3
       cases pu with
       | false =>
         obtain ⟨x,sl1,e1,h1,hst⟩:=Jw hd hs' hI
         have h2:=dN rest.depth (fun _=>rfl) e1 (goK rfl h1)
         exact iQ (kW a.op && !false) ha hd rest.depth hF hr (fun sl' hp' hu he=>hst sl' hp' hu (fun hl=>he (by rw [hl];rfl))) h2
       | true =>
         obtain ⟨x,sl1,e1,h1,hst⟩:=zL hd hs' (hpu rfl) hI
         have h2:=dN rest.depth (fun _=>rfl) e1 (goK rfl h1)
         exact iQ (kW a.op && !true) ha hd rest.depth hF hr (fun sl' hp' hu he=>hst sl' hp' hu) h2
   · cases hl
section
variable {M0:pV} {w0:World} {M:Mem} {J:bf} {tm:Array Value} {w:World} {ops:Array Oper}
theorem Rq (hT:jB E.P T) (hl:insL ops (numbered ops) = some l) {dd:List (List Nat)} (zG:dd = ops.toList.map direct) (htr:oO dd deps = true) {K:Exit -> St -> Prop} (hK:∀ s,Q s -> K .normal s) :
   ∀ (n:Nat) {L:List Nat} {listed:Array Bool} {sl:List (Nat × AV)} {hp:List (Nat × au)} {ct:Nat} {M:Mem} {J:bf} {tm:Array Value} {w:World},xE tm.size ops = true -> tm.size = nt -> AnyS E T hs base l deps n L sl hp ct Q -> Inv E M0 w0 ct M J ⟨sl,hp,ct⟩ tm w ->
     listed.size = ops.size -> (∀ i,i < ops.size -> listed.getD i true = L.contains i) -> (∀ i,L.contains i = true -> i < ops.size) -> Closed deps L -> wpAny E.P .any ops (Post E M0 w0 nt K) n listed ⟨tm,M0.d⟩ w:=by
 have hdl:dd.length = ops.size:=by rw [zG];simp
 have hlen:deps.length = ops.size:=by rw [<- hdl];exact xJ htr
 have key:∀ {L:List Nat} {listed:Array Bool},listed.size = ops.size -> (∀ i,i < ops.size -> listed.getD i true = L.contains i) -> (∀ i,L.contains i = true -> i < ops.size) -> Closed deps L -> ∀ i,i ∈ Region.ready .any ops listed ↔ (oM deps L i = true):=by
   intro L listed hsz hL hLb hcl i
   rw [<- N7 htr hcl]
   refine' abt
   · rintro ⟨h0,o,ho,hall⟩
     refine' aaz
     · rw [gd _ _ h'] at this;exact this
     · refine' afe
   · intro h
     rw [Bool.and_eq_true] at h
     cases ho:ops[i]? with
     | none=>rw [ho] at h;simp at h
     | some o =>
       refine' aa7
       · rw [gd _ _ h'];exact this
       · have:=hLb _ this;omega
 intro n
 induction n with
 | zero =>
   intro L listed sl hp ct M J tm w hok hnt h inv hsz hL hLb hcl
   refine ⟨?_,_,M,J,hK _ h.2,inv.only E.keep,hnt,rfl⟩
   apply List.eq_nil_iff_forall_not_mem.2
   intro i hi
   rw [key hsz hL hLb hcl] at hi
   refine' aew
 | succ n ih =>
   intro L listed sl hp ct M J tm w hok hnt h inv hsz hL hLb hcl
   obtain ⟨⟨i0,hi0⟩,h⟩:=h
   refine ⟨fun he=>?_,fun i hi=>?_⟩
   · have:=(key hsz hL hLb hcl i0).2 hi0
     rw [he] at this;cases this
   · rw [key hsz hL hLb hcl] at hi
     refine' abk
     refine ih (by rw [hs'];exact hok) (by rw [hs',hnt]) hr hinv (by simp [hsz]) (fun k hk=>?_) (fun k hk=>?_) (hcl.cons hi)
     rotate_left
     · rw [List.contains_cons,Bool.or_eq_true] at hk
       rcases hk with hk | hk
       · have:k = i:=by simpa using hk
         omega
       · exact hLb k hk
     rw [List.contains_cons]
     by_cases e:k = i
     · subst e;simp [hsz,hlt]
     · rw [getD_set_ne true (Ne.symm e),hL k hk];simp [e]
end
theorem VI {nt:Nat} (hT:jB E.P T) (hm:E.P.follows .mixedOrders = true) (BX:List (List Nat)) (plan:Tr) {K:Exit -> St -> Prop} {sl:List (Nat × AV)} {hp:List (Nat × au)} {ct:Nat} {id:Nat} {pl:N8}
   (htr:oO deps BX = true) (hend:plan.sN = false) (kU:qp hs l BX plan [] = true) (hlen:plan.depth = deps.length) (hpick:qw l plan = some pl) (h:∀ Q:St -> Prop,(∀ s,K .normal s -> Q s) -> iI E T hs (E.N + id * 512) pl sl hp ct Q) :
   Wp E nt (.draw id l deps) K ⟨sl,hp,ct⟩:=by
 intro c' e hok M0 w0 M J tm w inv hnt
 refine' ace
 have h1:=(zO plan kU hpick (h (K .normal) (fun _ h=>h))).1 hend
 have hn:plan.depth = ops.size:=by rw [hlen,zG];simp
 rw [hn] at h1
 exact Rq hT hl zG htr (fun _ h=>h) ops.size (by rw [hnt];exact hok) hnt h1 (Inv.drew inv) (by simp) (fun i hi=>by simp [hi]) (fun i hi=>by simp at hi) (Closed.nil _)
end
end Ev
end Go.Proofs.YtadlnaljicikfaaDoor.aB
namespace Go.Proofs.YtadlnaljicikfaaDoor.aB
open Go Go.Lib Go.RowKit
namespace Ev
end Ev
end Go.Proofs.YtadlnaljicikfaaDoor.aB
namespace Go.Proofs.YtadlnaljicikfaaDoor.aB
open Go Go.RowKit
section
variable {E:Env} {M0:pV} {w0:World} {c c':Nat} {M M1:Mem} {J J1:bf} {s s':St} {tm tm':Array Value} {w w':World} {ds:List Deferred}
end
def VJ (E:Env) (M:Mem) (J:bf) (ds:List Deferred) (g:FuncId) (xs:List AV):Prop :=
 ∃ cap ag,ds = [⟨.fn (.func g) cap,ag⟩] /\ (ag ++ cap).size = xs.length /\ ∀ (i:Nat) (x:AV) (v:Value),xs[i]? = some x -> (ag ++ cap)[i]? = some v -> Rel M J x v
theorem VJ.mono {E:Env} {M M':Mem} {J J':bf} {ds:List Deferred} {g:FuncId} {xs:List AV} (h:VJ E M J ds g xs) (hm:Sub M M') (hj:gW J J'):VJ E M' J' ds g xs :=
 let ⟨cap,ag,a,b,d⟩:=h;⟨cap,ag,a,b,fun i x v h1 h2=>(d i x v h1 h2).mono hm hj⟩
def aeA (E:Env) (M0:pV) (w0:World) (nt:Nat) (K0:Exit -> St -> Prop) (K1:FuncId -> List AV -> Exit -> St -> Prop) (e:Exit) (a:Act) (w:World):Prop :=
 (∃ s M J,K0 e s /\ Inv E M0 w0 s.ctr M J s a.tmps w /\ a.tmps.size = nt /\ a.defers = []) ∨
 (∃ g xs s M J,K1 g xs e s /\ Inv E M0 w0 s.ctr M J s a.tmps w /\ a.tmps.size = nt /\ VJ E M J a.defers g xs)
def DWp (E:Env) (nt:Nat) (cc:CC) (K0:Exit -> St -> Prop) (K1:FuncId -> List AV -> Exit -> St -> Prop) (s:St):Prop :=
 ∀ c,comp c = cc -> bI nt c = true -> ∀ (M0:pV) (w0:World) (M:Mem) (J:bf) (tm:Array Value) (w:World),M0.d = [] -> Inv E M0 w0 s.ctr M J s tm w -> tm.size = nt -> c.wp E.P (aeA E M0 w0 nt K0 K1) ⟨tm,[]⟩ w
theorem Rt {c:Code} {id:Nat} {l:List Ins} (h:comp c = .reg id l):∃ ops,c = .region id ops false /\ insL ops (numbered ops) = some l:=by
 cases c
 case region i ops dr =>
   cases dr <;> simp only [comp] at h <;> split at h
   · rename_i l' hl;injection h with h1 h2;subst h1;subst h2;exact ⟨ops,rfl,hl⟩
   all_goals cases h
 all_goals (simp only [comp] at h;cases h)
theorem FY {ops:Array Oper}:∀ {L:List (Nat × Oper)} {l:List Ins},insL ops L = some l -> l.length = L.length
 | [],l,h=>by simp only [insL,Option.some.injEq] at h;subst h;rfl
 | p :: L,l,h=>by
   simp only [insL] at h
   split at h
   · rename_i a r ha hr
     obtain rfl:=Option.some.inj h
     rw [List.length_cons,List.length_cons,FY hr]
   · cases h
namespace Ev
section
variable {E:Env} {T:Tab} {hs:List FuncId} {nt:Nat} {K0:Exit -> St -> Prop} {K1:FuncId -> List AV -> Exit -> St -> Prop}
end
end Ev
attribute [irreducible] DWp
end Go.Proofs.YtadlnaljicikfaaDoor.aB
