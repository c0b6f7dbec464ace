/- Texts. -/
import Derived.Laws.Bits64b
import Derived.Lib.Mul64
import Derived.Test.YtaiecngnppbhlaaGreatDoorD6
namespace Go.Proofs.YtaiecngnppbhlaaGreatDoor
set_option linter.unusedSectionVars false
set_option linter.unusedVariables false
set_option linter.unusedSimpArgs false
open Go.RowKit Tryz
variable (gl:List (Nat×List G))
variable {α:Type}{a j k n:Nat}{g:DRollGuard}{st:St}{o:DOp}{c:Bool}{b l label r:List UInt8}{fi_a1 fi_f fi_may fid:FuncId}{ops:Array Oper}{rest:List Oper}{d m z:Int}{x x':DRollMember}{R R':DRollRoll}{i:DIdent}{P:Program}{y:Operand}{t:TypeId}{fa_a1 fa_f fa_may fc_a1 fc_f fc_may:List G}{s:List DSealed}
section
variable {P:Program}
theorem NB{es:oE}{seen:List Nat}{k:Value}{g:G}(h:(k,g,n)∈es)(hn:n∉seen):(es.filter λe=> !(seen++[n]).contains e.2.2).length<(es.filter λe=> !seen.contains e.2.2).length:=by
 induction es with
 |nil=>cases h
 |cons e r ih=>
  have mono:∀(r:oE),(r.filter λe=> !(seen++[n]).contains e.2.2).length<=(r.filter λe=> !seen.contains e.2.2).length:=by intro r;induction r<;>grind
  grind
theorem J1{it a b iti mi clock since id b0:Nat}{T ty ty1 ty2:TypeId}{pos1 pos2:String}{af1 af2:Array Edge}{bd:Code}{es:oE}{S:List Nat->St}{Q:Exit->St->Prop}(I:List Nat->Prop)(hI:I [])
  (hlt:∀e∈es,e.2.2<clock) (d:since=clock) (h0:Le P st (S [])) (f:∀seen,gR (S seen).σ (aB (S seen) (.tmp it))=some (iti,T,some mi,since,seen,clock)) (hmap:∀seen,pk (S seen).σ (.mref mi)=some (mi,ty,es,clock))
  (hn:∀seen,a<(S seen).n/\b<(S seen).n)
  (body:∀seen k g n,I seen->(k,g,n)∈es->n∉seen->Tr P bd {S seen with fr:=(b,.lit (.bool true))::(a,.tup [.lit (.bool true),db k,g])::(S seen).fr,σ:=(iti,some ⟨T,[],some (.iter (some mi) since (seen++[n]) clock)⟩)::(S seen).σ} (uE (λs=>I (seen++[n])/\Le P s (S (seen++[n]))) (pu b0 Q)))
  (fin:∀seen,I seen->(∀e∈es,e.2.2∈seen)->Q .normal {S seen with fr:=(b,.lit (.bool false))::(a,.tup [.lit (.bool false)])::(S seen).fr}):
  Tr P (.block b0 (.loop (.seq (.region id #[⟨some a,.next (.tmp it) false,ty1,pos1,af1,none⟩,⟨some b,.extract (.tmp a) 0,ty2,pos2,af2,none⟩] false) (.seq (.cond (.tmp b) .skip (.exit b0)) bd)))) st Q:=by
 refine BI (L4 (λq:{seen:List Nat//I seen}=>S q.1) (λq=>(es.filter λe=> !q.1.contains e.2.2).length) ⟨[],hI⟩ h0 λ⟨seen,c⟩=>?_)
 dsimp only
 have hok:pD es seen clock=true:=by unfold pD;cases es<;>grind
 refine BH (lG (l:=[⟨some a,.next (.tmp it) false,ty1,pos1,af1,none⟩,⟨some b,.extract (.tmp a) 0,ty2,pos2,af2,none⟩]) (.inl ⟨rfl,?_⟩))
 refine(Mf rfl (by grind) (f seen) (hmap seen) hok).eqv λs hs=>⟨s,?_,Eqv.refl _⟩
 have ext:∀(g:G) (r:List G) (s1:St),s1.n=(S seen).n->aD s1.fr a= .tup (g::r)->∀{K:St->Prop},K (s1.put (some b) g)->vU P #[⟨some a,.next (.tmp it) false,ty1,pos1,af1,none⟩,⟨some b,.extract (.tmp a) 0,ty2,pos2,af2,none⟩] K [⟨some b,.extract (.tmp a) 0,ty2,pos2,af2,none⟩] s1:=by intro g r s1 h1 h2 K j;refine .inl ⟨rfl,((fM (g:=g) (by grind) ?_).gsn).eqv λs2 i=>⟨s2,by rw[i];exact j,Eqv.refl _⟩⟩;rw[J9];show HS 0 (aD s1.fr a)=some g;rw[h2];rfl
 rcases hs with⟨hc,rfl⟩|⟨k,g,n,hc,rfl⟩
 .refine ext (.lit (.bool false)) [] _ ?_ ?_ ?_
  .rfl
  .show aD ((a,_)::_) a=_
   grind
  refine wm (BH (wk (t:=false) ?_ (Fz ?_)))
  .show aD ((b,_)::_) b=_
   grind
  refine DU aC (DU aC ?_)
  simp only[pu,if_pos]
  exact fin seen c (Ih (by grind) hc)
 .obtain⟨h1,h2⟩:=Ii hc
  refine ext (.lit (.bool true)) [db k,g] _ ?_ ?_ ?_
  .rfl
  .show aD ((a,_)::_) a=_
   grind
  refine wm (BH (wk (t:=true) ?_ (Fy ?_)))
  .show aD ((b,_)::_) b=_
   grind
  exact wm (Tr.mono (body seen k g n c h1 h2) λe s hs=>Hu (λs h=>⟨⟨seen++[n],h.1⟩,h.2,NB h1 h2⟩) (by grind) hs)
end
section
variable {P:Program} {sA:St} {mi:Nat} {hs:List Hn}
def YT(d:Nat){σ:aQ}{x g:G}(h:jr σ x=some g):HP:=⟨some (.m d g),jr (CY σ (KE σ x)) x=some g,by rw[(DS λi hi=>(jT i hi).symm).1];exact h⟩
theorem EK{n:Nat}{k:Value}{g:G}:∀{es:oE},(es.map (·.2.2)).Nodup->(k,g,n)∈es->es.find? (λe=>Nat.beq e.2.2 n)=some (k,g,n)
 |[],_,h=>by cases h
 |e::r,hd,h=>by
  rw[List.map_cons,List.nodup_cons] at hd;rcases List.mem_cons.1 h with rfl|h
  .simp
  .have hne:e.2.2≠n:=λe2=>hd.1 (by rw[e2];exact List.mem_map.2 ⟨_,h,rfl⟩);have hb:Nat.beq e.2.2 n=false:=by
    cases hb:Nat.beq e.2.2 n with
    |true=>exact absurd (bc hb) hne
    |false=>rfl
   rw[List.find?_cons,hb];exact EK hd.2 h
theorem yo{σ:aQ}{g:G}{iti mi since clock n:Nat}{T ty:TypeId}{seen:List Nat}{es:oE}{k:Value}{v:G}(hi:gR σ g=some (iti,T,some mi,since,seen++[n],clock))(hm:pk σ (.mref mi)=some (mi,ty,es,clock))(hd:(es.map (·.2.2)).Nodup)(h:(k,v,n)∈es):jr σ g=some (.tup [db k,v]):=by unfold jr;rw[hi];simp only[hm,List.getLast?_append,List.getLast?_singleton,Option.some_or,Nat.beq_refl,aN,EK hd h]
def ZY(P:Program)(hs:List Hn)(sA:St)(o:Oper):Option (List Prop×G):=match syO P o sA hs 0 with
 |some (C,g,[],[],none)=>some (C.toList,g)
 |_=>none
theorem Wr{o:Oper}{C:List Prop}{g:G}{d:Nat}(h:ZY P hs sA o=some (C,g))(a:∀p∈C,p)(hd:o.dst=some d)(hn:d<sA.n)(hg:aD sA.fr d=g):VE P sA mi o:=by
 refine⟨d,hd,λs e1 e2 e3 e4 e5=>?_⟩;unfold ZY at h;split at h
 .rename_i C' b hx;cases h;have:=(M0 (X:=True) (λx hx=>by rw[hd] at hx;cases hx;exact hn) hx (by cases C' with|none=>trivial|some p=>exact⟨a p aC,trivial⟩)).1 s ⟨e1,e2,e3,λh=>(by cases h),λi hi=>(by cases hi),e4⟩;rw[hg,<-hd];exact this
 .cases h
def IC(P:Program)(hs:List Hn)(mi:Nat):List Oper->St->Fr->Option Fr
 |[],s,V=>some V
 |o::r,s,V=>match o.op with
  | .makeMap .. =>(match o.dst with
   |some d=>IC P hs mi r {s with fr:=(d,.mref mi)::s.fr} ((d,.mref mi)::V)
   |none=>none)
  | .insert .. =>IC P hs mi r s V
  | .range .. =>(match o.dst with
   |some d=>IC P hs mi r {s with fr:=(d,.ref (mi+1) 0)::s.fr} ((d,.ref (mi+1) 0)::V)
   |none=>none)
  |_=>(match o.dst,ZY P hs s o with
   |some d,some (_,g)=>IC P hs mi r {s with fr:=(d,g)::s.fr} ((d,g)::V)
   |_,_=>none)
def U3(P:Program)(hs:List Hn)(st:St)(l:List Oper):Fr:=(IC P hs st.c l st []).getD []
def EL(P:Program)(hs:List Hn)(sA:St)(mi:Nat):List Oper->Option (List Prop×List G×List G)
 |[]=>some ([],[],[])
 |o::r=>match EL P hs sA mi r with
  |none=>none
  |some (C,a,b)=>match o.op with
   | .makeMap .. =>bif(match o.dst with
    |some d=>iF 16 (aD sA.fr d) (.mref mi)
    |none=>false) then some (C,a,b) else none
   | .insert _ x _ _=>bif iF 16 (aB sA x) (.mref mi) then some (C,a,b) else none
   | .range _ x=>bif(iF 16 (aB sA x) (.mref mi)&&(match o.dst with
    |some d=>iF 16 (aD sA.fr d) (.ref (mi+1) 0)
    |none=>false)) then some (C,a,b) else none
   |_=>match o.dst with
    |some d=>bif Nat.blt d sA.n then(match ZY P hs sA o with
     |some (D,g)=>some (D++C,g::a,aD sA.fr d::b)
     |none=>none) else none
    |none=>none
theorem KR{a r:α}(h:(bif c then some a else none)=some r):c=true/\a=r:=by
 cases c
 .cases h
 .cases h;exact⟨rfl,rfl⟩
theorem IE:∀(l:List Oper) (C:List Prop) (a b:List G),EL P hs sA mi l=some (C,a,b)->(∀p∈C,p)->a=b->∀o∈l,lN P sA mi o
 |[],C,a,b,h,_,_,o,ho=>by cases ho
 |x::r,C,a,b,h,f,c,o,ho=>by
  unfold EL at h;split at h
  .cases h
  rename_i i a1 b1 h1;have rest:(∀p∈i,p)->a1=b1->o∈r->lN P sA mi o:=λhc he hm=>IE r i a1 b1 h1 hc he o hm;split at h
  .rename_i e;obtain⟨hb,hq⟩:=KR h;cases hq;rcases List.mem_cons.1 ho with rfl|ho
   .unfold lN;rw[e];exact hb
   .exact rest f c ho
  .rename_i e;obtain⟨hb,hq⟩:=KR h;cases hq;rcases List.mem_cons.1 ho with rfl|ho
   .unfold lN;rw[e];exact hb
   .exact rest f c ho
  .rename_i e;obtain⟨hb,hq⟩:=KR h;cases hq;rcases List.mem_cons.1 ho with rfl|ho
   .unfold lN;rw[e];exact hb
   .exact rest f c ho
  .rename_i c1 c2 c3;split at h
   .rename_i d hd;cases hk:Nat.blt d sA.n with
    |false=>rw[hk] at h;cases h
    |true=>
     rw[hk] at h;simp only[aN] at h;split at h
     .rename_i D g hv;cases h;simp only[List.cons.injEq] at c;rcases List.mem_cons.1 ho with rfl|ho
      .unfold lN;split
       .rename_i e;exact absurd e (c1 _ _)
       .rename_i e;exact absurd e (c2 _ _ _ _)
       .rename_i e;exact absurd e (c3 _ _)
       .exact Wr hv (λp hp=>f p (List.mem_append_left _ hp)) hd (gX hk) c.1.symm
      .exact rest (λp hp=>f p (List.mem_append_right _ hp)) c.2 ho
     .cases h
   .cases h
end
section
variable {P:Program} [M:Mix P] {st:St} {Q:Exit->St->Prop} {fn:Func} {Bs:List (St->Prop)} {m:Bool} {p:List Nat}
def Ws(x:Option (List Prop×List G×List G)):List G:=match x with|some (_,a,_)=>a|none=>[]
def IF:Code->List Oper
 | .region _ ops true=>ops.toList
 |_=>[]
def aaG:Code->Bool
 | .region _ _ true=>true
 |_=>false
theorem dMl(T kt et:TypeId)(a:Nat)(A:List HP)
  (hQ:∀es clock,MapOf ((IF (bq p (ai fn))).filterMap (mM (iH st (U3 P (bK A) st (IF (bq p (ai fn))))))) es clock->Gp P fn Q Bs true p {st with fr:=U3 P (bK A) st (IF (bq p (ai fn)))++st.fr,σ:=(st.c+1,some ⟨T,[],some (.iter (some st.c) clock [] clock)⟩)::(st.c,some ⟨T,[],some (.map es clock)⟩)::st.σ,c:=st.c+2})
  (hc:EL P (bK A) (iH st (U3 P (bK A) st (IF (bq p (ai fn))))) st.c (IF (bq p (ai fn)))=some (pR A,Ws (EL P (bK A) (iH st (U3 P (bK A) st (IF (bq p (ai fn))))) st.c (IF (bq p (ai fn)))),Ws (EL P (bK A) (iH st (U3 P (bK A) st (IF (bq p (ai fn))))) st.c (IF (bq p (ai fn))))):=by kernel_rfl)
  (hs:JZ P st.n T kt et (IF (bq p (ai fn))) a=true:=by kernel_rfl) (hv:((U3 P (bK A) st (IF (bq p (ai fn)))).all λq=>(IF (bq p (ai fn))).any λo=>rk o q.1)=true:=by kernel_rfl) (hi:aaG (bq p (ai fn))=true:=by kernel_rfl):Gp P fn Q Bs false p st:=by
 show Tr P (bq p (ai fn)) st (dz P (bE p (ai fn) Bs []) Q)
 generalize hcd:bq p (ai fn)=c at hQ hc hs hv hi⊢
 generalize Ws _=gs at hc
 cases c with
 |region id ops d=>
  cases d with
  |false=>cases hi
  |true=>
   have:=J0 (id:=id) M.mx hs hv (IE _ _ _ _ hc (wR A) rfl) (Q:=dz P (bE p (ai fn) Bs []) Q) hQ
   rw[show ops=(IF (.region id ops true)).toArray from Array.toArray_toList.symm]
   exact this
 |_=>cases hi
theorem dRe(J:St)(O:List HP)(kk:Gp P fn Q Bs false p J)(vs:List TypeId:=[])(ρ:List (Nat×Nat):=[])(kd:List (Nat×Rk):=[])(e:Iw P vs ρ kd J st=some (pR O,J):=by kernel_rfl):Gp P fn Q Bs false p st:=Tr.le kk (sR e (wR O))
def U4(c a b:Nat):List Oper->Bool
 |[⟨some a1,.next (.tmp it1) false,_,_,_,none⟩,⟨some b1,.extract (.tmp a2) 0,_,_,_,none⟩]=>Nat.beq a1 a&&Nat.beq it1 c&&Nat.beq b1 b&&Nat.beq a2 a
 |_=>false
def Wt(c a b b0:Nat):Code->Bool
 | .block b1 (.loop (.seq (.region _ ops false) (.seq (.cond (.tmp b') .skip (.exit b2)) _)))=>Nat.beq b1 b0&&Nat.beq b2 b0&&Nat.beq b' b&&U4 c a b ops.toList
 |_=>false
def YU:Code->Code
 | .block _ (.loop (.seq _ (.seq _ bd)))=>bd
 |_=> .skip
theorem Ty{it b b0:Nat}{c:Code}(h:Wt it a b b0 c=true):∃id i j f g af1 k,c= .block b0 (.loop (.seq (.region id #[⟨some a,.next (.tmp it) false,i,f,af1,none⟩,⟨some b,.extract (.tmp a) 0,j,g,k,none⟩] false) (.seq (.cond (.tmp b) .skip (.exit b0)) (YU c)))):=by
 unfold Wt at h;split at h
 .rename_i b1 id ops b' b2 bd;simp only[bA] at h;obtain⟨⟨⟨h1,h2⟩,h3⟩,h4⟩:=h;obtain rfl:=bc h1;obtain rfl:=bc h2;obtain rfl:=bc h3;unfold U4 at h4;split at h4
  .rename_i a1 s l n f1 o a2 t2 q f2 d;simp only[bA] at h4;obtain⟨⟨⟨k1,k2⟩,k3⟩,r⟩:=h4;obtain rfl:=bc k1;obtain rfl:=bc k2;obtain rfl:=bc k3;obtain rfl:=bc r;have e:=congrArg List.toArray d;rw[Array.toArray_toList] at e;refine⟨id,l,t2,n,q,f1,f2,?_⟩;rw[e];rfl
  .cases h4
 .cases h
theorem dMw(j a b b0:Nat){iti mi clock since:Nat}{T ty:TypeId}{es:oE}(S:List Nat->St)(I:List Nat->Prop)(hI:I [])
  (hlt:∀e∈es,e.2.2<clock) (c:since=clock) (h0:Le P st (S [])) (f:∀seen,gR (S seen).σ (aB (S seen) (.tmp j))=some (iti,T,some mi,since,seen,clock)) (hmap:∀seen,pk (S seen).σ (.mref mi)=some (mi,ty,es,clock))
  (hn:∀seen,a<(S seen).n/\b<(S seen).n)
  (body:∀(B:St->Prop) seen k g n,I seen->(k,g,n)∈es->n∉seen->(I (seen++[n])->B (S (seen++[n])))->Gp P fn Q (Bs++[B]) false (p++[2,2,1,1]) {S seen with fr:=(b,.lit (.bool true))::(a,.tup [.lit (.bool true),db k,g])::(S seen).fr,σ:=(iti,some ⟨T,[],some (.iter (some mi) since (seen++[n]) clock)⟩)::(S seen).σ})
  (fin:∀seen,I seen->(∀e∈es,e.2.2∈seen)->Gp P fn Q Bs true p {S seen with fr:=(b,.lit (.bool false))::(a,.tup [.lit (.bool false)])::(S seen).fr})
  (d:Wt j a b b0 (bq p (ai fn))=true:=by kernel_rfl) (i:YU (bq p (ai fn))=bq (p++[2,2,1,1]) (ai fn):=by kernel_rfl)
  (q:∀B,bE (p++[2,2,1,1]) (ai fn) (Bs++[B]) []= .lp B:: .blk b0::bE p (ai fn) Bs []:=by intro B;kernel_rfl):Gp P fn Q Bs false p st:=by
 show Tr P (bq p (ai fn)) st (dz P (bE p (ai fn) Bs []) Q)
 obtain⟨id,r,s,l,o,af1,v,hcd⟩:=Ty d
 rw[hcd,i]
 refine J1 (iti:=iti) (mi:=mi) (clock:=clock) (since:=since) (T:=T) (ty:=ty) (es:=es) (S:=S) I hI hlt c h0 f hmap hn (λseen k g n hi hm hns=>?_) λseen hi hs=>fin seen hi hs
 have:=body (λt=>t=S (seen++[n])/\I (seen++[n])) seen k g n hi hm hns λh=>⟨rfl,h⟩
 unfold Gp at this
 rw[q] at this
 refine Tr.mono this λe t ht=>?_
 unfold dz at ht
 cases e with
 |normal=>
  unfold uE at ht⊢
  obtain⟨u,hu,rfl,hx⟩:=ht
  exact⟨hx,hu⟩
 |_=>unfold uE at ht⊢;exact ht
end
section
variable {P:Program}
def U5(P:Program)(gl:List (Nat×List G))(fid:FuncId)(gs:List G)(σR:aQ)(c:Nat){ι:Type}(g:ι->G)(U:ι->aQ)(c':ι->Nat):Prop:=∀(o:Oper) (st:St) (y:Operand) (xs:Array Operand) (ats:Array TypeId) (fst cap:List G),o.op= .call {callee:= .value y,args:=xs,argTypes:=ats}->(∀d,o.dst=some d->d<st.n)->aB st y= .clo (.func fid) fst cap->fst++xs.toList.map (aB st)++cap=gs->st.gl=gl->(∀q∈σR,ag st.σ q.1=q.2)->st.c=c->th P o st (λs=>∃x,s={st with σ:=U x++st.σ,c:=c' x}.put o.dst (g x))
theorem U6{gl:List (Nat×List G)}{gs0 gs:List G}{ι:Type}{σ0 σR:aQ}{σ1:ι->aQ}{r g:ι->G}{c:Nat}{c1 c':ι->Nat}(L:List Nat)(U:ι->aQ)(hM:Xx P gl fid gs0 σ0 L.length r σ1 c1)
  (hin:w6 (vi L) σR σ0 0 L) (d:∀x,oI (ja L c) (σ1 x) (U x)) (hlt:L.all (λi=>Nat.blt i c)=true:=by kernel_rfl) (hnd:decide L.Nodup=true:=by kernel_rfl) (hgs:gs.map (qg (vi L) 20)=gs0:=by kernel_rfl)
  (hk0:σ0.all (λq=>Nat.blt q.1 L.length)=true:=by kernel_rfl) (hcov:∀x,(List.range L.length).all (λk=>(U x).any λq=>Nat.beq q.1 k)=true) (hg:∀x,qg (ja L c) 20 (r x)=g x) (hc:∀x,c+(c1 x-L.length)=c' x) (hR:σR.all (λq=>q.2.isSome)=true:=by kernel_rfl):U5 P gl fid gs σR c g (λx=>zO L c (U x)) c':=by
 intro o st y xs ats fst cap ho hd hf a hgl hq hsc
 have j:=hin.get
 have hgetR:∀i o,ag σR i=some o->ag st.σ i=some o:=λi o hh=>by
  have:∀l:aQ,(∀q∈l,q∈σR)->ag l i=some o->ag st.σ i=some o:=by
   intro l;induction l with
   |nil=>intro _ h;cases h
   |cons q t ih=>grind
  grind
 have key:=MC (o:=o) (st:=st) (f:=y) (xs:=xs) (ats:=ats) (fid:=fid) (fst:=fst) (cap:=cap) L (gs0:=gs0) (σ0:=σ0) (r:=r) (σ1:=σ1) (c1:=c1) ho hd hf (by rw[hgl];exact hM) (λk i hk=>by
   have:=List.all_eq_true.1 hlt i (bO hk);simp_all) (of_decide_eq_true hnd) (by rw[a,hgs]) (by grind) (λk o hkk=>by
   have:∀l:aQ,(∀q∈l,q∈σ0)->ag l k=some o->k<L.length:=by
    intro l;induction l with
    |nil=>intro _ h;cases h
    |cons q t ih=>
     intro hs h;rw[show(q::t:aQ)=(q.1,q.2)::t from rfl,bj] at h;split at h
     .rename_i e;subst e;exact gX (List.all_eq_true.1 hk0 q (by grind))
     grind
   grind) (λx=>zO L c (U x)++st.σ) (λx i o hh=>by
   have:∀l:aQ,(∀q∈l,q∈U x)->ag (zO L c l++st.σ) i=some o->(∃k,(k,some o)∈U x/\ja L c k=some i)\/(ag st.σ i=some o/\∀q∈l,ja L c q.1≠some i):=by intro l;induction l<;>grind [zO,ja]
   rcases this (U x) (λ_ h=>h) hh with⟨k,b,h1⟩|⟨h1,h2⟩
   .grind [oI.get]
   .refine .inr ⟨h1,λhi=>?_⟩;obtain⟨k,hk⟩:=List.getElem?_of_mem hi;have hkl:=(cr hk).1;obtain⟨q,b,he⟩:=List.any_eq_true.1 (List.all_eq_true.1 (hcov x) k (List.mem_range.2 hkl));refine h2 q b ?_;rw[bc he];unfold ja;rw[hk])
 grind
end
section
variable {P:Program} [M:Mix P] {st:St} {Q:Exit->St->Prop} {fn:Func} {Bs:List (St->Prop)} {m:Bool} {p:List Nat} {ι:Type}
def YV(a b d:Nat):Code->Bool
 | .region _ ops false=>match ops.toList with
  |[⟨some a',.move _,_,_,_,none⟩,⟨some b',.call {callee:= .value _,args:=_,argTypes:=_},_,_,_,none⟩,⟨some d',.assign (.tmp b2),_,_,_,none⟩]=>Nat.beq a' a&&Nat.beq b' b&&Nat.beq d' d&&Nat.beq b2 b
  |_=>false
 |_=>false
def Z0:Code->Operand
 | .region _ ops _=>match ops.toList with
  |[⟨_,.move x,_,_,_,_⟩,_,_]=>x
  |_=> .tmp 0
 |_=> .tmp 0
def c3Y:Code->Operand
 | .region _ ops _=>match ops.toList with
  |[_,⟨_,.call {callee:= .value y,args:=_,argTypes:=_},_,_,_,_⟩,_]=>y
  |_=> .tmp 0
 |_=> .tmp 0
def c3A:Code->List Operand
 | .region _ ops _=>match ops.toList with
  |[_,⟨_,.call {callee:= .value _,args:=xs,argTypes:=_},_,_,_,_⟩,_]=>xs.toList
  |_=>[]
 |_=>[]
theorem U7{K:St->Prop}{o:Oper}{st st1:St}(hg:o.guard=none)(hs:GS P o st st1)(h:vU P ops K rest st1):vU P ops K (o::rest) st:= .inl ⟨by simp[ce,hg],hs.gsn.eqv (by grind [Eqv.refl])⟩
theorem YW{K:St->Prop}{o:Oper}{st:St}{S:St->Prop}(hg:o.guard=none)(hs:th P o st S)(h:∀s,S s->vU P ops K rest s):vU P ops K (o::rest) st:= .inl (by grind [ce,th.eqv,Eqv.refl])
theorem dCl(a b d:Nat){gs:List G}{σR:aQ}{g:ι->G}{U:ι->aQ}{c':ι->Nat}{fst cap:List G}(hF:U5 P st.gl fid gs σR st.c g U c')
  (h:∀x,Gp P fn Q Bs true p {st with fr:=(d,g x)::(b,g x)::(a,aB st (Z0 (bq p (ai fn))))::st.fr,σ:=U x++st.σ,c:=c' x})
  (hi:YV a b d (bq p (ai fn))=true:=by kernel_rfl) (hy:aB {st with fr:=(a,aB st (Z0 (bq p (ai fn))))::st.fr} (c3Y (bq p (ai fn)))= .clo (.func fid) fst cap:=by kernel_rfl)
  (hx:fst++(c3A (bq p (ai fn))).map (aB {st with fr:=(a,aB st (Z0 (bq p (ai fn))))::st.fr})++cap=gs:=by kernel_rfl)
  (hR:σR.map (λq=>ag st.σ q.1)=σR.map (·.2):=by kernel_rfl) (hn:(Nat.blt a st.n&&Nat.blt b st.n&&Nat.blt d st.n)=true:=by kernel_rfl):Gp P fn Q Bs false p st:=by
 show Tr P (bq p (ai fn)) st (dz P (bE p (ai fn) Bs []) Q)
 replace h:∀x,dz P (bE p (ai fn) Bs []) Q .normal _:=h
 revert hi hy hx h
 generalize bq p (ai fn)=c
 intro hi hy hx h
 unfold YV at hi
 split at hi
 .rename_i id ops
  split at hi
  .rename_i a' x k o f1 b' y xs ats t2 r f2 A b2 t u v f
   simp only[bA] at hi hn
   obtain⟨⟨⟨k1,k2⟩,k3⟩,i⟩:=hi
   obtain⟨⟨n1,n2⟩,j⟩:=hn
   obtain rfl:=bc k1
   obtain rfl:=bc k2
   obtain rfl:=bc k3
   obtain rfl:=bc i
   have e:=congrArg List.toArray f
   rw[Array.toArray_toList] at e
   subst e
   simp only[Z0,c3Y,c3A] at h hy hx
   refine lG (U7 rfl (fM (g:=aB st x) (λz hz=>by cases hz;exact gX n1) rfl) (YW rfl (hF _ _ y xs ats fst cap rfl (λz hz=>by cases hz;exact gX n2) hy hx rfl (λq hq=>?_) rfl) ?_))
   .have:∀l:aQ,l.map (λq=>ag st.σ q.1)=l.map (·.2)->∀q∈l,ag st.σ q.1=q.2:=by simp_all
    exact this σR hR q hq
   .rintro s ⟨z,rfl⟩
    refine U7 rfl (fM (g:=g z) (λw hw=>by cases hw;exact gX j) ?_) (h z)
    exact congrArg some ((aO ..).trans (if_pos rfl))
  .cases hi
 .cases hi
def YX(P:Program)(fn:Func)(gl:List (Nat×List G)){ι:Type}(r:ι->G)(σ1:ι->aQ)(c1:ι->Nat)(e:Exit)(s:St):Prop:=(e= .normal\/e= .ret)/\s.gl=gl/\∃x,(∀k o,ag (σ1 x) k=some o->ag s.σ k=some o)/\s.c=c1 x/\∃a,fn.results.toList.mapM (jV P s)=some a/\r x=iU a
theorem YY{gl:List (Nat×List G)}{r:ι->G}{σ1:ι->aQ}{c1:ι->Nat}{ex:Exit}{S0:St}(x:ι)(h:Ok P fn gl (r x) (σ1 x) (c1 x) ex S0):YX P fn gl r σ1 c1 ex S0:=by obtain⟨h1,h2,h3,h4,h5⟩:=h;exact⟨h1,h2,x,h3,h4,h5⟩
theorem dMF{gl:List (Nat×List G)}{f:FuncId}{gs:List G}{σ0:aQ}{c0:Nat}{r:ι->G}{σ1:ι->aQ}{c1:ι->Nat}(hf:P.funcs[f]?=some fn)(h:Gp P fn (YX P fn gl r σ1 c1) [] false [] ⟨fn.ntmps,gl,bQ 0 gs,σ0,c0,c0,false⟩)(hc:aK P f=true:=by kernel_rfl)(hb:fn.body.isSome=true:=by kernel_rfl)(hn:Nat.ble gs.length fn.ntmps=true:=by kernel_rfl):Xx P gl f gs σ0 c0 r σ1 c1:=by
 obtain⟨body,hb'⟩:=Option.isSome_iff_exists.1 hb;refine⟨hc,fn,body,hf,hb',gX hn,?_⟩;have e:ai fn=body:=by grind [ai]
 rw[<-e];exact Tr.leQ h
end
section
attribute [local irreducible] Tr dz Gp
section
variable {P:Program}
theorem TH{st:St}{ρ:List (Nat×Nat)}:∀{l:aQ},(∀q∈l,∃j,dq ρ q.1=some j/\Ge (lE ρ) (ag st.σ j) q.2)->Dp P st ρ l
 |[],_=>BT
 |(i,o)::r,h=>by obtain⟨j,h1,h2⟩:=h (i,o) aC;exact KJ h1 h2 (TH (by grind))
def iA(f:Nat->Nat):List (Nat×Nat):=L0.map λk=>(k,f k)
def okF(f:Nat->Nat):Bool:=L0.all λk=>(match lE (iA f) (f k) with|some j=>Nat.beq j k|none=>false)&&(match dq (iA f) k with|some j=>Nat.beq j (f k)|none=>false)
theorem T0{f:Nat->Nat}(h:okF f=true)(hk:k<14):lE (iA f) (f k)=some k/\dq (iA f) k=some (f k):=by have:=List.all_eq_true.1 h k (by have:k∈List.range 14:=List.mem_range.2 hk;exact this);grind [bc]
def rlD(P:Program)(hs:List Hn)(m:Code⊕Exit)(K:List Kf)(fn:Func)(f:Nat->Nat)(R':DRollRoll)(r:G)(st:St):Option (Prop×List Nat×List Prop):=match sy P hs 1000000 1000 m K st with
 |some (C,u,.fin e s)=>match tc e,vR P s fn.results.toList with
  |true,some gs=>bif ER (iA f) s.p then some (C,u,(iU gs=r/\bB r)::L0.map λk=>∀ob,dh f R' k=some ob->ag s.σ (f k)=some ob) else none
  |_,_=>none
 |_=>none
section
variable [M:Mix P] {fn:Func} {r:G} {Bs:List (St->Prop)} {m:Bool} {p:List Nat} {st:St}
theorem kn(f:Nat->Nat)(R':DRollRoll)(hR:RlOk R')(A O:List HP)(hf:okF f=true:=by kernel_rfl)(hk:B5 A (rlD P (bK A) (qu m p (ai fn)) (bE p (ai fn) Bs []) fn f R' r st) (pR O):=by exact⟨aH,aH⟩):Gp P fn (zE P fn r (dT f0 R')) Bs m p st:=by
 obtain⟨C,u,b,e⟩:=hk.out;unfold Gp;unfold rlD at e;split at e
 .rename_i c d x s h1;split at e
  .rename_i gs hx hg;cases hb:ER (iA f) s.p with
   |false=>rw[hb] at e;cases e
   |true=>
    rw[hb] at e;simp only[aN,gL,Prod.mk.injEq] at e;obtain⟨rfl,rfl,hL⟩:=e;have hp:∀q∈(iU gs=r/\bB r)::L0.map λk=>∀ob,dh f R' k=some ob->ag s.σ (f k)=some ob,q:=by rw[hL];exact wR O
    obtain⟨rfl,hi⟩:=hp _ (List.mem_cons_self ..);simp only[ER,bA] at hb;obtain⟨⟨k1,k2⟩,k3⟩:=hb;refine oK M.mx (out:= .fin x s) ⟨s,Le.refl _,eO hx,gs,iA f,gh hg,λi hi=>?_,λi g j h1 h2=>?_,ry hi,TH λq hq=>?_⟩ 1000 _ _ _ _ _ h1 b
    .grind [bc]
    .have:=List.all_eq_true.1 (List.all_eq_true.1 k2 _ (Gt h1)) _ (Gt h2);grind [Nat.beq_refl,bc]
    .rw[kD] at hq;obtain⟨k,hk,rfl⟩:=List.mem_map.1 hq;have hk':=List.mem_range.1 hk;obtain⟨g1,g2⟩:=T0 hf hk';refine⟨f k,g2,λa h=>?_⟩;obtain⟨ob,h2,h3⟩:=vV (λk ⟨ob,h⟩=>(T0 hf (fL h)).1) hR k a h;exact⟨ob,hp (∀ob,dh f R' k=some ob->ag s.σ (f k)=some ob) (List.mem_cons_of_mem _ (List.mem_map.2 ⟨k,hk,rfl⟩)) ob h2,h3⟩
  .cases e
 .cases e
def JO(d:Nat)(R:List Nat)(c:Nat){σ:aQ}{t:TypeId}{gm gk g:G}{i:Nat}{ob:Ob}(h:ov P σ t gm gk=some (i,ob,g)):HP:=⟨some (.e d g i ob),ov P (CY σ (fR gm)) t gm gk=some (i,ob,g),(SC jT).symm.trans h⟩
def hms(d:Nat)(R:List Nat)(c:Nat){σ:aQ}{gm gs g:G}{i:Nat}{ob:Ob}(h:jX σ gm gs g=some (i,ob)):HP:=⟨some (.e (2000000+d) (.lit undef) i ob),jX (CY σ (fR gm)) gm gs g=some (i,ob),(abf jT).symm.trans h⟩
def oz(d:Nat){σ:aQ}{t:TypeId}{ok:Bool}{i:Nat}{gk g:G}(h:bL P σ t ok (.mref i) gk=some g):HP:=⟨some (.m d g),bL P σ t ok (.mref i) gk=some g,h⟩
def hmp(c:Nat){σ:aQ}{t:TypeId}{gm gk g:G}{i:Nat}{ob:Ob}(h:dZ P σ t gm gk g=some (i,ob)):HP:=⟨some (.e 999999998 (.lit undef) i ob),dZ P (CY σ (fR gm)) t gm gk g=some (i,ob),(HC jT).symm.trans h⟩
def hmd(c:Nat){σ:aQ}{t:TypeId}{gm gk:G}{i:Nat}{ob:Ob}(h:FN P σ t gm gk=some (i,ob)):HP:=⟨some (.e 999999998 (.tup []) i ob),FN P (CY σ (fR gm)) t gm gk=some (i,ob),(SD jT).symm.trans h⟩
end
end
def eL(R:DRollRoll)(d:Int):Int:=(fD (R.cards.get d)).Member
def f6(R:DRollRoll)(d:Int):Bool:=decide (0<eL R d)&& !(kN (R.was.get d))
def xy(R:DRollRoll)(d:Int):Bool:=kN (R.in_.get d)
def rf(R:DRollRoll)(m:Int):Int:=match R.members.get m with
 |none=>0
 |some x=>x.role
theorem Pl(k:Int):Instr.sameBits 10000 (mJ k) (mJ k)=true:=by simp[mJ,Instr.sameBits]
def mK(m:FM Int DRollMember):FM Int (Option Int):=⟨m.es.map λe=>(e.1,some e.1,e.2.2),m.clk⟩
def vgM(f:Nat->Nat):Option Int->G
 |none=>Ni
 |some k=> .ref (f (nM k)) 0
theorem Hf(m:FM Int DRollMember)(k:Int):(mK m).get k=(m.get k).map λ_=>some k:=by unfold FM.get mK;dsimp only;induction m.es<;>grind
theorem xB(f:Nat->Nat)(R:DRollRoll):za f R=sn D4 mJ (vgM f) (mK R.members):=by show(⟨_,_,some (.map _ _)⟩:Ob)=⟨_,_,some (.map _ _)⟩;unfold mK JR D5;dsimp only;rw[List.map_map];rfl
theorem QL(m:FM Int DRollMember)(k:Int):zv (mK m) k=mK (zv m k):=by
 unfold zv;have:(mK m).es.map (·.1)=m.es.map (·.1):=by unfold mK;rw[List.map_map];rfl
 grind [mK,I5]
def ptM(R:DRollRoll)(m:Int):G:=if(R.members.get m).isSome then .ref (nM m) 0 else Ni
theorem T9(R:DRollRoll)(m:Int){σ:aQ}(h:ag σ 4=some (za f0 R)):bL prog σ D4 false (.mref 4) (iG m)=some (ptM R m):=by rw[xB] at h;rw[Bc (P:=prog) (t:=D4) (kt:=3) (et:=139) vO aH (k:=m) rfl h,FM.look1 (et:=139) vO (v0:=none) aH aH (mK R.members) m rfl,Hf];unfold ptM;cases R.members.get m<;>rfl
theorem ach(R:DRollRoll)(m:Int):bL prog [(4,some (za f0 R))] D4 false (.mref 4) (iG m)=some (ptM R m):=T9 R m rfl
theorem zf{R:DRollRoll}(hm:R.members.get m=some x):bL prog [(4,some (za f0 R))] D4 false (.mref 4) (iG m)=some (.ref (nM m) 0):=(T9 R m rfl).trans (by unfold ptM;rw[hm];rfl)
theorem Ef{R:DRollRoll}{m:Int}(hm:R.members.get m=none):bL prog [(4,some (za f0 R))] D4 false (.mref 4) (iG m)=some Ni:=(T9 R m rfl).trans (by unfold ptM;rw[hm];rfl)
end
section
attribute [local irreducible] Tr dz Gp
abbrev WF(R:DRollRoll)(d:Int):DRollRoll:={R with in_:=ee R.in_ d true,was:=ee R.was d true}
def lT(R:DRollRoll)(d role:Int):DRollRoll:=bif f6 R d then{R with in_:=ee R.in_ d true,was:=ee R.was d true,members:=bif(R.members.get (eL R d)).isSome then R.members else ee R.members (eL R d) ⟨role,none⟩} else R
theorem Lq(R:DRollRoll)(d:Int):ba prog gl 77 [.ptr (dY R) 0,iG d] (iG (eL R d)):=vn gl rfl
theorem Lu(R:DRollRoll)(d:Int):ba prog gl 78 [.ptr (dY R) 0,iG d] (bG (f6 R d)):=AA gl (by unfold vr f6 eL;show Option.bind (bif decide (0<(fD (R.cards.get d)).Member) then _ else _) _=_;grind)
theorem YC{a:Int}:∀x∈[iG a],bB x:=by grind [mN]
abbrev hof(d:Nat){R:DRollRoll}(hR:RlOk R)(x:Int)(c:Nat:=14):HP:=hrl d f0 c hR (Lq gl R x) YC (lR _)
abbrev Ua(d:Nat){R:DRollRoll}(hR:RlOk R){x y:Int}(h:eL R x=y)(c:Nat:=14):HP:=hrl d f0 c hR (h▸Lq gl R x) YC (lR _)
abbrev Lv(d:Nat){R:DRollRoll}(hR:RlOk R){x:Int}{b:Bool}(h:f6 R x=b)(c:Nat:=14):HP:=hrl d f0 c hR (h▸Lu gl R x) YC (lR _)
abbrev tp:List (Nat×Rk):=L0.map λk=>(k,.any)
def okR(ρ:List (Nat×Nat))(f:Nat->Nat):Bool:=L0.all λk=>match lE ρ (f k) with|some j=>Nat.beq j k|none=>false
theorem Iu{ρ:List (Nat×Nat)}{f:Nat->Nat}(h:okR ρ f=true)(hk:k<14):lE ρ (f k)=some k:=by have:=List.all_eq_true.1 h k (by have:k∈List.range 14:=List.mem_range.2 hk;exact this);grind [bc]
abbrev JP(ρ:List (Nat×Nat))(f:Nat->Nat){R:DRollRoll}(hR:RlOk R)(h:okR ρ f=true:=by kernel_rfl):List HP:=L0.map λk=>hc (vV (κ:=lE ρ) (f:=f) (f':=f0) (λk ⟨ob,hk⟩=>Iu h (fL hk)) hR k)
abbrev rlA{R:DRollRoll}(hR:RlOk R):List HP:=JP (iA f0) f0 hR
abbrev rlK(R:DRollRoll):List HP:=hc (⟨rfl,L7 aC⟩:iU []=iU []/\bB (iU []))::L0.map λk=>hc (λob h=>h:∀ob,dh f0 R k=some ob->dh f0 R k=some ob)
theorem YD(hR:RlOk R)(h:R.members.get m=some x):m=1\/m=2\/m=3:=by grind [RlOk,kJ]
theorem Ub(h:f6 R d=true):0<eL R d:=by grind [f6]
theorem Uc(hR:RlOk R)(hf:f6 R d=true):RlOk (WF R d):=⟨tC hR.ci true,tC hR.cw true,hR.cm,hR.m3,hR.c3,hR.cv,hR.gm,hR.gN,hR.vb,λe he=>by have hk:e.1∈(ee R.in_ d true).es.map (·.1):=List.mem_map.2 ⟨e,he,rfl⟩;rw[xE] at hk;have hd:=hR.c6 d (Ub hf);grind [RlOk],hR.c6,hR.gn⟩
theorem aci(hR:RlOk R)(hm:1<=m/\m<=3)(role:Int):RlOk {R with members:=ee R.members m ⟨role,none⟩}:=⟨hR.ci,hR.cw,tC hR.cm _,(by grind [RlOk,ee]),hR.c3,(by grind [dD,RlOk.cv]),(by grind [dD,RlOk.gm]),(by grind [RlOk,dD]),(by grind [RlOk,dD]),hR.i6,hR.c6,(by grind [dD,RlOk.gn])⟩
theorem lI{R:DRollRoll}(hR:RlOk R)(d role:Int):RlOk (lT R d role):=by
 unfold lT;cases hf:f6 R d with
 |false=>exact hR
 |true=>
  cases(R.members.get (eL R d)).isSome with
  |true=>exact Uc hR hf
  |false=>refine aci (Uc hR hf) ?_ role;grind [RlOk,f6,eL]
def fN(a b k:Nat):Nat:=bif Nat.beq k a then b else k
theorem YF{R:DRollRoll}(hR:RlOk R){m:Nat}(hm:R.members.get (m:Int)=none)(h3:m=1\/m=2\/m=3)(x:DRollMember){σ:aQ}(h:ag σ 4=some (za f0 R)):dZ prog σ D4 (.mref 4) (iG (m:Int)) (.ref 14 0)=some (4,za (fN (4+m) 14) {R with members:=ee R.members (m:Int) x}):=by
 rw[xB] at h;have hk:bu (m:Int) ((mK R.members).es.map (·.1))=none:=by
  cases hk:bu (m:Int) ((mK R.members).es.map (·.1)) with
  |none=>rfl
  |some j=>obtain⟨e,_,_,h2⟩:=rh hk;rw[Hf,hm] at h2;cases h2
 have hk':bu (m:Int) (R.members.es.map (·.1))=none:=by rw[show R.members.es.map (·.1)=(mK R.members).es.map (·.1) by unfold mK;rw[List.map_map];rfl];exact hk
 unfold dZ;rw[show pB prog D4=some (3,139) from by kernel_rfl,show cD (iG (m:Int))=some (mJ (m:Int)) from rfl,xC h];dsimp only;rw[vO.chk,aN,vZ,vO.key,hk];unfold za D5 ee;rw[hk'];dsimp only;rw[List.map_append];congr 5;show JR mJ (vgM f0) (mK R.members)++_=_;unfold JR mK;rw[List.map_map];congr 1
 .refine List.map_congr_left λe he=>?_;obtain⟨h1,h2⟩:=hR.mem he;have hne:Nat.beq (nM e.1) (4+m)=false:=by grind [nM,bc]
  show(mJ e.1,G.ref (nM e.1) 0,e.2.2)=(mJ e.1,G.ref (fN (4+m) 14 (nM e.1)) 0,e.2.2);unfold fN;rw[hne];rfl
 grind [fN,nM,Nat.beq_refl]
abbrev Ba(R:DRollRoll)(m:Nat)(role:Int):DRollRoll:={R with members:=ee R.members (m:Int) ⟨role,none⟩}
theorem EA{R:DRollRoll}{m:Nat}{role:Int}(k:Int):(Ba R m role).members.get k=if k=(m:Int) then some ⟨role,none⟩ else R.members.get k:=dD _ _
theorem aej{R:DRollRoll}{m:Nat}(hm:R.members.get (m:Int)=none)(h3:m=1\/m=2\/m=3)(role:Int)(k:Nat)(hk:k≠4)(hk':k≠4+m):dh f0 R k=dh (fN (4+m) 14) (Ba R m role) k:=by
 have hM:∀j,j=1\/j=2\/j=3->j≠m->JL f0 R j=JL (fN (4+m) 14) (Ba R m role) j:=λj hj hne=>by unfold JL;rw[EA,if_neg aa];rcases h3 with rfl|rfl|rfl<;>rcases hj with rfl|rfl|rfl<;>rfl
 have hB:∀j:Nat,(Ba R m role).members.get (j:Int)=none\/True->((Ba R m role).members.get (j:Int)).bind (·.guard)=(R.members.get (j:Int)).bind (·.guard):=by grind [EA]
 have hG:∀j,j=1\/j=2\/j=3->JM f0 R j=JM (fN (4+m) 14) (Ba R m role) j:=λj hj=>by unfold JM;rw[hB j (.inr trivial)];rcases h3 with rfl|rfl|rfl<;>rcases hj with rfl|rfl|rfl<;>rfl
 have hV:∀j,JN R j=JN (Ba R m role) j:=by grind [JN]
 rcases Nat.lt_or_ge k 14 with hlt|hge
 .match k,hlt with
  |0,_=>rcases h3 with rfl|rfl|rfl<;>rfl
  |1,_=>rfl
  |2,_=>rfl
  |3,_=>rfl
  |4,_=>exact absurd rfl hk
  |5,_=>exact hM 1 aa aa
  |6,_=>exact hM 2 aa aa
  |7,_=>exact hM 3 aa aa
  |8,_=>exact hG 1 aa
  |9,_=>exact hG 2 aa
  |10,_=>exact hG 3 aa
  |11,_=>exact hV 1
  |12,_=>exact hV 2
  |13,_=>exact hV 3
 .obtain⟨j,rfl⟩:∃j,k=j+14:=⟨k-14,aa⟩;rfl
theorem acj{R:DRollRoll}{m:Nat}(h3:m=1\/m=2\/m=3)(role:Int):some ⟨tMe,[iG role,Ni],none⟩=dh (fN (4+m) 14) (Ba R m role) (4+m):=by have h:=EA (R:=R) (m:=m) (role:=role) m;rw[if_pos rfl] at h;rcases h3 with rfl|rfl|rfl<;>exact(by show _=Option.map _ _;rw[h];rfl)
abbrev rlN{R:DRollRoll}{m:Nat}(hm:R.members.get (m:Int)=none)(h3:m=1\/m=2\/m=3)(role:Int):List HP:=hc (⟨rfl,L7 aC⟩:iU []=iU []/\bB (iU []))::L0.map λk=>if h:k=4 then hc (λob h=>h:∀ob,dh (fN (4+m) 14) (Ba R m role) 4=some ob->some (za (fN (4+m) 14) (Ba R m role))=some ob) else if h':k=4+m then hc (λob h=>(acj (R:=R) h3 role).trans h:∀ob,dh (fN (4+m) 14) (Ba R m role) (4+m)=some ob->some ⟨tMe,[iG role,Ni],none⟩=some ob) else hc (λob h2=>(aej hm h3 role k h h').trans h2:∀ob,dh (fN (4+m) 14) (Ba R m role) k=some ob->dh f0 R k=some ob)
theorem yJ{i:Nat}{o:Option Ob}:ag [(i,o)] i=o:=by simp[bj]
abbrev hst(a b i:Nat){m:FM Int Bool}(k:Int)(h:FxOk m):HP:=JO a [i] 14 (acq (P:=prog) (σ:=[(i,some (sn He mJ bG m))]) (t:=He) (t':=He) (et:=4) (v0:=false) vO Pl aH aH (k:=k) (gk:=iG k) rfl yJ)
abbrev aek(b a i:Nat){m:FM Int Bool}(k:Int)(h:FxOk m):HP:=hms a [i] 14 (acr (σ:=[(i,some (sn He mJ bG (ee m k ((m.get k).getD false))))]) (i:=i) (t':=He) (kv:=mJ) (vg:=bG) (m:=m) (k:=k) (v0:=(m.get k).getD false) h yJ true)
theorem EG{R:DRollRoll}(hR:RlOk R)(d role:Int):CO prog gl 79 [.ref 0 0,iG d,iG role] (dT f0 R) 14 5 (iU []) (dT f0 (lT R d role)):=by
 have hok:=lI hR d role;refine JJ func79 ?_;unfold lT at hok⊢;cases hb:f6 R d with
 |false=>exact kn f0 R hR [Lv gl 9 hR hb] (rlK R)
 |true=>
  rw[hb] at hok;rw[aN] at hok⊢;have h1:=Uc hR hb;have h3:1<=eL R d/\eL R d<=3:=by unfold f6 at hb;simp only[bA,decide_eq_true_eq] at hb;exact⟨aa,(hR.c3 d).2⟩
  refine pO 1110 (s0 43 gl [(0,.ref 0 0),(1,iG d),(2,iG role)] (dT f0 (WF R d)) 14 5) [Lv gl 9 hR hb,hst 21 22 2 d hR.ci.1,aek 21 22 2 d hR.ci.1,hst 23 24 3 d hR.cw.1,aek 23 24 3 d hR.cw.1] (rlA h1) ?_ (ρ:=iA f0) (kd:=tp);cases hm:R.members.get (eL R d) with
  |some x=>exact kn f0 _ h1 [hof gl 27 h1 d,oz 33 (zf (R:=WF R d) hm)] (rlK (WF R d))
  |none=>
   rw[hm] at hok;obtain⟨m,hd,a⟩:∃m:Nat,eL R d=(m:Int)/\(m=1\/m=2\/m=3):=⟨(eL R d).toNat,aa,aa⟩;rw[hd] at hm hok⊢;have h2:RlOk (Ba (WF R d) m role):=hok;have hg:=YF h1 (m:=m) hm a ⟨role,none⟩ (σ:=(14,some ⟨tMe,[iG role,Ni],none⟩)::dT f0 (WF R d)) rfl;have fin:∀(_:okF (fN (4+m) 14)=true) (e1),Gp prog Tryz.f79 (zE prog Tryz.f79 (iU []) (dT f0 (Ba (WF R d) m role))) [] false [1,1,0] (s0 43 gl [(0,.ref 0 0),(1,iG d),(2,iG role)] (dT f0 (WF R d)) 14 5):=λh e1=>kn (fN (4+m) 14) _ h2 [Ua gl 27 h1 hd,oz 33 (Ef (R:=WF R d) hm),hmp 15 hg] (rlN (R:=WF R d) hm a role) h e1;rcases a with rfl|rfl|rfl
   all_goals exact fin aH ⟨aH,aH⟩
end
section
attribute [local irreducible] Tr dz Gp
abbrev lJ(R:DRollRoll)(d:Int):DRollRoll:={R with in_:=zv R.in_ d}
abbrev zg(R:DRollRoll)(m:Int):DRollRoll:={R with members:=zv R.members m}
def qY(R:DRollRoll)(m:Int):Bool:=R.in_.es.any λe=>decide (eL R e.1=m)
def jh(R:DRollRoll)(d:Int):DRollRoll:=bif xy R d then(bif qY (lJ R d) (eL R d) then lJ R d else zg (lJ R d) (eL R d)) else R
theorem IH(hR:RlOk R)(d:Int):RlOk (lJ R d):=⟨DG hR.ci,hR.cw,hR.cm,hR.m3,hR.c3,hR.cv,hR.gm,hR.gN,hR.vb,λe he=>hR.i6 e (Lz he),hR.c6,hR.gn⟩
theorem sZ(hR:RlOk R)(k:Int):(zg R m).members.get k=if k=m then none else R.members.get k:=td hR.cm _
theorem Ud(hR:RlOk R)(m:Int):RlOk (zg R m):=⟨hR.ci,hR.cw,DG hR.cm,λe he=>hR.m3 e (Lz he),hR.c3,(by grind [sZ,RlOk.cv]),(by grind [sZ,RlOk.gm]),(by grind [RlOk,sZ]),(by grind [RlOk,sZ]),hR.i6,hR.c6,(by grind [sZ,RlOk.gn])⟩
theorem oc{R:DRollRoll}(hR:RlOk R)(d:Int):RlOk (jh R d):=by
 unfold jh;cases xy R d with
 |false=>exact hR
 |true=>
  rw[aN];cases qY (lJ R d) (eL R d) with
  |true=>exact IH hR d
  |false=>exact Ud (IH hR d) _
theorem ael(hR:RlOk R){m:Int}(k:Nat)(hk:k≠4):∀ob,dh f0 (zg R m) k=some ob->dh f0 R k=some ob:=λob h=>by
 have hg:∀j x,(zg R m).members.get j=some x->R.members.get j=some x:=by grind [sZ]
 have hM:∀j ob,JL f0 (zg R m) j=some ob->JL f0 R j=some ob:=by grind [JL,jH]
 have hB:∀j x,((zg R m).members.get j).bind (·.guard)=some x->(R.members.get j).bind (·.guard)=some x:=by grind [Option.bind_eq_some_iff]
 have hG:∀j ob,JM f0 (zg R m) j=some ob->JM f0 R j=some ob:=by grind [JM,jH]
 have hV:∀j ob,JN (zg R m) j=some ob->JN R j=some ob:=by grind [JN,jH]
 match k,fL h with
 |0,_=>exact h
 |1,_=>exact h
 |2,_=>exact h
 |3,_=>exact h
 |4,_=>exact absurd rfl hk
 |5,_=>exact hM _ _ h
 |6,_=>exact hM _ _ h
 |7,_=>exact hM _ _ h
 |8,_=>exact hG _ _ h
 |9,_=>exact hG _ _ h
 |10,_=>exact hG _ _ h
 |11,_=>exact hV _ _ h
 |12,_=>exact hV _ _ h
 |13,_=>exact hV _ _ h
abbrev agf{R:DRollRoll}(hR:RlOk R)(m:Int):List HP:=hc (⟨rfl,L7 aC⟩:iU []=iU []/\bB (iU []))::L0.map λk=>if h:k=4 then hc (λob h=>h:∀ob,dh f0 (zg R m) 4=some ob->some (za f0 (zg R m))=some ob) else hc (ael hR (m:=m) k h)
theorem tb{α β:Type}{f:α->β}:∀{l:List α},(l.map f).Nodup->∀{x y:α},x∈l->y∈l->f x=f y->x=y
 |[],_,x,_,h,_,_=>by cases h
 |a::r,hd,x,y,hx,hy,e=>by
  rw[List.map_cons,List.nodup_cons] at hd;rcases List.mem_cons.1 hx with h1|h1<;>rcases List.mem_cons.1 hy with h2|h2
  .rw[h1,h2]
  .grind
  .grind
  .exact tb hd.2 h1 h2 e
theorem YZ(R:DRollRoll)(d:Int):bL prog [(2,some (sn He mJ bG R.in_))] He false (.mref 2) (iG d)=some (bG (xy R d)):=(Bc (et:=4) vO aH (k:=d) rfl rfl).trans (Ad R.in_ d _)
abbrev IK(t:TypeId)(i clk:Nat)(seen:List Nat):Option Ob:=some ⟨t,[],some (.iter (some i) clk seen clk)⟩
abbrev stW(R:DRollRoll)(seen:List Nat):aQ:=dT f0 R++[(14,IK He 2 R.in_.clk seen)]
theorem IO_q{R:DRollRoll}(hR:RlOk R)(d:Int):CO prog gl 80 [.ref 0 0,iG d] (dT f0 R) 14 5 (iU []) (dT f0 (jh R d)):=by
 refine JJ func80 ?_;have lk:=YZ R d;unfold jh;cases hb:xy R d with
 |false=>rw[hb] at lk;exact kn f0 R hR [oz 11 lk] (rlK R)
 |true=>
  rw[hb] at lk;rw[aN];have h1:=IH hR d;have hd:=aeu (P:=prog) (σ:=dT f0 R) (i:=2) (t:=He) (t':=He) (vg:=bG) (et:=4) vO aH (k:=d) (gk:=iG d) rfl (m:=R.in_) rfl;refine pO 111100 (s0 40 gl [(0,.ref 0 0),(1,iG d),(4,iG (eL R d))] (dT f0 (lJ R d)) 14 5) [oz 11 lk,hmd 14 hd,hof gl 20 h1 d] (rlA h1) ?_ (ρ:=iA f0) (kd:=tp);refine yl (Bs':=[]) [1,1,1,0,0] (J:=(s0 40 gl [(0,.ref 0 0),(1,iG d),(4,iG (eL R d)),(25,.ref 14 0)] (stW (lJ R d) []) 15 5)) [] (JP (iA f0++[(14,14)]) f0 h1) ?_ (ρ:=iA f0++[(14,14)]) (kd:=tp);refine dNx 111101 ?_;generalize hm:eL R d=m;have hmm:∀e,eL (lJ R d) e=eL R e:=λe=>rfl;refine dMw 25 26 27 0 (iti:=14) (mi:=2) (clock:=(lJ R d).in_.clk) (since:=(lJ R d).in_.clk) (T:=He) (ty:=He) (es:=JR mJ bG (lJ R d).in_) (λseen=>(s0 40 gl [(0,.ref 0 0),(1,iG d),(4,iG m),(25,.ref 14 0)] (stW (lJ R d) seen) 15 5)) (λseen=>∀e∈(lJ R d).in_.es,e.2.2∈seen->eL R e.1≠m) (λe _ h=>by cases h) (λe he=>by obtain⟨x,hx,rfl⟩:=List.mem_map.1 he;exact h1.ci.lt x hx) rfl (Le.refl _) (λseen=>aH) (λseen=>aH) (by grind) (λB seen k g n hI JO hns b=>?_) (λseen hI hs=>?_)
  .obtain⟨e,he,a⟩:=List.mem_map.1 JO;simp only[Prod.mk.injEq] at a;obtain⟨rfl,rfl,rfl⟩:=a;have hge:jr ((14,IK He 2 (lJ R d).in_.clk (seen++[e.2.2]))::stW (lJ R d) seen) (.ref 14 0)=some (.tup [db (mJ e.1),bG e.2.1]):=yo (iti:=14) (mi:=2) (since:=(lJ R d).in_.clk) (clock:=(lJ R d).in_.clk) (T:=He) (ty:=He) (seen:=seen) aH aH (by rw[List.map_map];exact h1.ci.nd) JO;by_cases hk:eL R e.1=m
   .rw[show qY (lJ R d) m=true from List.any_eq_true.2 ⟨e,he,decide_eq_true hk⟩,aN];exact kn f0 _ h1 [YT 28 hge,hof gl 32 h1 e.1 15,hr 34 (show decide (eL R e.1=m)=true from decide_eq_true hk)] (rlK (lJ R d))
   .refine jw [YT 28 hge,hof gl 32 h1 e.1 15,hr 34 (show decide (eL R e.1=m)=false from decide_eq_false hk)] (JP (iA f0++[(14,14)]) f0 h1) (b λx hx h=>?_) (ρ:=iA f0++[(14,14)]) (kd:=tp);rcases List.mem_append.1 h with h|h
    .exact hI x hx h
    .rw[List.mem_singleton] at h;have:x=e:=tb h1.ci.nd hx he h;rw[this];exact hk
  .have hst:qY (lJ R d) m=false:=by
    cases hst:qY (lJ R d) m with
    |false=>rfl
    |true=>obtain⟨e,he,h⟩:=List.any_eq_true.1 hst;exact absurd (of_decide_eq_true h) (hI e he (hs (mJ e.1,bG e.2.1,e.2.2) (List.mem_map.2 ⟨e,he,rfl⟩)))
   rw[hst,cG];have h4:=aeu (P:=prog) (σ:=stW (lJ R d) seen) (i:=4) (t:=D4) (t':=D4) (vg:=vgM f0) (et:=139) vO aH (k:=m) (gk:=iG m) rfl (m:=mK R.members) (by rw[<-xB];kernel_rfl);rw[QL,show sn D4 mJ (vgM f0) (mK (zv R.members m))=za f0 (zg (lJ R d) m) from(xB f0 (zg (lJ R d) m)).symm] at h4;exact kn f0 _ (Ud h1 m) [hmd 15 h4] (agf h1 m)
end
section
attribute [local irreducible] Tr dz Gp
abbrev R1(o:DOp):Option Ob:=some ⟨44,aJ o,none⟩
abbrev Fs(i:DIdent):Option Ob:=some ⟨36,aj i,none⟩
abbrev Ue(R:DRollRoll)(o:DOp)(i:DIdent):aQ:=dT f0 R++[(14,R1 o),(15,Fs i)]
abbrev C7(R:DRollRoll)(o:DOp)(i:DIdent)(R':DRollRoll):Prop:=CO prog gl 29 [.ref 0 0,.agg (aJ o),.agg (aj i)] (dT f0 R) 14 5 (iU []) (dT f0 R')
theorem vW{R:DRollRoll}(hR:RlOk R)(h:Gp prog Tryz.f29 (zE prog Tryz.f29 (iU []) (dT f0 R')) [] false [1,1,0] (s0 259 gl [(0,.ref 0 0),(4,.ref 14 0),(5,.ref 15 0)] (Ue R o i) 16 5)):C7 gl R o i R':=by refine JJ func29 ?_;exact pO 1110 (s0 259 gl [(0,.ref 0 0),(4,.ref 14 0),(5,.ref 15 0)] (Ue R o i) 16 5) [hof gl 24 hR o.By 16,oz 25 (ach R (eL R o.By))] (JP (iA f0++[(14,14),(15,15)]) f0 hR) h (ρ:=iA f0++[(14,14),(15,15)]) (kd:=tp)
abbrev WG:Nat->Nat:=fW f0 16
abbrev Lw{f:Nat->Nat}{R:DRollRoll}:List HP:=hc (⟨rfl,L7 aC⟩:iU []=iU []/\bB (iU []))::L0.map λk=>hc (λob h=>h:∀ob,dh f R k=some ob->dh f R k=some ob)
theorem ack{R:DRollRoll}(hR:RlOk R)(hk:o.Kind=2):C7 gl R o i (lT R o.Device o.Role):=by refine vW gl hR ?_;exact kn WG _ (lI hR _ _) [hr 29 (show decide (o.Kind=1)=false by rw[hk];rfl),hr 52 (show decide (o.Kind=2)=true by rw[hk];rfl),It 58 f0 16 [iG o.Device,iG o.Role] hR (lI hR _ _) (EG gl hR o.Device o.Role)] (Lw (f:=WG) (R:=lT R o.Device o.Role))
theorem QM{R:DRollRoll}(hR:RlOk R)(hk:o.Kind=3)(hd:o.Device≠0):C7 gl R o i (jh R o.Device):=by refine vW gl hR ?_;exact kn WG _ (oc hR _) [hr 29 (show decide (o.Kind=1)=false by rw[hk];rfl),hr 52 (show decide (o.Kind=2)=false by rw[hk];rfl),hr 60 (show decide (o.Kind=3)=true by rw[hk];rfl),hr 63 (show decide (o.Device≠0)=true from decide_eq_true hd),It 67 f0 16 [iG o.Device] hR (oc hR _) (IO_q gl hR o.Device)] (Lw (f:=WG) (R:=jh R o.Device))
theorem Y0{R:DRollRoll}(hR:RlOk R)(h1:o.Kind≠1)(h2:o.Kind≠2)(h3:o.Kind≠3)(h5:o.Kind≠5)(h9:o.Kind≠9)(h11:o.Kind≠11)(h12:o.Kind≠12)(h13:o.Kind≠13):C7 gl R o i R:=by refine vW gl hR ?_;exact kn f0 _ hR [hr 29 (decide_eq_false h1),hr 52 (decide_eq_false h2),hr 60 (decide_eq_false h3),hr 86 (decide_eq_false h5),hr 102 (decide_eq_false h9),hr 120 (decide_eq_false h11),hr 168 (decide_eq_false h12),hr 213 (decide_eq_false h13)] (Lw (f:=f0) (R:=R))
end
section
attribute [local irreducible] Tr dz Gp
abbrev aem(t:Nat->Option Ob):aQ:=L0.map λk=>(k,t k)
abbrev frJ(a b:Nat){R:DRollRoll}{k:Int}{x:DRollMember}(_:R.members.get k=some x):Fr:=[(a,iG k),(b,.ref (nM k) 0)]
def tg(R:DRollRoll)(l:List (Nat×Ob))(k:Nat):Option Ob:=match l.find? λq=>Nat.beq q.1 k with
 |some q=>some q.2
 |none=>dh f0 R k
theorem Hg{l:List (Nat×Ob)}(h:∀q∈l,dh f0 R q.1=some q.2)(k:Nat):tg R l k=dh f0 R k:=by grind [tg,bc]
abbrev JQ{R:DRollRoll}{l:List (Nat×Ob)}(_:∀q∈l,dh f0 R q.1=some q.2):aQ:=aem (tg R l)
abbrev Mh(ρ:List (Nat×Nat))(f:Nat->Nat){R:DRollRoll}(hR:RlOk R){l:List (Nat×Ob)}(hl:∀q∈l,dh f0 R q.1=some q.2)(h:okR ρ f=true:=by kernel_rfl):List HP:=L0.map λk=>hc (show Ge (lE ρ) (dh f R k) (tg R l k) from(Hg hl k).symm▸vV (κ:=lE ρ) (f:=f) (f':=f0) (λk ⟨ob,hk⟩=>Iu h (fL hk)) hR k)
abbrev aen(ρ:List (Nat×Nat)){R:DRollRoll}(hR:RlOk R){l:List (Nat×Ob)}(hl:∀q∈l,dh f0 R q.1=some q.2)(h:okR ρ f0=true:=by kernel_rfl):List HP:=L0.map λk=>hc (show Ge (lE ρ) (tg R l k) (dh f0 R k) from(Hg hl k).symm▸vV (κ:=lE ρ) (f:=f0) (f':=f0) (λk ⟨ob,hk⟩=>Iu h (fL hk)) hR k)
abbrev kQ(R:DRollRoll){r:G}(hr:bB r):List HP:=hc (⟨rfl,hr⟩:r=r/\bB r)::L0.map λk=>hc (λob h=>h:∀ob,dh f0 R k=some ob->dh f0 R k=some ob)
abbrev EH{R:DRollRoll}{l:List (Nat×Ob)}(hl:∀q∈l,dh f0 R q.1=some q.2){r:G}(hr:bB r):List HP:=hc (⟨rfl,hr⟩:r=r/\bB r)::L0.map λk=>hc (λob h=>(Hg hl k).trans h:∀ob,dh f0 R k=some ob->tg R l k=some ob)
abbrev eM(k:Nat)(x:DRollMember):Nat×Ob:=(4+k,⟨tMe,[iG x.role,gpG f0 k x],none⟩)
abbrev eG(k:Nat)(g:DRollGuard):Nat×Ob:=(7+k,⟨tGu,YA f0 k g,none⟩)
abbrev eV(k:Nat)(g:DRollGuard):Nat×Ob:=(10+k,sn Md dQ iG g.vouches)
theorem Pm(h3:k=1\/k=2\/k=3)(h:R.members.get (k:Int)=some x):dh f0 R (eM k x).1=some (eM k x).2:=by rcases h3 with rfl|rfl|rfl<;>exact(by show Option.map _ _=_;rw[h];rfl)
theorem Uf(h3:k=1\/k=2\/k=3)(h:R.members.get (k:Int)=some x)(hg:x.guard=some g):dh f0 R (eG k g).1=some (eG k g).2:=by rcases h3 with rfl|rfl|rfl<;>exact(by show(Option.bind _ _).map _=_;grind)
theorem aeo(h3:k=1\/k=2\/k=3)(h:R.members.get (k:Int)=some x)(hg:x.guard=some g):dh f0 R (eV k g).1=some (eV k g).2:=by rcases h3 with rfl|rfl|rfl<;>exact(by show(Option.bind _ _).map _=_;grind)
def nw(x:DRollMember)(i:DIdent):Bool:=match x.guard with
 |none=>false
 |some g=>decide (g.id=i)
def kI(R:DRollRoll)(i:DIdent):Int:=match R.members.es.find? λe=>nw e.2.1 i with
 |some e=>e.1
 |none=>0
theorem RlOk.uni{R:DRollRoll}(hR:RlOk R){k k':Int}{x x':DRollMember}{i:DIdent}(h:R.members.get k=some x)(h':R.members.get k'=some x')(g:nw x i=true)(a:nw x' i=true):k=k':=by grind [RlOk,nw]
theorem Ug(hR:RlOk R){e:Int×DRollMember×Nat}(he:e∈R.members.es){i:DIdent}(h:nw e.2.1 i=true):kI R i=e.1:=by
 unfold kI;split
 .rename_i q hq;exact hR.uni (hR.mem (List.mem_of_find?_eq_some hq)).1 (hR.mem he).1 (by have:=List.find?_some hq;exact this) h
 grind
theorem QN(h:∀e∈R.members.es,nw e.2.1 i=false):kI R i=0:=by grind [kI]
abbrev stU(R:DRollRoll)(i:DIdent)(seen:List Nat):aQ:=dT f0 R++[(14,Fs i),(15,IK D4 4 R.members.clk seen)]
abbrev frU:Fr:=[(0,.ref 0 0),(3,.ref 14 0),(11,.ref 15 0)]
abbrev R2:List (Nat×Nat):=iA f0++[(14,14),(15,15)]
theorem Lx(hR:RlOk R)(i:DIdent):CO prog gl 83 [.ref 0 0,.agg (aj i)] (dT f0 R) 14 14 (iG (kI R i)) (dT f0 R):=by
 refine JJ func83 ?_;refine pO 1100 (s0 34 gl [(0,.ref 0 0),(3,.ref 14 0)] (dT f0 R++[(14,Fs i)]) 15 14) [] (JP (iA f0++[(14,14)]) f0 hR) ?_ (ρ:=iA f0++[(14,14)]) (kd:=tp);refine yl (Bs':=[]) [1,0,0] (J:=(s0 34 gl frU (stU R i []) 16 14)) [] (JP R2 f0 hR) ?_ (ρ:=R2) (kd:=tp);refine dNx 1101 ?_;refine dMw 11 12 13 0 (iti:=15) (mi:=4) (clock:=R.members.clk) (since:=R.members.clk) (T:=D4) (ty:=D4) (es:=D5 f0 R.members) (λseen=>(s0 34 gl frU (stU R i seen) 16 14)) (λseen=>∀e∈R.members.es,e.2.2∈seen->nw e.2.1 i=false) (λe _ h=>by cases h) (λe he=>by obtain⟨x,hx,rfl⟩:=List.mem_map.1 he;exact hR.cm.lt x hx) rfl (Le.refl _) (λseen=>aH) (λseen=>aH) (λseen=>⟨show 12<34 by decide,show 13<34 by decide⟩) (λB seen k g n hI JO hns a=>?_) (λseen hI hs=>?_)
 .obtain⟨e,he,c⟩:=List.mem_map.1 JO;simp only[Prod.mk.injEq] at c;obtain⟨rfl,rfl,rfl⟩:=c;have hge:jr ((15,IK D4 4 R.members.clk (seen++[e.2.2]))::stU R i seen) (.ref 15 0)=some (.tup [db (mJ e.1),.ref (nM e.1) 0]):=yo (iti:=15) (mi:=4) (since:=R.members.clk) (clock:=R.members.clk) (T:=D4) (ty:=D4) (seen:=seen) aH aH (by rw[List.map_map];exact hR.cm.nd) JO;obtain⟨hm,h3⟩:=hR.mem he;have hI':nw e.2.1 i=false->∀x∈R.members.es,x.2.2∈seen++[e.2.2]->nw x.2.1 i=false:=λhk x hx h=>by
   rcases List.mem_append.1 h with h|h
   .exact hI x hx h
   .rw[List.mem_singleton] at h;rw[tb hR.cm.nd hx he h];exact hk
  have hw:=Ug hR he (i:=i);obtain⟨k,x,n⟩:=e;dsimp only at hge hm h3 hI' hw a;obtain⟨j,rfl,b⟩:∃j:Nat,k=(j:Int)/\(j=1\/j=2\/j=3):=⟨k.toNat,aa,aa⟩;obtain⟨role,gd⟩:=x;have e1:=Pm b hm;cases gd with
  |none=>
   have a:=a (hI' rfl);have hl:∀q∈[eM j ⟨role,none⟩],dh f0 R q.1=some q.2:=λq hq=>by rw[List.mem_singleton.1 hq];exact e1
   rcases b with rfl|rfl|rfl
   all_goals
    refine pO 11012211210 (s0 34 gl (frJ 5 6 hm++frU) (JQ hl++[(14,Fs i),(15,IK D4 4 R.members.clk (seen++[n]))]) 16 14) [YT 14 hge] (Mh R2 f0 hR hl) ?_ (ρ:=R2) (kd:=tp)
    exact jw [] (aen R2 hR hl) a (ρ:=R2) (kd:=tp)
  |some g=>
   have e2:=Uf b hm rfl;have hl:∀q∈[eM j ⟨role,some g⟩,eG j g],dh f0 R q.1=some q.2:=λq hq=>by
    rcases List.mem_cons.1 hq with rfl|hq
    .exact e1
    .rw[List.mem_singleton.1 hq];exact e2
   cases hd:decide (g.id=i) with
   |false=>
    have a:=a (hI' hd);rcases b with rfl|rfl|rfl
    all_goals
     refine pO 11012211210 (s0 34 gl (frJ 5 6 hm++frU) (JQ hl++[(14,Fs i),(15,IK D4 4 R.members.clk (seen++[n]))]) 16 14) [YT 14 hge] (Mh R2 f0 hR hl) ?_ (ρ:=R2) (kd:=tp)
     exact jw [hV 31 (dU g.id i hd)] (aen R2 hR hl) a (ρ:=R2) (kd:=tp)
   |true=>
    rw[show kI R i=(j:Int) from hw hd];have hr:bB (iG (j:Int)):=mN _;rcases b with rfl|rfl|rfl
    all_goals
     refine pO 11012211210 (s0 34 gl (frJ 5 6 hm++frU) (JQ hl++[(14,Fs i),(15,IK D4 4 R.members.clk (seen++[n]))]) 16 14) [YT 14 hge] (Mh R2 f0 hR hl) ?_ (ρ:=R2) (kd:=tp)
     exact kn f0 _ hR [hV 31 (dU g.id i hd)] (EH hl hr)
 .rw[QN λe he=>hI e he (hs (mJ e.1,.ref (nM e.1) 0,e.2.2) (List.mem_map.2 ⟨e,he,rfl⟩))];exact kn f0 _ hR [] (kQ R (mN (.int .i64 0)))
end
def T{α:Type}(x:Option α)(Q:α->Prop):Prop:=∃v,x=some v/\Q v
section
variable {α β γ σ ρ:Type}
theorem T.mono{x:Option α}{Q R:α->Prop}(h:T x Q)(k:∀v,Q v->R v):T x R:=by obtain⟨v,e,q⟩:=h;exact⟨v,e,k v q⟩
theorem T.some{v:α}{Q:α->Prop}(h:Q v):T (some v) Q:=⟨v,rfl,h⟩
theorem T.bind{x:Option α}{f:α->Option β}{Q:β->Prop}(h:T x λv=>T (f v) Q):T (x.bind f) Q:=by obtain⟨v,e,w,e2,q⟩:=h;exact⟨w,by grind,q⟩
theorem T.eqb{x:Option α}{f:α->Option β}{Q:β->Prop}{v:α}(e:x= .some v)(h:T (f v) Q):T (x.bind f) Q:=by grind
theorem T.ite{c:Bool}{a b:Option α}{Q:α->Prop}(h1:c=true->T a Q)(h2:c=false->T b Q):T (bif c then a else b) Q:=by grind
theorem T.dec{p:Prop}[Decidable p]{a b:Option α}{Q:α->Prop}(h1:p->T a Q)(h2:¬p->T b Q):T (bif decide p then a else b) Q:=by grind
theorem T.eq{x:Option α}{v:α}(h:T x λw=>w=v):x= .some v:=by obtain⟨w,e,rfl⟩:=h;exact e
theorem T.of{x:Option α}{v:α}{Q:α->Prop}(h:x= .some v)(q:Q v):T x Q:=⟨v,h,q⟩
theorem T.ix{l:List α}{i:Int}{Q:α->Prop}{x:α}(h0:0<=i)(hx:l[i.toNat]?= .some x)(h:Q x):T (aS l i) Q:=⟨x,by grind [aS],h⟩
theorem T.ixl{l:List α}{i:Int}{Q:α->Prop}(h0:0<=i)(h1:i<l.length)(h:∀x,l[i.toNat]?= .some x->x∈l->Q x):T (aS l i) Q:=by have hx:l[i.toNat]?= .some (l[i.toNat]'aa):=fy _;grind [ix]
theorem T.app{b:Nat}{l r:List α}{Q:List α->Prop}(h:(l.length+r.length)*b<=140737488355328)(q:Q (l++r)):T (aT b l r) Q:=⟨_,by grind [aT],q⟩
theorem T.rem{a b:Int}{Q:Int->Prop}(h:b≠0)(q:Q (a.tmod b)):T (u9 a b) Q:=⟨_,by grind [u9],q⟩
theorem T.quo{a b:Int}{Q:Int->Prop}(h:b≠0)(q:Q (IntKind.i64.wrap (a.tdiv b))):T (Gg a b) Q:=⟨_,by grind [Gg],q⟩
theorem T.set{l:List α}{i:Int}{x:α}{Q:List α->Prop}(h0:0<=i)(h1:i<l.length)(q:Q (l.set i.toNat x)):T (ji l i x) Q:=⟨_,by grind [ji],q⟩
theorem T.pre{l:List α}{i:Int}{Q:List α->Prop}(h0:0<=i)(h1:i<=l.length)(q:Q (l.take i.toNat)):T (tq l i) Q:=⟨_,by grind [tq],q⟩
theorem T.suf{l:List α}{i:Int}{Q:List α->Prop}(h0:0<=i)(h1:i<=l.length)(q:Q (l.drop i.toNat)):T (mc l i) Q:=⟨_,by grind [mc],q⟩
theorem T.make{b:Nat}{z:α}{n:Int}{Q:List α->Prop}(h0:0<=n)(h1:b*n.toNat<=281474976710656)(h2:n<=9223372036854775807)(q:Q (List.replicate n.toNat z)):T (rP b z n) Q:=⟨_,by grind [rP],q⟩
def Rd(N:σ->Prop)(Q:ρ->Prop):σ⊕ρ->Prop
 | .inl s=>N s
 | .inr r=>Q r
theorem T.lpN{step:σ->Option (σ⊕ρ)}{Q:ρ->Prop}(I:σ->Prop)(μ:σ->Nat)(h:∀s,I s->T (step s) (Rd (λs'=>I s'/\μ s'<μ s) Q)):∀(n:Nat) (s:σ),μ s<n->I s->T (KN step n s) Q
 |0,s,hn,_=>(by grind)
 |n+1,s,hn,hi=>by
  obtain⟨r,e,q⟩:=h s hi;unfold KN;rw[e];cases r with
  |inl s'=>exact T.lpN I μ h n s' (by have:=q.2;omega) q.1
  |inr r=>exact⟨r,rfl,q⟩
theorem T.loop{step:σ->Option (σ⊕ρ)}{Q:ρ->Prop}{s:σ}(I:σ->Prop)(μ:σ->Nat)(hi:I s)(hm:μ s<4611686018427387904)(h:∀s,I s->T (step s) (Rd (λs'=>I s'/\μ s'<μ s) Q)):T (bo step s) Q:=T.lpN I μ h _ s hm hi
theorem T.forA{step:σ×Int->Option ((σ×Int)⊕ρ)}{Q:ρ->Prop}{a:σ}(n:Nat)(J:Nat->σ->Prop)(hn:n<2305843009213693952)(h0:J 0 a)(h:∀k acc,k<n->J k acc->T (step (acc,(k:Int))) (Rd (λs'=>s'.2=((k+1:Nat):Int)/\J (k+1) s'.1) Q))(he:∀acc,J n acc->T (step (acc,(n:Int))) (Rd (λ_=>False) Q)):T (bo step (a,0)) Q:=by
 refine T.loop (λs=>∃k:Nat,k<=n/\s.2=(k:Int)/\J k s.1) (λs=>n-s.2.toNat) (by grind) cq ?_;rintro⟨acc,i⟩ ⟨k,hk,hik,hj⟩;simp only at hik hj;subst hik;rcases Nat.lt_or_ge k n with hlt|hge
 .refine(h k acc hlt hj).mono λr hr=>?_;cases r with
  |inl s'=>refine⟨⟨k+1,aa,hr.1,hr.2⟩,?_⟩;rw[hr.1];simp;omega
  |inr r=>exact hr
 grind
theorem T.forI{step:Int->Option (Int⊕ρ)}{Q:ρ->Prop}(n:Nat)(J:Nat->Prop)(hn:n<2305843009213693952)(h0:J 0)(h:∀k,k<n->J k->T (step (k:Int)) (Rd (λs'=>s'=((k+1:Nat):Int)/\J (k+1)) Q))(he:J n->T (step (n:Int)) (Rd (λ_=>False) Q)):T (bo step 0) Q:=by
 refine T.loop (λs=>∃k:Nat,k<=n/\s=(k:Int)/\J k) (λs=>n-s.toNat) (by grind) cq ?_;rintro i ⟨k,hk,hik,hj⟩;subst hik;rcases Nat.lt_or_ge k n with hlt|hge
 .refine(h k hlt hj).mono λr hr=>?_;cases r with
  |inl s'=>refine⟨⟨k+1,aa,hr.1,hr.2⟩,?_⟩;rw[hr.1];simp;omega
  |inr r=>exact hr
 grind
theorem bM{z:Int}(h1: -9223372036854775808<=z)(h2:z<=9223372036854775807):wI z=z:=by grind [wI,IntKind.wrap_i64]
theorem aq(h:k<2305843009213693952):wI ((k:Int)+1)=((k+1:Nat):Int):=by grind [bM]
theorem rM(h:n<18446744073709551616):wU (n:Int)=n:=by grind [wU,IntKind.wrap_u64]
theorem au{l:List α}{k:Nat}:aS l (k:Int)=l[k]? :=by grind [aS]
theorem eA{l:List α}{k:Nat}(h:k<l.length):decide ((k:Int)<ah l)=true:=by grind [ah]
theorem eF{l:List α}:decide ((l.length:Int)<ah l)=false:=by grind [ah]
theorem T.forE{step:List β×Int->Option ((List β×Int)⊕List β)}(l:List α)(a:List β)(enc:α->List β)(c:Nat)(hn:l.length<2305843009213693952)(hc:∀x∈l,(enc x).length<=c)(h:∀(k:Nat) (acc:List β) (x:α),l[k]?= .some x->x∈l->k<l.length->acc.length<=a.length+k*c->T (step (acc,(k:Int))) (Rd (λs'=>s'.2=((k+1:Nat):Int)/\s'.1=acc++enc x) (λ_=>False)))(he:∀acc,step (acc,(l.length:Int))= .some (.inr acc)):T (bo step (a,0)) (λr=>r=a++l.flatMap enc):=by
 refine T.forA l.length (λk acc=>acc=a++(l.take k).flatMap enc/\acc.length<=a.length+k*c) hn aC (λk acc hk hj=>?_) λacc hj=>?_
 .have hx:l[k]?= .some (l[k]'hk):=fy hk;refine(h k acc _ hx (by simp_all) hk hj.2).mono λr hr=>?_;cases r with
  |inr r=>exact hr.elim
  |inl s'=>obtain⟨h1,h2⟩:=hr;constructor<;>grind [List.take_add_one]
 .rw[he];refine .some ?_;show acc=_;grind
theorem d8{l:List α}{enc:α->List β}{c:Nat}(hc:∀x∈l,(enc x).length<=c):(l.flatMap enc).length<=l.length*c:=by induction l<;>grind [Nat.succ_mul]
theorem T.appL{l r:List α}{n m:Nat}{Q:List α->Prop}(h1:l.length<=n)(h2:r.length<=m)(hnm:n+m<=140737488355328)(q:(l++r).length<=n+m->Q (l++r)):T (aT 1 l r) Q:=by grind [app]
theorem T.then{x:Option α}{f:α->Option β}{v:α}{Q:β->Prop}(h:T x λw=>w=v)(q:T (f v) Q):T (x.bind f) Q:=by grind [bind,mono]
end
section
attribute [local irreducible] Tr D8 GS Le Wk ve ba bB Fv J6 Dp
section
variable {P:Program} {t:TypeId} {x y:Operand}
theorem SS{b:Nat}(ha:a<2^63)(hb:b<2^63):b8 P .or t x y (.lit (.int .i64 (a:Int))) (.lit (.int .i64 (b:Int)))=some (.lit (.int .i64 ((a|||b:Nat):Int))):=by
 have h:b8 P .or t x y (.lit (.int .i64 (a:Int))) (.lit (.int .i64 (b:Int)))=some (.lit (.int .i64 (IntKind.i64.wrap ((BitVec.ofInt IntKind.i64.bits (a:Int)|||BitVec.ofInt IntKind.i64.bits (b:Int)).toNat:Nat)))):=by simp[b8,cD,eqGuard,binOp,Op.intBits,bz,db]
 have h1:(BitVec.ofInt IntKind.i64.bits (a:Int)|||BitVec.ofInt IntKind.i64.bits (b:Int)).toNat=a|||b:=by show(BitVec.ofInt 64 (a:Int)|||BitVec.ofInt 64 (b:Int)).toNat=a|||b;rw[BitVec.ofInt_natCast,BitVec.ofInt_natCast,BitVec.toNat_or,BitVec.toNat_ofNat,BitVec.toNat_ofNat,Nat.mod_eq_of_lt aa,Nat.mod_eq_of_lt aa]
 have h2:a|||b<2^63:=Nat.or_lt_two_pow ha hb;rw[h,h1,w64 aa]
end
section
variable {P:Program} {ops:Array Oper} {K:St->Prop} {rest:List Oper} {n:Nat} {gl:List (Nat×List G)} {fr:Fr} {σ:aQ} {c p:Nat} {rr:Bool} {d:Tmp} {ty:TypeId} {pos:String} {af:Array Edge}
end
end
section
variable {P:Program} {x y:Operand} {t:TypeId}
end
theorem im1{a:G}(ha:bB a):∀g∈[a],bB g:=λg hg=>by simp only[List.mem_cons,List.not_mem_nil,or_false] at hg;subst hg;exact ha
theorem im2{a b:G}(ha:bB a)(hb:bB b):∀g∈[a,b],bB g:=λg hg=>by
 simp only[List.mem_cons,List.not_mem_nil,or_false] at hg;rcases hg with rfl|rfl
 .exact ha
 .exact hb
abbrev gU'(n:Nat):G:= .lit (.int .u64 (n:Int))
def nb(k:Nat):List UInt8:=if h:k<128 then[UInt8.ofNat k] else UInt8.ofNat (k%128+128)::nb (k/128)
 termination_by k
 decreasing_by omega
theorem H6(h:k<128):nb k=[UInt8.ofNat k]:=by rw[nb,dif_pos h]
theorem Er(h:¬k<128):nb k=UInt8.ofNat (k%128+128)::nb (k/128):=by rw[nb,dif_neg h]
theorem Qu:∀(f k:Nat),k<128^(f+1)->(nb k).length<=f+1
 |0,k,h=>by grind [H6]
 |f+1,k,h=>by
  by_cases h1:k<128
  .rw[H6 h1];simp
  .rw[Er h1];have:=Qu f (k/128) (by grind);simp;omega
theorem ow(h:k<18446744073709551616):(nb k).length<=10:=Qu 9 k (by grind)
theorem Yj(k:Nat):nb k≠[]:=by grind [H6,Er]
theorem Yk(h:n<256):gY (UInt8.ofNat n)= .lit (.int .u8 (n:Int)):=by
 have:(UInt8.ofNat n).toNat=n:=by simp;omega
 grind
set_option maxRecDepth 100000 in
theorem V4:∀a:Fin 256,a.1|||128=a.1%128+128:=dL
theorem Yl{x:Operand}{k:IntKind}{a b:Int}:b8 P .or t x y (.lit (.int k a)) (.lit (.int k b))=some (.lit (.int k (k.wrap ((BitVec.ofInt k.bits a|||BitVec.ofInt k.bits b).toNat:Nat)))):=by simp[b8,cD,eqGuard,binOp,Op.intBits,bz,db]
theorem V5{x:Operand}{k:IntKind}{a b:Int}:b8 P .xor t x y (.lit (.int k a)) (.lit (.int k b))=some (.lit (.int k (k.wrap ((BitVec.ofInt k.bits a^^^BitVec.ofInt k.bits b).toNat:Nat)))):=by simp[b8,cD,eqGuard,binOp,Op.intBits,bz,db]
theorem V6{x:Operand}:b8 P .or t x y (.lit (.int .u8 (n:Int))) (.lit (.int .u8 128))=some (.lit (.int .u8 ((n%128+128:Nat):Int))):=by
 rw[Yl];have h:(BitVec.ofInt IntKind.u8.bits (n:Int)|||BitVec.ofInt IntKind.u8.bits 128).toNat=n%128+128:=by show(BitVec.ofInt 8 (n:Int)|||BitVec.ofInt 8 ((128:Nat):Int)).toNat=_;rw[BitVec.ofInt_natCast,BitVec.ofInt_natCast,BitVec.toNat_or,BitVec.toNat_ofNat,BitVec.toNat_ofNat];have:=V4 ⟨n%256,aa⟩;grind
 grind [wu8]
def Mk(n:Int):Nat:=if n<0 then(-(n+1)).toNat*2+1 else n.toNat*2
theorem FQ{n:Int}(h: -9223372036854775808<=n/\n<=9223372036854775807):Mk n<18446744073709551616:=by grind [Mk]
theorem Ym{x:Operand}{n:Int}(h: -9223372036854775808<=n/\n<=9223372036854775807):b8 P .xor t x y (.lit (.int .u64 (IntKind.u64.wrap (IntKind.u64.wrap n*2^1)))) (.lit (.int .u64 (IntKind.u64.wrap (n.fdiv (2^63)))))=some (gU' (Mk n)):=by
 rw[V5];have h64:∀z:Int,IntKind.u64.wrap z=z%18446744073709551616:=λz=>IntKind.wrap_u64 z;congr 3;by_cases hn:n<0
 .have e1:n.fdiv (2^63)= -1:=by grind
  have e2:IntKind.u64.wrap (IntKind.u64.wrap n*2^1)=(((18446744073709551616+2*n)%18446744073709551616).toNat:Int):=by grind
  rw[e1,e2,h64 (-1)];show IntKind.u64.wrap ((BitVec.ofInt 64 _^^^BitVec.ofInt 64 ((18446744073709551615:Nat):Int)).toNat:Nat)=_;rw[BitVec.ofInt_natCast,BitVec.ofInt_natCast];have e3:BitVec.ofNat 64 18446744073709551615=BitVec.allOnes 64:=dL;rw[e3,BitVec.xor_allOnes,BitVec.toNat_not,BitVec.toNat_ofNat,h64];grind [Mk]
 .have e1:n.fdiv (2^63)=0:=by grind
  have e2:IntKind.u64.wrap (IntKind.u64.wrap n*2^1)=((n.toNat*2:Nat):Int):=by grind
  rw[e1,e2,h64 0];show IntKind.u64.wrap ((BitVec.ofInt 64 _^^^BitVec.ofInt 64 ((0:Nat):Int)).toNat:Nat)=_;rw[BitVec.ofInt_natCast,BitVec.ofInt_natCast];grind [Mk]
theorem aco(h:k<4611686018427387904):wI ((k:Int)+1)=((k+1:Nat):Int):=by unfold wI;rw[IntKind.wrap_i64];omega
theorem acp{s:List α}(p:α->Bool)(hn:s.length<2305843009213693952){step:Int->Option (Int⊕(Unit⊕Int))}(hs:∀(k:Nat) (x:α),s[k]?=some x->step (k:Int)=some (if p x=true then .inr (.inr (k:Int)) else .inl (wI ((k:Int)+1))))(he:step (s.length:Int)=some (.inr (.inl ()))):∃r:Unit⊕Int,bo step 0=some r/\((r= .inl ()/\s.any p=false)\/∃j:Nat,r= .inr (j:Int)/\s.any p=true/\s.findIdx? p=some j):=by
 obtain⟨r,h1,h2⟩:T (bo step 0) λr=>(r= .inl ()/\s.any p=false)\/∃j:Nat,r= .inr (j:Int)/\s.any p=true/\s.findIdx? p=some j:=by
  refine T.forI s.length (λk=>∀j,j<k->∀x,s[j]?=some x->p x=false) hn (λj h=>aa) (λk hk a=>?_) λa=>?_
  .obtain⟨x,hx⟩:∃x,s[k]?=some x:=⟨_,fy hk⟩;rw[hs k x hx];cases hp:p x with
   |true=>refine⟨_,rfl,.inr ⟨k,rfl,(by grind),?_⟩⟩;grind [List.findIdx?_eq_some_iff_getElem]
   |false=>refine⟨_,rfl,?_⟩;rw[if_neg dL];constructor<;>grind [aco]
  .rw[he];refine⟨_,rfl,.inl ⟨rfl,?_⟩⟩;grind [List.getElem?_of_mem]
 exact⟨r,h1,h2⟩
theorem cQ{s:List α}{x:α}(h:s[k]?=some x):aS s (k:Int)=some x:=by grind [aS]
theorem fp{s:List α}{k:Nat}{x:α}(h:s[k]?=some x):decide ((k:Int)<ah s)=true:=by grind [ah]
theorem gz{s:List α}:decide ((s.length:Int)<ah s)=false:=decide_eq_false (by unfold ah;omega)
theorem Hh[DecidableEq α]{s:List α}(hn:s.length<2305843009213693952)(v:α):Su s v=some (s.any λy=>decide (v=y)):=by
 obtain⟨r,h1,h2⟩:=acp (s:=s) (λy=>decide (v=y)) hn (step:=HA s v) (by grind [HA,fp,cQ]) (by unfold HA;rw[gz];rfl);unfold Su ixT;rw[h1];rcases h2 with⟨rfl,h2⟩|⟨j,rfl,h2,_⟩<;>rw[h2]
 .rfl
 .show some (decide (0<=(j:Int)))=_;rw[decide_eq_true aa]
theorem Uw{s:List α}{f:α->Option Bool}{p:α->Bool}(hn:s.length<2305843009213693952)(hf:∀x∈s,f x=some (p x)):Az s f=some (s.any p):=by
 obtain⟨r,h1,h2⟩:=acp (s:=s) p hn (step:=nO s f) (by grind [nO,fp,cQ]) (by unfold nO;rw[gz];rfl);unfold Az yj;rw[h1];rcases h2 with⟨rfl,h2⟩|⟨j,rfl,h2,_⟩<;>rw[h2]
 .rfl
 .show some (decide (0<=(j:Int)))=_;rw[decide_eq_true aa]
section
attribute [local irreducible] Tr dz Gp
def Uh(m:FM Int DRollMember):FM Int (Option DRollMember):=⟨m.es.map λe=>(e.1,some e.2.1,e.2.2),m.clk⟩
theorem Uk(m:FM Int DRollMember)(k:Int):(Uh m).get k=(m.get k).map some:=by unfold FM.get Uh;dsimp only;induction m.es<;>grind
theorem Y1(R:DRollRoll)(m:Int):∀σ,bL prog σ D4 false (FM.g mJ (λx=> .ptr (gZ x) 0) R.members) (iG m)=some (npG gZ (R.members.get m)):=λσ=>by
 have h:=FM.look1 (et:=139) vO (t:=D4) (vg:=npG gZ) (v0:=none) aH aH (Uh R.members) m (gk:=iG m) rfl σ;have e:(Uh R.members).g mJ (npG gZ)=FM.g mJ (λx=> .ptr (gZ x) 0) R.members:=by unfold FM.g Uh;simp only[List.map_map];rfl
 rw[e,Uk] at h;rw[h];cases R.members.get m<;>rfl
abbrev frI(a:Nat){R:DRollRoll}{k:Int}{x:DRollMember}(_:R.members.get k=some x):Fr:=[(a,iG k)]
theorem DF(R:DRollRoll)(m:Int):ba prog gl 84 [.ptr (dY R) 0,iG m] (iG (rf R m)):=by
 have h:=Y1 R m;unfold rf;cases hx:R.members.get m with
 |none=>rw[hx] at h;exact Gh func84 (Ar [hm 11 h] [])
 |some x=>rw[hx] at h;exact Gh func84 (Ar [hm 11 h] [])
def eI(R:DRollRoll)(o:DOp):Int×Int:=match R.members.es.find? λe=>nw e.2.1 o.Of with
 |none=>(0,25)
 |some e=>match e.2.1.guard with
  |none=>(0,25)
  |some g=>bif g.guards.any λy=>decide (o.By=y) then(e.1,0) else(0,14)
theorem Bu(hR:RlOk R)(o:DOp):CO prog gl 82 [.ref 0 0,.agg (aJ o)] (dT f0 R) 14 14 (.tup [iG (eI R o).1,iG (eI R o).2]) (dT f0 R):=by
 refine JJ func82 ?_;have hr2:∀a b:Int,bB (.tup [iG a,iG b]):=by grind [L7,mN]
 have hw:=Lx gl hR o.Of;unfold eI;cases hfi:R.members.es.find? λe=>nw e.2.1 o.Of with
 |none=>rw[show kI R o.Of=0 by unfold kI;rw[hfi]] at hw;have hr:=hr2 0 25;exact kn f0 _ hR [hrr 10 f0 15 [.agg (aj o.Of)] hR hw] (kQ R hr)
 |some e=>
  have he:=List.mem_of_find?_eq_some hfi;have hg:nw e.2.1 o.Of=true:=by have:=List.find?_some hfi;exact this
  obtain⟨hx,h3⟩:=hR.mem he;rw[show kI R o.Of=e.1 by unfold kI;rw[hfi]] at hw;obtain⟨k,x,n⟩:=e;dsimp only at hx h3 hw hg⊢;obtain⟨j,rfl,d⟩:∃j:Nat,k=(j:Int)/\(j=1\/j=2\/j=3):=by grind
  obtain⟨role,gd⟩:=x;cases gd with
  |none=>cases hg
  |some g=>
   have e1:=Pm d hx;have e2:=Uf d hx rfl;have hl:∀q∈[eM j ⟨role,some g⟩,eG j g],dh f0 R q.1=some q.2:=by grind
   have hlk:=zf hx;have c:=fG gl (Hh (Nat.lt_of_le_of_lt (hR.gn _ _ _ hx rfl) dL) o.By);dsimp only;cases hb:g.guards.any λy=>decide (o.By=y) with
   |false=>
    rw[hb] at c;have hr:=hr2 0 14;rcases d with rfl|rfl|rfl
    all_goals
     refine pO 11102140 (s0 32 gl (frI 6 hx++[(0,.ref 0 0),(3,.ref 14 0)]) (JQ hl++[(14,R1 o)]) 15 14) [hrr 10 f0 15 [.agg (aj o.Of)] hR hw] (Mh (iA f0++[(14,14)]) f0 hR hl) ?_ (ρ:=iA f0++[(14,14)]) (kd:=tp)
     exact kn f0 _ hR [oz 20 hlk,hf 29 c] (EH hl hr)
   |true=>
    rw[hb] at c;have hr:=hr2 (j:Int) 0;rcases d with rfl|rfl|rfl
    all_goals
     refine pO 11102140 (s0 32 gl (frI 6 hx++[(0,.ref 0 0),(3,.ref 14 0)]) (JQ hl++[(14,R1 o)]) 15 14) [hrr 10 f0 15 [.agg (aj o.Of)] hR hw] (Mh (iA f0++[(14,14)]) f0 hR hl) ?_ (ρ:=iA f0++[(14,14)]) (kd:=tp)
     exact kn f0 _ hR [oz 20 hlk,hf 29 c] (EH hl hr)
end
section
attribute [local irreducible] Tr dz Gp
abbrev ld(R:DRollRoll)(k:Int)(x:DRollMember):DRollRoll:={R with members:=ee R.members k x}
theorem mD{R:DRollRoll}{k:Int}{x:DRollMember}(j:Int):(ld R k x).members.get j=if j=k then some x else R.members.get j:=dD _ _
theorem acl{k:Int}(h:R.members.get k=some x):(ld R k x').members.es.map (·.1)=R.members.es.map (·.1):=by grind [xE,kJ]
theorem Y2{k:Int}(h:R.members.get k=some x)(f:Nat->Nat):za f (ld R k x')=za f R:=by
 show(⟨_,_,some (.map _ _)⟩:Ob)=⟨_,_,some (.map _ _)⟩;have key:D5 f (ee R.members k x')=D5 f R.members/\(ee R.members k x').clk=R.members.clk:=by
  unfold ee D5;cases hk:bu k (R.members.es.map (·.1)) with
  |none=>rw[Be hk] at h;cases h
  |some j=>obtain⟨e,he,rfl,_⟩:=rh hk;refine⟨?_,rfl⟩;dsimp only;rw[he,List.map_set];apply List.ext_getElem?;grind
 grind
theorem IX(hR:RlOk R){k:Int}(h:R.members.get k=some x)(hv:∀g,x'.guard=some g->FxK g.vouches/\(fD (R.cards.get g.id.By)).Member=k/\g.guards.length<=1000000/\(1<=g.need/\g.need<=1000000)/\∀e∈g.vouches.es,1<=e.1.by_/\e.1.by_<=6):RlOk (ld R k x'):=by
 have cas:∀(j:Int) (y:DRollMember) (g:DRollGuard),(ld R k x').members.get j=some y->y.guard=some g->(j=k/\x'.guard=some g)\/(R.members.get j=some y):=by grind [mD]
 refine⟨hR.ci,hR.cw,tC hR.cm _,λe he=>?_,hR.c3,λj y g h1 h2=>?_,λj y g h1 h2=>?_,λj y g h1 h2=>?_,λj y g h1 h2=>?_,hR.i6,hR.c6,λj y g h1 h2=>?_⟩
 .have hk:e.1∈(ld R k x').members.es.map (·.1):=List.mem_map.2 ⟨e,he,rfl⟩;rw[acl h] at hk;grind [RlOk]
 .grind [RlOk.cv]
 .grind [RlOk.gm]
 .grind [RlOk.gN]
 .rcases cas j y g h1 h2 with⟨rfl,h3⟩|h3
  .exact(hv g h3).2.2.2.2
  .exact hR.vb j y g h3 h2
 grind [RlOk.gn]
theorem Ul(hx:R.members.get (k:Int)=some x)(q:Nat)(h4:q≠4+k)(h7:q≠7+k\/x'.guard=none)(h10:q≠10+k\/x'.guard=none):∀ob,dh f0 (ld R (k:Int) x') q=some ob->dh f0 R q=some ob:=λob h=>by
 have hM:∀j:Nat,j≠k->JL f0 (ld R (k:Int) x') j=JL f0 R j:=by grind [JL,mD]
 have hB:∀j:Nat,j≠k\/x'.guard=none->∀y,((ld R (k:Int) x').members.get (j:Int)).bind (·.guard)=some y->(R.members.get (j:Int)).bind (·.guard)=some y:=by grind [mD]
 have hG:∀j:Nat,j≠k\/x'.guard=none->∀ob,JM f0 (ld R (k:Int) x') j=some ob->JM f0 R j=some ob:=by grind [JM,jH]
 have hV:∀j:Nat,j≠k\/x'.guard=none->∀ob,JN (ld R (k:Int) x') j=some ob->JN R j=some ob:=by grind [JN,jH]
 match q,fL h with
 |0,_=>exact h
 |1,_=>exact h
 |2,_=>exact h
 |3,_=>exact h
 |4,_=>rw[<-h];exact congrArg some (Y2 hx f0).symm
 |5,_=>rw[<-h];exact(hM 1 aa).symm
 |6,_=>rw[<-h];exact(hM 2 aa).symm
 |7,_=>rw[<-h];exact(hM 3 aa).symm
 |8,_=>exact hG 1 (h7.imp (λh=>aa) id) ob h
 |9,_=>exact hG 2 (h7.imp (λh=>aa) id) ob h
 |10,_=>exact hG 3 (h7.imp (λh=>aa) id) ob h
 |11,_=>exact hV 1 (h10.imp (λh=>aa) id) ob h
 |12,_=>exact hV 2 (h10.imp (λh=>aa) id) ob h
 |13,_=>exact hV 3 (h10.imp (λh=>aa) id) ob h
def tgU(R:DRollRoll)(l a:List (Nat×Ob))(k:Nat):Option Ob:=match a.find? λq=>Nat.beq q.1 k with
 |some q=>some q.2
 |none=>tg R l k
theorem acm{l l':List (Nat×Ob)}(hl:∀q∈l,dh f0 R q.1=some q.2)(a:∀q∈l',dh f0 R' q.1=some q.2)(hs:∀q,(∀e∈l',e.1≠q)->∀ob,dh f0 R' q=some ob->dh f0 R q=some ob)(k:Nat):∀ob,dh f0 R' k=some ob->tgU R l l' k=some ob:=by grind [tgU,bc,Hg,Nat.beq_refl]
abbrev rlU{R R':DRollRoll}{l l':List (Nat×Ob)}(hl:∀q∈l,dh f0 R q.1=some q.2)(a:∀q∈l',dh f0 R' q.1=some q.2)(hs:∀q,(∀e∈l',e.1≠q)->∀ob,dh f0 R' q=some ob->dh f0 R q=some ob):List HP:=hc (⟨rfl,L7 aC⟩:iU []=iU []/\bB (iU []))::L0.map λk=>hc (acm hl a hs k)
theorem hl1{x:DRollMember}(h3:k=1\/k=2\/k=3)(h:R.members.get (k:Int)=some x):∀q∈[eM k x],dh f0 R q.1=some q.2:=by grind [Pm]
theorem Um{R:DRollRoll}{role:Int}{g:DRollGuard}(h3:k=1\/k=2\/k=3)(h:R.members.get (k:Int)=some ⟨role,some g⟩):∀q∈[eM k ⟨role,some g⟩,eG k g,eV k g],dh f0 R q.1=some q.2:=λq hq=>by
 simp only[List.mem_cons,List.not_mem_nil,or_false] at hq;rcases hq with rfl|rfl|rfl
 .exact Pm h3 h
 all_goals grind [Uf,aeo]
theorem hs1{role:Int}(hx:R.members.get (k:Int)=some x):∀q,(∀e∈[eM k (⟨role,none⟩:DRollMember)],e.1≠q)->∀ob,dh f0 (ld R (k:Int) ⟨role,none⟩) q=some ob->dh f0 R q=some ob:=λq hq=>Ul hx q (λe=>hq _ (List.mem_singleton.2 rfl) e.symm) (.inr rfl) (.inr rfl)
theorem hs3{R:DRollRoll}{role:Int}{g:DRollGuard}(hx:R.members.get (k:Int)=some x):∀q,(∀e∈[eM k (⟨role,some g⟩:DRollMember),eG k g,eV k g],e.1≠q)->∀ob,dh f0 (ld R (k:Int) ⟨role,some g⟩) q=some ob->dh f0 R q=some ob:=λq hq=>Ul hx q (λe=>(by simp_all)) (.inl λe=>hq (eG k g) aC e.symm) (.inl λe=>hq (eV k g) aC e.symm)
def CD(R:DRollRoll)(o:DOp):DRollRoll:=match R.members.get o.Member with
 |none=>R
 |some x=>ld R o.Member ⟨o.Role,x.guard⟩
theorem Po(hR:RlOk R)(o:DOp):RlOk (CD R o):=by
 unfold CD;split
 .exact hR
 .rename_i x hx;exact IX hR hx (by grind [RlOk])
abbrev frP(a:Nat){R:DRollRoll}{k:Int}{x:DRollMember}(_:R.members.get k=some x):Fr:=[(a,.ref (nM k) 0)]
abbrev ρD:List (Nat×Nat):=iA f0++[(14,14),(15,15)]
theorem Nk(hR:RlOk R)(hk:o.Kind=5):C7 gl R o i (CD R o):=by
 have hok:=Po hR o;refine vW gl hR ?_;have a1:decide (o.Kind=1)=false:=by rw[hk];rfl
 have a2:decide (o.Kind=2)=false:=by rw[hk];rfl
 have a3:decide (o.Kind=3)=false:=by rw[hk];rfl
 have a5:decide (o.Kind=5)=true:=by rw[hk];rfl
 unfold CD at hok⊢;cases hx:R.members.get o.Member with
 |none=>exact kn f0 _ hR [hr 29 a1,hr 52 a2,hr 60 a3,hr 86 a5,oz 93 (Ef hx)] (Lw (f:=f0) (R:=R))
 |some x=>
  rw[hx] at hok;have hlk:=zf hx;obtain⟨j,hj,b⟩:∃j:Nat,o.Member=(j:Int)/\(j=1\/j=2\/j=3):=by have:=YD hR hx;exact⟨o.Member.toNat,aa,aa⟩
  dsimp only at hok⊢;rw[hj] at hx hok⊢;rw[show(.ref (nM o.Member) 0:G)= .ref (nM (j:Int)) 0 by rw[hj]] at hlk;obtain⟨role,gd⟩:=x;have hg':(ld R (j:Int) ⟨o.Role,gd⟩).members.get (j:Int)=some ⟨o.Role,gd⟩:=by rw[mD,if_pos rfl]
  cases gd with
  |none=>
   have hl:=hl1 b hx;have a:=hl1 b hg';have hs:=hs1 (role:=o.Role) hx;rcases b with rfl|rfl|rfl
   all_goals
    refine pO 1111214141413113 (s0 259 gl (frP 9 hx++[(4,.ref 14 0)]) (JQ hl++[(14,R1 o),(15,Fs i)]) 16 5) [hr 29 a1,hr 52 a2,hr 60 a3,hr 86 a5,oz 93 hlk] (Mh ρD f0 hR hl) ?_ (ρ:=ρD) (kd:=tp)
    exact kn f0 _ hok [] (rlU hl a hs)
  |some g=>
   have hl:=Um b hx;have a:=Um b hg';have hs:=hs3 (role:=o.Role) (g:=g) hx;rcases b with rfl|rfl|rfl
   all_goals
    refine pO 1111214141413113 (s0 259 gl (frP 9 hx++[(4,.ref 14 0)]) (JQ hl++[(14,R1 o),(15,Fs i)]) 16 5) [hr 29 a1,hr 52 a2,hr 60 a3,hr 86 a5,oz 93 hlk] (Mh ρD f0 hR hl) ?_ (ρ:=ρD) (kd:=tp)
    exact kn f0 _ hok [] (rlU hl a hs)
end
section
attribute [local irreducible] Tr dz Gp
def EO(R:DRollRoll)(o:DOp):DRollRoll:=match R.members.get (eL R o.By) with
 |some ⟨role,some g⟩=>bif decide (g.id=o.Of) then ld R (eL R o.By) ⟨role,some {g with objected:=true,last:=hE g.last o.At}⟩ else R
 |_=>R
theorem Un(hR:RlOk R)(o:DOp):RlOk (EO R o):=by
 unfold EO;split
 .rename_i role g hx;cases decide (g.id=o.Of) with
  |false=>exact hR
  |true=>refine IX hR hx λa hg=>?_;grind [RlOk]
 .exact hR
theorem Q1(hR:RlOk R)(hk:o.Kind=12):C7 gl R o i (EO R o):=by
 have hok:=Un hR o;have hrt:bB (iU []):=L7 aC;have a1:decide (o.Kind=1)=false:=by rw[hk];rfl
 have a2:decide (o.Kind=2)=false:=by rw[hk];rfl
 have a3:decide (o.Kind=3)=false:=by rw[hk];rfl
 have a5:decide (o.Kind=5)=false:=by rw[hk];rfl
 have a9:decide (o.Kind=9)=false:=by rw[hk];rfl
 have a11:decide (o.Kind=11)=false:=by rw[hk];rfl
 have a12:decide (o.Kind=12)=true:=by rw[hk];rfl
 refine JJ func29 ?_;unfold EO at hok⊢;cases hx:R.members.get (eL R o.By) with
 |none=>exact kn f0 _ hR [hof gl 24 hR o.By 16,oz 25 (Ef hx),hr 29 a1,hr 52 a2,hr 60 a3,hr 86 a5,hr 102 a9,hr 120 a11,hr 168 a12] (Lw (f:=f0) (R:=R))
 |some x=>
  rw[hx] at hok;have hlk:=zf hx;obtain⟨j,hj,a⟩:∃j:Nat,eL R o.By=(j:Int)/\(j=1\/j=2\/j=3):=by grind [YD]
  rw[hj] at hx hok hlk⊢;obtain⟨role,gd⟩:=x;cases gd with
  |none=>
   have hl:=hl1 a hx;rcases a with rfl|rfl|rfl
   all_goals
    refine pO 11112141414141414130 (s0 259 gl (frP 6 hx++[(4,.ref 14 0)]) (JQ hl++[(14,R1 o),(15,Fs i)]) 16 5) [Ua gl 24 hR hj 16,oz 25 hlk,hr 29 a1,hr 52 a2,hr 60 a3,hr 86 a5,hr 102 a9,hr 120 a11,hr 168 a12] (Mh ρD f0 hR hl) ?_ (ρ:=ρD) (kd:=tp)
    exact kn f0 _ hR [] (EH hl hrt)
  |some g=>
   have hl:=Um a hx;dsimp only at hok⊢;cases hd:decide (g.id=o.Of) with
   |false=>
    rcases a with rfl|rfl|rfl
    all_goals
     refine pO 11112141414141414130 (s0 259 gl (frP 6 hx++[(4,.ref 14 0)]) (JQ hl++[(14,R1 o),(15,Fs i)]) 16 5) [Ua gl 24 hR hj 16,oz 25 hlk,hr 29 a1,hr 52 a2,hr 60 a3,hr 86 a5,hr 102 a9,hr 120 a11,hr 168 a12] (Mh ρD f0 hR hl) ?_ (ρ:=ρD) (kd:=tp)
     exact kn f0 _ hR [hV 188 (dU g.id o.Of hd)] (EH hl hrt)
   |true=>
    rw[hd] at hok;rw[aN] at hok⊢;have b:=Um (R:=ld R (j:Int) ⟨role,some {g with objected:=true,last:=hE g.last o.At}⟩) a (by rw[mD,if_pos rfl]);have hs:=hs3 (role:=role) (g:={g with objected:=true,last:=hE g.last o.At}) hx;rcases a with rfl|rfl|rfl
    all_goals
     refine pO 11112141414141414130 (s0 259 gl (frP 6 hx++[(4,.ref 14 0)]) (JQ hl++[(14,R1 o),(15,Fs i)]) 16 5) [Ua gl 24 hR hj 16,oz 25 hlk,hr 29 a1,hr 52 a2,hr 60 a3,hr 86 a5,hr 102 a9,hr 120 a11,hr 168 a12] (Mh ρD f0 hR hl) ?_ (ρ:=ρD) (kd:=tp)
     exact kn f0 _ hok [hV 188 (dU g.id o.Of hd)] (rlU hl b hs)
end
section
attribute [local irreducible] Tr dz Gp
theorem aes(k:DRollVouched):Instr.sameBits 10000 (dQ k) (dQ k)=true:=by unfold dQ kz;simp[Instr.sameBits]
abbrev EP(o:DOp):DRollVouched:=⟨o.By,o.Device⟩
def I1(g:DRollGuard)(o:DOp):Bool:=match g.vouches.get (EP o) with
 |none=>true
 |some a=>decide (o.At<a)
abbrev Nl(g:DRollGuard)(o:DOp):DRollGuard:={g with vouches:=ee g.vouches (EP o) o.At}
def Gf(R:DRollRoll)(o:DOp):DRollRoll:=match R.members.es.find? λe=>nw e.2.1 o.Of with
 |some (k,⟨role,some g⟩,_)=>bif(g.guards.any λy=>decide (o.By=y))&&I1 g o then ld R k ⟨role,some (Nl g o)⟩ else R
 |_=>R
theorem Uo(hR:RlOk R)(hb:1<=o.By/\o.By<=6):RlOk (Gf R o):=by
 unfold Gf;split
 .rename_i k role g n hf;have hx:=(hR.mem (List.mem_of_find?_eq_some hf)).1;dsimp only at hx;cases(g.guards.any λy=>decide (o.By=y))&&I1 g o with
  |false=>exact hR
  |true=>
   refine IX hR hx λa hg=>?_;cases hg;exact⟨tC (hR.cv _ _ g hx rfl) _,hR.gm _ _ g hx rfl,hR.gn _ _ g hx rfl,hR.gN _ _ g hx rfl,λe he=>by
    have hk:e.1∈(ee g.vouches (EP o) o.At).es.map (·.1):=List.mem_map.2 ⟨e,he,rfl⟩;rw[xE] at hk;split at hk
    .grind [RlOk]
    .rcases List.mem_append.1 hk with hk|hk
     .obtain⟨y,hy,h⟩:=List.mem_map.1 hk;grind [RlOk]
     grind⟩
 .exact hR
theorem lkV(g:DRollGuard)(k:DRollVouched)(q:Nat):bL prog [(10+q,some (sn Md dQ iG g.vouches))] Md true (.mref (10+q)) (.agg (rz k))=some (.tup [iG (qa (g.vouches.get k)),bG (g.vouches.get k).isSome]):=(Bc (et:=3) oP aH (k:=k) rfl (by rw[yJ])).trans (Ag g.vouches k _)
def hmr(c:Nat){P:Program}{σ:aQ}{t:TypeId}{gm gk g:G}{i:Nat}{ob:Ob}(h:dZ P σ t gm gk g=some (i,ob)):HP:=⟨some (.e 999999998 (.lit undef) i ob),dZ P (CY σ (fR gm)) t gm gk g=some (i,ob),(HC jT).symm.trans h⟩
theorem agk(g:DRollGuard)(k:DRollVouched)(a:Int)(q:Nat):dZ prog [(10+q,some (sn Md dQ iG g.vouches))] Md (.mref (10+q)) (.agg (rz k)) (iG a)=some (10+q,sn Md dQ iG (ee g.vouches k a)):=Uz (et:=3) oP aes aH rfl (by rw[yJ]) a
theorem Uq(hR:RlOk R)(hk:o.Kind=11)(l:1<=o.By/\o.By<=6):C7 gl R o i (Gf R o):=by
 have hok:=Uo hR l;have hrt:bB (iU []):=L7 aC;have a1:decide (o.Kind=1)=false:=by rw[hk];rfl
 have a2:decide (o.Kind=2)=false:=by rw[hk];rfl
 have a3:decide (o.Kind=3)=false:=by rw[hk];rfl
 have a5:decide (o.Kind=5)=false:=by rw[hk];rfl
 have a9:decide (o.Kind=9)=false:=by rw[hk];rfl
 have a11:decide (o.Kind=11)=true:=by rw[hk];rfl
 refine vW gl hR ?_;have hg:=Bu gl hR o;unfold Gf at hok⊢;unfold eI at hg;cases hf:R.members.es.find? λe=>nw e.2.1 o.Of with
 |none=>rw[hf] at hg;exact kn f0 _ hR [hr 29 a1,hr 52 a2,hr 60 a3,hr 86 a5,hr 102 a9,hr 120 a11,hrr 124 f0 16 [.agg (aJ o)] hR hg] (Lw (f:=f0) (R:=R))
 |some e=>
  have he:=List.mem_of_find?_eq_some hf;have hh:nw e.2.1 o.Of=true:=by have:=List.find?_some hf;exact this
  obtain⟨hx,h3⟩:=hR.mem he;rw[hf] at hg hok;obtain⟨k,x,n⟩:=e;dsimp only at hx h3 hg hh hok⊢;obtain⟨j,rfl,c⟩:∃j:Nat,k=(j:Int)/\(j=1\/j=2\/j=3):=by grind
  obtain⟨role,gd⟩:=x;cases gd with
  |none=>cases hh
  |some g=>
   dsimp only at hg hok⊢;cases hb:g.guards.any λy=>decide (o.By=y) with
   |false=>rw[hb] at hg;exact kn f0 _ hR [hr 29 a1,hr 52 a2,hr 60 a3,hr 86 a5,hr 102 a9,hr 120 a11,hrr 124 f0 16 [.agg (aJ o)] hR hg] (Lw (f:=f0) (R:=R))
   |true=>
    rw[hb] at hg hok;rw[Bool.true_and] at hok⊢;have hl:=Um c hx;have hlk:=zf hx;have b:=lkV g (EP o) j;have d:=agk g (EP o) o.At j;have h:=Um (R:=ld R (j:Int) ⟨role,some (Nl g o)⟩) c (by rw[mD,if_pos rfl]);have hs:=hs3 (role:=role) (g:=Nl g o) hx;unfold I1 at hok⊢;cases hv:g.vouches.get (EP o) with
    |none=>
     rw[hv] at hok b;rcases c with rfl|rfl|rfl
     all_goals
      refine pO 111121414141414131130 (s0 259 gl (frI 10 hx++[(0,.ref 0 0),(4,.ref 14 0)]) (JQ hl++[(14,R1 o),(15,Fs i)]) 16 5) [hr 29 a1,hr 52 a2,hr 60 a3,hr 86 a5,hr 102 a9,hr 120 a11,hrr 124 f0 16 [.agg (aJ o)] hR hg] (Mh ρD f0 hR hl) ?_ (ρ:=ρD) (kd:=tp)
      exact kn f0 _ hok [oz 134 hlk,oz 149 b,hmr 17 d] (rlU hl h hs)
    |some a=>
     rw[hv] at hok b;dsimp only at hok⊢;cases hat:decide (o.At<a) with
     |true=>
      rw[hat] at hok;rcases c with rfl|rfl|rfl
      all_goals
       refine pO 111121414141414131130 (s0 259 gl (frI 10 hx++[(0,.ref 0 0),(4,.ref 14 0)]) (JQ hl++[(14,R1 o),(15,Fs i)]) 16 5) [hr 29 a1,hr 52 a2,hr 60 a3,hr 86 a5,hr 102 a9,hr 120 a11,hrr 124 f0 16 [.agg (aJ o)] hR hg] (Mh ρD f0 hR hl) ?_ (ρ:=ρD) (kd:=tp)
       exact kn f0 _ hok [oz 134 hlk,oz 149 b,hr 158 hat,hmr 17 d] (rlU hl h hs)
     |false=>
      rcases c with rfl|rfl|rfl
      all_goals
       refine pO 111121414141414131130 (s0 259 gl (frI 10 hx++[(0,.ref 0 0),(4,.ref 14 0)]) (JQ hl++[(14,R1 o),(15,Fs i)]) 16 5) [hr 29 a1,hr 52 a2,hr 60 a3,hr 86 a5,hr 102 a9,hr 120 a11,hrr 124 f0 16 [.agg (aJ o)] hR hg] (Mh ρD f0 hR hl) ?_ (ρ:=ρD) (kd:=tp)
       exact kn f0 _ hR [oz 134 hlk,oz 149 b,hr 158 hat] (EH hl hrt)
end
section
attribute [local irreducible] Tr dz Gp
abbrev agl(o:DOp)(i:DIdent):DRollGuard:=⟨i,o.Guards,o.Need,o.Wait,⟨[],0⟩,false,0⟩
def Gq(R:DRollRoll)(o:DOp)(i:DIdent):DRollRoll:=match R.members.get (eL R o.By) with
 |none=>R
 |some x=>ld R (eL R o.By) ⟨x.role,some (agl o i)⟩
theorem Ur(hR:RlOk R){o:DOp}(hi:i.By=o.By)(hg:o.Guards.length<=1000000)(hn:1<=o.Need/\o.Need<=1000000):RlOk (Gq R o i):=by
 unfold Gq;split
 .exact hR
 .rename_i x hx;refine IX hR hx λa h=>?_;cases h;exact⟨(by grind [FxK,FxOk]),by show(fD (R.cards.get i.By)).Member=_;rw[hi];rfl,hg,hn,λe he=>by cases he⟩
def Q2(j q:Nat):Nat:=bif Nat.beq q (7+j) then 16 else bif Nat.beq q (10+j) then 17 else q
theorem acn{q:Nat}(h1:q≠7+j)(h2:q≠10+j):Q2 j q=q:=by grind [Q2,bc]
theorem aet(a:∀e∈R.members.es,1<=e.1/\e.1<=3)(h3:j=1\/j=2\/j=3)(q:Nat)(h4:q≠4+j)(h7:q≠7+j)(h10:q≠10+j):dh (Q2 j) R q=dh f0 R q:=by
 rcases Nat.lt_or_ge q 14 with hlt|hge
 rotate_left
 .obtain⟨k,rfl⟩:∃k,q=k+14:=⟨q-14,aa⟩;rfl
 match q,hlt with
 |0,_=>rcases h3 with rfl|rfl|rfl<;>rfl
 |1,_=>rfl
 |2,_=>rfl
 |3,_=>rfl
 |4,_=>show some (⟨_,_,some (.map _ _)⟩:Ob)=some ⟨_,_,some (.map _ _)⟩;grind [List.map_congr_left,nM,acn]
 |5,_=>rcases h3 with rfl|rfl|rfl<;>first|exact absurd rfl h4|rfl
 |6,_=>rcases h3 with rfl|rfl|rfl<;>first|exact absurd rfl h4|rfl
 |7,_=>rcases h3 with rfl|rfl|rfl<;>first|exact absurd rfl h4|rfl
 |8,_=>rcases h3 with rfl|rfl|rfl<;>first|exact absurd rfl h7|rfl
 |9,_=>rcases h3 with rfl|rfl|rfl<;>first|exact absurd rfl h7|rfl
 |10,_=>rcases h3 with rfl|rfl|rfl<;>first|exact absurd rfl h7|rfl
 |11,_=>rfl
 |12,_=>rfl
 |13,_=>rfl
abbrev fH{R:DRollRoll}{k:Int}{x:DRollMember}(_:R.members.get k=some x):Nat->Nat:=Q2 k.toNat
abbrev rlG{R:DRollRoll}{j:Nat}{x:DRollMember}{g:DRollGuard}(h3:j=1\/j=2\/j=3)(hx:R.members.get (j:Int)=some x)(hok:RlOk (ld R (j:Int) ⟨x.role,some g⟩))(hl:∀q∈[eM j x],dh f0 R q.1=some q.2):List HP:=hc (⟨rfl,L7 aC⟩:iU []=iU []/\bB (iU []))::L0.map λq=>
 if h4:q=4+j then hc (λob h=>(by
  have:=mD (R:=R) (k:=(j:Int)) (x:=⟨x.role,some g⟩) j;rw[if_pos rfl] at this;have e:dh (Q2 j) (ld R (j:Int) ⟨x.role,some g⟩) (4+j)=some ⟨tMe,[iG x.role,.ref 16 0],none⟩:=by rcases h3 with rfl|rfl|rfl<;>exact(by show Option.map _ _=_;rw[this];rfl)
  exact e.symm.trans h):∀ob,dh (Q2 j) (ld R (j:Int) ⟨x.role,some g⟩) (4+j)=some ob->some ⟨tMe,[iG x.role,.ref 16 0],none⟩=some ob)
 else if h7:q=7+j then hc (λob h=>(by
  have:=mD (R:=R) (k:=(j:Int)) (x:=⟨x.role,some g⟩) j;rw[if_pos rfl] at this;have e:dh (Q2 j) (ld R (j:Int) ⟨x.role,some g⟩) (7+j)=some ⟨tGu,YA (Q2 j) j g,none⟩:=by rcases h3 with rfl|rfl|rfl<;>exact(by show Option.map _ (Option.bind _ _)=_;rw[this];rfl)
  exact e.symm.trans h):∀ob,dh (Q2 j) (ld R (j:Int) ⟨x.role,some g⟩) (7+j)=some ob->some ⟨tGu,YA (Q2 j) j g,none⟩=some ob)
 else if h10:q=10+j then hc (λob h=>(by
  have:=mD (R:=R) (k:=(j:Int)) (x:=⟨x.role,some g⟩) j;rw[if_pos rfl] at this;have e:dh (Q2 j) (ld R (j:Int) ⟨x.role,some g⟩) (10+j)=some (sn Md dQ iG g.vouches):=by rcases h3 with rfl|rfl|rfl<;>exact(by show Option.map _ (Option.bind _ _)=_;rw[this];rfl)
  exact e.symm.trans h):∀ob,dh (Q2 j) (ld R (j:Int) ⟨x.role,some g⟩) (10+j)=some ob->some (sn Md dQ iG g.vouches)=some ob)
 else hc (λob h=>(by rw[aet (λe he=>hok.m3 e he) h3 q h4 h7 h10] at h;exact(Hg hl q).trans (Ul hx q h4 (.inl h7) (.inl h10) ob h)):∀ob,dh (Q2 j) (ld R (j:Int) ⟨x.role,some g⟩) q=some ob->tg R [eM j x] q=some ob)
theorem Us(hR:RlOk R)(hk:o.Kind=9)(hi:i.By=o.By)(hgl:o.Guards.length<=1000000)(hn:1<=o.Need/\o.Need<=1000000):C7 gl R o i (Gq R o i):=by
 have hok:=Ur hR (o:=o) hi hgl hn;have a1:decide (o.Kind=1)=false:=by rw[hk];rfl
 have a2:decide (o.Kind=2)=false:=by rw[hk];rfl
 have a3:decide (o.Kind=3)=false:=by rw[hk];rfl
 have a5:decide (o.Kind=5)=false:=by rw[hk];rfl
 have a9:decide (o.Kind=9)=true:=by rw[hk];rfl
 have hcl:=rZ.fo (uK gl (s:=o.Guards) (r:=o.Guards) (by unfold fF aT;rw[if_pos (by rw[List.length_nil];omega)];rfl));refine JJ func29 ?_;unfold Gq at hok⊢;cases hx:R.members.get (eL R o.By) with
 |none=>exact kn f0 _ hR [hof gl 24 hR o.By 16,oz 25 (Ef hx),hr 29 a1,hr 52 a2,hr 60 a3,hr 86 a5,hr 102 a9] (Lw (f:=f0) (R:=R))
 |some x=>
  rw[hx] at hok;have hlk:=zf hx;obtain⟨j,hj,a⟩:∃j:Nat,eL R o.By=(j:Int)/\(j=1\/j=2\/j=3):=by have:=YD hR hx;exact⟨(eL R o.By).toNat,aa,aa⟩
  rw[hj] at hx hok hlk⊢;have hl:=hl1 a hx;rcases a with rfl|rfl|rfl
  all_goals
   refine pO 11112141414141313 (s0 259 gl (frP 6 hx++[(4,.ref 14 0),(5,.ref 15 0)]) (JQ hl++[(14,R1 o),(15,Fs i)]) 16 5) [Ua gl 24 hR hj 16,oz 25 hlk,hr 29 a1,hr 52 a2,hr 60 a3,hr 86 a5,hr 102 a9] (Mh ρD f0 hR hl) ?_ (ρ:=ρD) (kd:=tp)
   exact kn (fH hx) _ hok [hf 109 hcl] (rlG dL hx hok hl)
end
section
attribute [local irreducible] Tr dz Gp
abbrev Ut(R:DRollRoll)(n:Int):DRollRoll:={R with back:=n}
def Ly(R:DRollRoll)(o:DOp):DRollRoll:=bif decide ((R.was.es.length:Int)=0)&&f6 R o.By then Ut (lT R o.By 3) o.Need else R
theorem Y3(hR:RlOk R)(n:Int):RlOk (Ut R n):=by grind [RlOk]
theorem Uu(hR:RlOk R)(o:DOp):RlOk (Ly R o):=by grind [Ly,Y3,lI]
def Nn(R:DRollRoll)(o:DOp):Bool:=bif decide (kI R o.Of>0) then(bif xy R o.Old then(bif decide (eL R o.Old=kI R o.Of) then decide (eL R o.Device=kI R o.Of) else false) else false) else false
def I3(R:DRollRoll)(o:DOp):DRollRoll:=bif Nn R o then jh (lT R o.Device (rf R (eL R o.Device))) o.Old else R
theorem Uv(hR:RlOk R)(o:DOp):RlOk (I3 R o):=by grind [I3,oc,lI]
abbrev hro(d:Nat){R:DRollRoll}(hR:RlOk R)(x:Int)(c:Nat:=14):HP:=hrl d f0 c hR (DF gl R x) YC (lR _)
theorem Q4(hR:RlOk R)(hk:o.Kind=1):C7 gl R o i (Ly R o):=by
 have hok:=Uu hR o;have a1:decide (o.Kind=1)=true:=by rw[hk];rfl
 refine vW gl hR ?_;unfold Ly at hok⊢;have hle:decide (((JR mJ bG R.was).length:Int)=0)=decide ((R.was.es.length:Int)=0):=by rw[List.length_map]
 cases hw:decide ((R.was.es.length:Int)=0) with
 |false=>exact kn f0 _ hR [hr 29 a1,hr 35 (hle.trans hw)] (Lw (f:=f0) (R:=R))
 |true=>
  rw[hw] at hok;rw[Bool.true_and] at hok⊢;cases hf:f6 R o.By with
  |false=>exact kn f0 _ hR [hr 29 a1,hr 35 (hle.trans hw),Lv gl 40 hR hf 16] (Lw (f:=f0) (R:=R))
  |true=>rw[hf] at hok;exact kn WG _ hok [hr 29 a1,hr 35 (hle.trans hw),Lv gl 40 hR hf 16,It 45 f0 16 [iG o.By,iG 3] hR (lI hR _ _) (EG gl hR o.By 3)] (Lw (f:=WG) (R:=Ut (lT R o.By 3) o.Need))
theorem Np(hR:RlOk R)(hk:o.Kind=13):C7 gl R o i (I3 R o):=by
 have hok:=Uv hR o;have a1:decide (o.Kind=1)=false:=by rw[hk];rfl
 have a2:decide (o.Kind=2)=false:=by rw[hk];rfl
 have a3:decide (o.Kind=3)=false:=by rw[hk];rfl
 have a5:decide (o.Kind=5)=false:=by rw[hk];rfl
 have a9:decide (o.Kind=9)=false:=by rw[hk];rfl
 have a11:decide (o.Kind=11)=false:=by rw[hk];rfl
 have a12:decide (o.Kind=12)=false:=by rw[hk];rfl
 have a13:decide (o.Kind=13)=true:=by rw[hk];rfl
 refine vW gl hR ?_;have hw:=Lx gl hR o.Of;have hin:=YZ R o.Old;unfold I3 Nn at hok⊢;generalize kI R o.Of=w at hw hok⊢;cases b1:decide (w>0) with
 |false=>exact kn f0 _ hR [hr 29 a1,hr 52 a2,hr 60 a3,hr 86 a5,hr 102 a9,hr 120 a11,hr 168 a12,hr 213 a13,hrr 217 f0 16 [.agg (aj o.Of)] hR hw,hr 219 b1] (Lw (f:=f0) (R:=R))
 |true=>
  rw[b1] at hok;cases b2:xy R o.Old with
  |false=>rw[b2] at hin;exact kn f0 _ hR [hr 29 a1,hr 52 a2,hr 60 a3,hr 86 a5,hr 102 a9,hr 120 a11,hr 168 a12,hr 213 a13,hrr 217 f0 16 [.agg (aj o.Of)] hR hw,hr 219 b1,oz 227 hin] (Lw (f:=f0) (R:=R))
  |true=>
   rw[b2] at hin hok;cases b3:decide (eL R o.Old=w) with
   |false=>exact kn f0 _ hR [hr 29 a1,hr 52 a2,hr 60 a3,hr 86 a5,hr 102 a9,hr 120 a11,hr 168 a12,hr 213 a13,hrr 217 f0 16 [.agg (aj o.Of)] hR hw,hr 219 b1,oz 227 hin,hof gl 233 hR o.Old 16,hr 235 b3] (Lw (f:=f0) (R:=R))
   |true=>
    rw[b3] at hok;cases b4:decide (eL R o.Device=w) with
    |false=>exact kn f0 _ hR [hr 29 a1,hr 52 a2,hr 60 a3,hr 86 a5,hr 102 a9,hr 120 a11,hr 168 a12,hr 213 a13,hrr 217 f0 16 [.agg (aj o.Of)] hR hw,hr 219 b1,oz 227 hin,hof gl 233 hR o.Old 16,hr 235 b3,hof gl 241 hR o.Device 16,hr 243 b4] (Lw (f:=f0) (R:=R))
    |true=>rw[b4] at hok;have h1:=lI hR o.Device (rf R (eL R o.Device));exact kn (fW WG 25) _ hok [hr 29 a1,hr 52 a2,hr 60 a3,hr 86 a5,hr 102 a9,hr 120 a11,hr 168 a12,hr 213 a13,hrr 217 f0 16 [.agg (aj o.Of)] hR hw,hr 219 b1,oz 227 hin,hof gl 233 hR o.Old 16,hr 235 b3,hof gl 241 hR o.Device 16,hr 243 b4,hof gl 252 hR o.Device 16,hro gl 253 hR (eL R o.Device) 16,It 254 f0 16 [iG o.Device,iG (rf R (eL R o.Device))] hR h1 (EG gl hR o.Device (rf R (eL R o.Device))),It 258 WG 25 [iG o.Old] h1 (oc h1 _) (IO_q gl h1 o.Old)] (Lw (f:=fW WG 25) (R:=jh (lT R o.Device (rf R (eL R o.Device))) o.Old))
end
section
set_option maxHeartbeats 2000000
attribute [local irreducible] Tr dz Gp
def AH{α:Type}(b:α)(a1:α->Option Bool):Option Bool:=
 (a1 b).bind λa=>some (!a)
theorem Ce{x_:DBox}{a1:DBox->Option Bool}(a:FnV prog gl fi_a1 fa_a1 fc_a1 (λx:DBox=>[.agg (cz x)]) (λx:Bool=>bG x) a1):eP prog gl (AH x_ a1) 337 [.agg (cz x_),.ptr [.clo (.func fi_a1) fa_a1 fc_a1] 0] bG:=
 cy func337 λK=>ak λb e2=>aw [hz 6 [] (a.cs (c:=1) e2 (aY (aG 20 (.agg (cz x_)) aH) (bf)))]<|rv K
def tz{α:Type}(l:List α)(a:α->Option Bool):Option Bool:=
 (Az l (λz=>AH z a)).bind λb=>some (!b)
theorem wA{l:List DBox}{may:DBox->Option Bool}(a:FnV prog gl fi_may fa_may fc_may (λx:DBox=>[.agg (cz x)]) (λx:Bool=>bG x) may):eP prog gl (tz l may) 279 [aE cz l,.clo (.func fi_may) fa_may fc_may] bG:=
 cy func279 λK=>cN [1,0] (sf [1] [(3,.ptr [.clo (.func fi_may) fa_may fc_may] 0)]) [hc (a.im),hc (aY (a.im) (bf))]<|ak λb e2=>aw [hz 7 [] (jf (c:=0) aH (q9 gl (⟨aH,bf,eB aH,λ_ _ e=>Ce gl a e⟩) e2) (aY (aG 20 (aE cz l) aH) (aY (aG 20 (.clo (.func 337) [] [.ptr [.clo (.func fi_may) fa_may fc_may] 0]) aH) (bf))))]<|rv K
def wB(b:DBox):Option Bool:=
 ((rJ b.To).bind λe=>bif e then((rJ b.Eph).bind λa=>bif a then((Kq b.Body).bind λc=>bif c then((Kq b.Tag).bind λd=>some d) else(some false)) else(some false)) else(some false)).bind λf=>some f
theorem Cf{b}:eP prog gl (wB b) 280 [.agg (cz b)] bG:=
 cy func280 λK=>cN [1,0] (sp [] [(1,.ref 0 0)] [ob 0 209 (cz b)] 1) []<|cC [1,0] (λa=>sk [] [(2,bG a)] [] 0) (λa=>rv K) λa k5=>ak λg e8=>kV (λc=>dI 9 (iz gl) λd=>aw [hf 5 (cF (iz gl e8) c)]<|aF 10 (dI 14 (Ak gl) λe=>aF 15 (dI 19 (Ak gl) λf=>rx k5)<|rx k5)<|rx k5) λc=>aw [hf 5 (cF (iz gl e8) c)]<|rx k5
def uP(n:DNode):Option Bool:=
 ((rJ n.Pub).bind λb=>bif b then((tz n.Boxes (λz=>wB z)).bind λa=>some a) else(some false)).bind λc=>some c
theorem Du{n}:eP prog gl (uP n) 278 [.agg (bY n)] bG:=
 cy func278 λK=>cN [1,0] (sp [] [(1,.ref 0 0)] [ob 0 96 (bY n)] 1) []<|cC [1,0] (λa=>sk [] [(2,bG a)] [] 0) (λa=>rv K) λa k5=>ak λd e8=>kV (λb=>dI 9 (wA gl (⟨aH,bf,eB aH,λ_ _ e=>Cf gl e⟩)) λc=>aw [hf 5 (cF (iz gl e8) b)]<|rx k5) λb=>aw [hf 5 (cF (iz gl e8) b)]<|rx k5
def uQ(s:DSealed):Option Bool:=
 (Al s.Of).bind λa=>some a
theorem Dv{s}:eP prog gl (uQ s) 281 [.agg (bp s)] bG:=
 cy func281 λK=>dI 5 (pH gl) λa=>rv K
def uR(n:Int):Option Bool:=
 (FV n 1 12).bind λa=>some a
theorem Dw{n}:eP prog gl (uR n) 282 [iG n] bG:=
 cy func282 λK=>dI 4 (eE gl) λa=>rv K
theorem Cg{x_:Int}{a1:Int->Option Bool}(a:FnV prog gl fi_a1 fa_a1 fc_a1 (λx:Int=>[iG x]) (λx:Bool=>bG x) a1):eP prog gl (AH x_ a1) 338 [iG x_,.ptr [.clo (.func fi_a1) fa_a1 fc_a1] 0] bG:=
 cy func338 λK=>ak λb e2=>aw [hz 6 [] (a.cs (c:=0) e2 (aY (aG 20 (iG x_) aH) (bf)))]<|rv K
theorem FW{l:List Int}{may:Int->Option Bool}(a:FnV prog gl fi_may fa_may fc_may (λx:Int=>[iG x]) (λx:Bool=>bG x) may):eP prog gl (tz l may) 283 [aE cZ l,.clo (.func fi_may) fa_may fc_may] bG:=
 cy func283 λK=>cN [1,0] (sf [1] [(3,.ptr [.clo (.func fi_may) fa_may fc_may] 0)]) [hc (a.im),hc (aY (a.im) (bf))]<|ak λb e2=>aw [hz 7 [] (jf (c:=0) aH (ml gl (⟨aH,bf,eB aH,λ_ _ e=>Cg gl a e⟩) e2) (aY (aG 20 (aE cZ l) aH) (aY (aG 20 (.clo (.func 338) [] [.ptr [.clo (.func fi_may) fa_may fc_may] 0]) aH) (bf))))]<|rv K
theorem mo{s:List Nat}{f:Nat->Option Bool}(a:FnV prog gl fi_f fa_f fc_f (λx:Nat=>[uG x]) (λx:Bool=>bG x) f):eP prog gl (yj s f) 359 [aE cW s,.clo (.func fi_f) fa_f fc_f] iG:=
 cy func359 λK=>uy 1101 (λg=>sg [] []) (λs1=>sf [] [(7,iG (ah s)),(8,iG s1)]) [hc (a.im)] K (λg=>rv K) λs1 k5 h k6=>aF 9 (dV 14 rW.ixZ 15 (rW.p1Y tW) λd=>ak λi e=>kV (λb=>aw [hz 16 [] (cS (a.cs (c:=0) e (aY (aG 20 (uG d) aH) (bf))) b)]<|aP c3 k6 []) λb=>aw [hz 16 [] (cS (a.cs (c:=0) e (aY (aG 20 (uG d) aH) (bf))) b)]<|cj k5 [hc (a.im)])<|aA c2 h []
theorem ku{s:List Nat}{f:Nat->Option Bool}(a:FnV prog gl fi_f fa_f fc_f (λx:Nat=>[uG x]) (λx:Bool=>bG x) f):eP prog gl (Az s f) 339 [aE cW s,.clo (.func fi_f) fa_f fc_f] bG:=
 cy func339 λK=>ak λb e2=>aw [hz 7 [] (jf (c:=0) aH (mo gl (a) e2) (aY (aG 20 (aE cW s) aH) (aY (a.im) (bf))))]<|rv K
theorem wC{x_:Nat}{a1:Nat->Option Bool}(a:FnV prog gl fi_a1 fa_a1 fc_a1 (λx:Nat=>[uG x]) (λx:Bool=>bG x) a1):eP prog gl (AH x_ a1) 340 [uG x_,.ptr [.clo (.func fi_a1) fa_a1 fc_a1] 0] bG:=
 cy func340 λK=>ak λb e2=>aw [hz 6 [] (a.cs (c:=0) e2 (aY (aG 20 (uG x_) aH) (bf)))]<|rv K
theorem zL{l:List Nat}{may:Nat->Option Bool}(a:FnV prog gl fi_may fa_may fc_may (λx:Nat=>[uG x]) (λx:Bool=>bG x) may):eP prog gl (tz l may) 284 [aE cW l,.clo (.func fi_may) fa_may fc_may] bG:=
 cy func284 λK=>cN [1,0] (sf [1] [(3,.ptr [.clo (.func fi_may) fa_may fc_may] 0)]) [hc (a.im),hc (aY (a.im) (bf))]<|ak λb e2=>aw [hz 7 [] (jf (c:=0) aH (ku gl (⟨aH,bf,eB aH,λ_ _ e=>wC gl a e⟩) e2) (aY (aG 20 (aE cW l) aH) (aY (aG 20 (.clo (.func 340) [] [.ptr [.clo (.func fi_may) fa_may fc_may] 0]) aH) (bf))))]<|rv K
theorem xY{x_:DIdent}{a1:DIdent->Option Bool}(a:FnV prog gl fi_a1 fa_a1 fc_a1 (λx:DIdent=>[.agg (aj x)]) (λx:Bool=>bG x) a1):eP prog gl (AH x_ a1) 341 [.agg (aj x_),.ptr [.clo (.func fi_a1) fa_a1 fc_a1] 0] bG:=
 cy func341 λK=>ak λb e2=>aw [hz 6 [] (a.cs (c:=1) e2 (aY (aG 20 (.agg (aj x_)) aH) (bf)))]<|rv K
theorem Ch{l:List DIdent}{may:DIdent->Option Bool}(a:FnV prog gl fi_may fa_may fc_may (λx:DIdent=>[.agg (aj x)]) (λx:Bool=>bG x) may):eP prog gl (tz l may) 286 [aE aj l,.clo (.func fi_may) fa_may fc_may] bG:=
 cy func286 λK=>cN [1,0] (sf [1] [(3,.ptr [.clo (.func fi_may) fa_may fc_may] 0)]) [hc (a.im),hc (aY (a.im) (bf))]<|ak λb e2=>aw [hz 7 [] (jf (c:=0) aH (kP gl (⟨aH,bf,eB aH,λ_ _ e=>xY gl a e⟩) e2) (aY (aG 20 (aE aj l) aH) (aY (aG 20 (.clo (.func 341) [] [.ptr [.clo (.func fi_may) fa_may fc_may] 0]) aH) (bf))))]<|rv K
theorem oB{s:List DNode}{f:DNode->Option Bool}(a:FnV prog gl fi_f fa_f fc_f (λx:DNode=>[.agg (bY x)]) (λx:Bool=>bG x) f):eP prog gl (yj s f) 360 [aE bY s,.clo (.func fi_f) fa_f fc_f] iG:=
 cy func360 λK=>uy 1101 (λg=>sg [] []) (λs1=>sf [] [(7,iG (ah s)),(8,iG s1)]) [hc (a.im)] K (λg=>rv K) λs1 k5 h k6=>aF 9 (dV 14 bZ.ixZ 15 (bZ.ptZ Pc) λd=>ak λi e=>kV (λb=>aw [hz 16 [] (cS (a.cs (c:=0) e (aY (aG 20 (.agg (bY d)) aH) (bf))) b)]<|aP c3 k6 []) λb=>aw [hz 16 [] (cS (a.cs (c:=0) e (aY (aG 20 (.agg (bY d)) aH) (bf))) b)]<|cj k5 [hc (a.im)])<|aA c2 h []
theorem lV{s:List DNode}{f:DNode->Option Bool}(a:FnV prog gl fi_f fa_f fc_f (λx:DNode=>[.agg (bY x)]) (λx:Bool=>bG x) f):eP prog gl (Az s f) 342 [aE bY s,.clo (.func fi_f) fa_f fc_f] bG:=
 cy func342 λK=>ak λb e2=>aw [hz 7 [] (jf (c:=0) aH (oB gl (a) e2) (aY (aG 20 (aE bY s) aH) (aY (a.im) (bf))))]<|rv K
theorem zM{x_:DNode}{a1:DNode->Option Bool}(a:FnV prog gl fi_a1 fa_a1 fc_a1 (λx:DNode=>[.agg (bY x)]) (λx:Bool=>bG x) a1):eP prog gl (AH x_ a1) 343 [.agg (bY x_),.ptr [.clo (.func fi_a1) fa_a1 fc_a1] 0] bG:=
 cy func343 λK=>ak λb e2=>aw [hz 6 [] (a.cs (c:=1) e2 (aY (aG 20 (.agg (bY x_)) aH) (bf)))]<|rv K
theorem tK{l:List DNode}{may:DNode->Option Bool}(a:FnV prog gl fi_may fa_may fc_may (λx:DNode=>[.agg (bY x)]) (λx:Bool=>bG x) may):eP prog gl (tz l may) 287 [aE bY l,.clo (.func fi_may) fa_may fc_may] bG:=
 cy func287 λK=>cN [1,0] (sf [1] [(3,.ptr [.clo (.func fi_may) fa_may fc_may] 0)]) [hc (a.im),hc (aY (a.im) (bf))]<|ak λb e2=>aw [hz 7 [] (jf (c:=0) aH (lV gl (⟨aH,bf,eB aH,λ_ _ e=>zM gl a e⟩) e2) (aY (aG 20 (aE bY l) aH) (aY (aG 20 (.clo (.func 343) [] [.ptr [.clo (.func fi_may) fa_may fc_may] 0]) aH) (bf))))]<|rv K
theorem mq{f:DSealed->Option Bool}(a:FnV prog gl fi_f fa_f fc_f (λx:DSealed=>[.agg (bp x)]) (λx:Bool=>bG x) f):eP prog gl (yj s f) 361 [aE bp s,.clo (.func fi_f) fa_f fc_f] iG:=
 cy func361 λK=>uy 1101 (λg=>sg [] []) (λs1=>sf [] [(7,iG (ah s)),(8,iG s1)]) [hc (a.im)] K (λg=>rv K) λs1 k5 h k6=>aF 9 (dV 14 bH.ixZ 15 (bH.ptZ GM) λd=>ak λi e=>kV (λb=>aw [hz 16 [] (cS (a.cs (c:=0) e (aY (aG 20 (.agg (bp d)) aH) (bf))) b)]<|aP c3 k6 []) λb=>aw [hz 16 [] (cS (a.cs (c:=0) e (aY (aG 20 (.agg (bp d)) aH) (bf))) b)]<|cj k5 [hc (a.im)])<|aA c2 h []
theorem kw{f:DSealed->Option Bool}(a:FnV prog gl fi_f fa_f fc_f (λx:DSealed=>[.agg (bp x)]) (λx:Bool=>bG x) f):eP prog gl (Az s f) 344 [aE bp s,.clo (.func fi_f) fa_f fc_f] bG:=
 cy func344 λK=>ak λb e2=>aw [hz 7 [] (jf (c:=0) aH (mq gl (a) e2) (aY (aG 20 (aE bp s) aH) (aY (a.im) (bf))))]<|rv K
theorem wD{x_:DSealed}{a1:DSealed->Option Bool}(a:FnV prog gl fi_a1 fa_a1 fc_a1 (λx:DSealed=>[.agg (bp x)]) (λx:Bool=>bG x) a1):eP prog gl (AH x_ a1) 345 [.agg (bp x_),.ptr [.clo (.func fi_a1) fa_a1 fc_a1] 0] bG:=
 cy func345 λK=>ak λb e2=>aw [hz 6 [] (a.cs (c:=1) e2 (aY (aG 20 (.agg (bp x_)) aH) (bf)))]<|rv K
theorem pY{l:List DSealed}{may:DSealed->Option Bool}(a:FnV prog gl fi_may fa_may fc_may (λx:DSealed=>[.agg (bp x)]) (λx:Bool=>bG x) may):eP prog gl (tz l may) 288 [aE bp l,.clo (.func fi_may) fa_may fc_may] bG:=
 cy func288 λK=>cN [1,0] (sf [1] [(3,.ptr [.clo (.func fi_may) fa_may fc_may] 0)]) [hc (a.im),hc (aY (a.im) (bf))]<|ak λb e2=>aw [hz 7 [] (jf (c:=0) aH (kw gl (⟨aH,bf,eB aH,λ_ _ e=>wD gl a e⟩) e2) (aY (aG 20 (aE bp l) aH) (aY (aG 20 (.clo (.func 345) [] [.ptr [.clo (.func fi_may) fa_may fc_may] 0]) aH) (bf))))]<|rv K
def wE(n:DNode):Option Bool:=
 some (decide (ah n.Boxes<=12))
theorem H8{n}:eP prog gl (wE n) 289 [.agg (bY n)] bG:=
 cy func289 λK=>rv K
def wF(s:DSealed):Option Bool:=
 some (decide (ah s.Body<=208))
theorem H9{s}:eP prog gl (wF s) 290 [.agg (bp s)] bG:=
 cy func290 λK=>rv K
def FX(o:DOp):Option Bool:=
 (bif decide (12<ah o.Past) then(some true) else(bif decide (5<ah o.Path) then(some true) else((tz o.Path (λz=>wE z)).bind λa=>bif(!a) then(some true) else(bif decide (208<ah o.Body) then(some true) else(bif decide (8<ah o.Refs) then(some true) else(bif decide (20<ah o.Hist) then(some true) else((tz o.Hist (λz=>wF z)).bind λb=>bif(!b) then(some true) else(some (decide (6<ah o.Guards)))))))))).bind λc=>bif c then(some true) else(bif decide (o.Kind=7) then((FV (ah o.Body) 1 20).bind λd=>some (!d)) else(bif decide (o.Kind=9) then(some (decide (ah o.Boxes≠ah o.Guards))) else(bif decide (o.Kind=10) then((FV (ah o.Boxes) 1 6).bind λe=>some (!e)) else(bif decide (o.Kind=11) then(some (decide (ah o.Boxes≠1))) else(some false)))))
theorem Es{o}:eP prog gl (FX o) 212 [.agg (aJ o)] bG:=
 cy func212 λK=>cN 111100 (sp [] [(1,.ref 0 0),(3,.clo (.func 289) [] []),(4,.clo (.func 290) [] [])] [ob 0 44 (aJ o)] 1) [hc (aG 20 (.clo (.func 289) [] []) aH),hc (aG 20 (.clo (.func 290) [] []) aH)]<|cC 111100 (λa=>sg [1] [(52,bG a)]) (λa=>eH [52] (rv K)<|aF 56 (dI 60 (eE gl) λd=>rv K)<|aF 63 (rv K)<|aF 72 (dI 76 (eE gl) λf=>rv K)<|aF 79 (rv K)<|rv K) λa k12=>aF 8 (rx k12)<|aF 14 (rx k12)<|dI 19 (tK gl (⟨aH,bf,eB aH,λ_ _ e=>H8 gl e⟩)) λb=>aF 21 (rx k12)<|aF 27 (rx k12)<|aF 33 (rx k12)<|aF 39 (rx k12)<|dI 44 (pY gl (⟨aH,bf,eB aH,λ_ _ e=>H9 gl e⟩)) λc=>aF 46 (rx k12)<|rx k12
def eR(n:Nat):Option Nat:=
 bif decide (((2305843009213693951:Nat):Int)<=((wU (((bD n 2305843009213693951:Nat):Int)+((fv n 61:Nat):Int)):Nat):Int)) then(some (wU (((wU (((bD n 2305843009213693951:Nat):Int)+((fv n 61:Nat):Int)):Nat):Int)-((2305843009213693951:Nat):Int)))) else(some (wU (((bD n 2305843009213693951:Nat):Int)+((fv n 61:Nat):Int))))
theorem dr{n}:eP prog gl (eR n) 242 [uG n] (λr:Nat=>uG r):=
 cy func242 λK=>aw [hV 4 (ju (P:=prog) (t:=34) n 2305843009213693951),hV 6 (rH (P:=prog) (t:=34) (k':= .u64) n 61),hbb 7 (gV ((bD n 2305843009213693951:Nat):Int) ((fv n 61:Nat):Int))]<|aF 9 (aw [hbb 11 (YH ((wU (((bD n 2305843009213693951:Nat):Int)+((fv n 61:Nat):Int)):Nat):Int) ((2305843009213693951:Nat):Int))]<|rv K)<|rv K
def sL(a:Nat)(y:Nat):Option (Nat×Nat):=
 some (wU (((wU (((wU (((fv a 32:Nat):Int)*((fv y 32:Nat):Int)):Nat):Int)+((fv (wU (((wU (((fv a 32:Nat):Int)*((bD y 4294967295:Nat):Int)):Nat):Int)+((fv (wU (((bD a 4294967295:Nat):Int)*((bD y 4294967295:Nat):Int))) 32:Nat):Int))) 32:Nat):Int)):Nat):Int)+((fv (wU (((bD (wU (((wU (((fv a 32:Nat):Int)*((bD y 4294967295:Nat):Int)):Nat):Int)+((fv (wU (((bD a 4294967295:Nat):Int)*((bD y 4294967295:Nat):Int))) 32:Nat):Int))) 4294967295:Nat):Int)+((wU (((bD a 4294967295:Nat):Int)*((fv y 32:Nat):Int)):Nat):Int))) 32:Nat):Int)),wU ((a:Int)*(y:Int)))
theorem FY{x_ y}:eP prog gl (sL x_ y) 347 [uG x_,uG y] (λr=> .tup [uG r.1,uG r.2]):=
 cy func347 λK=>aw [hV 15 (ju (P:=prog) (t:=34) x_ 4294967295),hV 17 (rH (P:=prog) (t:=34) (k':= .u64) x_ 32),hV 19 (ju (P:=prog) (t:=34) y 4294967295),hV 21 (rH (P:=prog) (t:=34) (k':= .u64) y 32),hbb 24 (na ((bD x_ 4294967295:Nat):Int) ((bD y 4294967295:Nat):Int)),hbb 27 (na ((fv x_ 32:Nat):Int) ((bD y 4294967295:Nat):Int)),hV 29 (rH (P:=prog) (t:=34) (k':= .u64) (wU (((bD x_ 4294967295:Nat):Int)*((bD y 4294967295:Nat):Int))) 32),hbb 30 (gV ((wU (((fv x_ 32:Nat):Int)*((bD y 4294967295:Nat):Int)):Nat):Int) ((fv (wU (((bD x_ 4294967295:Nat):Int)*((bD y 4294967295:Nat):Int))) 32:Nat):Int)),hV 32 (ju (P:=prog) (t:=34) (wU (((wU (((fv x_ 32:Nat):Int)*((bD y 4294967295:Nat):Int)):Nat):Int)+((fv (wU (((bD x_ 4294967295:Nat):Int)*((bD y 4294967295:Nat):Int))) 32:Nat):Int))) 4294967295),hV 34 (rH (P:=prog) (t:=34) (k':= .u64) (wU (((wU (((fv x_ 32:Nat):Int)*((bD y 4294967295:Nat):Int)):Nat):Int)+((fv (wU (((bD x_ 4294967295:Nat):Int)*((bD y 4294967295:Nat):Int))) 32:Nat):Int))) 32),hbb 38 (na ((bD x_ 4294967295:Nat):Int) ((fv y 32:Nat):Int)),hbb 39 (gV ((bD (wU (((wU (((fv x_ 32:Nat):Int)*((bD y 4294967295:Nat):Int)):Nat):Int)+((fv (wU (((bD x_ 4294967295:Nat):Int)*((bD y 4294967295:Nat):Int))) 32:Nat):Int))) 4294967295:Nat):Int) ((wU (((bD x_ 4294967295:Nat):Int)*((fv y 32:Nat):Int)):Nat):Int)),hbb 42 (na ((fv x_ 32:Nat):Int) ((fv y 32:Nat):Int)),hbb 44 (gV ((wU (((fv x_ 32:Nat):Int)*((fv y 32:Nat):Int)):Nat):Int) ((fv (wU (((wU (((fv x_ 32:Nat):Int)*((bD y 4294967295:Nat):Int)):Nat):Int)+((fv (wU (((bD x_ 4294967295:Nat):Int)*((bD y 4294967295:Nat):Int))) 32:Nat):Int))) 32:Nat):Int)),hV 46 (rH (P:=prog) (t:=34) (k':= .u64) (wU (((bD (wU (((wU (((fv x_ 32:Nat):Int)*((bD y 4294967295:Nat):Int)):Nat):Int)+((fv (wU (((bD x_ 4294967295:Nat):Int)*((bD y 4294967295:Nat):Int))) 32:Nat):Int))) 4294967295:Nat):Int)+((wU (((bD x_ 4294967295:Nat):Int)*((fv y 32:Nat):Int)):Nat):Int))) 32),hbb 47 (gV ((wU (((wU (((fv x_ 32:Nat):Int)*((fv y 32:Nat):Int)):Nat):Int)+((fv (wU (((wU (((fv x_ 32:Nat):Int)*((bD y 4294967295:Nat):Int)):Nat):Int)+((fv (wU (((bD x_ 4294967295:Nat):Int)*((bD y 4294967295:Nat):Int))) 32:Nat):Int))) 32:Nat):Int)):Nat):Int) ((fv (wU (((bD (wU (((wU (((fv x_ 32:Nat):Int)*((bD y 4294967295:Nat):Int)):Nat):Int)+((fv (wU (((bD x_ 4294967295:Nat):Int)*((bD y 4294967295:Nat):Int))) 32:Nat):Int))) 4294967295:Nat):Int)+((wU (((bD x_ 4294967295:Nat):Int)*((fv y 32:Nat):Int)):Nat):Int))) 32:Nat):Int)),hbb 50 (na (x_:Int) (y:Int))]<|rv K
def jZ(a:Nat)(b:Nat):Option Nat:=
 (eR a).bind λd=>(eR b).bind λe=>(sL d e).bind λc=>(eR c.2).bind λf=>(eR (wU ((f:Int)+((lB c.1 3:Nat):Int)))).bind λg=>some g
theorem j0{a b}:eP prog gl (jZ a b) 294 [uG a,uG b] (λr:Nat=>uG r):=
 cy func294 λK=>dI 9 (dr gl) λe=>dI 11 (dr gl) λf=>dI 12 (FY gl) λc=>dI 16 (dr gl) λd=>dI 20 (dr gl) λg=>aw [hV 18 (Ks (P:=prog) (t:=34) (k':= .u64) c.1 3),hbb 19 (gV (d:Int) ((lB c.1 3:Nat):Int))]<|rv K
def iB(n:Nat)(low:Nat)(a:Nat):Option Bool:=
 (bif decide ((low:Int)<=(n:Int)) then(some (decide ((n:Int)<=(a:Int)))) else(some false)).bind λb=>some b
theorem iY{n low a}:eP prog gl (iB n low a) 291 [uG n,uG low,uG a] bG:=
 cy func291 λK=>cN [1,0] (sf [] []) []<|cC [1,0] (λb=>sg [] [(6,bG b)]) (λb=>rv K) λb k3=>aF 9 (rx k3)<|rx k3
end
section
set_option maxHeartbeats 2000000
attribute [local irreducible] Tr dz Gp
def df(a:DIdent)(a1:DGraphGraph):Option Bool:=
 some ((a1.at_.get a).isSome)
theorem jk{id_ a1}:eP prog gl (df id_ a1) 221 [.agg (aj id_),.ptr [.ptr (av a1) 0] 0] bG:=
 cy func221 λK=>aw [hm 12 (H7 a1.at_ id_)]<|rv K
def wG(a:Nat)(b:Nat):Option Nat:=
 (eR a).bind λc=>(eR b).bind λd=>(eR (wU ((c:Int)+(d:Int)))).bind λe=>some e
theorem Ia{a b}:eP prog gl (wG a b) 304 [uG a,uG b] (λr:Nat=>uG r):=
 cy func304 λK=>dI 6 (dr gl) λc=>dI 8 (dr gl) λd=>dI 10 (dr gl) λe=>aw [hbb 9 (gV (c:Int) (d:Int))]<|rv K
def tA(d:Int)(a1:DRollRoll):Option Bool:=
 some (!(kN (a1.in_.get d)))
theorem uk{d a1}:eP prog gl (tA d a1) 393 [iG d,.ptr [.ptr (dY a1) 0] 0] bG:=
 cy func393 λK=>aw [hm 9 (Ad a1.in_ d)]<|rv K
def DY(b:DRollRoll)(o:DOp)(m:Int):Option Int:=
 (Az o.Guards (λz=>tA z b)).bind λa=>bif a then(some 17) else(some 0)
theorem Gd{r_ o m}:eP prog gl (DY r_ o m) 392 [.ptr (dY r_) 0,.agg (aJ o),iG m] iG:=
 cy func392 λK=>cN 1100 (sp [] [(3,.ptr [.ptr (dY r_) 0] 0),(4,.ref 0 0)] [ob 0 44 (aJ o)] 1) [hc (aY (Ah (dY r_) 0) (bf))]<|ak λa e2=>kV (λb3=>aw [hf 10 (cF (ml gl (⟨aH,bf,eB aH,λ_ _ e=>uk gl e⟩) e2) b3)]<|rv K) λb3=>aw [hf 10 (cF (ml gl (⟨aH,bf,eB aH,λ_ _ e=>uk gl e⟩) e2) b3)]<|rv K
end
section
attribute [local irreducible] Tr dz Gp
abbrev u1(n:Nat):Option Ob:=some ⟨34,[uG n],none⟩
theorem Kt(a n:Nat):jg prog gl 346 [uG a,uG n] [] 0 (.clo (.func 362) [] [.ref 0 0,.ref 1 0]) [(0,u1 a),(1,u1 n)] 2:=by refine pP func346 ?_;exact dEf .ret (s0 6 gl [(4,.clo (.func 362) [] [.ref 0 0,.ref 1 0])] [(1,u1 n),(0,u1 a)] 2 0) [.clo (.func 362) [] [.ref 0 0,.ref 1 0]] [] (λk o hk=>by rcases k with _|_|k<;>exact hk)
def mW(s:Nat×Nat×Nat):Option ((Nat×Nat×Nat)⊕Nat):=
 bif decide (((0:Nat):Int)<(s.2.1:Int)) then((bif decide (((bD s.2.1 1:Nat):Int)=((1:Nat):Int)) then(jZ s.2.2 s.1) else some s.2.2).bind λo=>(jZ s.1 s.1).bind λb=>some (.inl (b,fv s.2.1 1,o))) else some (.inr s.2.2)
def j7(a n:Nat):Option Nat:=(eR a).bind λv=>bo mW (v,n,1)
noncomputable abbrev FZ:Code:=bq 111012 (ai Tryz.f293)
noncomputable abbrev tL(st:LoopState)(fr:Fr):Option Ob:=some ⟨0,[],some (.loop st none 18 fr (Dy FZ) (Dz FZ) (DA FZ))⟩
noncomputable abbrev Yo:Fr:=[(5,.ref 0 0),(10,.clo (.func 362) [] [.ref 1 0,.ref 2 0])]
abbrev r4:List (Nat×Nat):=[(0,0),(1,1),(2,2),(3,3)]
theorem mX{r:Nat}(h:j7 a n=some r):ba prog gl 293 [uG a,uG n] (uG r):=by
 unfold j7 at h;obtain⟨v,ev,h⟩:=bS h;refine Gh func293 ?_;refine YR [1,1,0,1,2] (s0 18 gl Yo [(1,u1 a),(2,u1 n),(0,u1 1)] 3 0) [hmc 10 [] 1 [] [uG a,uG n] [(0,⟨34,[uG a],none⟩),(1,⟨34,[uG n],none⟩)] (Kt gl a n) trivial ⟨⟨rfl,.inl rfl⟩,⟨rfl,.inl rfl⟩,trivial⟩] ?_;refine Xt (fst:=[]) (cap:=[.ref 1 0,.ref 2 0]) Tryz.f362 func362 ?_;refine pN (λs:Nat×Nat×Nat=>(s0 22 gl [(0,.yld 3),(1,.ref 1 0),(2,.ref 2 0),(4,uG s.1)] [(0,u1 s.2.2),(2,u1 s.2.1),(3,tL .ready [(5,.ref 0 0)])] 4 4)) 1122 h [hf 6 (dr gl ev)] [] (λB s w hs k5 d=>?_) [] r4;unfold mW at hs;rcases bC hs with⟨b1,hs⟩|⟨b1,hs⟩
 .obtain⟨o,c,hs⟩:=bS hs;obtain⟨b,eb,hs⟩:=bS hs;obtain rfl:=cP hs;refine pO 112200 (s0 22 gl [(0,.yld 3),(1,.ref 1 0),(2,.ref 2 0),(4,uG s.1)] [(0,u1 s.2.2),(2,u1 s.2.1),(3,tL .ready [(5,.ref 0 0)])] 4 4) [] [] ?_ [] r4;refine Xw (i:=3) (j:=8) (n:=18) (t:=0) (t2:=0) (pe:=none) (fr:=[(5,.ref 0 0)]) (ps:=Dy FZ) (a:=Dz FZ) (b:=DA FZ) (s1:=(s0 22 gl [(14,bG (decide (((bD s.2.1 1:Nat):Int)=((1:Nat):Int)))),(13,uG (bD s.2.1 1)),(12,uG s.2.1),(11,uG s.1),(10,.yld 3),(9,bG true),(8,bG true),(7,uG s.2.1),(0,.yld 3),(1,.ref 1 0),(2,.ref 2 0),(4,uG s.1)] [(0,u1 s.2.2),(2,u1 s.2.1),(3,tL .ready [(5,.ref 0 0)])] 4 4))
   (s3:=(s0 22 gl [(16,bG true),(15,bG true),(14,bG (decide (((bD s.2.1 1:Nat):Int)=((1:Nat):Int)))),(13,uG (bD s.2.1 1)),(12,uG s.2.1),(11,uG s.1),(10,.yld 3),(9,bG true),(8,bG true),(7,uG s.2.1),(0,.yld 3),(1,.ref 1 0),(2,.ref 2 0),(4,uG s.1)] ((3,tL .ready [(5,.ref 0 0)])::[(0,u1 o),(2,u1 s.2.1),(3,tL .busy [(5,.ref 0 0)])]) 4 4))
   [(0,u1 o),(2,u1 s.2.1),(3,tL .busy [(5,.ref 0 0)])] 4 (.loop .ready none 18 [(5,.ref 0 0)] (Dy FZ) (Dz FZ) (DA FZ)) [hr 8 b1,hV 13 (ju (P:=prog) (t:=34) s.2.1 1)] [] ?_ ?_
  .refine C9 .normal ⟨18,gl,[(5,.ref 0 0),(6,uG s.1),(7,bG (decide (((bD s.2.1 1:Nat):Int)=((1:Nat):Int))))],[(0,u1 s.2.2),(2,u1 s.2.1),(3,tL .ready [(5,.ref 0 0)])],4,4,true⟩ [] [] (Xv Tryz.f293 ?_ rfl) [] r4;rcases bC c with⟨b2,c⟩|⟨b2,c⟩
   .rw[b2];exact C9 .normal ⟨18,gl,[],[(0,u1 o),(2,u1 s.2.1),(3,tL .busy [(5,.ref 0 0)])],4,4,true⟩ [hf 16 (j0 gl c)] [] (jy rfl rfl rfl rfl rfl rfl) [] r4
   .rw[b2];obtain rfl:=cP c;exact C9 .normal ⟨18,gl,[],[(0,u1 s.2.2),(2,u1 s.2.1),(3,tL .busy [(5,.ref 0 0)])],4,4,true⟩ [] [] (jy rfl rfl rfl rfl rfl rfl) [] r4
  .exact jw [hf 21 (j0 gl eb),hV 18 (rH (P:=prog) (t:=34) (k':= .u64) s.2.1 1)] [] (k5 _ rfl) [] r4
 .obtain rfl:=cP hs;obtain rfl:=d _ rfl;refine C9 .normal (s0 22 gl [] [(0,u1 s.2.2),(3,tL .ready [(5,.ref 0 0)])] 4 4) [hr 8 b1] [] (Xu ?_ rfl) [] r4;exact Ar [] []
end
section
attribute [local irreducible] Tr dz Gp
def kE(s k w:Nat):Option Nat:=(jZ 37 s).bind λa=>(eR (wU ((w:Int)+((wU ((k:Int)+((1:Nat):Int)):Nat):Int)))).bind λb=>(wG a b).bind λc=>j7 c 17
def rK(l:List Nat)(x:Nat×Nat×Int):Option ((Nat×Nat×Int)⊕(Nat×Nat)):=bif decide (x.2.2<ah l) then(aS l x.2.2).bind λw=>(kE x.1 x.2.1 w).bind λs=>some (.inl (s,wU ((x.2.1:Int)+((1:Nat):Int)),wI (x.2.2+1))) else some (.inr (x.1,x.2.1))
abbrev Ku(s k:Nat):Option Ob:=some ⟨304,[uG s,uG k],none⟩
abbrev Ci(l:List Nat):Option Ob:=some ⟨34,l.flatMap cW,none⟩
theorem Th{l:List Nat}{s:Nat}{r:Nat×Nat}(h:bo (rK l) (s,k,0)=some r):jg prog gl 241 [.ref 0 0,.rsl 1 0 l.length] [(0,Ku s k),(1,Ci l)] 2 (.tup []) [(0,Ku r.1 r.2),(1,Ci l)] 2:=by
 refine pP func241 ?_;refine pN (λx:Nat×Nat×Int=>(s0 37 gl [(0,.ref 0 0),(6,.rsl 1 0 l.length),(7,iG (ah l)),(8,iG x.2.2)] [(0,Ku x.1 x.2.1),(1,Ci l)] 2 2)) 1122 h [] [hc (rfl:l.length=l.length),hc (rW.imm l)] (λB x w hs k5 e=>?_) (kd:=[(1,.row)]);unfold rK at hs;rcases bC hs with⟨b1,hs⟩|⟨b1,hs⟩
 .obtain⟨y,d,hs⟩:=bS hs;obtain⟨s',es,hs⟩:=bS hs;obtain rfl:=cP hs;unfold kE at es;obtain⟨a,ea,es⟩:=bS es;obtain⟨b,eb,es⟩:=bS es;obtain⟨c,f,es⟩:=bS es;exact jw [hr 9 b1,bR 10 (rW.ixrZ 1 d),bR 11 (rW.p10Z tW d),hbb 16 (gV (x.2.1:Int) ((1:Nat):Int)),hf 24 (j0 gl ea),hbb 30 (gV (y:Int) ((wU ((x.2.1:Int)+((1:Nat):Int)):Nat):Int)),hf 31 (dr gl eb),hf 32 (Ia gl f),hf 33 (mX gl es)] [hc (rfl:l.length=l.length),hc (rW.imm l)] (k5 _ rfl) (kd:=[(1,.row)])
 .obtain rfl:=cP hs;obtain rfl:=e _ rfl;exact mt .normal (s0 37 gl [] [(0,Ku x.1 x.2.1),(1,Ci l)] 2 2) [] [hr 9 b1] [hc (rW.imm l)] (kd:=[(1,.row)])
end
section
attribute [local irreducible] Tr dz Gp
abbrev ny(b:List UInt8):G:= .clo (.func 244) [] [.ptr [aE cY b] 0]
abbrev Kv(b:List UInt8):G:= .clo (.func 305) [] [.ptr [aE cY b] 0,.ptr [iG 7] 0]
theorem Ic(b:List UInt8):ba prog gl 145 [aE cY b] (ny b):=by refine Gh func145 ?_;refine pO [1,0] (s0 4 gl [(1,.ptr [aE cY b] 0)] [] 0 0) [] [hc (aY (aG 20 (aE cY b) aH) bf)] ?_;exact Ar [] []
theorem Ie(b:List UInt8):ba prog gl 245 [aE cY b,iG 7] (Kv b):=by refine Gh func245 ?_;refine pO 1100 (s0 9 gl [(2,.ptr [aE cY b] 0),(3,.ptr [iG 7] 0)] [] 0 0) [] [hc (aY (aG 20 (aE cY b) aH) bf),hc (aY (aG 20 (iG 7) aH) bf)] ?_;exact Ar [] []
def hcv(d:Nat){g:G}{p:Prop}(t:p):HP:=⟨some (.c d g),p,t⟩
theorem Yp{ts te:TypeId}{f:α->List G}(R:RowTy P ts te k f){l y z:List α}{i j:Int}(h1:tq l j=some y)(h2:mc y i=some z):sJ P ts (aE f l) (iG i) (iG j) (iG j)=some (aE f z):=by obtain⟨a1,a2,rfl⟩:=ym h1;obtain⟨b1,b2,rfl⟩:=yn h2;rw[List.length_take] at b2;simp only[sJ,R.el,R.sz,aE,iG,xL];grind [RowTy,yk,sQ]
def oD(q:List UInt8)(x:Nat×Int):Option ((Nat×Int)⊕Nat):=bif decide (x.2<ah q) then(aS q x.2).bind λy=>(wJ (wI (8*x.2))).bind λn=>some (.inl (gM x.1 (lB (wU (y.toNat:Int)) n),wI (x.2+1))) else some (.inr x.1)
def xZ(b:List UInt8)(x:List Nat×Int):Option ((List Nat×Int)⊕List Nat):=bif decide (x.2<ah b) then(mc b x.2).bind λq0=>(tq b (wI (x.2+iI 7 (ah q0)))).bind λy=>(mc y x.2).bind λq=>(bo (oD q) (0,0)).bind λw=>(aT 8 x.1 [w]).bind λa=>some (.inl (a,wI (x.2+7))) else some (.inr x.1)
def Cj(b:List UInt8):Option (List Nat):=bo (xZ b) ([],0)
end
section
attribute [local irreducible] Tr dz Gp
noncomputable abbrev OV:Code:=bq 11012 (ai Tryz.f243)
noncomputable abbrev Kw:Code:=bq 1112 (ai Tryz.f244)
noncomputable abbrev uS(st:LoopState):Option Ob:=some ⟨0,[],some (.loop st none 13 [(2,.ref 0 0)] (Dy OV) (Dz OV) (DA OV))⟩
noncomputable abbrev vP(st:LoopState):Option Ob:=some ⟨0,[],some (.loop st none 29 [(2,.ref 2 0)] (Dy Kw) (Dz Kw) (DA Kw))⟩
abbrev I8(g:G):Option Ob:=some ⟨38,[g],none⟩
abbrev Kx(i:Nat):Option Ob:=some ⟨307,[.yld i],none⟩
abbrev aar(b:List UInt8)(i m:Int):Fr:=[(0,.yld 3),(1,.ptr [aE cY b] 0),(2,.ptr [iG 7] 0),(4,iG i),(5,iG m)]
noncomputable abbrev σCh(acc:List Nat):aQ:=[(0,I8 (.rsl 4 0 acc.length)),(1,uS .ready),(2,Kx 1),(3,vP .ready),(4,Ci acc)]
abbrev Ti(b q:List UInt8)(i m:Int):Fr:=[(28,aE cY q),(27,iG (wI (i+m))),(26,iG m),(25,iG i),(24,iG (wI (i+m))),(23,iG m),(22,iG i),(21,iG i),(20,aE cY b),(19,.yld 3)]++aar b i m
noncomputable abbrev σRd(acc:List Nat):aQ:=[(0,I8 (.rsl 5 0 acc.length)),(1,uS .ready),(2,Kx 1),(3,vP .busy),(5,Ci acc)]
theorem F0{r:List Nat}(h:Cj b=some r):iV prog gl 243 [.lit (.slice none 0 0),ny b] 34 r.length (r.flatMap cW):=by
 unfold Cj at h;refine OW func243 ?_;refine YR [1,0,1,2] (s0 13 gl [(2,.ref 0 0),(6,ny b)] [(0,I8 (.lit (.slice none 0 0)))] 1 0) [] ?_;refine Xt (fst:=[]) (cap:=[.ptr [aE cY b] 0]) Tryz.f244 func244 ?_;refine YR [1,1,2] (s0 29 gl [(2,.ref 2 0),(8,Kv b)] [(2,Kx 1),(1,some ⟨0,[],some (.loop .ready none 13 [(2,.ref 0 0),(6,ny b)] (Dy OV) (Dz OV) (DA OV))⟩),(0,I8 (.lit (.slice none 0 0)))] 3 2) [hf 8 (Ie gl b)] ?_;refine Xt (fst:=[]) (cap:=[.ptr [aE cY b] 0,.ptr [iG 7] 0]) Tryz.f305 func305 ?_;refine pN (λx:List Nat×Int=>(s0 31 gl [(0,.yld 3),(1,.ptr [aE cY b] 0),(2,.ptr [iG 7] 0),(4,iG x.2)] [(0,I8 (.rsl 4 0 x.1.length)),(1,uS .ready),(2,Kx 1),(3,vP .ready),(4,Ci x.1)] 5 4)) 1122 h [] [hc (rW.imm [])] (λB x w hs k5 d=>?_) (vs:=[34]) (ρ:=rI 5) (kd:=[(4,.row)]);unfold xZ at hs;rcases bC hs with⟨b1,hs⟩|⟨b1,hs⟩
 .obtain⟨q0,e0,hs⟩:=bS hs;obtain⟨y,k,hs⟩:=bS hs;obtain⟨q,l,hs⟩:=bS hs;obtain⟨w,ew,hs⟩:=bS hs;obtain⟨a,ea,hs⟩:=bS hs;obtain rfl:=cP hs;refine pO 112210210 (s0 31 gl [(0,.yld 3),(1,.ptr [aE cY b] 0),(2,.ptr [iG 7] 0),(4,iG x.2),(5,iG (iI 7 (ah q0)))] [(0,I8 (.rsl 4 0 x.1.length)),(1,uS .ready),(2,Kx 1),(3,vP .ready),(4,Ci x.1)] 5 4) [hr 9 b1,bR 16 (rY.sufZI e0)] [hc (rfl:x.1.length=x.1.length),hc (rW.imm x.1)] ?_ (ρ:=rI 5) (kd:=[(4,.row)]);refine Xw (i:=3) (j:=10) (n:=29) (t:=0) (t2:=0) (pe:=none) (fr:=[(2,.ref 2 0)]) (ps:=Dy Kw) (a:=Dz Kw) (b:=DA Kw) (s1:=(s0 31 gl (Ti b q x.2 (iI 7 (ah q0))) (σCh x.1) 5 4))
   (s3:=(s0 31 gl ([(30,bG false),(29,bG true)]++Ti b q x.2 (iI 7 (ah q0))) ((3,vP .ready)::σRd a) 6 4))
   (σRd a) 6 (.loop .ready none 29 [(2,.ref 2 0)] (Dy Kw) (Dz Kw) (DA Kw)) [hcv 28 (g:=aE cY q) (Yp rY k l)] [] ?_ ?_
  .refine C9 .normal ⟨29,gl,[(2,.ref 2 0),(3,aE cY q)],σCh x.1,5,5,true⟩ [] [hc (rfl:x.1.length=x.1.length),hc (rW.imm x.1)] (Xv Tryz.f244 ?_ rfl) (ρ:=rI 5) (kd:=[(4,.row)]);refine Ix 12101 ⟨29,gl,[(2,.ref 2 0),(4,uG w)],[(0,I8 (.rsl 4 0 x.1.length)),(1,uS .ready),(2,Kx 1),(3,vP .busy),(4,Ci x.1)],5,5,true⟩ ?_ λkk=>?_
   .refine pO 12110 ⟨29,gl,[(2,.ref 2 0),(4,uG w)],[(0,I8 (.rsl 4 0 x.1.length)),(1,uS .ready),(2,Kx 1),(3,vP .busy),(4,Ci x.1)],5,5,true⟩ [] [hc (rfl:x.1.length=x.1.length),hc (rW.imm x.1)] ?_ (ρ:=rI 5) (kd:=[(4,.row)]);refine Xw (i:=1) (j:=2) (n:=13) (t:=0) (t2:=0) (pe:=none) (fr:=[(2,.ref 0 0)]) (ps:=Dy OV) (a:=Dz OV) (b:=DA OV) (s1:=⟨29,gl,[(26,uG w),(25,.yld 1),(2,.ref 2 0),(4,uG w)],[(0,I8 (.rsl 4 0 x.1.length)),(1,uS .ready),(2,Kx 1),(3,vP .busy),(4,Ci x.1)],5,5,true⟩)
     (s3:=⟨29,gl,[(28,bG false),(27,bG true),(26,uG w),(25,.yld 1),(2,.ref 2 0),(4,uG w)],(1,uS .ready)::[(0,I8 (.rsl 5 0 a.length)),(1,uS .busy),(2,Kx 1),(3,vP .busy),(5,Ci a)],6,5,true⟩)
     [(0,I8 (.rsl 5 0 a.length)),(1,uS .busy),(2,Kx 1),(3,vP .busy),(5,Ci a)] 6 (.loop .ready none 13 [(2,.ref 0 0)] (Dy OV) (Dz OV) (DA OV)) [] [] ?_ ?_
    .refine C9 .normal ⟨13,gl,[(2,.ref 0 0),(5,uG w)],[(0,I8 (.rsl 4 0 x.1.length)),(1,uS .ready),(2,Kx 1),(3,vP .busy),(4,Ci x.1)],5,5,true⟩ [] [hc (rfl:x.1.length=x.1.length),hc (rW.imm x.1)] (Xv Tryz.f243 ?_ rfl) (ρ:=rI 5) (kd:=[(4,.row)]);exact C9 .normal ⟨13,gl,[],[(0,I8 (.rsl 5 0 a.length)),(1,uS .busy),(2,Kx 1),(3,vP .busy),(5,Ci a)],6,5,true⟩ [dg 11 rW ea] [hc (el a),hc (rW.imm a)] (by grind [jy]) (ρ:=rI 5++[(5,6)]) (kd:=[(5,.row)])
    .exact C9 .normal ⟨29,gl,[],σRd a,6,5,true⟩ [] [hc (el a),hc (rW.imm a)] (by grind [jy]) (ρ:=rI 6) (kd:=[(5,.row)])
   refine pN (λz:Nat×Int=>⟨29,gl,[(2,.ref 2 0),(4,uG z.1),(10,aE cY q),(11,iG (ah q)),(12,iG z.2)],[(0,I8 (.rsl 4 0 x.1.length)),(1,uS .ready),(2,Kx 1),(3,vP .busy),(4,Ci x.1)],5,5,true⟩) [2,1,0,1,2,2] ew [] [hc (rfl:x.1.length=x.1.length),hc (rW.imm x.1)] (λm z v hz e f=>?_) (ρ:=rI 5) (kd:=[(4,.row)]);unfold oD at hz;rcases bC hz with⟨c1,hz⟩|⟨c1,hz⟩
   .obtain⟨c,e1,hz⟩:=bS hz;obtain⟨n1,e2,hz⟩:=bS hz;obtain rfl:=cP hz;exact jw [hr 13 c1,bR 15 (rY.ixZ e1),bR 16 (rY.p1Z tY e1),bR 19 (C8 (c.toNat:Int)),hV 22 (sM (P:=prog) (t:=34) (wU (c.toNat:Int)) e2),hV 23 (jc (P:=prog) (t:=34) z.1 (lB (wU (c.toNat:Int)) n1))] [hc (rfl:x.1.length=x.1.length),hc (rW.imm x.1)] (e _ rfl) (ρ:=rI 5) (kd:=[(4,.row)])
   .obtain rfl:=cP hz;obtain rfl:=f _ rfl;exact yl 12101 [hr 13 c1] [hc (rfl:x.1.length=x.1.length),hc (rW.imm x.1)] kk (ρ:=rI 5) (kd:=[(4,.row)])
  .exact jw [] [hc (rfl:a.length=a.length),hc (rW.imm a)] (k5 _ rfl) (ρ:=rI 4++[(4,5)]) (kd:=[(4,.row)])
 .obtain rfl:=cP hs;obtain rfl:=d _ rfl;refine C9 .normal (s0 31 gl [] [(0,I8 (.rsl 4 0 x.1.length)),(1,uS .ready),(3,vP .ready),(4,Ci x.1)] 5 4) [hr 9 b1] [hc (rfl:x.1.length=x.1.length),hc (rW.imm x.1)] (Xu ?_ rfl) (ρ:=rI 5) (kd:=[(4,.row)]);refine C9 .normal (s0 29 gl [] [(0,I8 (.rsl 4 0 x.1.length)),(1,uS .ready),(4,Ci x.1)] 5 2) [] [hc (rfl:x.1.length=x.1.length),hc (rW.imm x.1)] (Xu ?_ rfl) (ρ:=[(0,0),(1,1),(4,4)]) (kd:=[(4,.row)]);exact EI [] (rW.imm _)
end
section
attribute [local irreducible] Tr dz Gp
theorem Ky{r:List Nat}(h:Cj b=some r):iV prog gl 144 [ny b] 34 r.length (r.flatMap cW):=by refine OW func144 ?_;exact EI [ho 4 [.lit (.slice none 0 0),ny b] [] (F0 gl h) (Gj (λx g hg=>by simp only[cW,List.mem_singleton] at hg;exact⟨_,hg⟩) r)] (rW.imm _)
end
section
attribute [local irreducible] Tr dz Gp
theorem Qx{σ ρ:Type}{step:σ->Option (σ⊕ρ)}{s s':σ}{r:ρ}(h1:step s=some (.inl s'))(h2:step s'=some (.inr r)):bo step s=some r:=by unfold bo FU;rw[show(4611686018427387904:Nat)=4611686018427387902+1+1 from rfl];unfold KN;rw[h1];show KN step (4611686018427387902+1) s'=some r;unfold KN;rw[h2]
def k1(k:Nat):Nat:=wU ((k:Int)+((1:Nat):Int))
theorem Qy{s w s':Nat}(h:kE s k w=some s'):jg prog gl 241 [.ref 0 0,.rsl 1 0 1] [(0,Ku s k),(1,Ci [w])] 2 (.tup []) [(0,Ku s' (k1 k)),(1,Ci [w])] 2:=by
 have e:bo (rK [w]) (s,k,0)=some (s',k1 k):=by
  refine Qx (s':=(s',k1 k,1)) ?_ ?_
  .unfold rK;rw[decide_eq_true (show((s,k,0):Nat×Nat×Int).2.2<ah [w] by simp[ah]),aN];show(some w:Option Nat).bind _=_;rw[aL];show(kE s k w).bind _=_;rw[h,aL];rfl
  .unfold rK;rw[decide_eq_false (show¬((s',k1 k,1):Nat×Nat×Int).2.2<ah [w] by simp[ah]),cG]
 exact Th gl e
end
section
attribute [local irreducible] Tr dz Gp
def F1(b:List UInt8)(x:(Nat×Nat)×Int):Option (((Nat×Nat)×Int)⊕(Nat×Nat)):=bif decide (x.2<ah b) then(mc b x.2).bind λq0=>(tq b (wI (x.2+iI 7 (ah q0)))).bind λy=>(mc y x.2).bind λq=>(bo (oD q) (0,0)).bind λw=>(kE x.1.1 x.1.2 w).bind λs=>some (.inl ((s,k1 x.1.2),wI (x.2+7))) else some (.inr x.1)
def F3(l:List Nat)(x:(Nat×Nat)×Int):Option (((Nat×Nat)×Int)⊕(Nat×Nat)):=bif decide (x.2<ah l) then(aS l x.2).bind λy=>(eR y).bind λn=>(kE x.1.1 x.1.2 n).bind λs=>some (.inl ((s,k1 x.1.2),wI (x.2+1))) else some (.inr x.1)
def x6(label:List UInt8)(l:List Nat):Option Nat:=(Gk label).bind λt=>(bo (F1 t) ((wU (ah label),0),0)).bind λa=>(kE a.1 a.2 (wU (ah l))).bind λs1=>(bo (F3 l) ((s1,k1 a.2),0)).bind λc=>kE c.1 c.2 0
end
theorem Cm:wY (n:Int)=UInt8.ofNat n:=by
 unfold wY;apply UInt8.toNat_inj.1;have e:IntKind.u8.wrap (n:Int)=((n%256:Nat):Int):=by show(n:Int)%256=_;omega
 rw[e];simp;omega
theorem ya(hk:k<18446744073709551616):jl k=some (nb k):=by
 unfold jl;refine T.eq (.bind ?_);refine T.loop (Q:=λx=>T _ _) (λs=>s.2++nb s.1=nb k/\s.1<18446744073709551616) (λs=>(nb s.1).length) ⟨rfl,hk⟩ (by grind [ow]) ?_;rintro⟨m,out⟩ ⟨h1,h2⟩;simp only at h1 h2;have hl:out.length+(nb m).length<=10:=by grind [ow]
 have hp:0<(nb m).length:=List.length_pos_iff.2 (Yj m);unfold DJ;dsimp only;refine .dec (λh=>?_) λh=>?_
 .have hm:¬m<128:=aa;refine .bind (.app cq (.some ?_));have e1:wU ((m/128:Nat):Int)=m/128:=rM aa;have e2:wY (((wY ((m%128:Nat):Int)).toNat:Int)+((128:UInt8).toNat:Int))=UInt8.ofNat (m%128+128):=by grind [Cm,UInt8.toNat_ofNat']
  constructor<;>grind [Er]
 .have hm:m<128:=aa;refine .some ?_;show T _ _;grind [T.app,Cm,H6]
theorem F4{n:Int}(h: -9223372036854775808<=n/\n<=9223372036854775807):cg n=some (nb (Mk n)):=by
 obtain⟨h1,h2⟩:=h;unfold cg;refine T.eq (.dec (λhn=>?_) λhn=>?_)
 .have e1:wI (n+1)=n+1:=by grind [bM]
  have e2:wI (0-(n+1))= -(n+1):=by grind [bM]
  have e3:wU (-(n+1))=(-(n+1)).toNat:=by grind [rM]
  have e4:wU (((wU (((-(n+1)).toNat:Int)*((2:Nat):Int)):Nat):Int)+((1:Nat):Int))=Mk n:=by unfold Mk;rw[if_pos hn];generalize hm:(-(n+1)).toNat=m;rw[show(m:Int)*((2:Nat):Int)=((m*2:Nat):Int) by omega,rM aa,show((m*2:Nat):Int)+((1:Nat):Int)=((m*2+1:Nat):Int) by omega,rM aa]
  grind [ya,FQ,T.some]
 grind [rM,Mk,T.eqb,ya,T.some]
def bl(n:Nat):Nat:=if h:n=0 then 0 else bl (n/2)+1
theorem Mo(h:0<n):bl (n/2)<bl n:=by grind [bl.eq_1]
theorem QB:∀(k n:Nat),n<2^k->bl n<=k
 |0,n,h=>by grind [bl.eq_1]
 |k+1,n,h=>by
  rw[bl.eq_1];by_cases h0:n=0
  .grind
  .rw[dif_neg h0];have:=QB k (n/2) (by grind);omega
theorem wL(a b:Nat):T (oQ a b) λv=>v<2305843009213693951:=⟨_,rfl,(by grind)⟩
theorem Il(a b:Nat):T (qi a b) λv=>v<2305843009213693951:=⟨_,rfl,(by grind)⟩
theorem ON(h:n<18446744073709551616):wU ((n/2:Nat):Int)=n/2:=rM aa
theorem ka(a:Nat){n:Nat}(hn:n<18446744073709551616):T (iK a n) λv=>v<2305843009213693951:=by unfold iK;refine .bind (T.loop (λs=>s.1<2305843009213693951/\s.2.2<18446744073709551616) (λs=>bl s.2.2) (by grind) (by have:=QB 64 n (by grind);grind) ?_);rintro⟨x,y,m⟩ ⟨hx,hm⟩;simp only at hx hm;unfold r6;dsimp only;refine .dec (λh=>?_) λh=> .some (.some hx);refine .bind (T.mono (Q:=λv=>v<2305843009213693951) (by grind [wL,T.some]) λv hv=>?_);refine .bind ((wL _ _).mono λw _=> .some ⟨⟨hv,?_⟩,?_⟩);all_goals grind [ON,Mo]
theorem Cn{b:List UInt8}(hb:b.length<=1099511627776):T (pW b) λr=>r.length<=b.length:=by
 unfold pW;refine .bind (T.loop (λs=>0<=s.2/\s.2<=b.length+6/\(s.1.length:Int)<=s.2/\s.1.length<=b.length) (λs=>(b.length+7-s.2).toNat) (by grind) cq ?_);rintro⟨acc,i⟩ ⟨h0,h1,h2,h3⟩;simp only at h0 h1 h2 h3;unfold qh;dsimp only;refine .dec (λh=>?_) λh=> .some (.some h3);unfold ah at h;have e7:wI (i+7)=i+7:=by grind [bM]
 have em:0<=iI (ah b) (i+7)/\iI (ah b) (i+7)<=b.length:=by grind [iI,ah]
 refine .bind (T.mono (Q:=λ_=>True) (T.loop (λs=>s.2<b.length) (λs=>(s.2+1-i).toNat) ?_ ?_ ?_) λx _=>?_)
 .grind [bM]
 .grind [bM]
 .rintro⟨u,j⟩ hj;simp only at hj;unfold my;dsimp only;refine .dec (λh=>?_) λh=> .some trivial;refine .bind (.ixl aa hj λx _ _=> .some ⟨?_,?_⟩);all_goals grind [bM]
 .refine .bind (.app cq (.some ⟨?_,?_⟩));all_goals grind
theorem T.strB{s:List UInt8}{Q:List UInt8->Prop}(h:s.length<=1099511627776)(q:Q s):T (Gk s) Q:=⟨s,by grind [Gk],q⟩
theorem Mp(z:Int):wU z<18446744073709551616:=by grind [wU,IntKind.wrap_u64]
theorem F5{l:List Nat}(h1:label.length<=1000)(h2:l.length<=1099511627776):T (yA label l) λv=>v<18446744073709551616:=by
 unfold yA;refine .bind (.strB aa (.bind ((Cn (b:=label) aa).mono λw hw=> .bind (.app cq (.bind ?_)))));refine T.forA l.length (λk acc=>acc.length<=w.length+1+k) aa aC (λk acc hk hj=>?_) λacc hj=>?_
 .unfold qk;dsimp only;rw[eA hk,aN,au,fy hk,aL];exact .bind (.app cq (.some ⟨aq aa,by simp;omega⟩))
 .unfold qk;dsimp only;rw[eF,cG];refine .some (.bind (.app cq (.bind ?_)));have hl:(acc++[0]).length<=w.length+2+l.length:=by simp;omega
  generalize acc++[0]=v at hl;refine T.forA v.length (λ_ x=>x<18446744073709551616) aa (Mp _) (λk x hk _=>?_) λx hx=>?_
  .unfold qj;dsimp only;rw[eA hk,aN,au,fy hk];refine .bind ((wL _ _).mono λ_ _=> .bind (.some (.bind ((Il _ _).mono λ_ _=> .bind ((Il _ _).mono λ_ _=> .bind ((ka _ aa).mono λ_ h=> .some ⟨aq aa,(by grind)⟩))))))
  .unfold qj;dsimp only;rw[eF,cG];exact .some (.some hx)
theorem yX{l:List Nat}(h1:label.length<=1000)(h2:l.length<=1099511627776):T (sq label l) λv=>1<=v/\v<=2305843009213693949:=by unfold sq;refine .bind ((F5 h1 h2).mono λv _=> .some ?_);rw[show((1:Nat):Int)+((v%2305843009213693949:Nat):Int)=((1+v%2305843009213693949:Nat):Int) by omega,rM aa];omega
theorem Im{kind:List UInt8}(h1:kind.length<=1000):T (lf kind d) λv=>1<=v/\v<=2305843009213693949:= .bind (by grind [T.mono,yX,T.some])
theorem QC{s:Nat}(h:s<18446744073709551616):T (xo s) λv=>v<2305843009213693951:= .bind ((ka _ h).mono λ_ h=> .some h)
theorem Co{label b:List UInt8}(h1:label.length<=1000)(h2:b.length<=1073741824):T (jI label b) λv=>v<18446744073709551616:= .bind (by grind [T.mono,Cn,T.bind,T.app,F5])
theorem QD(h2:b.length<=1073741824):T (Ph b) λv=>v<18446744073709551616:= .bind (by grind [T.mono,Co,T.some])
theorem QE{r p:Nat}(h2:b.length<=1073741824):T (Pi r p b) λv=>v<18446744073709551616:= .bind (by grind [T.mono,QD,F5])
theorem Kz{b:Nat}(hb:b<18446744073709551616):T (vp a b) λv=>v<2305843009213693950:=by unfold vp;refine .bind (.some (.bind ⟨_,rfl,.bind (.some (.bind ⟨_,rfl,.bind ?_⟩))⟩));have hq:b%2305843009213693950<2^64:=aa;refine T.loop (λs=>s.2.1<18446744073709551616/\s.2.2<2305843009213693950) (λs=>bl s.2.1) (by grind) (by have:=QB 64 _ hq;grind) ?_;rintro⟨x,m,y⟩ ⟨hm,hy⟩;simp only at hm hy;unfold yC;dsimp only;refine .dec (λh=>?_) λh=> .some (.some hy);refine .bind (T.mono (Q:=λv=>v<2305843009213693950) (.ite (λ_=> .bind (.some (.bind ⟨_,rfl,(by grind [T.some])⟩))) λ_=> .some hy) λv hv=>?_);refine .bind (.some (.bind ⟨_,rfl,.some ⟨⟨?_,hv⟩,?_⟩⟩));all_goals grind [ON,Mo]
def c8(z:Int):Prop:= -9223372036854775808<=z/\z<=9223372036854775807
def fS(n:Nat):Prop:=n<18446744073709551616
theorem NY(hk:k<18446744073709551616)(hb:b.length<=1073741824):T (zX k b) λs=>fS s.R/\fS s.S:=by unfold zX;refine .bind ((QD hb).mono λc _=> .bind ((yX dL aC).mono λd h3=> .bind ((ka _ aa).mono λe h5=> .bind ((QC hk).mono λf _=> .bind ((QE hb).mono λg _=> .bind ((Kz hk).mono λa _=> .bind (.some (.bind ⟨_,rfl,.some ⟨Nat.lt_trans h5 dL,Nat.lt_trans (Nat.mod_lt _ dL) dL⟩⟩))))))))
structure SmId (i:DIdent):Prop where
 a:c8 i.By
 b:c8 i.Seq
 c:fS i.Sum
structure SmBox (i:DBox):Prop where
 a:fS i.To
 b:fS i.Eph
 c:fS i.Body
 d:fS i.Tag
structure SmNode (i:DNode):Prop where
 a:fS i.Pub
 n:i.Boxes.length<=1000
 b:∀x∈i.Boxes,SmBox x
structure SmSealed (i:DSealed):Prop where
 a:SmId i.Of
 n:i.Body.length<=1000
structure SmOp (o:DOp):Prop where
 ints:∀z∈[o.By,o.Seq,o.Kind,o.At,o.Device,o.Old,o.Member,o.Role,o.N,o.Need,o.Wait],c8 z
 nPast:o.Past.length<=1000
 past:∀x∈o.Past,SmId x
 nPath:o.Path.length<=1000
 path:∀x∈o.Path,SmNode x
 epoch:SmId o.Epoch
 nBody:o.Body.length<=1000
 nRefs:o.Refs.length<=1000
 refs:∀x∈o.Refs,fS x
 of_:SmId o.Of
 nGuards:o.Guards.length<=1000
 guards:∀x∈o.Guards,c8 x
 nBoxes:o.Boxes.length<=1000
 boxes:∀x∈o.Boxes,SmBox x
 pub:fS o.Pub
 nHist:o.Hist.length<=1000
 hist:∀x∈o.Hist,SmSealed x
def aV(z:Int):List UInt8:=nb (Mk z)
def sN(i:DIdent):List UInt8:=aV i.By++aV i.Seq++nb i.Sum
def tM(s:List UInt8):List UInt8:=aV (s.length:Int)++s
def uT(b:DBox):List UInt8:=[b.To,b.Eph,b.Body,b.Tag].flatMap nb
def uU(l:List DBox):List UInt8:=aV (l.length:Int)++l.flatMap uT
def ke(n:DNode):List UInt8:=nb n.Pub++uU n.Boxes
def lX(x:DSealed):List UInt8:=sN x.Of++tM x.Body
def qc(o:DOp):List UInt8:=[o.By,o.Seq,o.Kind,o.At,(o.Past.length:Int)].flatMap aV++o.Past.flatMap sN++[o.Device,o.Old,o.Member,o.Role,(o.Path.length:Int)].flatMap aV++o.Path.flatMap ke++sN o.Epoch++aV o.N++tM o.Body++aV (o.Refs.length:Int)++o.Refs.flatMap nb++sN o.Of++aV (o.Guards.length:Int)++o.Guards.flatMap aV++[o.Need,o.Wait].flatMap aV++uU o.Boxes++nb o.Pub++aV (o.Hist.length:Int)++o.Hist.flatMap lX
theorem gH(h:fS k):(nb k).length<=10:=ow h
theorem aR(h:c8 z):(aV z).length<=10:=ow (FQ h)
theorem pc(h:SmId i):(sN i).length<=30:=by grind [aR,SmId.a,SmId.b,gH,SmId.c,sN]
theorem dO{l:List α}(h:l.length<=1000000):c8 (l.length:Int):=by unfold c8;omega
theorem Ao{b:DBox}(h:SmBox b):(uT b).length<=40:=by grind [gH,SmBox.a,SmBox.b,SmBox.c,SmBox.d,uT]
theorem wM{l:List DBox}(hn:l.length<=1000)(h:∀x∈l,SmBox x):(uU l).length<=40010:=by have h1:=aR (dO (l:=l) aa);have h2:=d8 (l:=l) (enc:=uT) (c:=40) (by grind [Ao]);grind [uU]
theorem Ap{s:List UInt8}(hn:s.length<=1000):(tM s).length<=1010:=by grind [aR,dO,tM]
theorem Aq{n:DNode}(h:SmNode n):(ke n).length<=40020:=by grind [gH,SmNode.a,wM,SmNode.n,SmNode.b,ke]
theorem F6{n:DSealed}(h:SmSealed n):(lX n).length<=1040:=by grind [pc,SmSealed.a,Ap,SmSealed.n,lX]
theorem oF(h:fS k):T (jl k) λv=>v=nb k:= .of (ya h) rfl
theorem cK(h:c8 z):T (cg z) λv=>v=aV z:= .of (F4 h) rfl
theorem l6(h:SmId i):T (iJ i) λv=>v=sN i:=by have h1:=aR h.a;have h2:=aR h.b;have h3:=gH h.c;unfold iJ;refine .bind ((cK h.a).mono ?_);rintro v rfl;refine .bind ((cK h.b).mono ?_);rintro v rfl;refine .bind (.app aa (.bind ((oF h.c).mono ?_)));rintro v rfl;exact .bind (.app (by grind) (.some rfl))
theorem Ey{s:List UInt8}(h:s.length<=1000):T (vu s) λv=>v=tM s:=by have h1:=aR (dO (l:=s) aa);refine .bind ((cK (dO (l:=s) aa)).mono ?_);rintro v rfl;exact .bind (.app aa (.some rfl))
theorem sO{l:List Int}(hn:l.length<=1000)(h:∀x∈l,c8 x):T (wP l) λv=>v=l.flatMap aV:=by
 refine .bind (T.mono (T.forE l [] aV 10 aa (by grind [aR]) (λk acc x hx hm hk hl=>?_) λacc=>?_) (by grind [T.some]))
 .unfold tR;dsimp only;rw[eA hk,aN,au,hx,aL];refine .bind ((cK (h x hm)).mono ?_);rintro v rfl;have:=aR (h x hm);exact .bind (.app (by grind) (.some ⟨aq aa,rfl⟩))
 grind [tR,eF]
theorem Ez{l:List Nat}(hn:l.length<=1000)(h:∀x∈l,fS x):T (vt l) λv=>v=l.flatMap nb:=by
 refine .bind (T.mono (T.forE l [] nb 10 aa (by grind [gH]) (λk acc x hx hm hk hl=>?_) λacc=>?_) (by grind [T.some]))
 .unfold tS;dsimp only;rw[eA hk,aN,au,hx,aL];refine .bind ((oF (h x hm)).mono ?_);rintro v rfl;have:=gH (h x hm);exact .bind (.app (by grind) (.some ⟨aq aa,rfl⟩))
 grind [tS,eF]
theorem Cp{l:List DBox}(hn:l.length<=1000)(h:∀x∈l,SmBox x):T (nQ l) λv=>v=uU l:=by
 have h1:=aR (dO (l:=l) aa);unfold nQ;refine .bind ((cK (dO (l:=l) aa)).mono ?_);rintro v rfl;refine .bind (T.mono (T.forE l (aV (ah l)) uT 40 aa (by grind [Ao]) (λk acc x hx hm hk hl=>?_) λacc=>?_) λv hv=> .some (by rw[hv];rfl))
 .have hb:=h x hm;unfold qq;dsimp only;rw[eA hk,aN,au,hx];simp only[aL];refine .bind ((Ez aC (by grind [SmBox.a,SmBox.b,SmBox.c,SmBox.d])).mono ?_);rintro v rfl;have h4:=Ao hb;unfold uT at h4;unfold ah at hl;exact .bind (.app aa (.some ⟨aq aa,rfl⟩))
 grind [qq,eF]
theorem yY(h:SmOp o):(qc o).length<=50000000:=by have e1:=d8 (l:=o.Past) (enc:=sN) (c:=30) λx hx=>pc (h.past x hx);have e2:=d8 (l:=o.Path) (enc:=ke) (c:=40020) λx hx=>Aq (h.path x hx);have e3:=pc h.epoch;have e4:=pc h.of_;have e5:=Ap h.nBody;have e6:=d8 (l:=o.Refs) (enc:=nb) (c:=10) λx hx=>gH (h.refs x hx);have e7:=d8 (l:=o.Guards) (enc:=aV) (c:=10) λx hx=>aR (h.guards x hx);have e8:=wM h.nBoxes h.boxes;have e9:=d8 (l:=o.Hist) (enc:=lX) (c:=1040) λx hx=>F6 (h.hist x hx);have e10:=gH h.pub;have i1:=aR (h.ints o.By aC);have d:=aR (h.ints o.Seq aC);have e:=aR (h.ints o.Kind aC);have f:=aR (h.ints o.At aC);have g:=aR (h.ints o.Device aC);have i6:=aR (h.ints o.Old aC);have i:=aR (h.ints o.Member aC);have j:=aR (h.ints o.Role aC);have k:=aR (h.ints o.N aC);have a:=aR (h.ints o.Need aC);have b:=aR (h.ints o.Wait aC);have l1:=aR (dO (l:=o.Past) (by have:=h.nPast;omega));have l2:=aR (dO (l:=o.Path) (by have:=h.nPath;omega));have l3:=aR (dO (l:=o.Refs) (by have:=h.nRefs;omega));have l4:=aR (dO (l:=o.Guards) (by have:=h.nGuards;omega));have l5:=aR (dO (l:=o.Hist) (by have:=h.nHist;omega));have n1:=h.nPast;have n2:=h.nPath;have m:=h.nRefs;have n:=h.nGuards;have p:=h.nHist;simp only[qc,List.flatMap_cons,List.flatMap_nil,List.length_append,List.length_nil];omega
theorem uV(h:SmOp o):T (lz o) λv=>v=qc o:=by
 have e1:=d8 (l:=o.Past) (enc:=sN) (c:=30) λx hx=>pc (h.past x hx);have e2:=d8 (l:=o.Path) (enc:=ke) (c:=40020) λx hx=>Aq (h.path x hx);have e6:=d8 (l:=o.Refs) (enc:=nb) (c:=10) λx hx=>gH (h.refs x hx);have e7:=d8 (l:=o.Guards) (enc:=aV) (c:=10) λx hx=>aR (h.guards x hx);have n1:=h.nPast;have n2:=h.nPath;have p:=h.nRefs;have q:=h.nGuards;have r:=h.nHist;have l1:c8 (ah o.Past):=dO (l:=o.Past) aa;have l2:c8 (ah o.Path):=dO (l:=o.Path) aa;have l3:c8 (ah o.Refs):=dO (l:=o.Refs) aa;have l4:c8 (ah o.Guards):=dO (l:=o.Guards) aa;have l5:c8 (ah o.Hist):=dO (l:=o.Hist) aa;have A:∀z∈[o.By,o.Seq,o.Kind,o.At,ah o.Past],c8 z:=by grind [SmOp.ints]
 have B:∀z∈[o.Device,o.Old,o.Member,o.Role,ah o.Path],c8 z:=λz hz=>by simp only[List.mem_cons,List.not_mem_nil,or_false] at hz;rcases hz with rfl|rfl|rfl|rfl|rfl<;>first|exact l2|exact h.ints _ aC
 have C:∀z∈[o.Need,o.Wait],c8 z:=by grind [SmOp.ints]
 have a5:([o.By,o.Seq,o.Kind,o.At,ah o.Past].flatMap aV).length<=50:=d8 λx hx=>aR (A x hx);have b5:([o.Device,o.Old,o.Member,o.Role,ah o.Path].flatMap aV).length<=50:=d8 λx hx=>aR (B x hx);have c2:([o.Need,o.Wait].flatMap aV).length<=20:=by grind [aR]
 unfold lz;refine .then (sO aC A) (.then (T.forE o.Past _ sN 30 aa (by grind [pc,SmOp.past]) (λk acc x hx hm hk hl=>?_) λacc=>?_) ?_)
 .unfold qt;dsimp only;rw[eA hk,aN,au,hx,aL];have:=pc (h.past x hm);exact .then (l6 (h.past x hm)) (.bind (.app aa (.some ⟨aq aa,rfl⟩)))
 .grind [qt,eF]
 refine .then (sO aC B) (.bind (.appL (n:=50+30000) (by grind) b5 dL λk1=>?_));refine .then (T.forE o.Path _ ke 40020 aa (by grind [Aq,SmOp.path]) (λk acc x hx hm hk hl=>?_) λacc=>?_) ?_
 .have hp:=h.path x hm;unfold qs;dsimp only;rw[eA hk,aN,au,hx];simp only[aL];have q1:=gH hp.a;have f:=wM hp.n hp.b;refine .then (oF hp.a) (.bind (.appL (n:=50000000) (m:=10) aa q1 dL λd=> .then (Cp hp.n hp.b) (.bind (.appL d f dL λ_=> .some ⟨aq aa,?_⟩))));simp[ke]
 .grind [qs,eF]
 have k2:∀(u:List UInt8),u.length<=30100->(u++o.Path.flatMap ke).length<=41000000:=by grind
 refine .then (l6 h.epoch) (.bind (.appL (k2 _ k1) (pc h.epoch) dL λk3=>?_));refine .then (cK (h.ints o.N aC)) (.bind (.appL k3 (aR (h.ints o.N aC)) dL λg=>?_));refine .then (Ey h.nBody) (.bind (.appL g (Ap h.nBody) dL λk5=>?_));refine .then (cK l3) (.bind (.appL k5 (aR l3) dL λk6=>?_));refine .then (Ez h.nRefs h.refs) (.bind (.appL (m:=10000) k6 aa dL λi=>?_));refine .then (l6 h.of_) (.bind (.appL i (pc h.of_) dL λk8=>?_));refine .then (cK l4) (.bind (.appL k8 (aR l4) dL λk9=>?_));refine .then (sO h.nGuards h.guards) (.bind (.appL (m:=10000) k9 aa dL λe=>?_));refine .then (sO aC C) (.bind (.appL e c2 dL λk11=>?_));refine .then (Cp h.nBoxes h.boxes) (.bind (.appL k11 (wM h.nBoxes h.boxes) dL λk12=>?_));refine .then (oF h.pub) (.bind (.appL k12 (gH h.pub) dL λk13=>?_));refine .then (cK l5) (.bind (.appL k13 (aR l5) dL λj=>?_));refine .then (T.forE o.Hist _ lX 1040 aa (λx hx=>F6 (h.hist x hx)) (λk acc x hx hm hk hl=>?_) λacc=>?_) (.some rfl)
 .have hp:=h.hist x hm;unfold uA;dsimp only;rw[eA hk,aN,au,hx];simp only[aL];refine .then (l6 hp.a) (.bind (.appL (n:=50000000) aa (pc hp.a) dL λd=> .then (Ey hp.n) (.bind (.appL d (Ap hp.n) dL λ_=> .some ⟨aq aa,?_⟩))));simp[lX]
 .unfold uA;dsimp only;rw[eF,cG]
theorem wN(h:SmOp o):T (pV o) λi=>i.By=o.By/\i.Seq=o.Seq/\jI [111,112] (qc o)=some i.Sum/\SmId i:=by refine .then (uV h) (.bind ?_);obtain⟨v,e,hv⟩:=Co (label:=[111,112]) (b:=qc o) dL (by grind [yY]);exact⟨v,e,.some ⟨rfl,rfl,e,⟨h.ints _ aC,h.ints _ aC,hv⟩⟩⟩
theorem SmOp.sig{o:DOp}(h:SmOp o)(s:DSig):SmOp {o with Sig:=s}:=by grind [SmOp]
theorem Io(h:SmOp o):T (nR o) λr=>∃s:DSig,r={o with Sig:=s}/\fS s.R/\fS s.S:=by refine .bind ((Im dL).mono (by grind [uV,T.bind,T.mono,NY,yY,T.some]))
section
attribute [local irreducible] Tr dz Gp
abbrev oO(i:Nat)(l:List UInt8):Option Ob:=some ⟨224,[.rsl i 0 l.length],none⟩
abbrev oY(l:List UInt8):Option Ob:=some ⟨5,l.flatMap cY,none⟩
theorem MN{P:Program}{t:TypeId}(y:UInt8):∀p q:Operand,b8 P .or t p q (gY y) (gY 128)=some (gY (UInt8.ofNat (y.toNat%128+128))):=by grind [Yk,V6]
def Gv(s:Bool×List UInt8×Nat):Option ((Bool×List UInt8×Nat)⊕(Bool×List UInt8×Nat)):=
 bif decide (((128:Nat):Int)<=(s.2.2:Int)) then(aT 1 s.2.1 [UInt8.ofNat ((wY (s.2.2:Int)).toNat%128+128)]).bind λa=>some (.inl (true,a,fv s.2.2 7)) else some (.inr s)
theorem WH(l:List UInt8)(n:Nat)(hn:n<18446744073709551616)(hl:l.length<=100000000000000):T (bo Gv (false,l,n)) λr=>T (aT 1 r.2.1 [wY (r.2.2:Int)]) λv=>v=l++nb n:=by
 refine T.loop (λs=>s.2.1++nb s.2.2=l++nb n/\s.2.2<18446744073709551616) (λs=>(nb s.2.2).length) ⟨rfl,hn⟩ (by grind [ow]) ?_;rintro⟨a,o,m⟩ ⟨h1,h2⟩;simp only at h1 h2;have hln:o.length+(nb m).length<=l.length+10:=by grind [List.length_append,ow]
 unfold Gv;dsimp only;refine .dec (λh=>?_) λh=>?_
 .have hm:¬m<128:=aa;refine .bind (.app cq (.some ?_));have e1:fv m 7=m/128:=by unfold fv;congr 1
  have e2:(wY (m:Int)).toNat%128+128=m%128+128:=by rw[Cm,UInt8.toNat_ofNat'];omega
  constructor<;>grind [Er]
 .have hm:m<128:=aa;refine .some ?_;show T _ _;grind [T.app,Cm,H6]
def MO(s:Bool×List UInt8×Nat):St:=match s.1 with
 |true=>(s0 31 gl [(0,.ref 0 0),(1,uG s.2.2)] [(0,oO 2 s.2.1),(2,oY s.2.1)] 3 2)
 |false=>(s0 31 gl [(0,.ref 0 0),(1,uG s.2.2)] [(0,oO 1 s.2.1),(1,oY s.2.1)] 2 2)
theorem mU{l r:List UInt8}(hn:n<18446744073709551616)(hl:l.length<=100000000000000)(d:l++nb n=r):jg prog gl 149 [.ref 0 0,uG n] [(0,oO 1 l),(1,oY l)] 2 (.tup []) [(0,oO 2 r),(2,oY r)] 3:=by
 obtain⟨⟨f,o,m⟩,hL,v,c,e⟩:=WH l n hn hl;obtain rfl:=e.trans d;refine pP func149 ?_;refine Ix [0] (MO gl (f,o,m)) ?_ λkk=>?_
 .cases f
  .exact mt .normal (s0 31 gl [] [(0,oO 2 v),(2,oY v)] 3 2) [] [bR 26 (Iz (m:Int)),dg 28 rY c] [hc (el v),hc (rY.imm v)] (ρ:=[(0,0),(1,1),(2,3)]) (kd:=[(2,.row)])
  .exact mt .normal (s0 31 gl [] [(0,oO 2 v),(2,oY v)] 3 2) [] [bR 26 (Iz (m:Int)),dg 28 rY c] [hc (el v),hc (rY.imm v)] (ρ:=[(0,0),(1,1),(2,4)]) (kd:=[(2,.row)])
 refine pN (MO gl) [0,2,2] hL [] [hc (el l),hc (rY.imm l)] (λB s w hs k5 h=>?_) (kd:=[(1,.row)]);obtain⟨g,i,b⟩:=s;unfold Gv at hs;rcases bC hs with⟨b1,hs⟩|⟨b1,hs⟩
 .obtain⟨a,ea,hs⟩:=bS hs;obtain rfl:=cP hs;have k:=k5 _ rfl;cases g
  .exact jw [hr 5 b1,bR 12 (Iz (b:Int)),hV 13 (MN (P:=prog) (t:=5) (wY (b:Int))),dg 15 rY ea,hV 19 (rH (P:=prog) (t:=34) (k':= .u64) b 7)] [hc (el a),hc (rY.imm a)] k (ρ:=[(0,0),(1,1),(2,3)]) (kd:=[(2,.row)])
  .exact jw [hr 5 b1,bR 12 (Iz (b:Int)),hV 13 (MN (P:=prog) (t:=5) (wY (b:Int))),dg 15 rY ea,hV 19 (rH (P:=prog) (t:=34) (k':= .u64) b 7)] [hc (el a),hc (rY.imm a)] k (ρ:=[(0,0),(1,1),(2,4)]) (kd:=[(2,.row)])
 .obtain rfl:=cP hs;obtain e:=h _ rfl;cases e;cases f
  .exact yl [0] [hr 5 b1] [hc (el o),hc (rY.imm o)] kk (kd:=[(1,.row)])
  .exact yl [0] [hr 5 b1] [hc (el o),hc (rY.imm o)] kk (ρ:=rI 3) (kd:=[(2,.row)])
theorem WI{P:Program}{t:TypeId}{n:Int}(h:c8 n):∀p q:Operand,b8 P .xor t p q (uG (lB (wU n) 1)) (uG (wU (Tf n 63)))=some (uG (Mk n)):=λp q=>by
 have e1:((lB (wU n) 1:Nat):Int)=IntKind.u64.wrap (IntKind.u64.wrap n*2^1):=by have h1:=zk n;rw[<-h1,IntKind.wrap_u64];grind [lB]
 have e2:((wU (Tf n 63):Nat):Int)=IntKind.u64.wrap (n.fdiv (2^63)):=by rw[zk];rfl
 rw[e1,e2];exact Ym h
theorem TL{n:Int}(h:c8 n):ba prog gl 246 [iG n] (uG (Mk n)):=by refine Gh func246 ?_;exact Ar [bR 4 (C8 n),hV 5 (Ks (P:=prog) (t:=34) (k':= .u64) (wU n) 1),hV 7 (V9 (P:=prog) (t:=3) (k':= .u64) n 63),bR 8 (C8 (Tf n 63)),hV 9 (WI (P:=prog) (t:=34) h)] []
theorem cA{l r:List UInt8}{n:Int}(hn:c8 n)(hl:l.length<=100000000000000)(a:l++aV n=r):jg prog gl 147 [.ref 0 0,iG n] [(0,oO 1 l),(1,oY l)] 2 (.tup []) [(0,oO 2 r),(2,oY r)] 3:=by refine pP func147 ?_;exact mt .normal (s0 8 gl [] [(0,oO 2 r),(2,oY r)] 3 2) [] [hf 6 (TL gl hn),tN 7 [0,1] 2 [(0,oO 1 l),(1,oY l)] [.ref 0 0,uG (Mk n)] [(0,oO 2 r),(1,none),(2,oY r)] (mU gl (FQ hn) hl a) ⟨⟨rfl,.inl rfl⟩,⟨rfl,.inr ⟨rfl,rY.imm l⟩⟩,trivial⟩ ⟨⟨rfl,.inl rfl⟩,⟨rfl,.inr ⟨rfl,rY.imm r⟩⟩,trivial⟩] [hc (el r),hc (rY.imm r)] (ρ:=rI 3) (kd:=[(2,.row)])
def gD(d i k c:Nat)(gs:List G){gl:List (Nat×List G)}{fid:FuncId}{gs0:List G}{l r:List UInt8}(h:jg prog gl fid gs0 [(0,oO 1 l),(1,oY l)] [i,k].length (.tup []) [(0,oO 2 r),(2,oY r)] 3)
  (hin:w6 (vi [i,k]) [(i,oO k l),(k,oY l)] [(0,oO 1 l),(1,oY l)] 0 [i,k]:=by exact⟨⟨rfl,.inl rfl⟩,⟨rfl,.inr ⟨rfl,rY.imm _⟩⟩,trivial⟩) (a:oI (ja [i,k] c) [(0,oO 2 r),(2,oY r)] [(0,oO c r),(1,none),(2,oY r)]:=by exact⟨⟨rfl,.inl rfl⟩,⟨rfl,.inr ⟨rfl,rY.imm _⟩⟩,trivial⟩)
  (hlt:[i,k].all (λi=>Nat.blt i c)=true:=by kernel_rfl) (hnd:decide [i,k].Nodup=true:=by kernel_rfl) (hgs:gs.map (qg (vi [i,k]) 20)=gs0:=by kernel_rfl):HP:=
 tN d [i,k] c [(i,oO k l),(k,oY l)] gs [(0,oO c r),(1,none),(2,oY r)] h hin a hlt hnd hgs (by rfl) (by rfl) (by rfl)
theorem aaT(a b c d:List α):a++b++c++d=a++(b++c++d):=by simp only[List.append_assoc]
theorem kh{l r:List UInt8}(hi:SmId i)(hl:l.length<=10000000000000)(d:l++sN i=r):jg prog gl 151 [.ref 0 0,.agg (aj i)] [(0,oO 1 l),(1,oY l)] 2 (.tup []) [(0,oO 2 r),(2,oY r)] 3:=by
 have h1:=aR hi.a;have h2:=aR hi.b;have e:l++aV i.By++aV i.Seq++nb i.Sum=r:=by rw[aaT];exact d
 refine pP func151 ?_;exact mt .normal (s0 16 gl [] [(0,oO 2 r),(2,oY r)] 3 2) [] [gD 7 0 1 3 [.ref 0 0,iG i.By] (cA gl hi.a aa (r:=l++aV i.By) rfl),gD 11 0 3 4 [.ref 0 0,iG i.Seq] (cA gl hi.b cq (r:=l++aV i.By++aV i.Seq) rfl),gD 15 0 4 5 [.ref 0 0,uG i.Sum] (mU gl hi.c cq e)] [hc (el r),hc (rY.imm r)] (ρ:=[(0,0),(1,1),(2,5)]) (kd:=[(2,.row)])
theorem CR{l r s:List UInt8}(hs:s.length<=1000000)(hl:l.length<=10000000000000)(a:l++tM s=r):jg prog gl 155 [.ref 0 0,sG s] [(0,oO 1 l),(1,oY l)] 2 (.tup []) [(0,oO 2 r),(2,oY r)] 3:=by
 have h1:=aR (dO hs);have e:aT 1 (l++aV (s.length:Int)) s=some r:=by grind [aT,tM]
 refine pP func155 ?_;exact mt .normal (s0 17 gl [] [(0,oO 2 r),(2,oY r)] 3 2) [] [hL 6 s,gD 7 0 1 2 [.ref 0 0,iG (ah s)] (cA gl (dO hs) aa (r:=l++aV (s.length:Int)) rfl),XZ 14 e] [hc (el r),hc (rY.imm r)] (ρ:=[(0,0),(1,1),(2,3)]) (kd:=[(2,.row)])
theorem rS{l:List UInt8}(hl:l.length<=10000000000000):jg prog gl 76 [.ref 0 0] [(0,oO 1 l),(1,oY l)] 2 (.rsl 2 0 l.length) [(0,oO 1 l),(1,oY l),(2,oY l)] 3:=by refine pP func76 ?_;exact mt .ret (s0 8 gl [(2,.rsl 2 0 l.length)] [(0,oO 1 l),(1,oY l),(2,oY l)] 3 2) [.rsl 2 0 l.length] [YL 7 rY (show aT 1 [] l=some l by unfold aT;rw[if_pos cq];rfl)] [hc (el l),hc (el l),hc (rY.imm l),hc (rY.imm l)] (ρ:=rI 3) (kd:=[(1,.row),(2,.row)])
end
section
attribute [local irreducible] Tr dz Gp
section
def md{α:Type}(N:Nat)(enc:α->List UInt8)(ok:α->Bool)(L:List α)(s:Bool×List UInt8×Int):Option ((Bool×List UInt8×Int)⊕(Bool×List UInt8)):=
 bif decide (s.2.2<ah L) then(aS L s.2.2).bind λy=>bif ok y&&decide (s.2.1.length<=N) then some (.inl (true,s.2.1++enc y,wI (s.2.2+1))) else none else some (.inr (s.1,s.2.1))
theorem zp(N:Nat){enc:α->List UInt8}{ok:α->Bool}{L:List α}(c:Nat)(b:Bool){l:List UInt8}(hok:∀x∈L,ok x=true)(hc:∀x∈L,(enc x).length<=c)(hn:L.length<=1000000)(hl:l.length+L.length*c<=N):bo (md N enc ok L) (b,l,0)=some (b||decide (0<L.length),l++L.flatMap enc):=by
 have h:T (bo (md N enc ok L) (b,l,0)) λr=>r=(b||decide (0<L.length),l++L.flatMap enc):=by
  refine T.loop (λs=>∃k:Nat,s.2.2=(k:Int)/\k<=L.length/\s.2.1=l++(L.take k).flatMap enc/\s.1=(b||decide (0<k))) (λs=>L.length-s.2.2.toNat) (by grind) (by show L.length-_<_;omega) ?_;rintro⟨a,acc,i⟩ ⟨k,h1,h2,h3,h0⟩;simp only at h1 h2 h3 h0;subst h1;subst h3;subst h0;unfold md;refine .dec (λh=>?_) λh=>?_
  .have hk:k<L.length:=by grind [ah]
   refine .bind (.ix (by dsimp only;omega) (x:=L[k]) (by rw[Int.toNat_natCast,fy hk]) ?_);have hm:L[k]∈L:=List.getElem_mem hk;have h4:((L.take k).flatMap enc).length<=(L.take k).length*c:=d8 (by grind);have h5:(L.take k).length*c<=L.length*c:=Nat.mul_le_mul_right c (by rw[List.length_take];omega);rw[hok _ hm,Bool.true_and,decide_eq_true (by grind),aN];refine .some ⟨⟨k+1,aq aa,hk,?_,aC⟩,?_⟩;all_goals grind [List.take_succ_eq_append_getElem,aq]
  .have hk:k=L.length:=by grind [ah]
   refine .some ?_;show((b||decide (0<k)),l++(L.take k).flatMap enc)=_;rw[hk,List.take_length]
 exact h.eq
instance (z:Int):Decidable (c8 z):=by unfold c8;infer_instance
instance (n:Nat):Decidable (fS n):=by unfold fS;infer_instance
def okI(z:Int):Bool:=decide (c8 z)
def okU(n:Nat):Bool:=decide (fS n)
theorem rT{N:Nat}{x:Option α}{r:α}(h:(bif c&&decide (n<=N) then x else none)=some r):c=true/\n<=N/\x=some r:=by grind
variable {P:Program}
end
abbrev bx:Option Ob:=some ⟨129,[.ref 1 0],none⟩
abbrev bb:Option Ob:=some ⟨227,[.clo (.func 148) [] [.ref 0 0]],none⟩
def oN(k:Nat):Bool->Nat:=λb=>bif b then k else 2
instance (x:DIdent):Decidable (SmId x):=decidable_of_iff (c8 x.By/\c8 x.Seq/\fS x.Sum) ⟨λ⟨a,b,c⟩=>⟨a,b,c⟩,λ⟨a,b,c⟩=>⟨a,b,c⟩⟩
instance (x:DBox):Decidable (SmBox x):=decidable_of_iff (fS x.To/\fS x.Eph/\fS x.Body/\fS x.Tag) ⟨λ⟨a,b,c,d⟩=>⟨a,b,c,d⟩,λ⟨a,b,c,d⟩=>⟨a,b,c,d⟩⟩
instance (x:DNode):Decidable (SmNode x):=decidable_of_iff (fS x.Pub/\x.Boxes.length<=1000/\∀b∈x.Boxes,SmBox b) ⟨λ⟨a,b,c⟩=>⟨a,b,c⟩,λ⟨a,b,c⟩=>⟨a,b,c⟩⟩
instance (x:DSealed):Decidable (SmSealed x):=decidable_of_iff (SmId x.Of/\x.Body.length<=1000) ⟨λ⟨a,b⟩=>⟨a,b⟩,λ⟨a,b⟩=>⟨a,b⟩⟩
def WJ(L:List Int)(s:Bool×List UInt8×Int):St:=match s.1 with
 |true=>(s0 15 gl [(1,.ref 0 0),(5,.rsl 3 0 L.length),(6,iG (ah L)),(7,iG s.2.2)] [(0,bx),(1,oO 4 s.2.1),(4,oY s.2.1),ob 3 3 (L.flatMap cZ)] 5 4)
 |false=>(s0 15 gl [(1,.ref 0 0),(5,.rsl 3 0 L.length),(6,iG (ah L)),(7,iG s.2.2)] [(0,bx),(1,oO 2 s.2.1),(2,oY s.2.1),ob 3 3 (L.flatMap cZ)] 4 4)
theorem CS{L:List Int}(hL:∀x∈L,c8 x)(hn:L.length<=1000000)(h0:0<L.length)(hl:l.length<=900000000000)(b:l++L.flatMap aV=r):jg prog gl 146 [.rsl 3 0 L.length,.ref 0 0] [(0,bx),(1,oO 2 l),(2,oY l),ob 3 3 (L.flatMap cZ)] 4 (.tup []) [(0,bx),(1,oO 4 r),(4,oY r),ob 3 3 (L.flatMap cZ)] 5:=by
 have hs:=zp 1000000000000 (enc:=aV) (ok:=okI) (L:=L) 10 false (l:=l) (λx hx=>decide_eq_true (hL x hx)) (λx hx=>aR (hL x hx)) hn aa;rw[b,decide_eq_true h0,Bool.false_or] at hs;refine pP func146 ?_;refine pN (WJ gl L) [1,2,2] hs [] [hc (rfl:L.length=L.length),hc (el l),hc (rY.imm l),hc (rZ.imm L)] (λB s w hs k5 c=>?_) (kd:=[(2,.row),(3,.row)]) (ρ:=rI 4);obtain⟨d,acc,i⟩:=s;unfold md at hs;rcases bC hs with⟨b1,hs⟩|⟨b1,hs⟩
 .obtain⟨y,a,hs⟩:=bS hs;obtain⟨e,hacc,hs⟩:=rT hs;obtain rfl:=cP hs;have hy:c8 y:=of_decide_eq_true e;have hacc:acc.length<=1000000000000:=hacc;have k:=k5 _ rfl;cases d
  .exact jw [hr 8 b1,bR 9 (rZ.ixrZ 3 a),bR 10 (rZ.p10Z tZ a),gD 13 1 2 4 [.ref 1 0,iG y] (cA gl hy aa (r:=acc++aV y) rfl)] [hc (rfl:L.length=L.length),hc (el (acc++aV y)),hc (rY.imm (acc++aV y)),hc (rZ.imm L)] k (ρ:=rI 5) (kd:=[(4,.row),(3,.row)])
  .exact jw [hr 8 b1,bR 9 (rZ.ixrZ 3 a),bR 10 (rZ.p10Z tZ a),gD 13 1 4 5 [.ref 1 0,iG y] (cA gl hy aa (r:=acc++aV y) rfl)] [hc (rfl:L.length=L.length),hc (el (acc++aV y)),hc (rY.imm (acc++aV y)),hc (rZ.imm L)] k (ρ:=rI 4++[(4,5)]) (kd:=[(4,.row),(3,.row)])
 .obtain rfl:=cP hs;cases c _ rfl;exact mt .normal (s0 15 gl [] [(0,bx),(1,oO 4 acc),(4,oY acc),ob 3 3 (L.flatMap cZ)] 5 4) [] [hr 8 b1] [hc (el acc),hc (rY.imm acc),hc (rZ.imm L)] (ρ:=rI 5) (kd:=[(4,.row),(3,.row)])
def WK(x:DBox)(s:Bool×List UInt8×Int):St:=match s.1 with
 |true=>(s0 23 gl [(1,.ref 0 0),(13,.rsl 3 0 4),(14,iG 4),(15,iG s.2.2)] [(0,bx),(1,oO 4 s.2.1),(4,oY s.2.1),ob 3 34 ([x.To,x.Eph,x.Body,x.Tag].flatMap cW)] 5 3)
 |false=>(s0 23 gl [(1,.ref 0 0),(13,.rsl 3 0 4),(14,iG 4),(15,iG s.2.2)] [(0,bx),(1,oO 2 s.2.1),(2,oY s.2.1),ob 3 34 ([x.To,x.Eph,x.Body,x.Tag].flatMap cW)] 4 3)
theorem Ri{l r:List UInt8}{x:DBox}(hx:SmBox x)(hl:l.length<=900000000000)(f:l++uT x=r):jg prog gl 148 [.agg (cz x),.ref 0 0] [(0,bx),(1,oO 2 l),(2,oY l)] 3 (.tup []) [(0,bx),(1,oO 3 r),(3,oY r)] 4:=by
 have hU:∀n∈[x.To,x.Eph,x.Body,x.Tag],fS n:=by grind [SmBox.a,SmBox.b,SmBox.c,SmBox.d]
 have hs:=zp 1000000000000 (enc:=nb) (ok:=okU) (L:=[x.To,x.Eph,x.Body,x.Tag]) 10 false (l:=l) (λx hx=>decide_eq_true (hU x hx)) (λx hx=>gH (hU x hx)) aC cq;rw[show l++[x.To,x.Eph,x.Body,x.Tag].flatMap nb=r from f,decide_eq_true (by grind),Bool.false_or] at hs;refine pP func148 ?_;refine pN (WK gl x) [1,1,2,2] hs [] [hc (rfl:(4:Nat)=4),hc (el l),hc (rY.imm l),hc (rW.imm [x.To,x.Eph,x.Body,x.Tag])] (λB s w hs k5 g=>?_) (kd:=[(2,.row),(3,.row)]) (ρ:=rI 3++[(3,4)]);obtain⟨h,acc,i⟩:=s;unfold md at hs;rcases bC hs with⟨b1,hs⟩|⟨b1,hs⟩
 .obtain⟨y,e,hs⟩:=bS hs;obtain⟨j,hacc,hs⟩:=rT hs;obtain rfl:=cP hs;have hy:fS y:=of_decide_eq_true j;have hacc:acc.length<=1000000000000:=hacc;have k:=k5 _ rfl;cases h
  .exact jw [hr 16 b1,bR 17 (rW.ixrZ 3 e),bR 18 (rW.p10Z tW e),gD 21 1 2 4 [.ref 1 0,uG y] (mU gl hy aa (r:=acc++nb y) rfl)] [hc (rfl:(4:Nat)=4),hc (el (acc++nb y)),hc (rY.imm (acc++nb y)),hc (rW.imm [x.To,x.Eph,x.Body,x.Tag])] k (ρ:=rI 5) (kd:=[(4,.row),(3,.row)])
  .exact jw [hr 16 b1,bR 17 (rW.ixrZ 3 e),bR 18 (rW.p10Z tW e),gD 21 1 4 5 [.ref 1 0,uG y] (mU gl hy aa (r:=acc++nb y) rfl)] [hc (rfl:(4:Nat)=4),hc (el (acc++nb y)),hc (rY.imm (acc++nb y)),hc (rW.imm [x.To,x.Eph,x.Body,x.Tag])] k (ρ:=rI 4++[(4,5)]) (kd:=[(4,.row),(3,.row)])
 .obtain rfl:=cP hs;cases g _ rfl;exact mt .normal (s0 23 gl [] [(0,bx),(1,oO 3 acc),(3,oY acc)] 4 3) [] [hr 16 b1] [hc (el acc),hc (rY.imm acc)] (ρ:=rI 3++[(3,4)]) (kd:=[(3,.row)])
abbrev sW(k:Nat)(l:List UInt8):aQ:=[(0,bx),(1,oO k l),(k,oY l),(3,bb)]
def IN(d k c:Nat)(gs:List G){gl:List (Nat×List G)}{fid:FuncId}{gs0:List G}{l r:List UInt8}(h:jg prog gl fid gs0 (sW 2 l) [0,1,k,3].length (.tup []) (sW 4 r) 5)
  (hin:w6 (vi [0,1,k,3]) (sW k l) (sW 2 l) 0 [0,1,k,3]:=by exact⟨⟨rfl,.inl rfl⟩,⟨rfl,.inl rfl⟩,⟨rfl,.inr ⟨rfl,rY.imm _⟩⟩,⟨rfl,.inl rfl⟩,trivial⟩) (a:oI (ja [0,1,k,3] c) (sW 4 r) [(0,bx),(1,oO c r),(2,none),(3,bb),(4,oY r)]:=by exact⟨⟨rfl,.inl rfl⟩,⟨rfl,.inl rfl⟩,⟨rfl,.inl rfl⟩,⟨rfl,.inr ⟨rfl,rY.imm _⟩⟩,trivial⟩)
  (hlt:[0,1,k,3].all (λi=>Nat.blt i c)=true:=by kernel_rfl) (hnd:decide [0,1,k,3].Nodup=true:=by kernel_rfl) (hgs:gs.map (qg (vi [0,1,k,3]) 20)=gs0:=by kernel_rfl):HP:=
 tN d [0,1,k,3] c (sW k l) gs [(0,bx),(1,oO c r),(2,none),(3,bb),(4,oY r)] h hin a hlt hnd hgs (by rfl) (by rfl) (by rfl)
def Zc(d k c:Nat)(gs:List G){gl:List (Nat×List G)}{fid:FuncId}{gs0:List G}{l r:List UInt8}(h:jg prog gl fid gs0 [(0,bx),(1,oO 2 l),(2,oY l)] [0,1,k].length (.tup []) [(0,bx),(1,oO 3 r),(3,oY r)] 4)
  (hin:w6 (vi [0,1,k]) [(0,bx),(1,oO k l),(k,oY l)] [(0,bx),(1,oO 2 l),(2,oY l)] 0 [0,1,k]:=by exact⟨⟨rfl,.inl rfl⟩,⟨rfl,.inl rfl⟩,⟨rfl,.inr ⟨rfl,rY.imm _⟩⟩,trivial⟩) (a:oI (ja [0,1,k] c) [(0,bx),(1,oO 3 r),(3,oY r)] [(0,bx),(1,oO c r),(2,none),(3,oY r)]:=by exact⟨⟨rfl,.inl rfl⟩,⟨rfl,.inl rfl⟩,⟨rfl,.inr ⟨rfl,rY.imm _⟩⟩,trivial⟩)
  (hlt:[0,1,k].all (λi=>Nat.blt i c)=true:=by kernel_rfl) (hnd:decide [0,1,k].Nodup=true:=by kernel_rfl) (hgs:gs.map (qg (vi [0,1,k]) 20)=gs0:=by kernel_rfl):HP:=
 tN d [0,1,k] c [(0,bx),(1,oO k l),(k,oY l)] gs [(0,bx),(1,oO c r),(2,none),(3,oY r)] h hin a hlt hnd hgs (by rfl) (by rfl) (by rfl)
theorem Rj{L:List DIdent}(hL:∀x∈L,SmId x)(hn:L.length<=1000)(hl:l.length<=900000000000)(a:l++(aV (L.length:Int)++L.flatMap sN)=r):jg prog gl 150 [.ref 1 0,aE aj L,.clo (.func 151) [.ref 1 0] []] (sW 2 l) 4 (.tup []) (sW 4 r) 5:=by
 have h1:=aR (dO (l:=L) aa);have hs:=zp 1000000000000 (enc:=sN) (ok:=λx=>decide (SmId x)) (L:=L) 30 true (l:=l++aV (L.length:Int)) (λx hx=>decide_eq_true (hL x hx)) (λx hx=>pc (hL x hx)) aa cq;rw[List.append_assoc,a,Bool.true_or] at hs;refine pP func150 ?_;refine pN (λs:Bool×List UInt8×Int=>(s0 22 gl [(2,.clo (.func 151) [.ref 1 0] []),(12,aE aj L),(13,iG (ah L)),(14,iG s.2.2)] (sW 4 s.2.1) 5 4)) 11122 hs [gD 11 1 2 4 [.ref 1 0,iG (ah L)] (cA gl (dO (l:=L) aa) aa (r:=l++aV (L.length:Int)) rfl)] [hc (el (l++aV (L.length:Int))),hc (rY.imm (l++aV (L.length:Int)))] (λB s w hs k5 c=>?_) (kd:=[(4,.row),(999999,.clo)]) (ρ:=rI 5);obtain⟨e,acc,i⟩:=s;unfold md at hs;rcases bC hs with⟨b1,hs⟩|⟨b1,hs⟩
 .obtain⟨y,b,hs⟩:=bS hs;obtain⟨d,hacc,hs⟩:=rT hs;obtain rfl:=cP hs;have hy:SmId y:=of_decide_eq_true d;have hacc:acc.length<=1000000000000:=hacc;exact jw [hr 15 b1,bR 16 (ac.ixZ b),bR 17 (ac.ptZ aW b),gD 20 1 4 6 [.ref 1 0,.agg (aj y)] (kh gl hy aa (r:=acc++sN y) rfl)] [hc (el (acc++sN y)),hc (rY.imm (acc++sN y))] (k5 _ rfl) (ρ:=rI 4++[(4,6)]) (kd:=[(4,.row),(999999,.clo)])
 .obtain rfl:=cP hs;cases c _ rfl;exact mt .normal (s0 22 gl [] (sW 4 acc) 5 4) [] [hr 15 b1] [hc (el acc),hc (rY.imm acc)] (ρ:=rI 5) (kd:=[(4,.row),(999999,.clo)])
theorem IO_r{l r:List UInt8}{L:List DBox}(hL:∀x∈L,SmBox x)(hn:L.length<=1000)(hl:l.length<=800000000000)(a:l++(aV (L.length:Int)++L.flatMap uT)=r):jg prog gl 154 [.ref 1 0,aE cz L,.clo (.func 148) [] [.ref 0 0]] (sW 2 l) 4 (.tup []) (sW 4 r) 5:=by
 have h1:=aR (dO (l:=L) aa);have hs:=zp 900000000000 (enc:=uT) (ok:=λx=>decide (SmBox x)) (L:=L) 40 true (l:=l++aV (L.length:Int)) (λx hx=>decide_eq_true (hL x hx)) (λx hx=>Ao (hL x hx)) aa cq;rw[List.append_assoc,a,Bool.true_or] at hs;refine pP func154 ?_;refine pN (λs:Bool×List UInt8×Int=>(s0 22 gl [(2,.clo (.func 148) [] [.ref 0 0]),(12,aE cz L),(13,iG (ah L)),(14,iG s.2.2)] (sW 4 s.2.1) 5 4)) 11122 hs [gD 11 1 2 4 [.ref 1 0,iG (ah L)] (cA gl (dO (l:=L) aa) aa (r:=l++aV (L.length:Int)) rfl)] [hc (el (l++aV (L.length:Int))),hc (rY.imm (l++aV (L.length:Int)))] (λB s w hs k5 c=>?_) (kd:=[(4,.row),(999999,.clo)]) (ρ:=rI 5);obtain⟨e,acc,i⟩:=s;unfold md at hs;rcases bC hs with⟨b1,hs⟩|⟨b1,hs⟩
 .obtain⟨y,b,hs⟩:=bS hs;obtain⟨d,hacc,hs⟩:=rT hs;obtain rfl:=cP hs;have hy:SmBox y:=of_decide_eq_true d;have hacc:acc.length<=900000000000:=hacc;exact jw [hr 15 b1,bR 16 (f9.ixZ b),bR 17 (f9.ptZ UL b),Zc 20 4 6 [.agg (cz y),.ref 0 0] (Ri gl hy aa (r:=acc++uT y) rfl)] [hc (el (acc++uT y)),hc (rY.imm (acc++uT y))] (k5 _ rfl) (ρ:=rI 4++[(4,6)]) (kd:=[(4,.row),(999999,.clo)])
 .obtain rfl:=cP hs;cases c _ rfl;exact mt .normal (s0 22 gl [] (sW 4 acc) 5 4) [] [hr 15 b1] [hc (el acc),hc (rY.imm acc)] (ρ:=rI 5) (kd:=[(4,.row),(999999,.clo)])
theorem TM{L:List Nat}(hL:∀x∈L,fS x)(hn:L.length<=1000)(hl:l.length<=900000000000)(a:l++(aV (L.length:Int)++L.flatMap nb)=r):jg prog gl 156 [.ref 1 0,aE cW L,.clo (.func 149) [.ref 1 0] []] (sW 2 l) 4 (.tup []) (sW 4 r) 5:=by
 have h1:=aR (dO (l:=L) aa);have hs:=zp 1000000000000 (enc:=nb) (ok:=λx=>decide (fS x)) (L:=L) 10 true (l:=l++aV (L.length:Int)) (λx hx=>decide_eq_true (hL x hx)) (λx hx=>gH (hL x hx)) aa cq;rw[List.append_assoc,a,Bool.true_or] at hs;refine pP func156 ?_;refine pN (λs:Bool×List UInt8×Int=>(s0 22 gl [(2,.clo (.func 149) [.ref 1 0] []),(12,aE cW L),(13,iG (ah L)),(14,iG s.2.2)] (sW 4 s.2.1) 5 4)) 11122 hs [gD 11 1 2 4 [.ref 1 0,iG (ah L)] (cA gl (dO (l:=L) aa) aa (r:=l++aV (L.length:Int)) rfl)] [hc (el (l++aV (L.length:Int))),hc (rY.imm (l++aV (L.length:Int)))] (λB s w hs k5 c=>?_) (kd:=[(4,.row),(999999,.clo)]) (ρ:=rI 5);obtain⟨e,acc,i⟩:=s;unfold md at hs;rcases bC hs with⟨b1,hs⟩|⟨b1,hs⟩
 .obtain⟨y,b,hs⟩:=bS hs;obtain⟨d,hacc,hs⟩:=rT hs;obtain rfl:=cP hs;have hy:fS y:=of_decide_eq_true d;have hacc:acc.length<=1000000000000:=hacc;exact jw [hr 15 b1,bR 16 (rW.ixZ b),bR 17 (rW.p1Z tW b),gD 20 1 4 5 [.ref 1 0,uG y] (mU gl hy aa (r:=acc++nb y) rfl)] [hc (el (acc++nb y)),hc (rY.imm (acc++nb y))] (k5 _ rfl) (ρ:=rI 4++[(4,5)]) (kd:=[(4,.row),(999999,.clo)])
 .obtain rfl:=cP hs;cases c _ rfl;exact mt .normal (s0 22 gl [] (sW 4 acc) 5 4) [] [hr 15 b1] [hc (el acc),hc (rY.imm acc)] (ρ:=rI 5) (kd:=[(4,.row),(999999,.clo)])
theorem TN{L:List Int}(hL:∀x∈L,c8 x)(hn:L.length<=1000)(hl:l.length<=900000000000)(a:l++(aV (L.length:Int)++L.flatMap aV)=r):jg prog gl 157 [.ref 1 0,aE cZ L,.clo (.func 147) [.ref 1 0] []] (sW 2 l) 4 (.tup []) (sW 4 r) 5:=by
 have h1:=aR (dO (l:=L) aa);have hs:=zp 1000000000000 (enc:=aV) (ok:=λx=>decide (c8 x)) (L:=L) 10 true (l:=l++aV (L.length:Int)) (λx hx=>decide_eq_true (hL x hx)) (λx hx=>aR (hL x hx)) aa cq;rw[List.append_assoc,a,Bool.true_or] at hs;refine pP func157 ?_;refine pN (λs:Bool×List UInt8×Int=>(s0 22 gl [(2,.clo (.func 147) [.ref 1 0] []),(12,aE cZ L),(13,iG (ah L)),(14,iG s.2.2)] (sW 4 s.2.1) 5 4)) 11122 hs [gD 11 1 2 4 [.ref 1 0,iG (ah L)] (cA gl (dO (l:=L) aa) aa (r:=l++aV (L.length:Int)) rfl)] [hc (el (l++aV (L.length:Int))),hc (rY.imm (l++aV (L.length:Int)))] (λB s w hs k5 c=>?_) (kd:=[(4,.row),(999999,.clo)]) (ρ:=rI 5);obtain⟨e,acc,i⟩:=s;unfold md at hs;rcases bC hs with⟨b1,hs⟩|⟨b1,hs⟩
 .obtain⟨y,b,hs⟩:=bS hs;obtain⟨d,hacc,hs⟩:=rT hs;obtain rfl:=cP hs;have hy:c8 y:=of_decide_eq_true d;have hacc:acc.length<=1000000000000:=hacc;exact jw [hr 15 b1,bR 16 (rZ.ixZ b),bR 17 (rZ.p1Z tZ b),gD 20 1 4 5 [.ref 1 0,iG y] (cA gl hy aa (r:=acc++aV y) rfl)] [hc (el (acc++aV y)),hc (rY.imm (acc++aV y))] (k5 _ rfl) (ρ:=rI 4++[(4,5)]) (kd:=[(4,.row),(999999,.clo)])
 .obtain rfl:=cP hs;cases c _ rfl;exact mt .normal (s0 22 gl [] (sW 4 acc) 5 4) [] [hr 15 b1] [hc (el acc),hc (rY.imm acc)] (ρ:=rI 5) (kd:=[(4,.row),(999999,.clo)])
theorem Rl{l r:List UInt8}{x:DNode}(hx:SmNode x)(hl:l.length<=700000000000)(c:l++ke x=r):jg prog gl 153 [.agg (bY x),.ref 0 0,.ref 3 0] (sW 2 l) 4 (.tup []) (sW 4 r) 5:=by
 have h1:=gH hx.a;have e:l++nb x.Pub++(aV (x.Boxes.length:Int)++x.Boxes.flatMap uT)=r:=by grind [ke,uU]
 refine pP func153 ?_;exact mt .normal (s0 13 gl [] (sW 4 r) 5 4) [] [gD 7 1 2 5 [.ref 1 0,uG x.Pub] (mU gl hx.a aa (r:=l++nb x.Pub) rfl),IN 12 5 6 [.ref 1 0,aE cz x.Boxes,.clo (.func 148) [] [.ref 0 0]] (IO_r gl hx.b hx.n cq e)] [hc (el r),hc (rY.imm r)] (ρ:=rI 4++[(4,6)]) (kd:=[(4,.row),(999999,.clo)])
theorem Rm{l r:List UInt8}{x:DSealed}(hx:SmSealed x)(hl:l.length<=9000000000000)(b:l++lX x=r):jg prog gl 159 [.agg (bp x),.ref 0 0] [(0,bx),(1,oO 2 l),(2,oY l)] 3 (.tup []) [(0,bx),(1,oO 3 r),(3,oY r)] 4:=by
 have h1:=pc hx.a;have e:l++sN x.Of++tM x.Body=r:=by grind [lX]
 refine pP func159 ?_;exact mt .normal (s0 12 gl [] [(0,bx),(1,oO 3 r),(3,oY r)] 4 3) [] [gD 6 1 2 4 [.ref 1 0,.agg (aj x.Of)] (kh gl hx.a aa (r:=l++sN x.Of) rfl),XY 10 x.Body,gD 11 1 4 5 [.ref 1 0,sG x.Body] (CR gl (by have:=hx.n;omega) cq e)] [hc (el r),hc (rY.imm r)] (ρ:=rI 3++[(3,5)]) (kd:=[(3,.row)])
theorem Ro{L:List DNode}(hL:∀x∈L,SmNode x)(hn:L.length<=1000)(hl:l.length<=600000000000)(a:l++(aV (L.length:Int)++L.flatMap ke)=r):jg prog gl 152 [.ref 1 0,aE bY L,.clo (.func 153) [] [.ref 0 0,.ref 3 0]] (sW 2 l) 4 (.tup []) (sW 4 r) 5:=by
 have h1:=aR (dO (l:=L) aa);have hs:=zp 700000000000 (enc:=ke) (ok:=λx=>decide (SmNode x)) (L:=L) 40020 true (l:=l++aV (L.length:Int)) (λx hx=>decide_eq_true (hL x hx)) (λx hx=>Aq (hL x hx)) aa cq;rw[List.append_assoc,a,Bool.true_or] at hs;refine pP func152 ?_;refine pN (λs:Bool×List UInt8×Int=>(s0 22 gl [(2,.clo (.func 153) [] [.ref 0 0,.ref 3 0]),(12,aE bY L),(13,iG (ah L)),(14,iG s.2.2)] (sW 4 s.2.1) 5 4)) 11122 hs [gD 11 1 2 4 [.ref 1 0,iG (ah L)] (cA gl (dO (l:=L) aa) aa (r:=l++aV (L.length:Int)) rfl)] [hc (el (l++aV (L.length:Int))),hc (rY.imm (l++aV (L.length:Int)))] (λB s w hs k5 c=>?_) (kd:=[(4,.row),(999999,.clo)]) (ρ:=rI 5);obtain⟨e,acc,i⟩:=s;unfold md at hs;rcases bC hs with⟨b1,hs⟩|⟨b1,hs⟩
 .obtain⟨y,b,hs⟩:=bS hs;obtain⟨d,hacc,hs⟩:=rT hs;obtain rfl:=cP hs;have hy:SmNode y:=of_decide_eq_true d;have hacc:acc.length<=700000000000:=hacc;exact jw [hr 15 b1,bR 16 (bZ.ixZ b),bR 17 (bZ.ptZ Pc b),IN 20 4 6 [.agg (bY y),.ref 0 0,.ref 3 0] (Rl gl hy aa (r:=acc++ke y) rfl)] [hc (el (acc++ke y)),hc (rY.imm (acc++ke y))] (k5 _ rfl) (ρ:=rI 4++[(4,6)]) (kd:=[(4,.row),(999999,.clo)])
 .obtain rfl:=cP hs;cases c _ rfl;exact mt .normal (s0 22 gl [] (sW 4 acc) 5 4) [] [hr 15 b1] [hc (el acc),hc (rY.imm acc)] (ρ:=rI 5) (kd:=[(4,.row),(999999,.clo)])
theorem Rp{L:List DSealed}(hL:∀x∈L,SmSealed x)(hn:L.length<=1000)(hl:l.length<=900000000000)(a:l++(aV (L.length:Int)++L.flatMap lX)=r):jg prog gl 158 [.ref 1 0,aE bp L,.clo (.func 159) [] [.ref 0 0]] (sW 2 l) 4 (.tup []) (sW 4 r) 5:=by
 have h1:=aR (dO (l:=L) aa);have hs:=zp 1000000000000 (enc:=lX) (ok:=λx=>decide (SmSealed x)) (L:=L) 1040 true (l:=l++aV (L.length:Int)) (λx hx=>decide_eq_true (hL x hx)) (λx hx=>F6 (hL x hx)) aa cq;rw[List.append_assoc,a,Bool.true_or] at hs;refine pP func158 ?_;refine pN (λs:Bool×List UInt8×Int=>(s0 22 gl [(2,.clo (.func 159) [] [.ref 0 0]),(12,aE bp L),(13,iG (ah L)),(14,iG s.2.2)] (sW 4 s.2.1) 5 4)) 11122 hs [gD 11 1 2 4 [.ref 1 0,iG (ah L)] (cA gl (dO (l:=L) aa) aa (r:=l++aV (L.length:Int)) rfl)] [hc (el (l++aV (L.length:Int))),hc (rY.imm (l++aV (L.length:Int)))] (λB s w hs k5 c=>?_) (kd:=[(4,.row),(999999,.clo)]) (ρ:=rI 5);obtain⟨e,acc,i⟩:=s;unfold md at hs;rcases bC hs with⟨b1,hs⟩|⟨b1,hs⟩
 .obtain⟨y,b,hs⟩:=bS hs;obtain⟨d,hacc,hs⟩:=rT hs;obtain rfl:=cP hs;have hy:SmSealed y:=of_decide_eq_true d;have hacc:acc.length<=1000000000000:=hacc;exact jw [hr 15 b1,bR 16 (bH.ixZ b),bR 17 (bH.ptZ GM b),Zc 20 4 6 [.agg (bp y),.ref 0 0] (Rm gl hy aa (r:=acc++lX y) rfl)] [hc (el (acc++lX y)),hc (rY.imm (acc++lX y))] (k5 _ rfl) (ρ:=rI 4++[(4,6)]) (kd:=[(4,.row),(999999,.clo)])
 .obtain rfl:=cP hs;cases c _ rfl;exact mt .normal (s0 22 gl [] (sW 4 acc) 5 4) [] [hr 15 b1] [hc (el acc),hc (rY.imm acc)] (ρ:=rI 5) (kd:=[(4,.row),(999999,.clo)])
end
section
attribute [local irreducible] Tr dz Gp
noncomputable abbrev OZ:Code:=bq 111012 (ai Tryz.f143)
abbrev WL(l:List Nat):Fr:=[(1,aE cW l),(5,.ref 0 0)]
noncomputable abbrev TO(l:List Nat)(st:LoopState):Option Ob:=some ⟨0,[],some (.loop st none 40 (WL l) (Dy OZ) (Dz OZ) (DA OZ))⟩
noncomputable abbrev K5(l:List Nat)(s k:Nat)(a b:LoopState):aQ:=[(0,Ku s k),(1,TO l a),(2,Kx 1),(3,vP b)]
def Z3(d j c s k w:Nat){s':Nat}{gl:List (Nat×List G)}(h:kE s k w=some s')
  (hin:w6 (vi [0,j]) [(0,Ku s k),(j,Ci [w])] [(0,Ku s k),(1,Ci [w])] 0 [0,j]:=by exact⟨⟨rfl,.inl rfl⟩,⟨rfl,.inl rfl⟩,trivial⟩) (hlt:[0,j].all (λi=>Nat.blt i c)=true:=by kernel_rfl) (hnd:decide [0,j].Nodup=true:=by kernel_rfl) (hgs:[G.ref 0 0,.rsl j 0 1].map (qg (vi [0,j]) 20)=[.ref 0 0,.rsl 1 0 1]:=by kernel_rfl):HP:=
 hmc d [0,j] c [(0,Ku s k),(j,Ci [w])] [.ref 0 0,.rsl j 0 1] [(0,⟨304,[uG s',uG (k1 k)],none⟩),(1,⟨34,[w].flatMap cW,none⟩)] (Qy gl h) hin ⟨⟨rfl,.inl rfl⟩,⟨rfl,.inl rfl⟩,trivial⟩ hlt hnd hgs (by rfl) (by rfl) (by rfl)
theorem ES{l:List Nat}{r:Nat}(h:x6 label l=some r):ba prog gl 143 [sG label,aE cW l] (uG r):=by
 unfold x6 at h;obtain⟨t,et,h⟩:=bS h;obtain⟨a,ea,h⟩:=bS h;obtain⟨s1,e1,h⟩:=bS h;obtain⟨c,o,h⟩:=bS h;refine Gh func143 ?_;refine pO 111012 (s0 40 gl [(1,aE cW l),(5,.ref 0 0),(15,ny t)] [(0,Ku (wU (ah label)) 0)] 1 0) [hL 10 label,bR 11 (C8 (ah label)),hcB 14 et,hf 15 (Ic gl t)] [hc (aG 20 (ny t) aH)] ?_ [] [(0,0)];refine Xt (fst:=[]) (cap:=[.ptr [aE cY t] 0]) Tryz.f244 func244 ?_;refine YR [1,1,2] (s0 29 gl [(2,.ref 2 0),(8,Kv t)] [(2,Kx 1),(1,some ⟨0,[],some (.loop .ready none 40 [(1,aE cW l),(5,.ref 0 0),(15,ny t)] (Dy OZ) (Dz OZ) (DA OZ))⟩),(0,Ku (wU (ah label)) 0)] 3 2) [hf 8 (Ie gl t)] ?_;refine Xt (fst:=[]) (cap:=[.ptr [aE cY t] 0,.ptr [iG 7] 0]) Tryz.f305 func305 ?_;refine pN (λx:(Nat×Nat)×Int=>(s0 31 gl [(0,.yld 3),(1,.ptr [aE cY t] 0),(2,.ptr [iG 7] 0),(4,iG x.2)] (K5 l x.1.1 x.1.2 .ready .ready) 4 4)) 1122 ea [] [] (λB x w hs k5 e=>?_) [] r4;unfold F1 at hs;rcases bC hs with⟨b1,hs⟩|⟨b1,hs⟩
 .obtain⟨q0,e0,hs⟩:=bS hs;obtain⟨y,d,hs⟩:=bS hs;obtain⟨q,p,hs⟩:=bS hs;obtain⟨w,ew,hs⟩:=bS hs;obtain⟨s,es,hs⟩:=bS hs;obtain rfl:=cP hs;refine pO 112210210 (s0 31 gl [(0,.yld 3),(1,.ptr [aE cY t] 0),(2,.ptr [iG 7] 0),(4,iG x.2),(5,iG (iI 7 (ah q0)))] (K5 l x.1.1 x.1.2 .ready .ready) 4 4) [hr 9 b1,bR 16 (rY.sufZI e0)] [] ?_ [] r4;refine Xw (i:=3) (j:=10) (n:=29) (t:=0) (t2:=0) (pe:=none) (fr:=[(2,.ref 2 0)]) (ps:=Dy Kw) (a:=Dz Kw) (b:=DA Kw) (s1:=(s0 31 gl (Ti t q x.2 (iI 7 (ah q0))) (K5 l x.1.1 x.1.2 .ready .ready) 4 4))
   (s3:=(s0 31 gl ([(30,bG false),(29,bG true)]++Ti t q x.2 (iI 7 (ah q0))) ((3,vP .ready)::K5 l s (k1 x.1.2) .ready .busy) 4 4))
   (K5 l s (k1 x.1.2) .ready .busy) 4 (.loop .ready none 29 [(2,.ref 2 0)] (Dy Kw) (Dz Kw) (DA Kw)) [hcv 28 (g:=aE cY q) (Yp rY d p)] [] ?_ ?_
  .refine C9 .normal ⟨29,gl,[(2,.ref 2 0),(3,aE cY q)],K5 l x.1.1 x.1.2 .ready .ready,4,4,true⟩ [] [] (Xv Tryz.f244 ?_ rfl) [] r4;refine Ix 12101 ⟨29,gl,[(2,.ref 2 0),(4,uG w)],K5 l x.1.1 x.1.2 .ready .busy,4,4,true⟩ ?_ λkk=>?_
   .refine pO 12110 ⟨29,gl,[(2,.ref 2 0),(4,uG w)],K5 l x.1.1 x.1.2 .ready .busy,4,4,true⟩ [] [] ?_ [] r4;refine Xw (i:=1) (j:=2) (n:=40) (t:=0) (t2:=0) (pe:=none) (fr:=WL l) (ps:=Dy OZ) (a:=Dz OZ) (b:=DA OZ) (s1:=⟨29,gl,[(26,uG w),(25,.yld 1),(2,.ref 2 0),(4,uG w)],K5 l x.1.1 x.1.2 .ready .busy,4,4,true⟩)
     (s3:=⟨29,gl,[(28,bG false),(27,bG true),(26,uG w),(25,.yld 1),(2,.ref 2 0),(4,uG w)],(1,TO l .ready)::K5 l s (k1 x.1.2) .busy .busy,4,4,true⟩)
     (K5 l s (k1 x.1.2) .busy .busy) 4 (.loop .ready none 40 (WL l) (Dy OZ) (Dz OZ) (DA OZ)) [] [] ?_ ?_
    .refine C9 .normal ⟨40,gl,[(5,.ref 0 0),(6,uG w)],K5 l x.1.1 x.1.2 .ready .busy,4,4,true⟩ [] [] (Xv Tryz.f143 ?_ rfl) [] r4;exact C9 .normal ⟨40,gl,[],K5 l s (k1 x.1.2) .busy .busy,4,4,true⟩ [Z3 (gl:=gl) 19 4 5 x.1.1 x.1.2 w es] [] (by grind [jy]) [] r4
    .exact C9 .normal ⟨29,gl,[],K5 l s (k1 x.1.2) .ready .busy,4,4,true⟩ [] [] (by grind [jy]) [] r4
   refine pN (λz:Nat×Int=>⟨29,gl,[(2,.ref 2 0),(4,uG z.1),(10,aE cY q),(11,iG (ah q)),(12,iG z.2)],K5 l x.1.1 x.1.2 .ready .busy,4,4,true⟩) [2,1,0,1,2,2] ew [] [] (λA z v hz k m=>?_) [] r4;unfold oD at hz;rcases bC hz with⟨c1,hz⟩|⟨c1,hz⟩
   .obtain⟨f,e1,hz⟩:=bS hz;obtain⟨n1,e2,hz⟩:=bS hz;obtain rfl:=cP hz;exact jw [hr 13 c1,bR 15 (rY.ixZ e1),bR 16 (rY.p1Z tY e1),bR 19 (C8 (f.toNat:Int)),hV 22 (sM (P:=prog) (t:=34) (wU (f.toNat:Int)) e2),hV 23 (jc (P:=prog) (t:=34) z.1 (lB (wU (f.toNat:Int)) n1))] [] (k _ rfl) [] r4
   .obtain rfl:=cP hz;obtain rfl:=m _ rfl;exact yl 12101 [hr 13 c1] [] kk [] r4
  .exact jw [] [] (k5 _ rfl) [] r4
 .obtain rfl:=cP hs;obtain rfl:=e _ rfl;refine C9 .normal (s0 31 gl [] [(0,Ku x.1.1 x.1.2),(1,TO l .ready),(3,vP .ready)] 4 4) [hr 9 b1] [] (Xu ?_ rfl) [] r4;refine C9 .normal (s0 29 gl [] [(0,Ku x.1.1 x.1.2),(1,TO l .ready)] 2 2) [] [] (Xu ?_ rfl) [] [(0,0),(1,1)];refine pN (λx:(Nat×Nat)×Int=>(s0 40 gl [(5,.ref 0 0),(25,aE cW l),(26,iG (ah l)),(27,iG x.2)] [(0,Ku x.1.1 x.1.2)] 1 0)) 111110122 o [bR 22 (C8 (ah l)),Z3 (gl:=gl) 24 2 3 x.1.1 x.1.2 (wU (ah l)) e1] [] (λB z v hz k5 e=>?_) [] [(0,0)];unfold F3 at hz;rcases bC hz with⟨c1,hz⟩|⟨c1,hz⟩
  .obtain⟨y,d,hz⟩:=bS hz;obtain⟨n,u,hz⟩:=bS hz;obtain⟨s,es,hz⟩:=bS hz;obtain rfl:=cP hz;exact jw [hr 28 c1,bR 29 (rW.ixZ d),bR 30 (rW.p1Z tW d),hf 32 (dr gl u),Z3 (gl:=gl) 34 1 2 z.1.1 z.1.2 n es] [] (k5 _ rfl) [] [(0,0)]
  .obtain rfl:=cP hz;obtain rfl:=e _ rfl;exact Ar [hr 28 c1,Z3 (gl:=gl) 37 1 2 z.1.1 z.1.2 0 h] []
def pq(label b:List UInt8):Option Nat:=(Cj b).bind λw=>(aT 8 w [wU (ah b)]).bind λl=>x6 label l
theorem xd{r:Nat}(h:pq label b=some r):ba prog gl 74 [sG label,aE cY b] (uG r):=by unfold pq at h;obtain⟨w,ew,h⟩:=bS h;obtain⟨l,el',h⟩:=bS h;refine Gh func74 ?_;exact Ar [hf 7 (Ic gl b),ho 8 [ny b] [] (Ky gl ew) (by grind [cW]),bR 11 (C8 (ah b)),dg 13 rW el',hq 14 [sG label,aE cW l] [hc (rW.al l)] (ES gl h)] []
end
section
attribute [local irreducible] Tr dz Gp
section
def Xy(o:DOp):List UInt8:=[]++[o.By,o.Seq,o.Kind,o.At].flatMap aV
def Xz(o:DOp):List UInt8:=Xy o++(aV (o.Past.length:Int)++o.Past.flatMap sN)
def XA(o:DOp):List UInt8:=Xz o++[o.Device,o.Old,o.Member,o.Role].flatMap aV
def XB(o:DOp):List UInt8:=XA o++(aV (o.Path.length:Int)++o.Path.flatMap ke)
def XC(o:DOp):List UInt8:=XB o++sN o.Epoch
def XD(o:DOp):List UInt8:=XC o++aV o.N
def XE(o:DOp):List UInt8:=XD o++tM o.Body
def XG(o:DOp):List UInt8:=XE o++(aV (o.Refs.length:Int)++o.Refs.flatMap nb)
def XH(o:DOp):List UInt8:=XG o++sN o.Of
def Ox(o:DOp):List UInt8:=XH o++(aV (o.Guards.length:Int)++o.Guards.flatMap aV)
def Oy(o:DOp):List UInt8:=Ox o++[o.Need,o.Wait].flatMap aV
def Oz(o:DOp):List UInt8:=Oy o++(aV (o.Boxes.length:Int)++o.Boxes.flatMap uT)
def OA(o:DOp):List UInt8:=Oz o++nb o.Pub
def IP(o:DOp):List UInt8:=OA o++(aV (o.Hist.length:Int)++o.Hist.flatMap lX)
theorem SG(o:DOp):IP o=qc o:=by simp only[Xy,Xz,XA,XB,XC,XD,XE,XG,XH,Ox,Oy,Oz,OA,IP,qc,uU,List.flatMap_cons,List.flatMap_nil,List.append_assoc,List.append_nil,List.nil_append]
theorem aaU(o:DOp):[]++[o.By,o.Seq,o.Kind,o.At].flatMap aV=Xy o:=rfl
theorem Zd(o:DOp):Xy o++(aV (o.Past.length:Int)++o.Past.flatMap sN)=Xz o:=rfl
theorem Ze(o:DOp):Xz o++[o.Device,o.Old,o.Member,o.Role].flatMap aV=XA o:=rfl
theorem Zf(o:DOp):XA o++(aV (o.Path.length:Int)++o.Path.flatMap ke)=XB o:=rfl
theorem Zg(o:DOp):XB o++sN o.Epoch=XC o:=rfl
theorem Zh(o:DOp):XC o++aV o.N=XD o:=rfl
theorem Zi(o:DOp):XD o++tM o.Body=XE o:=rfl
theorem Zj(o:DOp):XE o++(aV (o.Refs.length:Int)++o.Refs.flatMap nb)=XG o:=rfl
theorem Zk(o:DOp):XG o++sN o.Of=XH o:=rfl
theorem Vd(o:DOp):XH o++(aV (o.Guards.length:Int)++o.Guards.flatMap aV)=Ox o:=rfl
theorem Ve(o:DOp):Ox o++[o.Need,o.Wait].flatMap aV=Oy o:=rfl
theorem Vf(o:DOp):Oy o++(aV (o.Boxes.length:Int)++o.Boxes.flatMap uT)=Oz o:=rfl
theorem Vg(o:DOp):Oz o++nb o.Pub=OA o:=rfl
theorem Vh(o:DOp):OA o++(aV (o.Hist.length:Int)++o.Hist.flatMap lX)=IP o:=rfl
def SH(d k j c:Nat){gl:List (Nat×List G)}{fid:FuncId}{L:List Int}{l r:List UInt8}(h:jg prog gl fid [.rsl 3 0 L.length,.ref 0 0] [(0,bx),(1,oO 2 l),(2,oY l),ob 3 3 (L.flatMap cZ)] [0,1,k,j].length (.tup []) [(0,bx),(1,oO 4 r),(4,oY r),ob 3 3 (L.flatMap cZ)] 5)
  (hin:w6 (vi [0,1,k,j]) [(0,bx),(1,oO k l),(k,oY l),(j,some ⟨3,L.flatMap cZ,none⟩)] [(0,bx),(1,oO 2 l),(2,oY l),ob 3 3 (L.flatMap cZ)] 0 [0,1,k,j]:=by exact⟨⟨rfl,.inl rfl⟩,⟨rfl,.inl rfl⟩,⟨rfl,.inr ⟨rfl,rY.imm _⟩⟩,⟨rfl,.inr ⟨rfl,rZ.imm _⟩⟩,trivial⟩) (a:oI (ja [0,1,k,j] c) [(0,bx),(1,oO 4 r),(4,oY r),ob 3 3 (L.flatMap cZ)] [(0,bx),(1,oO c r),(2,none),ob 3 3 (L.flatMap cZ),(4,oY r)]:=by exact⟨⟨rfl,.inl rfl⟩,⟨rfl,.inl rfl⟩,⟨rfl,.inr ⟨rfl,rZ.imm _⟩⟩,⟨rfl,.inr ⟨rfl,rY.imm _⟩⟩,trivial⟩)
  (hlt:[0,1,k,j].all (λi=>Nat.blt i c)=true:=by kernel_rfl) (hnd:decide [0,1,k,j].Nodup=true:=by kernel_rfl) (hgs:[G.rsl j 0 L.length,.ref 0 0].map (qg (vi [0,1,k,j]) 20)=[.rsl 3 0 L.length,.ref 0 0]:=by kernel_rfl):HP:=
 tN d [0,1,k,j] c [(0,bx),(1,oO k l),(k,oY l),(j,some ⟨3,L.flatMap cZ,none⟩)] [.rsl j 0 L.length,.ref 0 0] [(0,bx),(1,oO c r),(2,none),ob 3 3 (L.flatMap cZ),(4,oY r)] h hin a hlt hnd hgs (by rfl) (by rfl) (by rfl)
attribute [local irreducible] Xy Xz XA XB XC XD XE XG XH Ox Oy Oz OA IP
set_option maxHeartbeats 2000000 in
theorem MP(ho:SmOp o):jg prog gl 75 [.agg (aJ o)] [] 0 (.ref 0 0) [(0,oO 1 (qc o)),(1,oY (qc o))] 2:=by
 have hI:∀l:List Int,(∀z∈l,z∈[o.By,o.Seq,o.Kind,o.At,o.Device,o.Old,o.Member,o.Role,o.N,o.Need,o.Wait])->∀z∈l,c8 z:=by grind [SmOp.ints]
 have a:=yY ho;rw[<-SG] at a;have h13:(OA o).length<=50000000:=by grind [Vh]
 have h12:(Oz o).length<=50000000:=by grind [Vg]
 have h11:(Oy o).length<=50000000:=by grind [Vf]
 have h10:(Ox o).length<=50000000:=by grind [Ve]
 have h9:(XH o).length<=50000000:=by grind [Vd]
 have h8:(XG o).length<=50000000:=by grind [Zk]
 have h7:(XE o).length<=50000000:=by grind [Zj]
 have h6:(XD o).length<=50000000:=by grind [Zi]
 have h5:(XC o).length<=50000000:=by grind [Zh]
 have h4:(XB o).length<=50000000:=by grind [Zg]
 have h3:(XA o).length<=50000000:=by grind [Zf]
 have h2:(Xz o).length<=50000000:=by grind [Ze]
 have h1:(Xy o).length<=50000000:=by grind [Zd]
 rw[<-SG o];refine pP func75 ?_;refine pO 111110 (s0 94 gl [(1,.ptr (aJ o) 0),(3,.ref 0 0),(4,.clo (.func 146) [] [.ref 0 0]),(5,.ref 3 0)] (sW 2 []) 4 0) [] [hc (eB (gs:=aJ o) aH),hc (rY.imm [])] ?_ (kd:=[(2,.row),(999999,.clo)]);exact mt .ret (s0 94 gl [(2,.ref 0 0)] [(0,oO 1 (IP o)),(1,oY (IP o))] 2 0) [.ref 0 0] [SH 20 2 4 5 (L:=[o.By,o.Seq,o.Kind,o.At]) (CS gl (hI _ aC) aC aC aC (aaU o)),
  IN 26 5 6 [.ref 1 0,aE aj o.Past,.clo (.func 151) [.ref 1 0] []] (Rj gl ho.past ho.nPast aa (Zd o)),
  SH 37 6 7 8 (L:=[o.Device,o.Old,o.Member,o.Role]) (CS gl (hI _ aC) aC aC aa (Ze o)),
  IN 42 8 9 [.ref 1 0,aE bY o.Path,.clo (.func 153) [] [.ref 0 0,.ref 3 0]] (Ro gl ho.path ho.nPath aa (Zf o)),
  gD 46 1 9 10 [.ref 1 0,.agg (aj o.Epoch)] (kh gl ho.epoch aa (Zg o)),
  gD 50 1 10 11 [.ref 1 0,iG o.N] (cA gl (ho.ints _ aC) aa (Zh o)),
  XY 54 o.Body,gD 55 1 11 12 [.ref 1 0,sG o.Body] (CR gl (by have:=ho.nBody;omega) aa (Zi o)),
  IN 61 12 13 [.ref 1 0,aE cW o.Refs,.clo (.func 149) [.ref 1 0] []] (TM gl ho.refs ho.nRefs aa (Zj o)),
  gD 65 1 13 14 [.ref 1 0,.agg (aj o.Of)] (kh gl ho.of_ aa (Zk o)),
  IN 71 14 15 [.ref 1 0,aE cZ o.Guards,.clo (.func 147) [.ref 1 0] []] (TN gl ho.guards ho.nGuards aa (Vd o)),
  SH 78 15 16 17 (L:=[o.Need,o.Wait]) (CS gl (hI _ aC) aC aC aa (Ve o)),
  IN 83 17 18 [.ref 1 0,aE cz o.Boxes,.clo (.func 148) [] [.ref 0 0]] (IO_r gl ho.boxes ho.nBoxes aa (Vf o)),
  gD 87 1 18 19 [.ref 1 0,uG o.Pub] (mU gl ho.pub aa (Vg o)),
  IN 92 19 20 [.ref 1 0,aE bp o.Hist,.clo (.func 159) [] [.ref 0 0]] (Rp gl ho.hist ho.nHist aa (Vh o))]
  [hc (el (IP o)),hc (rY.imm (IP o))]
attribute [local irreducible] qc
def Rs(o:DOp):Option DIdent:=(pq [111,112] (qc o)).bind λv=>some ⟨o.By,o.Seq,v⟩
theorem TP(ho:SmOp o){r:DIdent}(h:Rs o=some r):ba prog gl 27 [.agg (aJ o)] (.agg (aj r)):=by
 unfold Rs at h;obtain⟨v,ev,h⟩:=bS h;obtain rfl:=cP h;have a:=yY ho;refine Gh func27 ?_;refine pO [1,0] (s0 12 gl [(1,.ptr (aJ o) 0),(2,.ref 0 0)] [ob 0 36 [iG 0,iG 0,uG 0]] 1 0) [] [hc (eB (gs:=aJ o) aH)] ?_ [] [(0,1)];exact Ar [tN 8 [] 1 [] [.agg (aJ o)] [(0,oO 2 (qc o)),(1,oY (qc o))] (MP gl ho) trivial ⟨⟨rfl,.inl rfl⟩,⟨rfl,.inr ⟨rfl,rY.imm _⟩⟩,trivial⟩,
  tN 9 [1,2] 3 [(1,oO 2 (qc o)),(2,oY (qc o))] [.ref 1 0] [(0,oO 2 (qc o)),(1,oY (qc o)),(2,oY (qc o))] (rS gl (l:=qc o) aa) ⟨⟨rfl,.inl rfl⟩,⟨rfl,.inr ⟨rfl,rY.imm _⟩⟩,trivial⟩ ⟨⟨rfl,.inl rfl⟩,⟨rfl,.inr ⟨rfl,rY.imm _⟩⟩,⟨rfl,.inr ⟨rfl,rY.imm _⟩⟩,trivial⟩,
  hq 10 [sG [111,112],aE cY (qc o)] [hc (rY.al (qc o))] (xd gl ev)] []
end
end
theorem gP(n:Nat):wU (n:Int)=n%18446744073709551616:=by grind [zk,IntKind.wrap_u64]
theorem K6(a b:Nat):wU ((a:Int)*(b:Int))=a*b%18446744073709551616:=by rw[<-Int.natCast_mul,gP]
theorem me(a b:Nat):wU ((a:Int)+(b:Int))=(a+b)%18446744073709551616:=by rw[<-Int.natCast_add,gP]
theorem Zl{b:Nat}(h:b<=a):wU ((a:Int)-(b:Int))=(a-b)%18446744073709551616:=by rw[<-Int.natCast_sub h,gP]
abbrev PF:Nat:=2305843009213693951
theorem TQ(a:Nat):fv a 32=a/4294967296:=rfl
theorem TR(a:Nat):fv a 61=a/2305843009213693952:=rfl
theorem WM(a:Nat):lB a 3=a*8%18446744073709551616:=rfl
theorem HD{a:Nat}(h:a<18446744073709551616):bD a 4294967295=a%4294967296:=by unfold bD;rw[Nat.mod_eq_of_lt h];exact Nat.and_two_pow_sub_one_eq_mod a 32
theorem TS(h:a<18446744073709551616):bD a 2305843009213693951=a%2305843009213693952:=by unfold bD;rw[Nat.mod_eq_of_lt h];exact Nat.and_two_pow_sub_one_eq_mod a 61
theorem gF(h:n<18446744073709551616):eR n=some (n%PF):=by
 unfold eR;rw[TS h,TR,me];have e:(n%2305843009213693952+n/2305843009213693952)%18446744073709551616=n%2305843009213693952+n/2305843009213693952:=Nat.mod_eq_of_lt aa;rw[e];by_cases h1:2305843009213693951<=n%2305843009213693952+n/2305843009213693952
 .rw[decide_eq_true aa,aN,Zl h1];grind
 grind
theorem Gx{x y:Nat}(hx:x<18446744073709551616)(hy:y<18446744073709551616):sL x y=some (x*y/18446744073709551616,x*y%18446744073709551616):=by unfold sL;simp only[K6,me,TQ,HD hx,HD hy];obtain⟨h1,h2,h3,h4⟩:=Lib.mul64_hi x y hx hy;have ha:=Lib.half_mul_le (a:=x/4294967296) (b:=y/4294967296) aa aa;have hb:=Lib.half_mul_le (a:=x/4294967296) (b:=y%4294967296) aa aa;have hc:=Lib.half_mul_le (a:=x%4294967296) (b:=y/4294967296) aa aa;have hd:=Lib.half_mul_le (a:=x%4294967296) (b:=y%4294967296) aa aa;rw[HD (Nat.mod_lt _ dL)];rw[<-h4];generalize (x/4294967296)*(y/4294967296)=a at*;generalize (x/4294967296)*(y%4294967296)=b at*;generalize (x%4294967296)*(y/4294967296)=c at*;generalize (x%4294967296)*(y%4294967296)=d at*;congr 2;omega
theorem Rt(a b:Nat)(hi lo:Nat)(h:hi*18446744073709551616+lo=a%2305843009213693951*(b%2305843009213693951))(hl:lo<18446744073709551616):hi<288230376151711744/\(lo%2305843009213693951+hi*8)%2305843009213693951=a*b%2305843009213693951:=by have h1:a%2305843009213693951*(b%2305843009213693951)<=2305843009213693950*2305843009213693950:=Nat.mul_le_mul aa aa;rw[Nat.mul_mod a b,<-h];omega
theorem vS{b:Nat}(ha:a<18446744073709551616)(hb:b<18446744073709551616):jZ a b=some (a*b%PF):=by
 unfold jZ;rw[gF ha,aL,gF hb,aL];have hA:a%PF<2305843009213693951:=Nat.mod_lt _ dL;have hB:b%PF<2305843009213693951:=Nat.mod_lt _ dL;rw[Gx aa aa,aL];dsimp only;have hlo:a%PF*(b%PF)%18446744073709551616<18446744073709551616:=Nat.mod_lt _ dL;rw[gF hlo,aL];obtain⟨h1,h2⟩:=Rt a b (a%PF*(b%PF)/18446744073709551616) (a%PF*(b%PF)%18446744073709551616) (Nat.div_add_mod' _ _) hlo;rw[WM,me];generalize a%PF*(b%PF)/18446744073709551616=hi at*;generalize a%PF*(b%PF)%18446744073709551616=lo at*;have e:(lo%PF+hi*8%18446744073709551616)%18446744073709551616=lo%PF+hi*8:=by grind
 grind [gF]
theorem IQ{b:Nat}(ha:a<18446744073709551616)(hb:b<18446744073709551616):wG a b=some ((a+b)%PF):=by unfold wG;have hA:a%PF<2305843009213693951:=Nat.mod_lt _ dL;have hB:b%PF<2305843009213693951:=Nat.mod_lt _ dL;rw[gF ha,aL,gF hb,aL,me,gF (Nat.mod_lt _ dL),aL];congr 1;show(a%2305843009213693951+b%2305843009213693951)%18446744073709551616%2305843009213693951=(a+b)%2305843009213693951;omega
theorem Ru(A B:Nat)(L M H:Nat)(hL:L=A%4294967296*(B%4294967296))(hM:M=A/4294967296*(B%4294967296)+A%4294967296*(B/4294967296))(a:H=A/4294967296*(B/4294967296)):
  (L%2305843009213693951+M%536870912*4294967296+M/536870912+8*H)%2305843009213693951=A*B%2305843009213693951:=by
 have hx:A*B=L+M*4294967296+H*18446744073709551616:=by grind [Nat.div_add_mod']
 rw[hx]
 omega
theorem ll{b:Nat}:oQ a b=some (a*b%PF):=by
 unfold oQ;have hA:a%2305843009213693951<2305843009213693951:=Nat.mod_lt _ dL;have hB:b%2305843009213693951<2305843009213693951:=Nat.mod_lt _ dL;generalize hAe:a%2305843009213693951=A at*;generalize hBe:b%2305843009213693951=B at*;have h0:A%4294967296*(B%4294967296)<=4294967295*4294967295:=Nat.mul_le_mul aa aa;have h1:A/4294967296*(B%4294967296)<=536870911*4294967295:=Nat.mul_le_mul aa aa;have h2:A%4294967296*(B/4294967296)<=4294967295*536870911:=Nat.mul_le_mul aa aa;have h3:A/4294967296*(B/4294967296)<=536870911*536870911:=Nat.mul_le_mul aa aa;have key:=Ru A B _ _ _ rfl rfl rfl;have e:A*B%2305843009213693951=a*b%2305843009213693951:=by rw[<-hAe,<-hBe,<-Nat.mul_mod]
 have ea:wU ((A/4294967296:Nat):Int)=A/4294967296:=by rw[gP];omega
 have eb:wU ((B/4294967296:Nat):Int)=B/4294967296:=by rw[gP];omega
 simp only[ea,eb,K6,me,gP];show some _=some (a*b%2305843009213693951);rw[<-e,<-key];congr 1;generalize A%4294967296*(B%4294967296)=p at*;generalize A/4294967296*(B%4294967296)=q at*;generalize A%4294967296*(B/4294967296)=s at*;generalize A/4294967296*(B/4294967296)=t at*;have e1:p%18446744073709551616=p:=Nat.mod_eq_of_lt aa;have e2:q%18446744073709551616=q:=Nat.mod_eq_of_lt aa;have e3:s%18446744073709551616=s:=Nat.mod_eq_of_lt aa;have e4:t%18446744073709551616=t:=Nat.mod_eq_of_lt aa;have e5:(q+s)%18446744073709551616=q+s:=Nat.mod_eq_of_lt aa;rw[e1,e2,e3,e4,e5];generalize q+s=m at*;have e6:m%536870912*4294967296%18446744073709551616=m%536870912*4294967296:=Nat.mod_eq_of_lt aa;have e7:m/536870912%18446744073709551616=m/536870912:=Nat.mod_eq_of_lt aa;have e8:8*t%18446744073709551616=8*t:=Nat.mod_eq_of_lt aa;rw[e6,e7,e8];have e9:(p%2305843009213693951+m%536870912*4294967296)%18446744073709551616=p%2305843009213693951+m%536870912*4294967296:=Nat.mod_eq_of_lt aa;rw[e9];have e10:(p%2305843009213693951+m%536870912*4294967296+m/536870912)%18446744073709551616=p%2305843009213693951+m%536870912*4294967296+m/536870912:=Nat.mod_eq_of_lt aa;rw[e10];rw[Nat.mod_eq_of_lt (a:=p%2305843009213693951+m%536870912*4294967296+m/536870912+8*t) aa]
theorem yq{b:Nat}:qi a b=some ((a+b)%PF):=by unfold qi;rw[me];congr 1;show _=(a+b)%2305843009213693951;omega
end Go.Proofs.YtaiecngnppbhlaaGreatDoor
