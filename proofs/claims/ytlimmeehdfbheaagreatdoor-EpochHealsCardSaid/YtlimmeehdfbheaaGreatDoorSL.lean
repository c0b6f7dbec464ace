/- Texts. -/
import Derived.Laws.Bits64b
import Derived.Test.YtlimmeehdfbheaaGreatDoorP1
namespace Go.Proofs.YtlimmeehdfbheaaGreatDoor
set_option linter.unusedSectionVars false
set_option linter.unusedVariables false
set_option linter.unusedSimpArgs false
open Go.RowKit Tryz
variable (gl:CC)
variable {α:Type}{g:CA}{o:Bi}{a b j k n s:Nat}{fi_a1 fi_may fid:FuncId}{ops:Array Oper}{rest:It}{st:St}{d m:Int}{x x':Az}{R R':Ad}{i:Ab}{l:List (Nat×Ob)}{P:Br}{y:Dl}{t:Bn}{fa_a1 fa_may fc_a1 fc_may:Bo}{r:Bp}
section
variable {P:Br} {sA:St} {mi:Nat} {hs:List Hn}
def YT(d:Nat){σ:aQ}{x g:G}(h:jr σ x=some g):HP:=⟨some (.m d g),jr (Uy σ (Aa2 σ x)) x=some g,by rw[(Vp λi hi=>(Hs i hi).symm).1];exact h⟩
theorem EK{n:Nat}{k:Value}{g:G}:∀{es:oE},(es.map (·.2.2)).Nodup->(k,g,n)∈es->es.find? (λe=>Nat.beq e.2.2 n)=some (k,g,n)
 |[],_,h=>by cases h
 |e::r,hd,h=>by
  rw[Fo,M2] at hd;rcases EY.1 h with rfl|h
  .simp
  .have hne:e.2.2≠n:=λe2=>hd.1 (by rw[e2];exact E7.2 ⟨_,h,rfl⟩);have hb:Nat.beq e.2.2 n=false:=by
    cases hb:Nat.beq e.2.2 n with
    |true=>exact absurd (bc hb) hne
    |false=>rfl
   rw[List.find?_cons,hb];exact EK hd.2 h
theorem yo{σ:aQ}{g:G}{iti mi since clock n:Nat}{T ty:Bn}{seen:Bp}{es:oE}{k:Value}{v:G}(hi:gR σ g=some (iti,T,some mi,since,seen++[n],clock))(hm:LD σ (.mref mi)=some (mi,ty,es,clock))(hd:(es.map (·.2.2)).Nodup)(h:(k,v,n)∈es):jr σ g=some (.tup [db k,v]):=by unfold jr;rw[hi];simp only[hm,List.getLast?_append,List.getLast?_singleton,Option.some_or,Nat.beq_refl,ax,EK hd h]
def ZY(P:Br)(hs:List Hn)(sA:St)(o:Oper):Option (JQ×G):=match syO P o sA hs 0 with
 |some (C,g,[],[],none)=>some (C.toList,g)
 |_=>none
theorem Wr{o:Oper}{C:JQ}{g:G}{d:Nat}(h:ZY P hs sA o=some (C,g))(hC:∀p∈C,p)(hd:o.dst=some d)(hn:d<sA.n)(hg:aD sA.fr d=g):VE P sA mi o:=by
 refine⟨d,hd,λs e1 e2 e3 e4 e5=>?_⟩;unfold ZY at h;split at h
 .rename_i C' a hx;cases h;have:=(Ach (X:=True) (λx hx=>by rw[hd] at hx;cases hx;exact hn) hx (by cases C' with|none=>trivial|some p=>exact⟨hC p aC,trivial⟩)).1 s ⟨e1,e2,e3,λh=>(by cases h),λi hi=>(by cases hi),e4⟩;rw[hg,<-hd];exact this
 .cases h
def IC(P:Br)(hs:List Hn)(mi:Nat):It->St->Fr->Option Fr
 |[],s,V=>some V
 |o::r,s,V=>match o.op with
  | .makeMap .. =>(match o.dst with
   |some d=>IC P hs mi r {s with fr:=(d,.mref mi)::s.fr} ((d,.mref mi)::V)
   |none=>none)
  | .insert .. =>IC P hs mi r s V
  | .range .. =>(match o.dst with
   |some d=>IC P hs mi r {s with fr:=(d,.ref (mi+1) 0)::s.fr} ((d,.ref (mi+1) 0)::V)
   |none=>none)
  |_=>(match o.dst,ZY P hs s o with
   |some d,some (_,g)=>IC P hs mi r {s with fr:=(d,g)::s.fr} ((d,g)::V)
   |_,_=>none)
def U3(P:Br)(hs:List Hn)(st:St)(l:It):Fr:=(IC P hs st.c l st []).getD []
def EL(P:Br)(hs:List Hn)(sA:St)(mi:Nat):It->Option (JQ×Bo×Bo)
 |[]=>some ([],[],[])
 |o::r=>match EL P hs sA mi r with
  |none=>none
  |some (C,a,b)=>match o.op with
   | .makeMap .. =>bif(match o.dst with
    |some d=>iF 16 (aD sA.fr d) (.mref mi)
    |none=>false)then some (C,a,b)else none
   | .insert _ x _ _=>bif iF 16 (aB sA x) (.mref mi)then some (C,a,b)else none
   | .range _ x=>bif(iF 16 (aB sA x) (.mref mi)&&(match o.dst with
    |some d=>iF 16 (aD sA.fr d) (.ref (mi+1) 0)
    |none=>false))then some (C,a,b)else none
   |_=>match o.dst with
    |some d=>bif Nat.blt d sA.n then(match ZY P hs sA o with
     |some (D,g)=>some (D++C,g::a,aD sA.fr d::b)
     |none=>none)else none
    |none=>none
theorem KR{c:Bool}{a r:α}(h:(bif c then some a else none)=some r):c=true/\a=r:=by
 cases c
 .cases h
 .cases h;exact⟨rfl,rfl⟩
theorem IE:∀(l:It) (C:JQ) (a b:Bo),EL P hs sA mi l=some (C,a,b)->(∀p∈C,p)->a=b->∀o∈l,lN P sA mi o
 |[],C,a,b,h,_,_,o,ho=>by cases ho
 |x::r,C,a,b,h,hC,hab,o,ho=>by
  unfold EL at h;split at h
  .cases h
  rename_i c a1 b1 h1;have rest:(∀p∈c,p)->a1=b1->o∈r->lN P sA mi o:=λhc he hm=>IE r c a1 b1 h1 hc he o hm;split at h
  .rename_i e;obtain⟨hb,hq⟩:=KR h;cases hq;rcases EY.1 ho with rfl|ho
   .unfold lN;rw[e];exact hb
   .exact rest hC hab ho
  .rename_i e;obtain⟨hb,hq⟩:=KR h;cases hq;rcases EY.1 ho with rfl|ho
   .unfold lN;rw[e];exact hb
   .exact rest hC hab ho
  .rename_i e;obtain⟨hb,hq⟩:=KR h;cases hq;rcases EY.1 ho with rfl|ho
   .unfold lN;rw[e];exact hb
   .exact rest hC hab ho
  .rename_i c1 c2 c3;split at h
   .rename_i d hd;cases hk:Nat.blt d sA.n with
    |false=>rw[hk] at h;cases h
    |true=>
     rw[hk] at h;simp only[ax] at h;split at h
     .rename_i D g hv;cases h;simp only[List.cons.injEq] at hab;rcases EY.1 ho with rfl|ho
      .unfold lN;split
       .rename_i e;exact absurd e (c1 _ _)
       .rename_i e;exact absurd e (c2 _ _ _ _)
       .rename_i e;exact absurd e (c3 _ _)
       .exact Wr hv (λp hp=>hC p (List.mem_append_left _ hp)) hd (EG hk) hab.1.symm
      .exact rest (λp hp=>hC p (List.mem_append_right _ hp)) hab.2 ho
     .cases h
   .cases h
end
section
variable {P:Br} [M:Mix P] {st:St} {Q:Exit->St->Prop} {fn:Func} {Bs:List (St->Prop)} {m:Bool} {p:Bp}
def Ws(x:Option (JQ×Bo×Bo)):Bo:=match x with|some (_,a,_)=>a|none=>[]
def IF:Code->It
 | .region _ ops true=>ops.toList
 |_=>[]
def aaG:Code->Bool
 | .region _ _ true=>true
 |_=>false
theorem dMl(T kt et:Bn)(a:Nat)(A:List HP)
  (hQ:∀es clock,YB ((IF (bq p (ai fn))).filterMap (mM (iH st (U3 P (bK A) st (IF (bq p (ai fn))))))) es clock->Gp P fn Q Bs true p {st with fr:=U3 P (bK A) st (IF (bq p (ai fn)))++st.fr,σ:=(st.c+1,some ⟨T,[],some (.iter (some st.c) clock [] clock)⟩)::(st.c,some ⟨T,[],some (.map es clock)⟩)::st.σ,c:=st.c+2})
  (hc:EL P (bK A) (iH st (U3 P (bK A) st (IF (bq p (ai fn))))) st.c (IF (bq p (ai fn)))=some (pR A,Ws (EL P (bK A) (iH st (U3 P (bK A) st (IF (bq p (ai fn))))) st.c (IF (bq p (ai fn)))),Ws (EL P (bK A) (iH st (U3 P (bK A) st (IF (bq p (ai fn))))) st.c (IF (bq p (ai fn))))):=by kernel_rfl)
  (hs:JZ P st.n T kt et (IF (bq p (ai fn))) a=true:=by kernel_rfl) (hv:((U3 P (bK A) st (IF (bq p (ai fn)))).all λq=>(IF (bq p (ai fn))).any λo=>rk o q.1)=true:=by kernel_rfl) (hi:aaG (bq p (ai fn))=true:=by kernel_rfl):Gp P fn Q Bs false p st:=by
 show Tr P (bq p (ai fn)) st (dz P (bE p (ai fn) Bs []) Q)
 generalize hcd:bq p (ai fn)=c at hQ hc hs hv hi⊢
 generalize Ws _=gs at hc
 cases c with
 |region id ops d=>
  cases d with
  |false=>cases hi
  |true=>
   have:=J0 (id:=id) M.mx hs hv (IE _ _ _ _ hc (wR A) rfl) (Q:=dz P (bE p (ai fn) Bs []) Q) hQ
   rw[show ops=(IF (.region id ops true)).toArray from Array.toArray_toList.symm]
   exact this
 |_=>cases hi
theorem dRe(J:St)(O:List HP)(kk:Gp P fn Q Bs false p J)(vs:List Bn:=[])(ρ:Dx:=[])(kd:List (Nat×Rk):=[])(e:Iw P vs ρ kd J st=some (pR O,J):=by kernel_rfl):Gp P fn Q Bs false p st:=Tr.le kk (M6 e (wR O))
def U4(c a b:Nat):It->Bool
 |[⟨some a1,.next (.tmp it1) false,_,_,_,none⟩,⟨some b1,.extract (.tmp a2) 0,_,_,_,none⟩]=>Nat.beq a1 a&&Nat.beq it1 c&&Nat.beq b1 b&&Nat.beq a2 a
 |_=>false
def Wt(c a b b0:Nat):Code->Bool
 | .block b1 (.loop (.seq (.region _ ops false) (.seq (.cond (.tmp b') .skip (.exit b2)) _)))=>Nat.beq b1 b0&&Nat.beq b2 b0&&Nat.beq b' b&&U4 c a b ops.toList
 |_=>false
def YU:Code->Code
 | .block _ (.loop (.seq _ (.seq _ bd)))=>bd
 |_=> .skip
theorem Ty{it b0:Nat}{c:Code}(h:Wt it a b b0 c=true):∃id i j f g af1 k,c= .block b0 (.loop (.seq (.region id #[⟨some a,.next (.tmp it) false,i,f,af1,none⟩,⟨some b,.extract (.tmp a) 0,j,g,k,none⟩] false) (.seq (.cond (.tmp b) .skip (.exit b0)) (YU c)))):=by
 unfold Wt at h;split at h
 .rename_i b1 id ops b' b2 bd;simp only[bA] at h;obtain⟨⟨⟨h1,h2⟩,h3⟩,h4⟩:=h;obtain rfl:=bc h1;obtain rfl:=bc h2;obtain rfl:=bc h3;unfold U4 at h4;split at h4
  .rename_i a1 s l n f1 o a2 t2 q f2 d;simp only[bA] at h4;obtain⟨⟨⟨k1,k2⟩,k3⟩,r⟩:=h4;obtain rfl:=bc k1;obtain rfl:=bc k2;obtain rfl:=bc k3;obtain rfl:=bc r;have e:=congrArg List.toArray d;rw[Array.toArray_toList] at e;refine⟨id,l,t2,n,q,f1,f2,?_⟩;rw[e];rfl
  .cases h4
 .cases h
theorem dMw(j a b b0:Nat){iti mi clock since:Nat}{T ty:Bn}{es:oE}(S:Bp->St)(I:Bp->Prop)(hI:I [])
  (hlt:∀e∈es,e.2.2<clock) (c:since=clock) (h0:Le P st (S [])) (f:∀seen,gR (S seen).σ (aB (S seen) (.tmp j))=some (iti,T,some mi,since,seen,clock)) (hmap:∀seen,LD (S seen).σ (.mref mi)=some (mi,ty,es,clock))
  (hn:∀seen,a<(S seen).n/\b<(S seen).n)
  (body:∀(B:St->Prop) seen k g n,I seen->(k,g,n)∈es->n∉seen->(I (seen++[n])->B (S (seen++[n])))->Gp P fn Q (Bs++[B]) false (p++[2,2,1,1]) {S seen with fr:=(b,.lit (.bool true))::(a,.tup [.lit (.bool true),db k,g])::(S seen).fr,σ:=(iti,some ⟨T,[],some (.iter (some mi) since (seen++[n]) clock)⟩)::(S seen).σ})
  (fin:∀seen,I seen->(∀e∈es,e.2.2∈seen)->Gp P fn Q Bs true p {S seen with fr:=(b,.lit (.bool false))::(a,.tup [.lit (.bool false)])::(S seen).fr})
  (d:Wt j a b b0 (bq p (ai fn))=true:=by kernel_rfl) (i:YU (bq p (ai fn))=bq (p++[2,2,1,1]) (ai fn):=by kernel_rfl)
  (q:∀B,bE (p++[2,2,1,1]) (ai fn) (Bs++[B]) []= .lp B:: .blk b0::bE p (ai fn) Bs []:=by intro B;kernel_rfl):Gp P fn Q Bs false p st:=by
 show Tr P (bq p (ai fn)) st (dz P (bE p (ai fn) Bs []) Q)
 obtain⟨id,r,s,l,o,af1,v,hcd⟩:=Ty d
 rw[hcd,i]
 refine J1 (iti:=iti) (mi:=mi) (clock:=clock) (since:=since) (T:=T) (ty:=ty) (es:=es) (S:=S) I hI hlt c h0 f hmap hn (λseen k g n hi hm hns=>?_) λseen hi hs=>fin seen hi hs
 have:=body (λt=>t=S (seen++[n])/\I (seen++[n])) seen k g n hi hm hns λh=>⟨rfl,h⟩
 unfold Gp at this
 rw[q] at this
 refine Tr.mono this λe t ht=>?_
 unfold dz at ht
 cases e with
 |normal=>
  unfold uE at ht⊢
  obtain⟨u,hu,rfl,hx⟩:=ht
  exact⟨hx,hu⟩
 |_=>unfold uE at ht⊢;exact ht
end
section
variable {P:Br}
def U5(P:Br)(gl:CC)(fid:FuncId)(gs:Bo)(σR:aQ)(c:Nat){ι:Type}(g:ι->G)(U:ι->aQ)(c':ι->Nat):Prop:=∀(o:Oper) (st:St) (y:Dl) (xs:Array Dl) (ats:Array Bn) (fst cap:Bo),o.op= .call {callee:= .value y,args:=xs,argTypes:=ats}->(∀d,o.dst=some d->d<st.n)->aB st y= .clo (.func fid) fst cap->fst++xs.toList.map (aB st)++cap=gs->st.gl=gl->(∀q∈σR,ag st.σ q.1=q.2)->st.c=c->th P o st (λs=>∃x,s={st with σ:=U x++st.σ,c:=c' x}.put o.dst (g x))
theorem U6{gl:CC}{gs0 gs:Bo}{ι:Type}{σ0 σR:aQ}{σ1:ι->aQ}{r g:ι->G}{c:Nat}{c1 c':ι->Nat}(L:Bp)(U:ι->aQ)(hM:Xx P gl fid gs0 σ0 L.length r σ1 c1)
  (hin:w6 (vi L) σR σ0 0 L) (d:∀x,oI (G4 L c) (σ1 x) (U x)) (hlt:L.all (λi=>Nat.blt i c)=true:=by kernel_rfl) (hnd:decide L.Nodup=true:=by kernel_rfl) (hgs:gs.map (qg (vi L) 20)=gs0:=by kernel_rfl)
  (hk0:σ0.all (λq=>Nat.blt q.1 L.length)=true:=by kernel_rfl) (hcov:∀x,(List.range L.length).all (λk=>(U x).any λq=>Nat.beq q.1 k)=true) (hg:∀x,qg (G4 L c) 20 (r x)=g x) (hc:∀x,c+(c1 x-L.length)=c' x) (hR:σR.all (λq=>q.2.isSome)=true:=by kernel_rfl):U5 P gl fid gs σR c g (λx=>zO L c (U x)) c':=by
 intro o st y xs ats fst cap ho hd hf a hgl hq hsc
 have j:=hin.get
 have hgetR:∀i o,ag σR i=some o->ag st.σ i=some o:=λi o hh=>by
  have:∀l:aQ,(∀q∈l,q∈σR)->ag l i=some o->ag st.σ i=some o:=by
   intro l;induction l with
   |nil=>intro _ h;cases h
   |cons q t ih=>grind
  grind
 have key:=MC (o:=o) (st:=st) (f:=y) (xs:=xs) (ats:=ats) (fid:=fid) (fst:=fst) (cap:=cap) L (gs0:=gs0) (σ0:=σ0) (r:=r) (σ1:=σ1) (c1:=c1) ho hd hf (by rw[hgl];exact hM) (λk i hk=>by
   have:=GE.1 hlt i (bO hk);simp_all) (DP hnd) (by rw[a,hgs]) (by grind) (λk o hkk=>by
   have:∀l:aQ,(∀q∈l,q∈σ0)->ag l k=some o->k<L.length:=by
    intro l;induction l with
    |nil=>intro _ h;cases h
    |cons q t ih=>
     intro hs h;rw[show(q::t:aQ)=(q.1,q.2)::t from rfl,A3] at h;split at h
     .rename_i e;subst e;exact EG (GE.1 hk0 q (by grind))
     grind
   grind) (λx=>zO L c (U x)++st.σ) (λx i o hh=>by
   have:∀l:aQ,(∀q∈l,q∈U x)->ag (zO L c l++st.σ) i=some o->(∃k,(k,some o)∈U x/\G4 L c k=some i)\/(ag st.σ i=some o/\∀q∈l,G4 L c q.1≠some i):=by intro l;induction l<;>grind [zO,G4]
   rcases this (U x) (λ_ h=>h) hh with⟨k,b,h1⟩|⟨h1,h2⟩
   .grind [oI.get]
   .refine .inr ⟨h1,λhi=>?_⟩;obtain⟨k,hk⟩:=EO hi;have hkl:=(cr hk).1;obtain⟨q,b,he⟩:=List.any_eq_true.1 (GE.1 (hcov x) k (List.mem_range.2 hkl));refine h2 q b ?_;rw[bc he];unfold G4;rw[hk])
 grind
end
section
variable {P:Br} [M:Mix P] {st:St} {Q:Exit->St->Prop} {fn:Func} {Bs:List (St->Prop)} {m:Bool} {p:Bp} {ι:Type}
def YV(a b d:Nat):Code->Bool
 | .region _ ops false=>match ops.toList with
  |[⟨some a',.move _,_,_,_,none⟩,⟨some b',.call {callee:= .value _,args:=_,argTypes:=_},_,_,_,none⟩,⟨some d',.assign (.tmp b2),_,_,_,none⟩]=>Nat.beq a' a&&Nat.beq b' b&&Nat.beq d' d&&Nat.beq b2 b
  |_=>false
 |_=>false
def Z0:Code->Dl
 | .region _ ops _=>match ops.toList with
  |[⟨_,.move x,_,_,_,_⟩,_,_]=>x
  |_=> .tmp 0
 |_=> .tmp 0
def c3Y:Code->Dl
 | .region _ ops _=>match ops.toList with
  |[_,⟨_,.call {callee:= .value y,args:=_,argTypes:=_},_,_,_,_⟩,_]=>y
  |_=> .tmp 0
 |_=> .tmp 0
def c3A:Code->List Dl
 | .region _ ops _=>match ops.toList with
  |[_,⟨_,.call {callee:= .value _,args:=xs,argTypes:=_},_,_,_,_⟩,_]=>xs.toList
  |_=>[]
 |_=>[]
theorem U7{K:St->Prop}{o:Oper}{st st1:St}(hg:o.guard=none)(hs:GS P o st st1)(h:vU P ops K rest st1):vU P ops K (o::rest) st:= .inl ⟨by simp[ce,hg],hs.gsn.eqv (by grind [Xg.refl])⟩
theorem YW{K:St->Prop}{o:Oper}{st:St}{S:St->Prop}(hg:o.guard=none)(hs:th P o st S)(h:∀s,S s->vU P ops K rest s):vU P ops K (o::rest) st:= .inl (by grind [ce,th.eqv,Xg.refl])
theorem dCl(a b d:Nat){gs:Bo}{σR:aQ}{g:ι->G}{U:ι->aQ}{c':ι->Nat}{fst cap:Bo}(hF:U5 P st.gl fid gs σR st.c g U c')
  (h:∀x,Gp P fn Q Bs true p {st with fr:=(d,g x)::(b,g x)::(a,aB st (Z0 (bq p (ai fn))))::st.fr,σ:=U x++st.σ,c:=c' x})
  (hi:YV a b d (bq p (ai fn))=true:=by kernel_rfl) (hy:aB {st with fr:=(a,aB st (Z0 (bq p (ai fn))))::st.fr} (c3Y (bq p (ai fn)))= .clo (.func fid) fst cap:=by kernel_rfl)
  (hx:fst++(c3A (bq p (ai fn))).map (aB {st with fr:=(a,aB st (Z0 (bq p (ai fn))))::st.fr})++cap=gs:=by kernel_rfl)
  (hR:σR.map (λq=>ag st.σ q.1)=σR.map (·.2):=by kernel_rfl) (hn:(Nat.blt a st.n&&Nat.blt b st.n&&Nat.blt d st.n)=true:=by kernel_rfl):Gp P fn Q Bs false p st:=by
 show Tr P (bq p (ai fn)) st (dz P (bE p (ai fn) Bs []) Q)
 replace h:∀x,dz P (bE p (ai fn) Bs []) Q .normal _:=h
 revert hi hy hx h
 generalize bq p (ai fn)=c
 intro hi hy hx h
 unfold YV at hi
 split at hi
 .rename_i id ops
  split at hi
  .rename_i a' x k o f1 b' y xs ats t2 r f2 A b2 t u v f
   simp only[bA] at hi hn
   obtain⟨⟨⟨k1,k2⟩,k3⟩,i⟩:=hi
   obtain⟨⟨n1,n2⟩,j⟩:=hn
   obtain rfl:=bc k1
   obtain rfl:=bc k2
   obtain rfl:=bc k3
   obtain rfl:=bc i
   have e:=congrArg List.toArray f
   rw[Array.toArray_toList] at e
   subst e
   simp only[Z0,c3Y,c3A] at h hy hx
   refine lG (U7 rfl (fM (g:=aB st x) (λz hz=>by cases hz;exact EG n1) rfl) (YW rfl (hF _ _ y xs ats fst cap rfl (λz hz=>by cases hz;exact EG n2) hy hx rfl (λq hq=>?_) rfl) ?_))
   .have:∀l:aQ,l.map (λq=>ag st.σ q.1)=l.map (·.2)->∀q∈l,ag st.σ q.1=q.2:=by simp_all
    exact this σR hR q hq
   .rintro s ⟨z,rfl⟩
    refine U7 rfl (fM (g:=g z) (λw hw=>by cases hw;exact EG j) ?_) (h z)
    exact congrArg some ((aO ..).trans (Bx rfl))
  .cases hi
 .cases hi
def YX(P:Br)(fn:Func)(gl:CC){ι:Type}(r:ι->G)(σ1:ι->aQ)(c1:ι->Nat)(e:Exit)(s:St):Prop:=(e= .normal\/e= .ret)/\s.gl=gl/\∃x,(∀k o,ag (σ1 x) k=some o->ag s.σ k=some o)/\s.c=c1 x/\∃a,fn.results.toList.mapM (jV P s)=some a/\r x=iU a
theorem YY{gl:CC}{r:ι->G}{σ1:ι->aQ}{c1:ι->Nat}{ex:Exit}{S0:St}(x:ι)(h:Ok P fn gl (r x) (σ1 x) (c1 x) ex S0):YX P fn gl r σ1 c1 ex S0:=by obtain⟨h1,h2,h3,h4,h5⟩:=h;exact⟨h1,h2,x,h3,h4,h5⟩
theorem dMF{gl:CC}{f:FuncId}{gs:Bo}{σ0:aQ}{c0:Nat}{r:ι->G}{σ1:ι->aQ}{c1:ι->Nat}(hf:P.funcs[f]?=some fn)(h:Gp P fn (YX P fn gl r σ1 c1) [] false [] ⟨fn.ntmps,gl,bQ 0 gs,σ0,c0,c0,false⟩)(hc:aK P f=true:=by kernel_rfl)(hb:fn.body.isSome=true:=by kernel_rfl)(hn:Nat.ble gs.length fn.ntmps=true:=by kernel_rfl):Xx P gl f gs σ0 c0 r σ1 c1:=by
 obtain⟨body,hb'⟩:=Vn.1 hb;refine⟨hc,fn,body,hf,hb',EG hn,?_⟩;have e:ai fn=body:=by grind [ai]
 rw[<-e];exact Tr.leQ h
end
section
attribute [local irreducible] Tr dz Gp
section
variable {P:Br}
theorem AfO{st:St}{ρ:Dx}:∀{l:aQ},(∀q∈l,∃j,dq ρ q.1=some j/\XU (I3 ρ) (ag st.σ j) q.2)->Dp P st ρ l
 |[],_=>BT
 |(i,o)::r,h=>by obtain⟨j,h1,h2⟩:=h (i,o) aC;exact Abf h1 h2 (AfO (by grind))
def GI(f:Nat->Nat):Dx:=L0.map λk=>(k,f k)
def okF(f:Nat->Nat):Bool:=L0.all λk=>(match I3 (GI f) (f k) with|some j=>Nat.beq j k|none=>false)&&(match dq (GI f) k with|some j=>Nat.beq j (f k)|none=>false)
theorem AfP{f:Nat->Nat}(h:okF f=true)(hk:k<14):I3 (GI f) (f k)=some k/\dq (GI f) k=some (f k):=by have:=GE.1 h k (by have:k∈List.range 14:=List.mem_range.2 hk;exact this);grind [bc]
def rlD(P:Br)(hs:List Hn)(m:Code⊕Exit)(K:List Kf)(fn:Func)(f:Nat->Nat)(R':Ad)(r:G)(st:St):Option (Prop×Bp×JQ):=match sy P hs 1000000 1000 m K st with
 |some (C,u,.fin e s)=>match tc e,vR P s fn.results.toList with
  |true,some gs=>bif ER (GI f) s.p then some (C,u,(iU gs=r/\bB r)::L0.map λk=>∀ob,Bv f R' k=some ob->ag s.σ (f k)=some ob)else none
  |_,_=>none
 |_=>none
section
variable [M:Mix P] {fn:Func} {r:G} {Bs:List (St->Prop)} {m:Bool} {p:Bp} {st:St}
theorem Ht(f:Nat->Nat)(R':Ad)(hR:Bf R')(A O:List HP)(hf:okF f=true:=by kernel_rfl)(hk:T0 A (rlD P (bK A) (LO m p (ai fn)) (bE p (ai fn) Bs []) fn f R' r st) (pR O):=by exact⟨aH,aH⟩):Gp P fn (zE P fn r (Bz f0 R')) Bs m p st:=by
 obtain⟨C,u,hC,e⟩:=hk.out;unfold Gp;unfold rlD at e;split at e
 .rename_i b c x s h1;split at e
  .rename_i gs hx hg;cases hb:ER (GI f) s.p with
   |false=>rw[hb] at e;cases e
   |true=>
    rw[hb] at e;simp only[ax,Ft,Gb] at e;obtain⟨rfl,rfl,hL⟩:=e;have hp:∀q∈(iU gs=r/\bB r)::L0.map λk=>∀ob,Bv f R' k=some ob->ag s.σ (f k)=some ob,q:=by rw[hL];exact wR O
    obtain⟨rfl,hi⟩:=hp _ (List.mem_cons_self ..);simp only[ER,bA] at hb;obtain⟨⟨k1,k2⟩,k3⟩:=hb;refine oK M.mx (out:= .fin x s) ⟨s,Le.refl _,eO hx,gs,GI f,gh hg,λi hi=>?_,λi d j h1 h2=>?_,ry hi,AfO λq hq=>?_⟩ 1000 _ _ _ _ _ h1 hC
    .grind [bc]
    .have:=GE.1 (GE.1 k2 _ (Gt h1)) _ (Gt h2);grind [Nat.beq_refl,bc]
    .rw[G9] at hq;obtain⟨k,hk,rfl⟩:=E7.1 hq;have hk':=List.mem_range.1 hk;obtain⟨g1,g2⟩:=AfP hf hk';refine⟨f k,g2,λa h=>?_⟩;obtain⟨ob,h2,h3⟩:=O6 (λk ⟨ob,h⟩=>(AfP hf (DT h)).1) hR k a h;exact⟨ob,hp (∀ob,Bv f R' k=some ob->ag s.σ (f k)=some ob) (List.mem_cons_of_mem _ (E7.2 ⟨k,hk,rfl⟩)) ob h2,h3⟩
  .cases e
 .cases e
def hme(d:Nat)(R:Bp)(c:Nat){σ:aQ}{t:Bn}{gm gk g:G}{i:Nat}{ob:Ob}(h:ov P σ t gm gk=some (i,ob,g)):HP:=⟨some (.e d g i ob),ov P (Uy σ (fR gm)) t gm gk=some (i,ob,g),(Afk Hs).symm.trans h⟩
def hms(d:Nat)(R:Bp)(c:Nat){σ:aQ}{gm gs g:G}{i:Nat}{ob:Ob}(h:jX σ gm gs g=some (i,ob)):HP:=⟨some (.e (2000000+d) (.lit undef) i ob),jX (Uy σ (fR gm)) gm gs g=some (i,ob),(AiY Hs).symm.trans h⟩
def Lu(d:Nat){σ:aQ}{t:Bn}{ok:Bool}{i:Nat}{gk g:G}(h:bL P σ t ok (.mref i) gk=some g):HP:=⟨some (.m d g),bL P σ t ok (.mref i) gk=some g,h⟩
def hmp(c:Nat){σ:aQ}{t:Bn}{gm gk g:G}{i:Nat}{ob:Ob}(h:dZ P σ t gm gk g=some (i,ob)):HP:=⟨some (.e 999999998 (.lit undef) i ob),dZ P (Uy σ (fR gm)) t gm gk g=some (i,ob),(aah Hs).symm.trans h⟩
def hmd(c:Nat){σ:aQ}{t:Bn}{gm gk:G}{i:Nat}{ob:Ob}(h:FN P σ t gm gk=some (i,ob)):HP:=⟨some (.e 999999998 (.tup []) i ob),FN P (Uy σ (fR gm)) t gm gk=some (i,ob),(Afl Hs).symm.trans h⟩
end
end
def Dq(R:Ad)(d:Int):Int:=(DW (R.cards.get d)).Member
def DZ(R:Ad)(d:Int):Bool:=decide (0<Dq R d)&& !(Hi (R.was.get d))
def Pl(R:Ad)(d:Int):Bool:=Hi (R.in_.get d)
def M7(R:Ad)(m:Int):Int:=match R.members.get m with
 |none=>0
 |some x=>x.role
theorem Adn(k:Int):Instr.sameBits 10000 (JR k) (JR k)=true:=by simp[JR,Instr.sameBits]
def JU(m:FM Int Az):FM Int JP:=⟨m.es.map λe=>(e.1,some e.1,e.2.2),m.clk⟩
def vgM(f:Nat->Nat):JP->G
 |none=>Acp
 |some k=> .ref (f (nM k)) 0
theorem Y5(m:FM Int Az)(k:Int):(JU m).get k=(m.get k).map λ_=>some k:=by unfold FM.get JU;dsimp only;induction m.es<;>grind
theorem QN(f:Nat->Nat)(R:Ad):R8 f R=No Wq JR (vgM f) (JU R.members):=by show(⟨_,_,some (.map _ _)⟩:Ob)=⟨_,_,some (.map _ _)⟩;unfold JU mEs Wv;dsimp only;rw[IX];rfl
theorem Ad8(m:FM Int Az)(k:Int):Sc (JU m) k=JU (Sc m k):=by
 unfold Sc;have:(JU m).es.map (·.1)=m.es.map (·.1):=by unfold JU;rw[IX];rfl
 grind [JU,Aaq]
def ptM(R:Ad)(m:Int):G:=if(R.members.get m).isSome then .ref (nM m) 0 else Acp
theorem AfQ(R:Ad)(m:Int){σ:aQ}(h:ag σ 4=some (R8 f0 R)):bL prog σ Wq false (.mref 4) (iG m)=some (ptM R m):=by rw[QN] at h;rw[S8 (P:=prog) (t:=Wq) (kt:=3) (et:=127) PE aH (k:=m) rfl h,FM.look1 (et:=127) PE (v0:=none) aH aH (JU R.members) m rfl,Y5];unfold ptM;cases R.members.get m<;>rfl
theorem Aj7(R:Ad)(m:Int):bL prog [(4,some (R8 f0 R))] Wq false (.mref 4) (iG m)=some (ptM R m):=AfQ R m rfl
theorem R9{R:Ad}(hm:R.members.get m=some x):bL prog [(4,some (R8 f0 R))] Wq false (.mref 4) (iG m)=some (.ref (nM m) 0):=(AfQ R m rfl).trans (by unfold ptM;rw[hm];rfl)
theorem Ww{R:Ad}{m:Int}(hm:R.members.get m=none):bL prog [(4,some (R8 f0 R))] Wq false (.mref 4) (iG m)=some Acp:=(AfQ R m rfl).trans (by unfold ptM;rw[hm];rfl)
abbrev inR(R:Ad)(d:Int):Ad:={R with in_:=C4 R.in_ d true,was:=C4 R.was d true}
def Jk(R:Ad)(d role:Int):Ad:=bif DZ R d then{R with in_:=C4 R.in_ d true,was:=C4 R.was d true,members:=bif(R.members.get (Dq R d)).isSome then R.members else C4 R.members (Dq R d) ⟨role,none⟩} else R
theorem Abt(R:Ad)(d:Int):ba prog gl 70 [.ptr (CB R) 0,iG d] (iG (Dq R d)):=PA gl rfl
theorem Abu(R:Ad)(d:Int):ba prog gl 71 [.ptr (CB R) 0,iG d] (bG (DZ R d)):=SD gl (by unfold PB DZ Dq;show Option.bind (bif 0<(DW (R.cards.get d)).Member then _ else _) _=_;grind)
theorem AhV{a:Int}:∀x∈[iG a],bB x:=by grind [mN]
abbrev hof(d:Nat){R:Ad}(hR:Bf R)(x:Int)(c:Nat:=14):HP:=hrl d f0 c hR (Abt gl R x) AhV (lR _)
abbrev AfR(d:Nat){R:Ad}(hR:Bf R){x y:Int}(h:Dq R x=y)(c:Nat:=14):HP:=hrl d f0 c hR (h▸Abt gl R x) AhV (lR _)
abbrev hfr(d:Nat){R:Ad}(hR:Bf R){x:Int}{b:Bool}(h:DZ R x=b)(c:Nat:=14):HP:=hrl d f0 c hR (h▸Abu gl R x) AhV (lR _)
abbrev N7:List (Nat×Rk):=L0.map λk=>(k,.any)
def okR(ρ:Dx)(f:Nat->Nat):Bool:=L0.all λk=>match I3 ρ (f k) with|some j=>Nat.beq j k|none=>false
theorem Aai{ρ:Dx}{f:Nat->Nat}(h:okR ρ f=true)(hk:k<14):I3 ρ (f k)=some k:=by have:=GE.1 h k (by have:k∈List.range 14:=List.mem_range.2 hk;exact this);grind [bc]
abbrev rlB(ρ:Dx)(f:Nat->Nat){R:Ad}(hR:Bf R)(h:okR ρ f=true:=by kernel_rfl):List HP:=L0.map λk=>hc (O6 (κ:=I3 ρ) (f:=f) (f':=f0) (λk ⟨ob,hk⟩=>Aai h (DT hk)) hR k)
abbrev rlA{R:Ad}(hR:Bf R):List HP:=rlB (GI f0) f0 hR
abbrev rlK(R:Ad):List HP:=hc (⟨rfl,L7 aC⟩:iU []=iU []/\bB (iU []))::L0.map λk=>hc (λob h=>h:∀ob,Bv f0 R k=some ob->Bv f0 R k=some ob)
theorem AhW(hR:Bf R)(h:R.members.get m=some x):m=1\/m=2\/m=3:=by grind [Bf,Ge]
theorem AfS(h:DZ R d=true):0<Dq R d:=by grind [DZ]
theorem AfT(hR:Bf R)(hf:DZ R d=true):Bf (inR R d):=⟨OQ hR.ci true,OQ hR.cw true,hR.cm,hR.m3,hR.c3,hR.cv,hR.gm,hR.gN,hR.vb,λe he=>by have hk:e.1∈(C4 R.in_ d true).es.map (·.1):=E7.2 ⟨e,he,rfl⟩;rw[Q2] at hk;have hd:=hR.c6 d (AfS hf);grind [Bf],hR.c6,hR.gn⟩
theorem Aj8(hR:Bf R)(hm:1<=m/\m<=3)(role:Int):Bf {R with members:=C4 R.members m ⟨role,none⟩}:=⟨hR.ci,hR.cw,OQ hR.cm _,(by grind [Bf,C4]),hR.c3,(by grind [BA,Bf.cv]),(by grind [BA,Bf.gm]),(by grind [Bf,BA]),(by grind [Bf,BA]),hR.i6,hR.c6,(by grind [BA,Bf.gn])⟩
theorem HB{R:Ad}(hR:Bf R)(d role:Int):Bf (Jk R d role):=by
 unfold Jk;cases hf:DZ R d with
 |false=>exact hR
 |true=>
  cases(R.members.get (Dq R d)).isSome with
  |true=>exact AfT hR hf
  |false=>refine Aj8 (AfT hR hf) ?_ role;grind [Bf,DZ,Dq]
def fN(a b k:Nat):Nat:=bif Nat.beq k a then b else k
theorem AhX{R:Ad}(hR:Bf R){m:Nat}(hm:R.members.get (m:Int)=none)(h3:m=1\/m=2\/m=3)(x:Az){σ:aQ}(h:ag σ 4=some (R8 f0 R)):dZ prog σ Wq (.mref 4) (iG (m:Int)) (.ref 14 0)=some (4,R8 (fN (4+m) 14) {R with members:=C4 R.members (m:Int) x}):=by
 rw[QN] at h;have hk:bu (m:Int) ((JU R.members).es.map (·.1))=none:=by
  cases hk:bu (m:Int) ((JU R.members).es.map (·.1)) with
  |none=>rfl
  |some j=>obtain⟨e,_,_,h2⟩:=Nd hk;rw[Y5,hm] at h2;cases h2
 have hk':bu (m:Int) (R.members.es.map (·.1))=none:=by rw[show R.members.es.map (·.1)=(JU R.members).es.map (·.1) by unfold JU;rw[IX];rfl];exact hk
 unfold dZ;rw[show pB prog Wq=some (3,127) from by kernel_rfl,show cD (iG (m:Int))=some (JR (m:Int)) from rfl,QO h];dsimp only;rw[PE.chk,ax,PP,PE.key,hk];unfold R8 Wv C4;rw[hk'];dsimp only;rw[List.map_append];congr 5;show mEs JR (vgM f0) (JU R.members)++_=_;unfold mEs JU;rw[IX];congr 1
 .refine List.map_congr_left λe he=>?_;obtain⟨h1,h2⟩:=hR.mem he;have hne:Nat.beq (nM e.1) (4+m)=false:=by grind [nM,bc]
  show(JR e.1,G.ref (nM e.1) 0,e.2.2)=(JR e.1,G.ref (fN (4+m) 14 (nM e.1)) 0,e.2.2);unfold fN;rw[hne];rfl
 grind [fN,nM,Nat.beq_refl]
abbrev SW(R:Ad)(m:Nat)(role:Int):Ad:={R with members:=C4 R.members (m:Int) ⟨role,none⟩}
theorem Wx{R:Ad}{m:Nat}{role:Int}(k:Int):(SW R m role).members.get k=if k=(m:Int)then some ⟨role,none⟩else R.members.get k:=BA _ _
theorem Al9{R:Ad}{m:Nat}(hm:R.members.get (m:Int)=none)(h3:m=1\/m=2\/m=3)(role:Int)(k:Nat)(hk:k≠4)(hk':k≠4+m):Bv f0 R k=Bv (fN (4+m) 14) (SW R m role) k:=by
 have hM:∀j,j=1\/j=2\/j=3->j≠m->roM f0 R j=roM (fN (4+m) 14) (SW R m role) j:=λj hj hne=>by unfold roM;rw[Wx,BB aa];rcases h3 with rfl|rfl|rfl<;>rcases hj with rfl|rfl|rfl<;>rfl
 have hB:∀j:Nat,(SW R m role).members.get (j:Int)=none\/True->((SW R m role).members.get (j:Int)).bind (·.guard)=(R.members.get (j:Int)).bind (·.guard):=by grind [Wx]
 have hG:∀j,j=1\/j=2\/j=3->roG f0 R j=roG (fN (4+m) 14) (SW R m role) j:=λj hj=>by unfold roG;rw[hB j (.inr trivial)];rcases h3 with rfl|rfl|rfl<;>rcases hj with rfl|rfl|rfl<;>rfl
 have hV:∀j,roV R j=roV (SW R m role) j:=by grind [roV]
 rcases JF k 14 with hlt|hge
 .match k,hlt with
  |0,_=>rcases h3 with rfl|rfl|rfl<;>rfl
  |1,_=>rfl
  |2,_=>rfl
  |3,_=>rfl
  |4,_=>exact absurd rfl hk
  |5,_=>exact hM 1 aa aa
  |6,_=>exact hM 2 aa aa
  |7,_=>exact hM 3 aa aa
  |8,_=>exact hG 1 aa
  |9,_=>exact hG 2 aa
  |10,_=>exact hG 3 aa
  |11,_=>exact hV 1
  |12,_=>exact hV 2
  |13,_=>exact hV 3
 .obtain⟨j,rfl⟩:∃j,k=j+14:=⟨k-14,aa⟩;rfl
theorem Aj9{R:Ad}{m:Nat}(h3:m=1\/m=2\/m=3)(role:Int):some ⟨tMe,[iG role,Acp],none⟩=Bv (fN (4+m) 14) (SW R m role) (4+m):=by have h:=Wx (R:=R) (m:=m) (role:=role) m;rw[Bx rfl] at h;rcases h3 with rfl|rfl|rfl<;>exact(by show _=Option.map _ _;rw[h];rfl)
abbrev rlN{R:Ad}{m:Nat}(hm:R.members.get (m:Int)=none)(h3:m=1\/m=2\/m=3)(role:Int):List HP:=hc (⟨rfl,L7 aC⟩:iU []=iU []/\bB (iU []))::L0.map λk=>if h:k=4 then hc (λob h=>h:∀ob,Bv (fN (4+m) 14) (SW R m role) 4=some ob->some (R8 (fN (4+m) 14) (SW R m role))=some ob)else if h':k=4+m then hc (λob h=>(Aj9 (R:=R) h3 role).trans h:∀ob,Bv (fN (4+m) 14) (SW R m role) (4+m)=some ob->some ⟨tMe,[iG role,Acp],none⟩=some ob)else hc (λob h2=>(Al9 hm h3 role k h h').trans h2:∀ob,Bv (fN (4+m) 14) (SW R m role) k=some ob->Bv f0 R k=some ob)
theorem RW{i:Nat}{o:Option Ob}:ag [(i,o)] i=o:=by simp[A3]
abbrev hst(a b i:Nat){m:FM Int Bool}(k:Int)(h:FxOk m):HP:=hme a [i] 14 (Akg (P:=prog) (σ:=[(i,some (No Y3 JR bG m))]) (t:=Y3) (t':=Y3) (et:=4) (v0:=false) PE Adn aH aH (k:=k) (gk:=iG k) rfl RW)
abbrev Ama(b a i:Nat){m:FM Int Bool}(k:Int)(h:FxOk m):HP:=hms a [i] 14 (Akh (σ:=[(i,some (No Y3 JR bG (C4 m k ((m.get k).getD false))))]) (i:=i) (t':=Y3) (kv:=JR) (vg:=bG) (m:=m) (k:=k) (v0:=(m.get k).getD false) h RW true)
theorem Wy{R:Ad}(hR:Bf R)(d role:Int):R4 prog gl 72 [.ref 0 0,iG d,iG role] (Bz f0 R) 14 5 (iU []) (Bz f0 (Jk R d role)):=by
 have hok:=HB hR d role;refine dFP func72 ?_;unfold Jk at hok⊢;cases hb:DZ R d with
 |false=>exact Ht f0 R hR [hfr gl 9 hR hb] (rlK R)
 |true=>
  rw[hb] at hok;rw[ax] at hok⊢;have h1:=AfT hR hb;have h3:1<=Dq R d/\Dq R d<=3:=by unfold DZ at hb;simp only[bA,decide_eq_true_eq] at hb;exact⟨aa,(hR.c3 d).2⟩
  refine pO 1110 (s0 43 gl [(0,.ref 0 0),(1,iG d),(2,iG role)] (Bz f0 (inR R d)) 14 5) [hfr gl 9 hR hb,hst 21 22 2 d hR.ci.1,Ama 21 22 2 d hR.ci.1,hst 23 24 3 d hR.cw.1,Ama 23 24 3 d hR.cw.1] (rlA h1) ?_ (ρ:=GI f0) (kd:=N7);cases hm:R.members.get (Dq R d) with
  |some x=>exact Ht f0 _ h1 [hof gl 27 h1 d,Lu 33 (R9 (R:=inR R d) hm)] (rlK (inR R d))
  |none=>
   rw[hm] at hok;obtain⟨m,hd,a⟩:∃m:Nat,Dq R d=(m:Int)/\(m=1\/m=2\/m=3):=⟨(Dq R d).toNat,aa,aa⟩;rw[hd] at hm hok⊢;have h2:Bf (SW (inR R d) m role):=hok;have hg:=AhX h1 (m:=m) hm a ⟨role,none⟩ (σ:=(14,some ⟨tMe,[iG role,Acp],none⟩)::Bz f0 (inR R d)) rfl;have fin:∀(_:okF (fN (4+m) 14)=true) (e1),Gp prog Tryz.f72 (zE prog Tryz.f72 (iU []) (Bz f0 (SW (inR R d) m role))) [] false [1,1,0] (s0 43 gl [(0,.ref 0 0),(1,iG d),(2,iG role)] (Bz f0 (inR R d)) 14 5):=λh e1=>Ht (fN (4+m) 14) _ h2 [AfR gl 27 h1 hd,Lu 33 (Ww (R:=inR R d) hm),hmp 15 hg] (rlN (R:=inR R d) hm a role) h e1;rcases a with rfl|rfl|rfl
   all_goals exact fin aH ⟨aH,aH⟩
abbrev I6(R:Ad)(d:Int):Ad:={R with in_:=Sc R.in_ d}
abbrev Sb(R:Ad)(m:Int):Ad:={R with members:=Sc R.members m}
def MJ(R:Ad)(m:Int):Bool:=R.in_.es.any λe=>decide (Dq R e.1=m)
def Hg(R:Ad)(d:Int):Ad:=bif Pl R d then(bif MJ (I6 R d) (Dq R d)then I6 R d else Sb (I6 R d) (Dq R d))else R
theorem Aaj(hR:Bf R)(d:Int):Bf (I6 R d):=⟨UU hR.ci,hR.cw,hR.cm,hR.m3,hR.c3,hR.cv,hR.gm,hR.gN,hR.vb,λe he=>hR.i6 e (AbA he),hR.c6,hR.gn⟩
theorem NS(hR:Bf R)(k:Int):(Sb R m).members.get k=if k=m then none else R.members.get k:=N5 hR.cm _
theorem AfU(hR:Bf R)(m:Int):Bf (Sb R m):=⟨hR.ci,hR.cw,UU hR.cm,λe he=>hR.m3 e (AbA he),hR.c3,(by grind [NS,Bf.cv]),(by grind [NS,Bf.gm]),(by grind [Bf,NS]),(by grind [Bf,NS]),hR.i6,hR.c6,(by grind [NS,Bf.gn])⟩
theorem K3{R:Ad}(hR:Bf R)(d:Int):Bf (Hg R d):=by
 unfold Hg;cases Pl R d with
 |false=>exact hR
 |true=>
  rw[ax];cases MJ (I6 R d) (Dq R d) with
  |true=>exact Aaj hR d
  |false=>exact AfU (Aaj hR d) _
theorem Amb(hR:Bf R){m:Int}(k:Nat)(hk:k≠4):∀ob,Bv f0 (Sb R m) k=some ob->Bv f0 R k=some ob:=λob h=>by
 have hg:∀j x,(Sb R m).members.get j=some x->R.members.get j=some x:=by grind [NS]
 have hM:∀j ob,roM f0 (Sb R m) j=some ob->roM f0 R j=some ob:=by grind [roM,DG]
 have hB:∀j x,((Sb R m).members.get j).bind (·.guard)=some x->(R.members.get j).bind (·.guard)=some x:=by grind [GJ]
 have hG:∀j ob,roG f0 (Sb R m) j=some ob->roG f0 R j=some ob:=by grind [roG,DG]
 have hV:∀j ob,roV (Sb R m) j=some ob->roV R j=some ob:=by grind [roV,DG]
 match k,DT h with
 |0,_=>exact h
 |1,_=>exact h
 |2,_=>exact h
 |3,_=>exact h
 |4,_=>exact absurd rfl hk
 |5,_=>exact hM _ _ h
 |6,_=>exact hM _ _ h
 |7,_=>exact hM _ _ h
 |8,_=>exact hG _ _ h
 |9,_=>exact hG _ _ h
 |10,_=>exact hG _ _ h
 |11,_=>exact hV _ _ h
 |12,_=>exact hV _ _ h
 |13,_=>exact hV _ _ h
abbrev AnU{R:Ad}(hR:Bf R)(m:Int):List HP:=hc (⟨rfl,L7 aC⟩:iU []=iU []/\bB (iU []))::L0.map λk=>if h:k=4 then hc (λob h=>h:∀ob,Bv f0 (Sb R m) 4=some ob->some (R8 f0 (Sb R m))=some ob)else hc (Amb hR (m:=m) k h)
theorem N3{α β:Type}{f:α->β}:∀{l:List α},(l.map f).Nodup->∀{x y:α},x∈l->y∈l->f x=f y->x=y
 |[],_,x,_,h,_,_=>by cases h
 |a::r,hd,x,y,hx,hy,e=>by
  rw[Fo,M2] at hd;rcases EY.1 hx with h1|h1<;>rcases EY.1 hy with h2|h2
  .rw[h1,h2]
  .grind
  .grind
  .exact N3 hd.2 h1 h2 e
theorem AhY(R:Ad)(d:Int):bL prog [(2,some (No Y3 JR bG R.in_))] Y3 false (.mref 2) (iG d)=some (bG (Pl R d)):=(S8 (et:=4) PE aH (k:=d) rfl rfl).trans (SA R.in_ d _)
abbrev Aak(t:Bn)(i clk:Nat)(seen:Bp):Option Ob:=some ⟨t,[],some (.iter (some i) clk seen clk)⟩
abbrev stW(R:Ad)(seen:Bp):aQ:=Bz f0 R++[(14,Aak Y3 2 R.in_.clk seen)]
theorem Aal{R:Ad}(hR:Bf R)(d:Int):R4 prog gl 73 [.ref 0 0,iG d] (Bz f0 R) 14 5 (iU []) (Bz f0 (Hg R d)):=by
 refine dFP func73 ?_;have lk:=AhY R d;unfold Hg;cases hb:Pl R d with
 |false=>rw[hb] at lk;exact Ht f0 R hR [Lu 11 lk] (rlK R)
 |true=>
  rw[hb] at lk;rw[ax];have h1:=Aaj hR d;have hd:=Amk (P:=prog) (σ:=Bz f0 R) (i:=2) (t:=Y3) (t':=Y3) (vg:=bG) (et:=4) PE aH (k:=d) (gk:=iG d) rfl (m:=R.in_) rfl;refine pO 111100 (s0 40 gl [(0,.ref 0 0),(1,iG d),(4,iG (Dq R d))] (Bz f0 (I6 R d)) 14 5) [Lu 11 lk,hmd 14 hd,hof gl 20 h1 d] (rlA h1) ?_ (ρ:=GI f0) (kd:=N7);refine yl (Bs':=[]) [1,1,1,0,0] (J:=(s0 40 gl [(0,.ref 0 0),(1,iG d),(4,iG (Dq R d)),(25,.ref 14 0)] (stW (I6 R d) []) 15 5)) [] (rlB (GI f0++[(14,14)]) f0 h1) ?_ (ρ:=GI f0++[(14,14)]) (kd:=N7);refine dNx 111101 ?_;generalize hm:Dq R d=m;have hmm:∀e,Dq (I6 R d) e=Dq R e:=λe=>rfl;refine dMw 25 26 27 0 (iti:=14) (mi:=2) (clock:=(I6 R d).in_.clk) (since:=(I6 R d).in_.clk) (T:=Y3) (ty:=Y3) (es:=mEs JR bG (I6 R d).in_) (λseen=>(s0 40 gl [(0,.ref 0 0),(1,iG d),(4,iG m),(25,.ref 14 0)] (stW (I6 R d) seen) 15 5)) (λseen=>∀e∈(I6 R d).in_.es,e.2.2∈seen->Dq R e.1≠m) (λe _ h=>by cases h) (λe he=>by obtain⟨x,hx,rfl⟩:=E7.1 he;exact h1.ci.lt x hx) rfl (Le.refl _) (λseen=>aH) (λseen=>aH) (by grind) (λB seen k g n hI hme hns b=>?_) (λseen hI hs=>?_)
  .obtain⟨e,he,a⟩:=E7.1 hme;simp only[Gb] at a;obtain⟨rfl,rfl,rfl⟩:=a;have hge:jr ((14,Aak Y3 2 (I6 R d).in_.clk (seen++[e.2.2]))::stW (I6 R d) seen) (.ref 14 0)=some (.tup [db (JR e.1),bG e.2.1]):=yo (iti:=14) (mi:=2) (since:=(I6 R d).in_.clk) (clock:=(I6 R d).in_.clk) (T:=Y3) (ty:=Y3) (seen:=seen) aH aH (by rw[IX];exact h1.ci.nd) hme;by_cases hk:Dq R e.1=m
   .rw[show MJ (I6 R d) m=true from List.any_eq_true.2 ⟨e,he,CM hk⟩,ax];exact Ht f0 _ h1 [YT 28 hge,hof gl 32 h1 e.1 15,hr 34 (show decide (Dq R e.1=m)=true from CM hk)] (rlK (I6 R d))
   .refine jw [YT 28 hge,hof gl 32 h1 e.1 15,hr 34 (show decide (Dq R e.1=m)=false from C3 hk)] (rlB (GI f0++[(14,14)]) f0 h1) (b λx hx h=>?_) (ρ:=GI f0++[(14,14)]) (kd:=N7);rcases Hp.1 h with h|h
    .exact hI x hx h
    .rw[List.mem_singleton] at h;have:x=e:=N3 h1.ci.nd hx he h;rw[this];exact hk
  .have hst:MJ (I6 R d) m=false:=by
    cases hst:MJ (I6 R d) m with
    |false=>rfl
    |true=>obtain⟨e,he,h⟩:=List.any_eq_true.1 hst;exact absurd (DP h) (hI e he (hs (JR e.1,bG e.2.1,e.2.2) (E7.2 ⟨e,he,rfl⟩)))
   rw[hst,A9];have h4:=Amk (P:=prog) (σ:=stW (I6 R d) seen) (i:=4) (t:=Wq) (t':=Wq) (vg:=vgM f0) (et:=127) PE aH (k:=m) (gk:=iG m) rfl (m:=JU R.members) (by rw[<-QN];kernel_rfl);rw[Ad8,show No Wq JR (vgM f0) (JU (Sc R.members m))=R8 f0 (Sb (I6 R d) m) from(QN f0 (Sb (I6 R d) m)).symm] at h4;exact Ht f0 _ (AfU h1 m) [hmd 15 h4] (AnU h1 m)
abbrev oOp(o:Bi):Option Ob:=some ⟨50,aJ o,none⟩
abbrev Xi(i:Ab):Option Ob:=some ⟨42,aj i,none⟩
abbrev AfV(R:Ad)(o:Bi)(i:Ab):aQ:=Bz f0 R++[(14,oOp o),(15,Xi i)]
abbrev UF(R:Ad)(o:Bi)(i:Ab)(R':Ad):Prop:=R4 prog gl 29 [.ref 0 0,.agg (aJ o),.agg (aj i)] (Bz f0 R) 14 5 (iU []) (Bz f0 R')
theorem PN{R:Ad}(hR:Bf R)(h:Gp prog Tryz.f29 (zE prog Tryz.f29 (iU []) (Bz f0 R')) [] false [1,1,0] (s0 259 gl [(0,.ref 0 0),(4,.ref 14 0),(5,.ref 15 0)] (AfV R o i) 16 5)):UF gl R o i R':=by refine dFP func29 ?_;exact pO 1110 (s0 259 gl [(0,.ref 0 0),(4,.ref 14 0),(5,.ref 15 0)] (AfV R o i) 16 5) [hof gl 24 hR o.By 16,Lu 25 (Aj7 R (Dq R o.By))] (rlB (GI f0++[(14,14),(15,15)]) f0 hR) h (ρ:=GI f0++[(14,14),(15,15)]) (kd:=N7)
abbrev f16:Nat->Nat:=fW f0 16
abbrev rlX{f:Nat->Nat}{R:Ad}:List HP:=hc (⟨rfl,L7 aC⟩:iU []=iU []/\bB (iU []))::L0.map λk=>hc (λob h=>h:∀ob,Bv f R k=some ob->Bv f R k=some ob)
theorem Aka{R:Ad}(hR:Bf R)(hk:o.Kind=2):UF gl R o i (Jk R o.Device o.Role):=by refine PN gl hR ?_;exact Ht f16 _ (HB hR _ _) [hr 29 (show decide (o.Kind=1)=false by rw[hk];rfl),hr 52 (show decide (o.Kind=2)=true by rw[hk];rfl),Y4 58 f0 16 [iG o.Device,iG o.Role] hR (HB hR _ _) (Wy gl hR o.Device o.Role)] (rlX (f:=f16) (R:=Jk R o.Device o.Role))
theorem Ad9{R:Ad}(hR:Bf R)(hk:o.Kind=3)(hd:o.Device≠0):UF gl R o i (Hg R o.Device):=by refine PN gl hR ?_;exact Ht f16 _ (K3 hR _) [hr 29 (show decide (o.Kind=1)=false by rw[hk];rfl),hr 52 (show decide (o.Kind=2)=false by rw[hk];rfl),hr 60 (show decide (o.Kind=3)=true by rw[hk];rfl),hr 63 (show decide (o.Device≠0)=true from CM hd),Y4 67 f0 16 [iG o.Device] hR (K3 hR _) (Aal gl hR o.Device)] (rlX (f:=f16) (R:=Hg R o.Device))
theorem AhZ{R:Ad}(hR:Bf R)(h1:o.Kind≠1)(h2:o.Kind≠2)(h3:o.Kind≠3)(h5:o.Kind≠5)(h9:o.Kind≠9)(h11:o.Kind≠11)(h12:o.Kind≠12)(h13:o.Kind≠13):UF gl R o i R:=by refine PN gl hR ?_;exact Ht f0 _ hR [hr 29 (C3 h1),hr 52 (C3 h2),hr 60 (C3 h3),hr 86 (C3 h5),hr 102 (C3 h9),hr 120 (C3 h11),hr 168 (C3 h12),hr 213 (C3 h13)] (rlX (f:=f0) (R:=R))
abbrev Amc(t:Nat->Option Ob):aQ:=L0.map λk=>(k,t k)
abbrev frJ(a b:Nat){R:Ad}{k:Int}{x:Az}(_:R.members.get k=some x):Fr:=[(a,iG k),(b,.ref (nM k) 0)]
def tg(R:Ad)(l:List (Nat×Ob))(k:Nat):Option Ob:=match l.find? λq=>Nat.beq q.1 k with
 |some q=>some q.2
 |none=>Bv f0 R k
theorem Y6(h:∀q∈l,Bv f0 R q.1=some q.2)(k:Nat):tg R l k=Bv f0 R k:=by grind [tg,bc]
abbrev stT{R:Ad}{l:List (Nat×Ob)}(_:∀q∈l,Bv f0 R q.1=some q.2):aQ:=Amc (tg R l)
abbrev rlT(ρ:Dx)(f:Nat->Nat){R:Ad}(hR:Bf R){l:List (Nat×Ob)}(hl:∀q∈l,Bv f0 R q.1=some q.2)(h:okR ρ f=true:=by kernel_rfl):List HP:=L0.map λk=>hc (show XU (I3 ρ) (Bv f R k) (tg R l k) from(Y6 hl k).symm▸O6 (κ:=I3 ρ) (f:=f) (f':=f0) (λk ⟨ob,hk⟩=>Aai h (DT hk)) hR k)
abbrev Amd(ρ:Dx){R:Ad}(hR:Bf R){l:List (Nat×Ob)}(hl:∀q∈l,Bv f0 R q.1=some q.2)(h:okR ρ f0=true:=by kernel_rfl):List HP:=L0.map λk=>hc (show XU (I3 ρ) (tg R l k) (Bv f0 R k) from(Y6 hl k).symm▸O6 (κ:=I3 ρ) (f:=f0) (f':=f0) (λk ⟨ob,hk⟩=>Aai h (DT hk)) hR k)
abbrev HU(R:Ad){r:G}(hr:bB r):List HP:=hc (⟨rfl,hr⟩:r=r/\bB r)::L0.map λk=>hc (λob h=>h:∀ob,Bv f0 R k=some ob->Bv f0 R k=some ob)
abbrev Wz{R:Ad}{l:List (Nat×Ob)}(hl:∀q∈l,Bv f0 R q.1=some q.2){r:G}(hr:bB r):List HP:=hc (⟨rfl,hr⟩:r=r/\bB r)::L0.map λk=>hc (λob h=>(Y6 hl k).trans h:∀ob,Bv f0 R k=some ob->tg R l k=some ob)
abbrev eM(k:Nat)(x:Az):Nat×Ob:=(4+k,⟨tMe,[iG x.role,gpG f0 k x],none⟩)
abbrev eG(k:Nat)(g:CA):Nat×Ob:=(7+k,⟨tGu,guC f0 k g,none⟩)
abbrev eV(k:Nat)(g:CA):Nat×Ob:=(10+k,No tMv B5 iG g.vouches)
theorem Ado(h3:k=1\/k=2\/k=3)(h:R.members.get (k:Int)=some x):Bv f0 R (eM k x).1=some (eM k x).2:=by rcases h3 with rfl|rfl|rfl<;>exact(by show Option.map _ _=_;rw[h];rfl)
theorem AfW(h3:k=1\/k=2\/k=3)(h:R.members.get (k:Int)=some x)(hg:x.guard=some g):Bv f0 R (eG k g).1=some (eG k g).2:=by rcases h3 with rfl|rfl|rfl<;>exact(by show(Option.bind _ _).map _=_;grind)
theorem Ame(h3:k=1\/k=2\/k=3)(h:R.members.get (k:Int)=some x)(hg:x.guard=some g):Bv f0 R (eV k g).1=some (eV k g).2:=by rcases h3 with rfl|rfl|rfl<;>exact(by show(Option.bind _ _).map _=_;grind)
def LB(x:Az)(i:Ab):Bool:=match x.guard with
 |none=>false
 |some g=>decide (g.id=i)
def HC(R:Ad)(i:Ab):Int:=match R.members.es.find? λe=>LB e.2.1 i with
 |some e=>e.1
 |none=>0
theorem Bf.uni{R:Ad}(hR:Bf R){k k':Int}{x x':Az}{i:Ab}(h:R.members.get k=some x)(h':R.members.get k'=some x')(g:LB x i=true)(a:LB x' i=true):k=k':=by grind [Bf,LB]
theorem AfX(hR:Bf R){e:Int×Az×Nat}(he:e∈R.members.es){i:Ab}(h:LB e.2.1 i=true):HC R i=e.1:=by
 unfold HC;split
 .rename_i q hq;exact hR.uni (hR.mem (List.mem_of_find?_eq_some hq)).1 (hR.mem he).1 (by have:=List.find?_some hq;exact this) h
 grind
theorem Aea(h:∀e∈R.members.es,LB e.2.1 i=false):HC R i=0:=by grind [HC]
abbrev stU(R:Ad)(i:Ab)(seen:Bp):aQ:=Bz f0 R++[(14,Xi i),(15,Aak Wq 4 R.members.clk seen)]
abbrev frU:Fr:=[(0,.ref 0 0),(3,.ref 14 0),(11,.ref 15 0)]
abbrev ρ15:Dx:=GI f0++[(14,14),(15,15)]
theorem Abx(hR:Bf R)(i:Ab):R4 prog gl 76 [.ref 0 0,.agg (aj i)] (Bz f0 R) 14 14 (iG (HC R i)) (Bz f0 R):=by
 refine dFP func76 ?_;refine pO 1100 (s0 34 gl [(0,.ref 0 0),(3,.ref 14 0)] (Bz f0 R++[(14,Xi i)]) 15 14) [] (rlB (GI f0++[(14,14)]) f0 hR) ?_ (ρ:=GI f0++[(14,14)]) (kd:=N7);refine yl (Bs':=[]) [1,0,0] (J:=(s0 34 gl frU (stU R i []) 16 14)) [] (rlB ρ15 f0 hR) ?_ (kd:=N7);refine dNx 1101 ?_;refine dMw 11 12 13 0 (iti:=15) (mi:=4) (clock:=R.members.clk) (since:=R.members.clk) (T:=Wq) (ty:=Wq) (es:=Wv f0 R.members) (λseen=>(s0 34 gl frU (stU R i seen) 16 14)) (λseen=>∀e∈R.members.es,e.2.2∈seen->LB e.2.1 i=false) (λe _ h=>by cases h) (λe he=>by obtain⟨x,hx,rfl⟩:=E7.1 he;exact hR.cm.lt x hx) rfl (Le.refl _) (λseen=>aH) (λseen=>aH) (λseen=>⟨show 12<34 by decide,show 13<34 by decide⟩) (λB seen k g n hI hme hns a=>?_) (λseen hI hs=>?_)
 .obtain⟨e,he,c⟩:=E7.1 hme;simp only[Gb] at c;obtain⟨rfl,rfl,rfl⟩:=c;have hge:jr ((15,Aak Wq 4 R.members.clk (seen++[e.2.2]))::stU R i seen) (.ref 15 0)=some (.tup [db (JR e.1),.ref (nM e.1) 0]):=yo (iti:=15) (mi:=4) (since:=R.members.clk) (clock:=R.members.clk) (T:=Wq) (ty:=Wq) (seen:=seen) aH aH (by rw[IX];exact hR.cm.nd) hme;obtain⟨hm,h3⟩:=hR.mem he;have hI':LB e.2.1 i=false->∀x∈R.members.es,x.2.2∈seen++[e.2.2]->LB x.2.1 i=false:=λhk x hx h=>by
   rcases Hp.1 h with h|h
   .exact hI x hx h
   .rw[List.mem_singleton] at h;rw[N3 hR.cm.nd hx he h];exact hk
  have hw:=AfX hR he (i:=i);obtain⟨k,x,n⟩:=e;dsimp only at hge hm h3 hI' hw a;obtain⟨j,rfl,b⟩:∃j:Nat,k=(j:Int)/\(j=1\/j=2\/j=3):=⟨k.toNat,aa,aa⟩;obtain⟨role,gd⟩:=x;have e1:=Ado b hm;cases gd with
  |none=>
   have a:=a (hI' rfl);have hl:∀q∈[eM j ⟨role,none⟩],Bv f0 R q.1=some q.2:=λq hq=>by rw[List.mem_singleton.1 hq];exact e1
   rcases b with rfl|rfl|rfl
   all_goals
    refine pO 11012211210 (s0 34 gl (frJ 5 6 hm++frU) (stT hl++[(14,Xi i),(15,Aak Wq 4 R.members.clk (seen++[n]))]) 16 14) [YT 14 hge] (rlT ρ15 f0 hR hl) ?_ (ρ:=ρ15) (kd:=N7)
    exact jw [] (Amd ρ15 hR hl) a (kd:=N7)
  |some g=>
   have e2:=AfW b hm rfl;have hl:∀q∈[eM j ⟨role,some g⟩,eG j g],Bv f0 R q.1=some q.2:=λq hq=>by
    rcases EY.1 hq with rfl|hq
    .exact e1
    .rw[List.mem_singleton.1 hq];exact e2
   cases hd:decide (g.id=i) with
   |false=>
    have a:=a (hI' hd);rcases b with rfl|rfl|rfl
    all_goals
     refine pO 11012211210 (s0 34 gl (frJ 5 6 hm++frU) (stT hl++[(14,Xi i),(15,Aak Wq 4 R.members.clk (seen++[n]))]) 16 14) [YT 14 hge] (rlT ρ15 f0 hR hl) ?_ (ρ:=ρ15) (kd:=N7)
     exact jw [hV 31 (dU g.id i hd)] (Amd ρ15 hR hl) a (kd:=N7)
   |true=>
    rw[show HC R i=(j:Int) from hw hd];have hr:bB (iG (j:Int)):=mN _;rcases b with rfl|rfl|rfl
    all_goals
     refine pO 11012211210 (s0 34 gl (frJ 5 6 hm++frU) (stT hl++[(14,Xi i),(15,Aak Wq 4 R.members.clk (seen++[n]))]) 16 14) [YT 14 hge] (rlT ρ15 f0 hR hl) ?_ (ρ:=ρ15) (kd:=N7)
     exact Ht f0 _ hR [hV 31 (dU g.id i hd)] (Wz hl hr)
 .rw[Aea λe he=>hI e he (hs (JR e.1,.ref (nM e.1) 0,e.2.2) (E7.2 ⟨e,he,rfl⟩))];exact Ht f0 _ hR [] (HU R (mN (.int .i64 0)))
end
def T{α:Type}(x:Option α)(Q:α->Prop):Prop:=∃v,x=some v/\Q v
section
variable {α β γ σ ρ:Type}
theorem T.mono{x:Option α}{Q R:α->Prop}(h:T x Q)(k:∀v,Q v->R v):T x R:=by obtain⟨v,e,q⟩:=h;exact⟨v,e,k v q⟩
theorem T.some{v:α}{Q:α->Prop}(h:Q v):T (some v) Q:=⟨v,rfl,h⟩
theorem T.bind{x:Option α}{f:α->Option β}{Q:β->Prop}(h:T x λv=>T (f v) Q):T (x.bind f) Q:=by obtain⟨v,e,w,e2,q⟩:=h;exact⟨w,by grind,q⟩
theorem T.eqb{x:Option α}{f:α->Option β}{Q:β->Prop}{v:α}(e:x= .some v)(h:T (f v) Q):T (x.bind f) Q:=by grind
theorem T.ite{c:Bool}{a b:Option α}{Q:α->Prop}(h1:c=true->T a Q)(h2:c=false->T b Q):T (bif c then a else b) Q:=by grind
theorem T.dec{p:Prop}[Decidable p]{a b:Option α}{Q:α->Prop}(h1:p->T a Q)(h2:¬p->T b Q):T (bif decide p then a else b) Q:=by grind
theorem T.eq{x:Option α}{v:α}(h:T x λw=>w=v):x= .some v:=by obtain⟨w,e,rfl⟩:=h;exact e
theorem T.of{x:Option α}{v:α}{Q:α->Prop}(h:x= .some v)(q:Q v):T x Q:=⟨v,h,q⟩
theorem T.ix{l:List α}{i:Int}{Q:α->Prop}{x:α}(h0:0<=i)(hx:l[i.toNat]?= .some x)(h:Q x):T (aS l i) Q:=⟨x,by grind [aS],h⟩
theorem T.ixl{l:List α}{i:Int}{Q:α->Prop}(h0:0<=i)(h1:i<l.length)(h:∀x,l[i.toNat]?= .some x->x∈l->Q x):T (aS l i) Q:=by have hx:l[i.toNat]?= .some (l[i.toNat]'aa):=EA _;grind [ix]
theorem T.app{b:Nat}{l r:List α}{Q:List α->Prop}(h:(l.length+r.length)*b<=140737488355328)(q:Q (l++r)):T (aT b l r) Q:=⟨_,by grind [aT],q⟩
theorem T.rem{a b:Int}{Q:Int->Prop}(h:b≠0)(q:Q (a.tmod b)):T (u9 a b) Q:=⟨_,by grind [u9],q⟩
theorem T.quo{a b:Int}{Q:Int->Prop}(h:b≠0)(q:Q (IntKind.i64.wrap (a.tdiv b))):T (Gg a b) Q:=⟨_,by grind [Gg],q⟩
theorem T.set{l:List α}{i:Int}{x:α}{Q:List α->Prop}(h0:0<=i)(h1:i<l.length)(q:Q (l.set i.toNat x)):T (ji l i x) Q:=⟨_,by grind [ji],q⟩
theorem T.pre{l:List α}{i:Int}{Q:List α->Prop}(h0:0<=i)(h1:i<=l.length)(q:Q (l.take i.toNat)):T (tq l i) Q:=⟨_,by grind [tq],q⟩
theorem T.suf{l:List α}{i:Int}{Q:List α->Prop}(h0:0<=i)(h1:i<=l.length)(q:Q (l.drop i.toNat)):T (mc l i) Q:=⟨_,by grind [mc],q⟩
theorem T.make{b:Nat}{z:α}{n:Int}{Q:List α->Prop}(h0:0<=n)(h1:b*n.toNat<=281474976710656)(h2:n<=9223372036854775807)(q:Q (List.replicate n.toNat z)):T (rP b z n) Q:=⟨_,by grind [rP],q⟩
def Rd(N:σ->Prop)(Q:ρ->Prop):σ⊕ρ->Prop
 | .inl s=>N s
 | .inr r=>Q r
theorem T.lpN{step:σ->Option (σ⊕ρ)}{Q:ρ->Prop}(I:σ->Prop)(μ:σ->Nat)(h:∀s,I s->T (step s) (Rd (λs'=>I s'/\μ s'<μ s) Q)):∀(n:Nat) (s:σ),μ s<n->I s->T (KN step n s) Q
 |0,s,hn,_=>(by grind)
 |n+1,s,hn,hi=>by
  obtain⟨r,e,q⟩:=h s hi;unfold KN;rw[e];cases r with
  |inl s'=>exact T.lpN I μ h n s' (by have:=q.2;omega) q.1
  |inr r=>exact⟨r,rfl,q⟩
theorem T.loop{step:σ->Option (σ⊕ρ)}{Q:ρ->Prop}{s:σ}(I:σ->Prop)(μ:σ->Nat)(hi:I s)(hm:μ s<4611686018427387904)(h:∀s,I s->T (step s) (Rd (λs'=>I s'/\μ s'<μ s) Q)):T (AQ step s) Q:=T.lpN I μ h _ s hm hi
theorem T.forA{step:σ×Int->Option ((σ×Int)⊕ρ)}{Q:ρ->Prop}{a:σ}(n:Nat)(J:Nat->σ->Prop)(hn:n<2305843009213693952)(h0:J 0 a)(h:∀k acc,k<n->J k acc->T (step (acc,(k:Int))) (Rd (λs'=>s'.2=((k+1:Nat):Int)/\J (k+1) s'.1) Q))(he:∀acc,J n acc->T (step (acc,(n:Int))) (Rd (λ_=>False) Q)):T (AQ step (a,0)) Q:=by
 refine T.loop (λs=>∃k:Nat,k<=n/\s.2=(k:Int)/\J k s.1) (λs=>n-s.2.toNat) (by grind) cq ?_;rintro⟨acc,i⟩ ⟨k,hk,hik,hj⟩;simp only at hik hj;subst hik;rcases JF k n with hlt|hge
 .refine(h k acc hlt hj).mono λr hr=>?_;cases r with
  |inl s'=>refine⟨⟨k+1,aa,hr.1,hr.2⟩,?_⟩;rw[hr.1];simp;omega
  |inr r=>exact hr
 grind
theorem T.forI{step:Int->Option (Int⊕ρ)}{Q:ρ->Prop}(n:Nat)(J:Ga)(hn:n<2305843009213693952)(h0:J 0)(h:∀k,k<n->J k->T (step (k:Int)) (Rd (λs'=>s'=((k+1:Nat):Int)/\J (k+1)) Q))(he:J n->T (step (n:Int)) (Rd (λ_=>False) Q)):T (AQ step 0) Q:=by
 refine T.loop (λs=>∃k:Nat,k<=n/\s=(k:Int)/\J k) (λs=>n-s.toNat) (by grind) cq ?_;rintro i ⟨k,hk,hik,hj⟩;subst hik;rcases JF k n with hlt|hge
 .refine(h k hlt hj).mono λr hr=>?_;cases r with
  |inl s'=>refine⟨⟨k+1,aa,hr.1,hr.2⟩,?_⟩;rw[hr.1];simp;omega
  |inr r=>exact hr
 grind
theorem bM{z:Int}(h1: -9223372036854775808<=z)(h2:z<=9223372036854775807):wI z=z:=by grind [wI,IntKind.wrap_i64]
theorem aq(h:k<2305843009213693952):wI ((k:Int)+1)=((k+1:Nat):Int):=by grind [bM]
theorem rM(h:n<18446744073709551616):wU (n:Int)=n:=by grind [wU,IntKind.wrap_u64]
theorem au{l:List α}:aS l (k:Int)=l[k]? :=by grind [aS]
theorem eA{l:List α}{k:Nat}(h:k<l.length):decide ((k:Int)<ah l)=true:=by grind [ah]
theorem eF{l:List α}:decide ((l.length:Int)<ah l)=false:=by grind [ah]
theorem T.forE{step:List β×Int->Option ((List β×Int)⊕List β)}(l:List α)(a:List β)(enc:α->List β)(c:Nat)(hn:l.length<2305843009213693952)(hc:∀x∈l,(enc x).length<=c)(h:∀(k:Nat) (acc:List β) (x:α),l[k]?= .some x->x∈l->k<l.length->acc.length<=a.length+k*c->T (step (acc,(k:Int))) (Rd (λs'=>s'.2=((k+1:Nat):Int)/\s'.1=acc++enc x) (λ_=>False)))(he:∀acc,step (acc,(l.length:Int))= .some (.inr acc)):T (AQ step (a,0)) (λr=>r=a++l.flatMap enc):=by
 refine T.forA l.length (λk acc=>acc=a++(l.take k).flatMap enc/\acc.length<=a.length+k*c) hn aC (λk acc hk hj=>?_) λacc hj=>?_
 .have hx:l[k]?= .some (l[k]'hk):=EA hk;refine(h k acc _ hx (by simp_all) hk hj.2).mono λr hr=>?_;cases r with
  |inr r=>exact hr.elim
  |inl s'=>obtain⟨h1,h2⟩:=hr;constructor<;>grind [Hv]
 .rw[he];refine .some ?_;show acc=_;grind
theorem d8{l:List α}{enc:α->List β}{c:Nat}(hc:∀x∈l,(enc x).length<=c):(l.flatMap enc).length<=l.length*c:=by induction l<;>grind [Nat.succ_mul]
theorem T.appL{l r:List α}{n m:Nat}{Q:List α->Prop}(h1:l.length<=n)(h2:r.length<=m)(hnm:n+m<=140737488355328)(q:(l++r).length<=n+m->Q (l++r)):T (aT 1 l r) Q:=by grind [app]
theorem T.then{x:Option α}{f:α->Option β}{v:α}{Q:β->Prop}(h:T x λw=>w=v)(q:T (f v) Q):T (x.bind f) Q:=by grind [bind,mono]
end
section
attribute [local irreducible] Tr D8 GS Le Wk ve ba bB XI J6 Dp
section
variable {P:Br} {t:Bn} {x y:Dl}
theorem SS(ha:a<2^63)(hb:b<2^63):DE P .or t x y (.lit (.int .i64 (a:Int))) (.lit (.int .i64 (b:Int)))=some (.lit (.int .i64 ((a|||b:Nat):Int))):=by
 have h:DE P .or t x y (.lit (.int .i64 (a:Int))) (.lit (.int .i64 (b:Int)))=some (.lit (.int .i64 (IntKind.i64.wrap ((BitVec.ofInt IntKind.i64.bits (a:Int)|||BitVec.ofInt IntKind.i64.bits (b:Int)).toNat:Nat)))):=by simp[DE,cD,eqGuard,binOp,Op.intBits,bz,db]
 have h1:(BitVec.ofInt IntKind.i64.bits (a:Int)|||BitVec.ofInt IntKind.i64.bits (b:Int)).toNat=a|||b:=by show(BitVec.ofInt 64 (a:Int)|||BitVec.ofInt 64 (b:Int)).toNat=a|||b;rw[BitVec.ofInt_natCast,BitVec.ofInt_natCast,BitVec.toNat_or,BitVec.toNat_ofNat,BitVec.toNat_ofNat,LV aa,LV aa]
 have h2:a|||b<2^63:=Nat.or_lt_two_pow ha hb;rw[h,h1,w64 aa]
end
section
variable {P:Br} {ops:Array Oper} {K:St->Prop} {rest:It} {n:Nat} {gl:CC} {fr:Fr} {σ:aQ} {c p:Nat} {rr:Bool} {d:Tmp} {ty:Bn} {pos:String} {af:Array Edge}
end
end
section
variable {P:Br} {x y:Dl} {t:Bn}
end
theorem im1{a:G}(ha:bB a):∀g∈[a],bB g:=λg hg=>by simp only[EY,Lv,or_false] at hg;subst hg;exact ha
theorem im2{a b:G}(ha:bB a)(hb:bB b):∀g∈[a,b],bB g:=λg hg=>by
 simp only[EY,Lv,or_false] at hg;rcases hg with rfl|rfl
 .exact ha
 .exact hb
abbrev gU'(n:Nat):G:= .lit (.int .u64 (n:Int))
def nb(k:Nat):CO:=if h:k<128 then[UInt8.ofNat k]else UInt8.ofNat (k%128+128)::nb (k/128)
 termination_by k
 decreasing_by omega
theorem H6(h:k<128):nb k=[UInt8.ofNat k]:=by rw[nb,dif_pos h]
theorem Er(h:¬k<128):nb k=UInt8.ofNat (k%128+128)::nb (k/128):=by rw[nb,dif_neg h]
theorem Qu:∀(f k:Nat),k<128^(f+1)->(nb k).length<=f+1
 |0,k,h=>by grind [H6]
 |f+1,k,h=>by
  by_cases h1:k<128
  .rw[H6 h1];simp
  .rw[Er h1];have:=Qu f (k/128) (by grind);simp;omega
theorem ow(h:k<18446744073709551616):(nb k).length<=10:=Qu 9 k (by grind)
theorem Yj(k:Nat):nb k≠[]:=by grind [H6,Er]
theorem Yk(h:n<256):gY (UInt8.ofNat n)= .lit (.int .u8 (n:Int)):=by
 have:(UInt8.ofNat n).toNat=n:=by simp;omega
 grind
set_option maxRecDepth 100000 in
theorem V4:∀a:Fin 256,a.1|||128=a.1%128+128:=Cd
theorem Yl{x:Dl}{k:IntKind}{a b:Int}:DE P .or t x y (.lit (.int k a)) (.lit (.int k b))=some (.lit (.int k (k.wrap ((BitVec.ofInt k.bits a|||BitVec.ofInt k.bits b).toNat:Nat)))):=by simp[DE,cD,eqGuard,binOp,Op.intBits,bz,db]
theorem V5{x:Dl}{k:IntKind}{a b:Int}:DE P .xor t x y (.lit (.int k a)) (.lit (.int k b))=some (.lit (.int k (k.wrap ((BitVec.ofInt k.bits a^^^BitVec.ofInt k.bits b).toNat:Nat)))):=by simp[DE,cD,eqGuard,binOp,Op.intBits,bz,db]
theorem V6{x:Dl}:DE P .or t x y (.lit (.int .u8 (n:Int))) (.lit (.int .u8 128))=some (.lit (.int .u8 ((n%128+128:Nat):Int))):=by
 rw[Yl];have h:(BitVec.ofInt IntKind.u8.bits (n:Int)|||BitVec.ofInt IntKind.u8.bits 128).toNat=n%128+128:=by show(BitVec.ofInt 8 (n:Int)|||BitVec.ofInt 8 ((128:Nat):Int)).toNat=_;rw[BitVec.ofInt_natCast,BitVec.ofInt_natCast,BitVec.toNat_or,BitVec.toNat_ofNat,BitVec.toNat_ofNat];have:=V4 ⟨n%256,aa⟩;grind
 grind [wu8]
def Mk(n:Int):Nat:=if n<0 then(-(n+1)).toNat*2+1 else n.toNat*2
theorem FQ{n:Int}(h: -9223372036854775808<=n/\n<=9223372036854775807):Mk n<18446744073709551616:=by grind [Mk]
theorem Ym{x:Dl}{n:Int}(h: -9223372036854775808<=n/\n<=9223372036854775807):DE P .xor t x y (.lit (.int .u64 (IntKind.u64.wrap (IntKind.u64.wrap n*2^1)))) (.lit (.int .u64 (IntKind.u64.wrap (n.fdiv (2^63)))))=some (gU' (Mk n)):=by
 rw[V5];have h64:∀z:Int,IntKind.u64.wrap z=z%18446744073709551616:=λz=>IntKind.wrap_u64 z;congr 3;by_cases hn:n<0
 .have e1:n.fdiv (2^63)= -1:=by grind
  have e2:IntKind.u64.wrap (IntKind.u64.wrap n*2^1)=(((18446744073709551616+2*n)%18446744073709551616).toNat:Int):=by grind
  rw[e1,e2,h64 (-1)];show IntKind.u64.wrap ((BitVec.ofInt 64 _^^^BitVec.ofInt 64 ((18446744073709551615:Nat):Int)).toNat:Nat)=_;rw[BitVec.ofInt_natCast,BitVec.ofInt_natCast];have e3:BitVec.ofNat 64 18446744073709551615=BitVec.allOnes 64:=Cd;rw[e3,BitVec.xor_allOnes,BitVec.toNat_not,BitVec.toNat_ofNat,h64];grind [Mk]
 .have e1:n.fdiv (2^63)=0:=by grind
  have e2:IntKind.u64.wrap (IntKind.u64.wrap n*2^1)=((n.toNat*2:Nat):Int):=by grind
  rw[e1,e2,h64 0];show IntKind.u64.wrap ((BitVec.ofInt 64 _^^^BitVec.ofInt 64 ((0:Nat):Int)).toNat:Nat)=_;rw[BitVec.ofInt_natCast,BitVec.ofInt_natCast];grind [Mk]
theorem Ake(h:k<4611686018427387904):wI ((k:Int)+1)=((k+1:Nat):Int):=by unfold wI;rw[IntKind.wrap_i64];omega
theorem Akf{s:List α}(p:α->Bool)(hn:s.length<2305843009213693952){step:Int->Option (Int⊕(Unit⊕Int))}(hs:∀(k:Nat) (x:α),s[k]?=some x->step (k:Int)=some (if p x=true then .inr (.inr (k:Int))else .inl (wI ((k:Int)+1))))(he:step (s.length:Int)=some (.inr (.inl ()))):∃r:Unit⊕Int,AQ step 0=some r/\((r= .inl ()/\s.any p=false)\/∃j:Nat,r= .inr (j:Int)/\s.any p=true/\s.findIdx? p=some j):=by
 obtain⟨r,h1,h2⟩:T (AQ step 0) λr=>(r= .inl ()/\s.any p=false)\/∃j:Nat,r= .inr (j:Int)/\s.any p=true/\s.findIdx? p=some j:=by
  refine T.forI s.length (λk=>∀j,j<k->∀x,s[j]?=some x->p x=false) hn (λj h=>aa) (λk hk a=>?_) λa=>?_
  .obtain⟨x,hx⟩:∃x,s[k]?=some x:=⟨_,EA hk⟩;rw[hs k x hx];cases hp:p x with
   |true=>refine⟨_,rfl,.inr ⟨k,rfl,(by grind),?_⟩⟩;grind [List.findIdx?_eq_some_iff_getElem]
   |false=>refine⟨_,rfl,?_⟩;rw[BB Cd];constructor<;>grind [Ake]
  .rw[he];refine⟨_,rfl,.inl ⟨rfl,?_⟩⟩;grind [EO]
 exact⟨r,h1,h2⟩
theorem Bq{s:List α}{k:Nat}{x:α}(h:s[k]?=some x):aS s (k:Int)=some x:=by grind [aS]
theorem Dk{s:List α}{k:Nat}{x:α}(h:s[k]?=some x):decide ((k:Int)<ah s)=true:=by grind [ah]
theorem Fe{s:List α}:decide ((s.length:Int)<ah s)=false:=C3 (by unfold ah;omega)
theorem Uv[DecidableEq α]{s:List α}(hn:s.length<2305843009213693952)(v:α):Ace s v=some (s.any λy=>decide (v=y)):=by
 obtain⟨r,h1,h2⟩:=Akf (s:=s) (λy=>decide (v=y)) hn (step:=aab s v) (by grind [aab,Dk,Bq]) (by unfold aab;rw[Fe];rfl);unfold Ace ixT;rw[h1];rcases h2 with⟨rfl,h2⟩|⟨j,rfl,h2,_⟩<;>rw[h2]
 .rfl
 .show some (decide (0<=(j:Int)))=_;rw[CM aa]
theorem Adq{s:List α}{f:α->Fw}{p:α->Bool}(hn:s.length<2305843009213693952)(hf:∀x∈s,f x=some (p x)):Abc s f=some (s.any p):=by
 obtain⟨r,h1,h2⟩:=Akf (s:=s) p hn (step:=K0 s f) (by grind [K0,Dk,Bq]) (by unfold K0;rw[Fe];rfl);unfold Abc Vz;rw[h1];rcases h2 with⟨rfl,h2⟩|⟨j,rfl,h2,_⟩<;>rw[h2]
 .rfl
 .show some (decide (0<=(j:Int)))=_;rw[CM aa]
section
attribute [local irreducible] Tr dz Gp
def AfY(m:FM Int Az):FM Int (Option Az):=⟨m.es.map λe=>(e.1,some e.2.1,e.2.2),m.clk⟩
theorem AfZ(m:FM Int Az)(k:Int):(AfY m).get k=(m.get k).map some:=by unfold FM.get AfY;dsimp only;induction m.es<;>grind
theorem Ah1(R:Ad)(m:Int):∀σ,bL prog σ Wq false (FM.g JR (λx=> .ptr (Gc x) 0) R.members) (iG m)=some (npG Gc (R.members.get m)):=λσ=>by
 have h:=FM.look1 (et:=127) PE (t:=Wq) (vg:=npG Gc) (v0:=none) aH aH (AfY R.members) m (gk:=iG m) rfl σ;have e:(AfY R.members).g JR (npG Gc)=FM.g JR (λx=> .ptr (Gc x) 0) R.members:=by unfold FM.g AfY;simp only[IX];rfl
 rw[e,AfZ] at h;rw[h];cases R.members.get m<;>rfl
abbrev frI(a:Nat){R:Ad}{k:Int}{x:Az}(_:R.members.get k=some x):Fr:=[(a,iG k)]
theorem UT(R:Ad)(m:Int):ba prog gl 77 [.ptr (CB R) 0,iG m] (iG (M7 R m)):=by
 have h:=Ah1 R m;unfold M7;cases hx:R.members.get m with
 |none=>rw[hx] at h;exact Gh func77 (Ar [hm 11 h] [])
 |some x=>rw[hx] at h;exact Gh func77 (Ar [hm 11 h] [])
def Dd(R:Ad)(o:Bi):Int×Int:=match R.members.es.find? λe=>LB e.2.1 o.Of with
 |none=>(0,25)
 |some e=>match e.2.1.guard with
  |none=>(0,25)
  |some g=>bif g.guards.any λy=>decide (o.By=y)then(e.1,0)else(0,14)
theorem Ue(hR:Bf R)(o:Bi):R4 prog gl 75 [.ref 0 0,.agg (aJ o)] (Bz f0 R) 14 14 (.tup [iG (Dd R o).1,iG (Dd R o).2]) (Bz f0 R):=by
 refine dFP func75 ?_;have hr2:∀a b:Int,bB (.tup [iG a,iG b]):=by grind [L7,mN]
 have hw:=Abx gl hR o.Of;unfold Dd;cases hfi:R.members.es.find? λe=>LB e.2.1 o.Of with
 |none=>rw[show HC R o.Of=0 by unfold HC;rw[hfi]] at hw;have hr:=hr2 0 25;exact Ht f0 _ hR [hrr 10 f0 15 [.agg (aj o.Of)] hR hw] (HU R hr)
 |some e=>
  have he:=List.mem_of_find?_eq_some hfi;have hg:LB e.2.1 o.Of=true:=by have:=List.find?_some hfi;exact this
  obtain⟨hx,h3⟩:=hR.mem he;rw[show HC R o.Of=e.1 by unfold HC;rw[hfi]] at hw;obtain⟨k,x,n⟩:=e;dsimp only at hx h3 hw hg⊢;obtain⟨j,rfl,c⟩:∃j:Nat,k=(j:Int)/\(j=1\/j=2\/j=3):=by grind
  obtain⟨role,gd⟩:=x;cases gd with
  |none=>cases hg
  |some g=>
   have e1:=Ado c hx;have e2:=AfW c hx rfl;have hl:∀q∈[eM j ⟨role,some g⟩,eG j g],Bv f0 R q.1=some q.2:=by grind
   have hlk:=R9 hx;have hct:=DL gl (Uv (Nat.lt_of_le_of_lt (hR.gn _ _ _ hx rfl) Cd) o.By);dsimp only;cases hb:g.guards.any λy=>decide (o.By=y) with
   |false=>
    rw[hb] at hct;have hr:=hr2 0 14;rcases c with rfl|rfl|rfl
    all_goals
     refine pO 11102140 (s0 32 gl (frI 6 hx++[(0,.ref 0 0),(3,.ref 14 0)]) (stT hl++[(14,oOp o)]) 15 14) [hrr 10 f0 15 [.agg (aj o.Of)] hR hw] (rlT (GI f0++[(14,14)]) f0 hR hl) ?_ (ρ:=GI f0++[(14,14)]) (kd:=N7)
     exact Ht f0 _ hR [Lu 20 hlk,hf 29 hct] (Wz hl hr)
   |true=>
    rw[hb] at hct;have hr:=hr2 (j:Int) 0;rcases c with rfl|rfl|rfl
    all_goals
     refine pO 11102140 (s0 32 gl (frI 6 hx++[(0,.ref 0 0),(3,.ref 14 0)]) (stT hl++[(14,oOp o)]) 15 14) [hrr 10 f0 15 [.agg (aj o.Of)] hR hw] (rlT (GI f0++[(14,14)]) f0 hR hl) ?_ (ρ:=GI f0++[(14,14)]) (kd:=N7)
     exact Ht f0 _ hR [Lu 20 hlk,hf 29 hct] (Wz hl hr)
abbrev IH(R:Ad)(k:Int)(x:Az):Ad:={R with members:=C4 R.members k x}
theorem JH{R:Ad}{k:Int}{x:Az}(j:Int):(IH R k x).members.get j=if j=k then some x else R.members.get j:=BA _ _
theorem Akb{k:Int}(h:R.members.get k=some x):(IH R k x').members.es.map (·.1)=R.members.es.map (·.1):=by grind [Q2,Ge]
theorem Ah2{k:Int}(h:R.members.get k=some x)(f:Nat->Nat):R8 f (IH R k x')=R8 f R:=by
 show(⟨_,_,some (.map _ _)⟩:Ob)=⟨_,_,some (.map _ _)⟩;have key:Wv f (C4 R.members k x')=Wv f R.members/\(C4 R.members k x').clk=R.members.clk:=by
  unfold C4 Wv;cases hk:bu k (R.members.es.map (·.1)) with
  |none=>rw[S9 hk] at h;cases h
  |some j=>obtain⟨e,he,rfl,_⟩:=Nd hk;refine⟨?_,rfl⟩;dsimp only;rw[he,List.map_set];apply List.ext_getElem?;grind
 grind
theorem Aam(hR:Bf R){k:Int}(h:R.members.get k=some x)(hv:∀g,x'.guard=some g->Q9 g.vouches/\(DW (R.cards.get g.id.By)).Member=k/\g.guards.length<=1000000/\(1<=g.need/\g.need<=1000000)/\∀e∈g.vouches.es,1<=e.1.by_/\e.1.by_<=6):Bf (IH R k x'):=by
 have cas:∀(j:Int) (y:Az) (g:CA),(IH R k x').members.get j=some y->y.guard=some g->(j=k/\x'.guard=some g)\/(R.members.get j=some y):=by grind [JH]
 refine⟨hR.ci,hR.cw,OQ hR.cm _,λe he=>?_,hR.c3,λj y g h1 h2=>?_,λj y g h1 h2=>?_,λj y g h1 h2=>?_,λj y g h1 h2=>?_,hR.i6,hR.c6,λj y g h1 h2=>?_⟩
 .have hk:e.1∈(IH R k x').members.es.map (·.1):=E7.2 ⟨e,he,rfl⟩;rw[Akb h] at hk;grind [Bf]
 .grind [Bf.cv]
 .grind [Bf.gm]
 .grind [Bf.gN]
 .rcases cas j y g h1 h2 with⟨rfl,h3⟩|h3
  .exact(hv g h3).2.2.2.2
  .exact hR.vb j y g h3 h2
 grind [Bf.gn]
theorem Af0(hx:R.members.get (k:Int)=some x)(q:Nat)(h4:q≠4+k)(h7:q≠7+k\/x'.guard=none)(h10:q≠10+k\/x'.guard=none):∀ob,Bv f0 (IH R (k:Int) x') q=some ob->Bv f0 R q=some ob:=λob h=>by
 have hM:∀j:Nat,j≠k->roM f0 (IH R (k:Int) x') j=roM f0 R j:=by grind [roM,JH]
 have hB:∀j:Nat,j≠k\/x'.guard=none->∀y,((IH R (k:Int) x').members.get (j:Int)).bind (·.guard)=some y->(R.members.get (j:Int)).bind (·.guard)=some y:=by grind [JH]
 have hG:∀j:Nat,j≠k\/x'.guard=none->∀ob,roG f0 (IH R (k:Int) x') j=some ob->roG f0 R j=some ob:=by grind [roG,DG]
 have hV:∀j:Nat,j≠k\/x'.guard=none->∀ob,roV (IH R (k:Int) x') j=some ob->roV R j=some ob:=by grind [roV,DG]
 match q,DT h with
 |0,_=>exact h
 |1,_=>exact h
 |2,_=>exact h
 |3,_=>exact h
 |4,_=>rw[<-h];exact congrArg some (Ah2 hx f0).symm
 |5,_=>rw[<-h];exact(hM 1 aa).symm
 |6,_=>rw[<-h];exact(hM 2 aa).symm
 |7,_=>rw[<-h];exact(hM 3 aa).symm
 |8,_=>exact hG 1 (h7.imp (λh=>aa) id) ob h
 |9,_=>exact hG 2 (h7.imp (λh=>aa) id) ob h
 |10,_=>exact hG 3 (h7.imp (λh=>aa) id) ob h
 |11,_=>exact hV 1 (h10.imp (λh=>aa) id) ob h
 |12,_=>exact hV 2 (h10.imp (λh=>aa) id) ob h
 |13,_=>exact hV 3 (h10.imp (λh=>aa) id) ob h
def tgU(R:Ad)(l a:List (Nat×Ob))(k:Nat):Option Ob:=match a.find? λq=>Nat.beq q.1 k with
 |some q=>some q.2
 |none=>tg R l k
theorem Akc{l':List (Nat×Ob)}(hl:∀q∈l,Bv f0 R q.1=some q.2)(hl':∀q∈l',Bv f0 R' q.1=some q.2)(hs:∀q,(∀e∈l',e.1≠q)->∀ob,Bv f0 R' q=some ob->Bv f0 R q=some ob)(k:Nat):∀ob,Bv f0 R' k=some ob->tgU R l l' k=some ob:=by grind [tgU,bc,Y6,Nat.beq_refl]
abbrev rlU{R R':Ad}{l l':List (Nat×Ob)}(hl:∀q∈l,Bv f0 R q.1=some q.2)(hl':∀q∈l',Bv f0 R' q.1=some q.2)(hs:∀q,(∀e∈l',e.1≠q)->∀ob,Bv f0 R' q=some ob->Bv f0 R q=some ob):List HP:=hc (⟨rfl,L7 aC⟩:iU []=iU []/\bB (iU []))::L0.map λk=>hc (Akc hl hl' hs k)
theorem hl1{x:Az}(h3:k=1\/k=2\/k=3)(h:R.members.get (k:Int)=some x):∀q∈[eM k x],Bv f0 R q.1=some q.2:=by grind [Ado]
theorem hl3{R:Ad}{role:Int}{g:CA}(h3:k=1\/k=2\/k=3)(h:R.members.get (k:Int)=some ⟨role,some g⟩):∀q∈[eM k ⟨role,some g⟩,eG k g,eV k g],Bv f0 R q.1=some q.2:=λq hq=>by
 simp only[EY,Lv,or_false] at hq;rcases hq with rfl|rfl|rfl
 .exact Ado h3 h
 all_goals grind [AfW,Ame]
theorem hs1{role:Int}(hx:R.members.get (k:Int)=some x):∀q,(∀e∈[eM k (⟨role,none⟩:Az)],e.1≠q)->∀ob,Bv f0 (IH R (k:Int) ⟨role,none⟩) q=some ob->Bv f0 R q=some ob:=λq hq=>Af0 hx q (λe=>hq _ (List.mem_singleton.2 rfl) e.symm) (.inr rfl) (.inr rfl)
theorem hs3{R:Ad}{role:Int}{g:CA}(hx:R.members.get (k:Int)=some x):∀q,(∀e∈[eM k (⟨role,some g⟩:Az),eG k g,eV k g],e.1≠q)->∀ob,Bv f0 (IH R (k:Int) ⟨role,some g⟩) q=some ob->Bv f0 R q=some ob:=λq hq=>Af0 hx q (λe=>(by simp_all)) (.inl λe=>hq (eG k g) aC e.symm) (.inl λe=>hq (eV k g) aC e.symm)
def Uu(R:Ad)(o:Bi):Ad:=match R.members.get o.Member with
 |none=>R
 |some x=>IH R o.Member ⟨o.Role,x.guard⟩
theorem Adp(hR:Bf R)(o:Bi):Bf (Uu R o):=by
 unfold Uu;split
 .exact hR
 .rename_i x hx;exact Aam hR hx (by grind [Bf])
abbrev frP(a:Nat){R:Ad}{k:Int}{x:Az}(_:R.members.get k=some x):Fr:=[(a,.ref (nM k) 0)]
abbrev ρD:Dx:=GI f0++[(14,14),(15,15)]
theorem Acr(hR:Bf R)(hk:o.Kind=5):UF gl R o i (Uu R o):=by
 have hok:=Adp hR o;refine PN gl hR ?_;have a1:decide (o.Kind=1)=false:=by rw[hk];rfl
 have a2:decide (o.Kind=2)=false:=by rw[hk];rfl
 have a3:decide (o.Kind=3)=false:=by rw[hk];rfl
 have a5:decide (o.Kind=5)=true:=by rw[hk];rfl
 unfold Uu at hok⊢;cases hx:R.members.get o.Member with
 |none=>exact Ht f0 _ hR [hr 29 a1,hr 52 a2,hr 60 a3,hr 86 a5,Lu 93 (Ww hx)] (rlX (f:=f0) (R:=R))
 |some x=>
  rw[hx] at hok;have hlk:=R9 hx;obtain⟨j,hj,a⟩:∃j:Nat,o.Member=(j:Int)/\(j=1\/j=2\/j=3):=by have:=AhW hR hx;exact⟨o.Member.toNat,aa,aa⟩
  dsimp only at hok⊢;rw[hj] at hx hok⊢;rw[show(.ref (nM o.Member) 0:G)= .ref (nM (j:Int)) 0 by rw[hj]] at hlk;obtain⟨role,gd⟩:=x;have hg':(IH R (j:Int) ⟨o.Role,gd⟩).members.get (j:Int)=some ⟨o.Role,gd⟩:=by rw[JH,Bx rfl]
  cases gd with
  |none=>
   have hl:=hl1 a hx;have hl':=hl1 a hg';have hs:=hs1 (role:=o.Role) hx;rcases a with rfl|rfl|rfl
   all_goals
    refine pO 1111214141413113 (s0 259 gl (frP 9 hx++[(4,.ref 14 0)]) (stT hl++[(14,oOp o),(15,Xi i)]) 16 5) [hr 29 a1,hr 52 a2,hr 60 a3,hr 86 a5,Lu 93 hlk] (rlT ρD f0 hR hl) ?_ (ρ:=ρD) (kd:=N7)
    exact Ht f0 _ hok [] (rlU hl hl' hs)
  |some g=>
   have hl:=hl3 a hx;have hl':=hl3 a hg';have hs:=hs3 (role:=o.Role) (g:=g) hx;rcases a with rfl|rfl|rfl
   all_goals
    refine pO 1111214141413113 (s0 259 gl (frP 9 hx++[(4,.ref 14 0)]) (stT hl++[(14,oOp o),(15,Xi i)]) 16 5) [hr 29 a1,hr 52 a2,hr 60 a3,hr 86 a5,Lu 93 hlk] (rlT ρD f0 hR hl) ?_ (ρ:=ρD) (kd:=N7)
    exact Ht f0 _ hok [] (rlU hl hl' hs)
def UG(R:Ad)(o:Bi):Ad:=match R.members.get (Dq R o.By) with
 |some ⟨role,some g⟩=>bif g.id=o.Of then IH R (Dq R o.By) ⟨role,some {g with objected:=true,last:=Fi g.last o.At}⟩else R
 |_=>R
theorem Af2(hR:Bf R)(o:Bi):Bf (UG R o):=by
 unfold UG;split
 .rename_i role g hx;cases decide (g.id=o.Of) with
  |false=>exact hR
  |true=>refine Aam hR hx λa hg=>?_;grind [Bf]
 .exact hR
theorem Aeb(hR:Bf R)(hk:o.Kind=12):UF gl R o i (UG R o):=by
 have hok:=Af2 hR o;have hrt:bB (iU []):=L7 aC;have a1:decide (o.Kind=1)=false:=by rw[hk];rfl
 have a2:decide (o.Kind=2)=false:=by rw[hk];rfl
 have a3:decide (o.Kind=3)=false:=by rw[hk];rfl
 have a5:decide (o.Kind=5)=false:=by rw[hk];rfl
 have a9:decide (o.Kind=9)=false:=by rw[hk];rfl
 have a11:decide (o.Kind=11)=false:=by rw[hk];rfl
 have a12:decide (o.Kind=12)=true:=by rw[hk];rfl
 refine dFP func29 ?_;unfold UG at hok⊢;cases hx:R.members.get (Dq R o.By) with
 |none=>exact Ht f0 _ hR [hof gl 24 hR o.By 16,Lu 25 (Ww hx),hr 29 a1,hr 52 a2,hr 60 a3,hr 86 a5,hr 102 a9,hr 120 a11,hr 168 a12] (rlX (f:=f0) (R:=R))
 |some x=>
  rw[hx] at hok;have hlk:=R9 hx;obtain⟨j,hj,a⟩:∃j:Nat,Dq R o.By=(j:Int)/\(j=1\/j=2\/j=3):=by grind [AhW]
  rw[hj] at hx hok hlk⊢;obtain⟨role,gd⟩:=x;cases gd with
  |none=>
   have hl:=hl1 a hx;rcases a with rfl|rfl|rfl
   all_goals
    refine pO 11112141414141414130 (s0 259 gl (frP 6 hx++[(4,.ref 14 0)]) (stT hl++[(14,oOp o),(15,Xi i)]) 16 5) [AfR gl 24 hR hj 16,Lu 25 hlk,hr 29 a1,hr 52 a2,hr 60 a3,hr 86 a5,hr 102 a9,hr 120 a11,hr 168 a12] (rlT ρD f0 hR hl) ?_ (ρ:=ρD) (kd:=N7)
    exact Ht f0 _ hR [] (Wz hl hrt)
  |some g=>
   have hl:=hl3 a hx;dsimp only at hok⊢;cases hd:decide (g.id=o.Of) with
   |false=>
    rcases a with rfl|rfl|rfl
    all_goals
     refine pO 11112141414141414130 (s0 259 gl (frP 6 hx++[(4,.ref 14 0)]) (stT hl++[(14,oOp o),(15,Xi i)]) 16 5) [AfR gl 24 hR hj 16,Lu 25 hlk,hr 29 a1,hr 52 a2,hr 60 a3,hr 86 a5,hr 102 a9,hr 120 a11,hr 168 a12] (rlT ρD f0 hR hl) ?_ (ρ:=ρD) (kd:=N7)
     exact Ht f0 _ hR [hV 188 (dU g.id o.Of hd)] (Wz hl hrt)
   |true=>
    rw[hd] at hok;rw[ax] at hok⊢;have hl':=hl3 (R:=IH R (j:Int) ⟨role,some {g with objected:=true,last:=Fi g.last o.At}⟩) a (by rw[JH,Bx rfl]);have hs:=hs3 (role:=role) (g:={g with objected:=true,last:=Fi g.last o.At}) hx;rcases a with rfl|rfl|rfl
    all_goals
     refine pO 11112141414141414130 (s0 259 gl (frP 6 hx++[(4,.ref 14 0)]) (stT hl++[(14,oOp o),(15,Xi i)]) 16 5) [AfR gl 24 hR hj 16,Lu 25 hlk,hr 29 a1,hr 52 a2,hr 60 a3,hr 86 a5,hr 102 a9,hr 120 a11,hr 168 a12] (rlT ρD f0 hR hl) ?_ (ρ:=ρD) (kd:=N7)
     exact Ht f0 _ hok [hV 188 (dU g.id o.Of hd)] (rlU hl hl' hs)
theorem Ami(k:CY):Instr.sameBits 10000 (B5 k) (B5 k)=true:=by unfold B5 Hx;simp[Instr.sameBits]
abbrev WA(o:Bi):CY:=⟨o.By,o.Device⟩
def Aan(g:CA)(o:Bi):Bool:=match g.vouches.get (WA o) with
 |none=>true
 |some a=>decide (o.At<a)
abbrev Acs(g:CA)(o:Bi):CA:={g with vouches:=C4 g.vouches (WA o) o.At}
def XW(R:Ad)(o:Bi):Ad:=match R.members.es.find? λe=>LB e.2.1 o.Of with
 |some (k,⟨role,some g⟩,_)=>bif(g.guards.any λy=>decide (o.By=y))&&Aan g o then IH R k ⟨role,some (Acs g o)⟩else R
 |_=>R
theorem Af3(hR:Bf R)(hb:1<=o.By/\o.By<=6):Bf (XW R o):=by
 unfold XW;split
 .rename_i k role g n hf;have hx:=(hR.mem (List.mem_of_find?_eq_some hf)).1;dsimp only at hx;cases(g.guards.any λy=>decide (o.By=y))&&Aan g o with
  |false=>exact hR
  |true=>
   refine Aam hR hx λa hg=>?_;cases hg;exact⟨OQ (hR.cv _ _ g hx rfl) _,hR.gm _ _ g hx rfl,hR.gn _ _ g hx rfl,hR.gN _ _ g hx rfl,λe he=>by
    have hk:e.1∈(C4 g.vouches (WA o) o.At).es.map (·.1):=E7.2 ⟨e,he,rfl⟩;rw[Q2] at hk;split at hk
    .grind [Bf]
    .rcases Hp.1 hk with hk|hk
     .obtain⟨y,hy,h⟩:=E7.1 hk;grind [Bf]
     grind⟩
 .exact hR
theorem lkV(g:CA)(k:CY)(q:Nat):bL prog [(10+q,some (No tMv B5 iG g.vouches))] tMv true (.mref (10+q)) (.agg (Nl k))=some (.tup [iG (Mh (g.vouches.get k)),bG (g.vouches.get k).isSome]):=(S8 (et:=3) Lx aH (k:=k) rfl (by rw[RW])).trans (SB g.vouches k _)
def hmr(c:Nat){P:Br}{σ:aQ}{t:Bn}{gm gk g:G}{i:Nat}{ob:Ob}(h:dZ P σ t gm gk g=some (i,ob)):HP:=⟨some (.e 999999998 (.lit undef) i ob),dZ P (Uy σ (fR gm)) t gm gk g=some (i,ob),(aah Hs).symm.trans h⟩
theorem AnY(g:CA)(k:CY)(a:Int)(q:Nat):dZ prog [(10+q,some (No tMv B5 iG g.vouches))] tMv (.mref (10+q)) (.agg (Nl k)) (iG a)=some (10+q,No tMv B5 iG (C4 g.vouches k a)):=Agc (et:=3) Lx Ami aH rfl (by rw[RW]) a
theorem Af4(hR:Bf R)(hk:o.Kind=11)(hby:1<=o.By/\o.By<=6):UF gl R o i (XW R o):=by
 have hok:=Af3 hR hby;have hrt:bB (iU []):=L7 aC;have a1:decide (o.Kind=1)=false:=by rw[hk];rfl
 have a2:decide (o.Kind=2)=false:=by rw[hk];rfl
 have a3:decide (o.Kind=3)=false:=by rw[hk];rfl
 have a5:decide (o.Kind=5)=false:=by rw[hk];rfl
 have a9:decide (o.Kind=9)=false:=by rw[hk];rfl
 have a11:decide (o.Kind=11)=true:=by rw[hk];rfl
 refine PN gl hR ?_;have hg:=Ue gl hR o;unfold XW at hok⊢;unfold Dd at hg;cases hf:R.members.es.find? λe=>LB e.2.1 o.Of with
 |none=>rw[hf] at hg;exact Ht f0 _ hR [hr 29 a1,hr 52 a2,hr 60 a3,hr 86 a5,hr 102 a9,hr 120 a11,hrr 124 f0 16 [.agg (aJ o)] hR hg] (rlX (f:=f0) (R:=R))
 |some e=>
  have he:=List.mem_of_find?_eq_some hf;have hh:LB e.2.1 o.Of=true:=by have:=List.find?_some hf;exact this
  obtain⟨hx,h3⟩:=hR.mem he;rw[hf] at hg hok;obtain⟨k,x,n⟩:=e;dsimp only at hx h3 hg hh hok⊢;obtain⟨j,rfl,c⟩:∃j:Nat,k=(j:Int)/\(j=1\/j=2\/j=3):=by grind
  obtain⟨role,gd⟩:=x;cases gd with
  |none=>cases hh
  |some g=>
   dsimp only at hg hok⊢;cases hb:g.guards.any λy=>decide (o.By=y) with
   |false=>rw[hb] at hg;exact Ht f0 _ hR [hr 29 a1,hr 52 a2,hr 60 a3,hr 86 a5,hr 102 a9,hr 120 a11,hrr 124 f0 16 [.agg (aJ o)] hR hg] (rlX (f:=f0) (R:=R))
   |true=>
    rw[hb] at hg hok;rw[Bool.true_and] at hok⊢;have hl:=hl3 c hx;have hlk:=R9 hx;have b:=lkV g (WA o) j;have d:=AnY g (WA o) o.At j;have hl':=hl3 (R:=IH R (j:Int) ⟨role,some (Acs g o)⟩) c (by rw[JH,Bx rfl]);have hs:=hs3 (role:=role) (g:=Acs g o) hx;unfold Aan at hok⊢;cases hv:g.vouches.get (WA o) with
    |none=>
     rw[hv] at hok b;rcases c with rfl|rfl|rfl
     all_goals
      refine pO 111121414141414131130 (s0 259 gl (frI 10 hx++[(0,.ref 0 0),(4,.ref 14 0)]) (stT hl++[(14,oOp o),(15,Xi i)]) 16 5) [hr 29 a1,hr 52 a2,hr 60 a3,hr 86 a5,hr 102 a9,hr 120 a11,hrr 124 f0 16 [.agg (aJ o)] hR hg] (rlT ρD f0 hR hl) ?_ (kd:=N7)
      exact Ht f0 _ hok [Lu 134 hlk,Lu 149 b,hmr 17 d] (rlU hl hl' hs)
    |some a=>
     rw[hv] at hok b;dsimp only at hok⊢;cases hat:decide (o.At<a) with
     |true=>
      rw[hat] at hok;rcases c with rfl|rfl|rfl
      all_goals
       refine pO 111121414141414131130 (s0 259 gl (frI 10 hx++[(0,.ref 0 0),(4,.ref 14 0)]) (stT hl++[(14,oOp o),(15,Xi i)]) 16 5) [hr 29 a1,hr 52 a2,hr 60 a3,hr 86 a5,hr 102 a9,hr 120 a11,hrr 124 f0 16 [.agg (aJ o)] hR hg] (rlT ρD f0 hR hl) ?_ (kd:=N7)
       exact Ht f0 _ hok [Lu 134 hlk,Lu 149 b,hr 158 hat,hmr 17 d] (rlU hl hl' hs)
     |false=>
      rcases c with rfl|rfl|rfl
      all_goals
       refine pO 111121414141414131130 (s0 259 gl (frI 10 hx++[(0,.ref 0 0),(4,.ref 14 0)]) (stT hl++[(14,oOp o),(15,Xi i)]) 16 5) [hr 29 a1,hr 52 a2,hr 60 a3,hr 86 a5,hr 102 a9,hr 120 a11,hrr 124 f0 16 [.agg (aJ o)] hR hg] (rlT ρD f0 hR hl) ?_ (kd:=N7)
       exact Ht f0 _ hR [Lu 134 hlk,Lu 149 b,hr 158 hat] (Wz hl hrt)
abbrev AnZ(o:Bi)(i:Ab):CA:=⟨i,o.Guards,o.Need,o.Wait,⟨[],0⟩,false,0⟩
def Aao(R:Ad)(o:Bi)(i:Ab):Ad:=match R.members.get (Dq R o.By) with
 |none=>R
 |some x=>IH R (Dq R o.By) ⟨x.role,some (AnZ o i)⟩
theorem Af5(hR:Bf R){o:Bi}(hi:i.By=o.By)(hg:o.Guards.length<=1000000)(hn:1<=o.Need/\o.Need<=1000000):Bf (Aao R o i):=by
 unfold Aao;split
 .exact hR
 .rename_i x hx;refine Aam hR hx λa h=>?_;cases h;exact⟨(by grind [Q9,FxOk]),by show(DW (R.cards.get i.By)).Member=_;rw[hi];rfl,hg,hn,λe he=>by cases he⟩
def fGu(j q:Nat):Nat:=bif Nat.beq q (7+j)then 16 else bif Nat.beq q (10+j)then 17 else q
theorem Akd{q:Nat}(h1:q≠7+j)(h2:q≠10+j):fGu j q=q:=by grind [fGu,bc]
theorem Amj(a:∀e∈R.members.es,1<=e.1/\e.1<=3)(h3:j=1\/j=2\/j=3)(q:Nat)(h4:q≠4+j)(h7:q≠7+j)(h10:q≠10+j):Bv (fGu j) R q=Bv f0 R q:=by
 rcases JF q 14 with hlt|hge
 rotate_left
 .obtain⟨k,rfl⟩:∃k,q=k+14:=⟨q-14,aa⟩;rfl
 match q,hlt with
 |0,_=>rcases h3 with rfl|rfl|rfl<;>rfl
 |1,_=>rfl
 |2,_=>rfl
 |3,_=>rfl
 |4,_=>show some (⟨_,_,some (.map _ _)⟩:Ob)=some ⟨_,_,some (.map _ _)⟩;grind [List.map_congr_left,nM,Akd]
 |5,_=>rcases h3 with rfl|rfl|rfl<;>first|exact absurd rfl h4|rfl
 |6,_=>rcases h3 with rfl|rfl|rfl<;>first|exact absurd rfl h4|rfl
 |7,_=>rcases h3 with rfl|rfl|rfl<;>first|exact absurd rfl h4|rfl
 |8,_=>rcases h3 with rfl|rfl|rfl<;>first|exact absurd rfl h7|rfl
 |9,_=>rcases h3 with rfl|rfl|rfl<;>first|exact absurd rfl h7|rfl
 |10,_=>rcases h3 with rfl|rfl|rfl<;>first|exact absurd rfl h7|rfl
 |11,_=>rfl
 |12,_=>rfl
 |13,_=>rfl
abbrev fH{R:Ad}{k:Int}{x:Az}(_:R.members.get k=some x):Nat->Nat:=fGu k.toNat
abbrev rlG{R:Ad}{j:Nat}{x:Az}{g:CA}(h3:j=1\/j=2\/j=3)(hx:R.members.get (j:Int)=some x)(hok:Bf (IH R (j:Int) ⟨x.role,some g⟩))(hl:∀q∈[eM j x],Bv f0 R q.1=some q.2):List HP:=hc (⟨rfl,L7 aC⟩:iU []=iU []/\bB (iU []))::L0.map λq=>
 if h4:q=4+j then hc (λob h=>(by
  have:=JH (R:=R) (k:=(j:Int)) (x:=⟨x.role,some g⟩) j;rw[Bx rfl] at this;have e:Bv (fGu j) (IH R (j:Int) ⟨x.role,some g⟩) (4+j)=some ⟨tMe,[iG x.role,.ref 16 0],none⟩:=by rcases h3 with rfl|rfl|rfl<;>exact(by show Option.map _ _=_;rw[this];rfl)
  exact e.symm.trans h):∀ob,Bv (fGu j) (IH R (j:Int) ⟨x.role,some g⟩) (4+j)=some ob->some ⟨tMe,[iG x.role,.ref 16 0],none⟩=some ob)
 else if h7:q=7+j then hc (λob h=>(by
  have:=JH (R:=R) (k:=(j:Int)) (x:=⟨x.role,some g⟩) j;rw[Bx rfl] at this;have e:Bv (fGu j) (IH R (j:Int) ⟨x.role,some g⟩) (7+j)=some ⟨tGu,guC (fGu j) j g,none⟩:=by rcases h3 with rfl|rfl|rfl<;>exact(by show Option.map _ (Option.bind _ _)=_;rw[this];rfl)
  exact e.symm.trans h):∀ob,Bv (fGu j) (IH R (j:Int) ⟨x.role,some g⟩) (7+j)=some ob->some ⟨tGu,guC (fGu j) j g,none⟩=some ob)
 else if h10:q=10+j then hc (λob h=>(by
  have:=JH (R:=R) (k:=(j:Int)) (x:=⟨x.role,some g⟩) j;rw[Bx rfl] at this;have e:Bv (fGu j) (IH R (j:Int) ⟨x.role,some g⟩) (10+j)=some (No tMv B5 iG g.vouches):=by rcases h3 with rfl|rfl|rfl<;>exact(by show Option.map _ (Option.bind _ _)=_;rw[this];rfl)
  exact e.symm.trans h):∀ob,Bv (fGu j) (IH R (j:Int) ⟨x.role,some g⟩) (10+j)=some ob->some (No tMv B5 iG g.vouches)=some ob)
 else hc (λob h=>(by rw[Amj (λe he=>hok.m3 e he) h3 q h4 h7 h10] at h;exact(Y6 hl q).trans (Af0 hx q h4 (.inl h7) (.inl h10) ob h)):∀ob,Bv (fGu j) (IH R (j:Int) ⟨x.role,some g⟩) q=some ob->tg R [eM j x] q=some ob)
theorem Af6(hR:Bf R)(hk:o.Kind=9)(hi:i.By=o.By)(hgl:o.Guards.length<=1000000)(hn:1<=o.Need/\o.Need<=1000000):UF gl R o i (Aao R o i):=by
 have hok:=Af5 hR (o:=o) hi hgl hn;have a1:decide (o.Kind=1)=false:=by rw[hk];rfl
 have a2:decide (o.Kind=2)=false:=by rw[hk];rfl
 have a3:decide (o.Kind=3)=false:=by rw[hk];rfl
 have a5:decide (o.Kind=5)=false:=by rw[hk];rfl
 have a9:decide (o.Kind=9)=true:=by rw[hk];rfl
 have hcl:=rZ.fo (uK gl (s:=o.Guards) (r:=o.Guards) (by unfold fF aT;rw[Bx (by rw[List.length_nil];omega)];rfl));refine dFP func29 ?_;unfold Aao at hok⊢;cases hx:R.members.get (Dq R o.By) with
 |none=>exact Ht f0 _ hR [hof gl 24 hR o.By 16,Lu 25 (Ww hx),hr 29 a1,hr 52 a2,hr 60 a3,hr 86 a5,hr 102 a9] (rlX (f:=f0) (R:=R))
 |some x=>
  rw[hx] at hok;have hlk:=R9 hx;obtain⟨j,hj,a⟩:∃j:Nat,Dq R o.By=(j:Int)/\(j=1\/j=2\/j=3):=by have:=AhW hR hx;exact⟨(Dq R o.By).toNat,aa,aa⟩
  rw[hj] at hx hok hlk⊢;have hl:=hl1 a hx;rcases a with rfl|rfl|rfl
  all_goals
   refine pO 11112141414141313 (s0 259 gl (frP 6 hx++[(4,.ref 14 0),(5,.ref 15 0)]) (stT hl++[(14,oOp o),(15,Xi i)]) 16 5) [AfR gl 24 hR hj 16,Lu 25 hlk,hr 29 a1,hr 52 a2,hr 60 a3,hr 86 a5,hr 102 a9] (rlT ρD f0 hR hl) ?_ (ρ:=ρD) (kd:=N7)
   exact Ht (fH hx) _ hok [hf 109 hcl] (rlG Cd hx hok hl)
abbrev Af7(R:Ad)(n:Int):Ad:={R with back:=n}
def Aby(R:Ad)(o:Bi):Ad:=bif decide ((R.was.es.length:Int)=0)&&DZ R o.By then Af7 (Jk R o.By 3) o.Need else R
theorem Ah3(hR:Bf R)(n:Int):Bf (Af7 R n):=by grind [Bf]
theorem Af8(hR:Bf R)(o:Bi):Bf (Aby R o):=by grind [Aby,Ah3,HB]
def Acu(R:Ad)(o:Bi):Bool:=bif HC R o.Of>0 then(bif Pl R o.Old then(bif Dq R o.Old=HC R o.Of then decide (Dq R o.Device=HC R o.Of)else false)else false)else false
def XX(R:Ad)(o:Bi):Ad:=bif Acu R o then Hg (Jk R o.Device (M7 R (Dq R o.Device))) o.Old else R
theorem Af9(hR:Bf R)(o:Bi):Bf (XX R o):=by grind [XX,K3,HB]
abbrev hro(d:Nat){R:Ad}(hR:Bf R)(x:Int)(c:Nat:=14):HP:=hrl d f0 c hR (UT gl R x) AhV (lR _)
theorem Aed(hR:Bf R)(hk:o.Kind=1):UF gl R o i (Aby R o):=by
 have hok:=Af8 hR o;have a1:decide (o.Kind=1)=true:=by rw[hk];rfl
 refine PN gl hR ?_;unfold Aby at hok⊢;have hle:decide (((mEs JR bG R.was).length:Int)=0)=decide ((R.was.es.length:Int)=0):=by rw[Hm]
 cases hw:decide ((R.was.es.length:Int)=0) with
 |false=>exact Ht f0 _ hR [hr 29 a1,hr 35 (hle.trans hw)] (rlX (f:=f0) (R:=R))
 |true=>
  rw[hw] at hok;rw[Bool.true_and] at hok⊢;cases hf:DZ R o.By with
  |false=>exact Ht f0 _ hR [hr 29 a1,hr 35 (hle.trans hw),hfr gl 40 hR hf 16] (rlX (f:=f0) (R:=R))
  |true=>rw[hf] at hok;exact Ht f16 _ hok [hr 29 a1,hr 35 (hle.trans hw),hfr gl 40 hR hf 16,Y4 45 f0 16 [iG o.By,iG 3] hR (HB hR _ _) (Wy gl hR o.By 3)] (rlX (f:=f16) (R:=Af7 (Jk R o.By 3) o.Need))
theorem Acv(hR:Bf R)(hk:o.Kind=13):UF gl R o i (XX R o):=by
 have hok:=Af9 hR o;have a1:decide (o.Kind=1)=false:=by rw[hk];rfl
 have a2:decide (o.Kind=2)=false:=by rw[hk];rfl
 have a3:decide (o.Kind=3)=false:=by rw[hk];rfl
 have a5:decide (o.Kind=5)=false:=by rw[hk];rfl
 have a9:decide (o.Kind=9)=false:=by rw[hk];rfl
 have a11:decide (o.Kind=11)=false:=by rw[hk];rfl
 have a12:decide (o.Kind=12)=false:=by rw[hk];rfl
 have a13:decide (o.Kind=13)=true:=by rw[hk];rfl
 refine PN gl hR ?_;have hw:=Abx gl hR o.Of;have hin:=AhY R o.Old;unfold XX Acu at hok⊢;generalize HC R o.Of=w at hw hok⊢;cases b1:decide (w>0) with
 |false=>exact Ht f0 _ hR [hr 29 a1,hr 52 a2,hr 60 a3,hr 86 a5,hr 102 a9,hr 120 a11,hr 168 a12,hr 213 a13,hrr 217 f0 16 [.agg (aj o.Of)] hR hw,hr 219 b1] (rlX (f:=f0) (R:=R))
 |true=>
  rw[b1] at hok;cases b2:Pl R o.Old with
  |false=>rw[b2] at hin;exact Ht f0 _ hR [hr 29 a1,hr 52 a2,hr 60 a3,hr 86 a5,hr 102 a9,hr 120 a11,hr 168 a12,hr 213 a13,hrr 217 f0 16 [.agg (aj o.Of)] hR hw,hr 219 b1,Lu 227 hin] (rlX (f:=f0) (R:=R))
  |true=>
   rw[b2] at hin hok;cases b3:decide (Dq R o.Old=w) with
   |false=>exact Ht f0 _ hR [hr 29 a1,hr 52 a2,hr 60 a3,hr 86 a5,hr 102 a9,hr 120 a11,hr 168 a12,hr 213 a13,hrr 217 f0 16 [.agg (aj o.Of)] hR hw,hr 219 b1,Lu 227 hin,hof gl 233 hR o.Old 16,hr 235 b3] (rlX (f:=f0) (R:=R))
   |true=>
    rw[b3] at hok;cases b4:decide (Dq R o.Device=w) with
    |false=>exact Ht f0 _ hR [hr 29 a1,hr 52 a2,hr 60 a3,hr 86 a5,hr 102 a9,hr 120 a11,hr 168 a12,hr 213 a13,hrr 217 f0 16 [.agg (aj o.Of)] hR hw,hr 219 b1,Lu 227 hin,hof gl 233 hR o.Old 16,hr 235 b3,hof gl 241 hR o.Device 16,hr 243 b4] (rlX (f:=f0) (R:=R))
    |true=>rw[b4] at hok;have h1:=HB hR o.Device (M7 R (Dq R o.Device));exact Ht (fW f16 25) _ hok [hr 29 a1,hr 52 a2,hr 60 a3,hr 86 a5,hr 102 a9,hr 120 a11,hr 168 a12,hr 213 a13,hrr 217 f0 16 [.agg (aj o.Of)] hR hw,hr 219 b1,Lu 227 hin,hof gl 233 hR o.Old 16,hr 235 b3,hof gl 241 hR o.Device 16,hr 243 b4,hof gl 252 hR o.Device 16,hro gl 253 hR (Dq R o.Device) 16,Y4 254 f0 16 [iG o.Device,iG (M7 R (Dq R o.Device))] hR h1 (Wy gl hR o.Device (M7 R (Dq R o.Device))),Y4 258 f16 25 [iG o.Old] h1 (K3 h1 _) (Aal gl h1 o.Old)] (rlX (f:=fW f16 25) (R:=Hg (Jk R o.Device (M7 R (Dq R o.Device))) o.Old))
end
section
set_option maxHeartbeats 2000000
attribute [local irreducible] Tr dz Gp
def SF{α:Type}(a:α)(a1:α->Fw):Fw:=
 (a1 a).bind λv1=>some (!v1)
theorem Ce{x_:Ho}{a1:Ho->Fw}(a:R3 prog gl fi_a1 fa_a1 fc_a1 (λx:Ho=>[.agg (cz x)]) (λx:Bool=>bG x) a1):DC prog gl (SF x_ a1) 268 [.agg (cz x_),.ptr [.clo (.func fi_a1) fa_a1 fc_a1] 0] bG:=
 cy func268 λK=>ak λv1 e2=>aw [hz 6 [] (a.cs (c:=1) e2 (aY (aG 20 (.agg (cz x_)) aH) (bf)))]<|rv K
def Ot{α:Type}(l:List α)(a:α->Fw):Fw:=
 (Abc l (λz=>SF z a)).bind λv1=>some (!v1)
theorem wA{l:List Ho}{may:Ho->Fw}(a:R3 prog gl fi_may fa_may fc_may (λx:Ho=>[.agg (cz x)]) (λx:Bool=>bG x) may):DC prog gl (Ot l may) 173 [aE cz l,.clo (.func fi_may) fa_may fc_may] bG:=
 cy func173 λK=>cN [1,0] (sf [1] [(3,.ptr [.clo (.func fi_may) fa_may fc_may] 0)]) [hc (a.im),hc (aY (a.im) (bf))]<|ak λv1 e2=>aw [hz 7 [] (jf (c:=0) aH (M3 gl (⟨aH,bf,eB aH,λ_ _ e=>Ce gl a e⟩) e2) (aY (aG 20 (aE cz l) aH) (aY (aG 20 (.clo (.func 268) [] [.ptr [.clo (.func fi_may) fa_may fc_may] 0]) aH) (bf))))]<|rv K
def wB(b:Ho):Fw:=
 ((rJ b.To).bind λe=>bif e then((rJ b.Eph).bind λa=>bif a then((Kq b.Body).bind λc=>bif c then((Kq b.Tag).bind λd=>some d)else(some false))else(some false))else(some false)).bind λf=>some f
theorem Cf{b}:DC prog gl (wB b) 174 [.agg (cz b)] bG:=
 cy func174 λK=>cN [1,0] (sp [] [(1,.ref 0 0)] [ob 0 168 (cz b)] 1) []<|cC [1,0] (λa=>sk [] [(2,bG a)] [] 0) (λa=>rv K) λa k5=>ak λg e8=>kV (λc=>BU 9 (Jq gl) λd=>aw [hf 5 (cF (Jq gl e8) c)]<|aF 10 (BU 14 (Ak gl) λe=>aF 15 (BU 19 (Ak gl) λf=>rx k5)<|rx k5)<|rx k5) λc=>aw [hf 5 (cF (Jq gl e8) c)]<|rx k5
def uP(n:DR):Fw:=
 ((rJ n.Pub).bind λb=>bif b then((Ot n.Boxes (λz=>wB z)).bind λa=>some a)else(some false)).bind λc=>some c
theorem Du{n}:DC prog gl (uP n) 172 [.agg (bY n)] bG:=
 cy func172 λK=>cN [1,0] (sp [] [(1,.ref 0 0)] [ob 0 87 (bY n)] 1) []<|cC [1,0] (λa=>sk [] [(2,bG a)] [] 0) (λa=>rv K) λa k5=>ak λd e8=>kV (λb=>BU 9 (wA gl (⟨aH,bf,eB aH,λ_ _ e=>Cf gl e⟩)) λc=>aw [hf 5 (cF (Jq gl e8) b)]<|rx k5) λb=>aw [hf 5 (cF (Jq gl e8) b)]<|rx k5
def uQ(s:DS):Fw:=
 (Al s.Of).bind λv1=>some v1
theorem Dv{s}:DC prog gl (uQ s) 175 [.agg (bp s)] bG:=
 cy func175 λK=>BU 5 (pH gl) λv1=>rv K
def uR(n:Int):Fw:=
 (FV n 1 12).bind λv1=>some v1
theorem Dw{n}:DC prog gl (uR n) 176 [iG n] bG:=
 cy func176 λK=>BU 4 (eE gl) λv1=>rv K
theorem Cg{x_:Int}{a1:Int->Fw}(a:R3 prog gl fi_a1 fa_a1 fc_a1 (λx:Int=>[iG x]) (λx:Bool=>bG x) a1):DC prog gl (SF x_ a1) 270 [iG x_,.ptr [.clo (.func fi_a1) fa_a1 fc_a1] 0] bG:=
 cy func270 λK=>ak λv1 e2=>aw [hz 6 [] (a.cs (c:=0) e2 (aY (aG 20 (iG x_) aH) (bf)))]<|rv K
theorem FW{l:Bj}{may:Int->Fw}(a:R3 prog gl fi_may fa_may fc_may (λx:Int=>[iG x]) (λx:Bool=>bG x) may):DC prog gl (Ot l may) 177 [aE cZ l,.clo (.func fi_may) fa_may fc_may] bG:=
 cy func177 λK=>cN [1,0] (sf [1] [(3,.ptr [.clo (.func fi_may) fa_may fc_may] 0)]) [hc (a.im),hc (aY (a.im) (bf))]<|ak λv1 e2=>aw [hz 7 [] (jf (c:=0) aH (ml gl (⟨aH,bf,eB aH,λ_ _ e=>Cg gl a e⟩) e2) (aY (aG 20 (aE cZ l) aH) (aY (aG 20 (.clo (.func 270) [] [.ptr [.clo (.func fi_may) fa_may fc_may] 0]) aH) (bf))))]<|rv K
theorem mo:Acc prog gl cW (λx=>[uG x]) 330:=λs f fi_f fa_f fc_f a=>
 cy func330 λK=>Pa 1101 (λg=>sg [] []) (λs1=>sf [] [(7,iG (ah s)),(8,iG s1)]) [hc (a.im)] K (λg=>rv K) λs1 k5 h k6=>aF 9 (CD 14 rW.ixZ 15 (rW.p1Y tW) λd=>ak λi e=>kV (λb=>aw [hz 16 [] (cS (a.cs (c:=0) e (aY (aG 20 (uG d) aH) (bf))) b)]<|aP c3 k6 []) λb=>aw [hz 16 [] (cS (a.cs (c:=0) e (aY (aG 20 (uG d) aH) (bf))) b)]<|cj k5 [hc (a.im)])<|aA c2 h []
theorem ku:Acd prog gl cW (λx=>[uG x]) 271:=λs f fi_f fa_f fc_f a=>
 cy func271 λK=>ak λv1 e2=>aw [hz 7 [] (jf (c:=0) aH (mo gl (a) e2) (aY (aG 20 (aE cW s) aH) (aY (a.im) (bf))))]<|rv K
theorem wC{x_:Nat}{a1:Nat->Fw}(a:R3 prog gl fi_a1 fa_a1 fc_a1 (λx:Nat=>[uG x]) (λx:Bool=>bG x) a1):DC prog gl (SF x_ a1) 272 [uG x_,.ptr [.clo (.func fi_a1) fa_a1 fc_a1] 0] bG:=
 cy func272 λK=>ak λv1 e2=>aw [hz 6 [] (a.cs (c:=0) e2 (aY (aG 20 (uG x_) aH) (bf)))]<|rv K
theorem zL{l:Bp}{may:Nat->Fw}(a:R3 prog gl fi_may fa_may fc_may (λx:Nat=>[uG x]) (λx:Bool=>bG x) may):DC prog gl (Ot l may) 178 [aE cW l,.clo (.func fi_may) fa_may fc_may] bG:=
 cy func178 λK=>cN [1,0] (sf [1] [(3,.ptr [.clo (.func fi_may) fa_may fc_may] 0)]) [hc (a.im),hc (aY (a.im) (bf))]<|ak λv1 e2=>aw [hz 7 [] (jf (c:=0) aH (ku gl (⟨aH,bf,eB aH,λ_ _ e=>wC gl a e⟩) e2) (aY (aG 20 (aE cW l) aH) (aY (aG 20 (.clo (.func 272) [] [.ptr [.clo (.func fi_may) fa_may fc_may] 0]) aH) (bf))))]<|rv K
theorem xY{x_:Ab}{a1:Ab->Fw}(a:R3 prog gl fi_a1 fa_a1 fc_a1 (λx:Ab=>[.agg (aj x)]) (λx:Bool=>bG x) a1):DC prog gl (SF x_ a1) 273 [.agg (aj x_),.ptr [.clo (.func fi_a1) fa_a1 fc_a1] 0] bG:=
 cy func273 λK=>ak λv1 e2=>aw [hz 6 [] (a.cs (c:=1) e2 (aY (aG 20 (.agg (aj x_)) aH) (bf)))]<|rv K
theorem Ch{l:AH}{may:Ab->Fw}(a:R3 prog gl fi_may fa_may fc_may (λx:Ab=>[.agg (aj x)]) (λx:Bool=>bG x) may):DC prog gl (Ot l may) 180 [aE aj l,.clo (.func fi_may) fa_may fc_may] bG:=
 cy func180 λK=>cN [1,0] (sf [1] [(3,.ptr [.clo (.func fi_may) fa_may fc_may] 0)]) [hc (a.im),hc (aY (a.im) (bf))]<|ak λv1 e2=>aw [hz 7 [] (jf (c:=0) aH (kP gl (⟨aH,bf,eB aH,λ_ _ e=>xY gl a e⟩) e2) (aY (aG 20 (aE aj l) aH) (aY (aG 20 (.clo (.func 273) [] [.ptr [.clo (.func fi_may) fa_may fc_may] 0]) aH) (bf))))]<|rv K
theorem oB:Acc prog gl bY (λx=>[.agg (bY x)]) 331:=λs f fi_f fa_f fc_f a=>
 cy func331 λK=>Pa 1101 (λg=>sg [] []) (λs1=>sf [] [(7,iG (ah s)),(8,iG s1)]) [hc (a.im)] K (λg=>rv K) λs1 k5 h k6=>aF 9 (CD 14 bZ.ixZ 15 (bZ.ptZ Pc) λd=>ak λi e=>kV (λb=>aw [hz 16 [] (cS (a.cs (c:=0) e (aY (aG 20 (.agg (bY d)) aH) (bf))) b)]<|aP c3 k6 []) λb=>aw [hz 16 [] (cS (a.cs (c:=0) e (aY (aG 20 (.agg (bY d)) aH) (bf))) b)]<|cj k5 [hc (a.im)])<|aA c2 h []
theorem lV:Acd prog gl bY (λx=>[.agg (bY x)]) 274:=λs f fi_f fa_f fc_f a=>
 cy func274 λK=>ak λv1 e2=>aw [hz 7 [] (jf (c:=0) aH (oB gl (a) e2) (aY (aG 20 (aE bY s) aH) (aY (a.im) (bf))))]<|rv K
theorem zM{x_:DR}{a1:DR->Fw}(a:R3 prog gl fi_a1 fa_a1 fc_a1 (λx:DR=>[.agg (bY x)]) (λx:Bool=>bG x) a1):DC prog gl (SF x_ a1) 275 [.agg (bY x_),.ptr [.clo (.func fi_a1) fa_a1 fc_a1] 0] bG:=
 cy func275 λK=>ak λv1 e2=>aw [hz 6 [] (a.cs (c:=1) e2 (aY (aG 20 (.agg (bY x_)) aH) (bf)))]<|rv K
theorem tK{l:List DR}{may:DR->Fw}(a:R3 prog gl fi_may fa_may fc_may (λx:DR=>[.agg (bY x)]) (λx:Bool=>bG x) may):DC prog gl (Ot l may) 181 [aE bY l,.clo (.func fi_may) fa_may fc_may] bG:=
 cy func181 λK=>cN [1,0] (sf [1] [(3,.ptr [.clo (.func fi_may) fa_may fc_may] 0)]) [hc (a.im),hc (aY (a.im) (bf))]<|ak λv1 e2=>aw [hz 7 [] (jf (c:=0) aH (lV gl (⟨aH,bf,eB aH,λ_ _ e=>zM gl a e⟩) e2) (aY (aG 20 (aE bY l) aH) (aY (aG 20 (.clo (.func 275) [] [.ptr [.clo (.func fi_may) fa_may fc_may] 0]) aH) (bf))))]<|rv K
theorem mq:Acc prog gl bp (λx=>[.agg (bp x)]) 332:=λs f fi_f fa_f fc_f a=>
 cy func332 λK=>Pa 1101 (λg=>sg [] []) (λs1=>sf [] [(7,iG (ah s)),(8,iG s1)]) [hc (a.im)] K (λg=>rv K) λs1 k5 h k6=>aF 9 (CD 14 bH.ixZ 15 (bH.ptZ GM) λd=>ak λi e=>kV (λb=>aw [hz 16 [] (cS (a.cs (c:=0) e (aY (aG 20 (.agg (bp d)) aH) (bf))) b)]<|aP c3 k6 []) λb=>aw [hz 16 [] (cS (a.cs (c:=0) e (aY (aG 20 (.agg (bp d)) aH) (bf))) b)]<|cj k5 [hc (a.im)])<|aA c2 h []
theorem kw:Acd prog gl bp (λx=>[.agg (bp x)]) 276:=λs f fi_f fa_f fc_f a=>
 cy func276 λK=>ak λv1 e2=>aw [hz 7 [] (jf (c:=0) aH (mq gl (a) e2) (aY (aG 20 (aE bp s) aH) (aY (a.im) (bf))))]<|rv K
theorem wD{x_:DS}{a1:DS->Fw}(a:R3 prog gl fi_a1 fa_a1 fc_a1 (λx:DS=>[.agg (bp x)]) (λx:Bool=>bG x) a1):DC prog gl (SF x_ a1) 277 [.agg (bp x_),.ptr [.clo (.func fi_a1) fa_a1 fc_a1] 0] bG:=
 cy func277 λK=>ak λv1 e2=>aw [hz 6 [] (a.cs (c:=1) e2 (aY (aG 20 (.agg (bp x_)) aH) (bf)))]<|rv K
theorem pY{l:List DS}{may:DS->Fw}(a:R3 prog gl fi_may fa_may fc_may (λx:DS=>[.agg (bp x)]) (λx:Bool=>bG x) may):DC prog gl (Ot l may) 182 [aE bp l,.clo (.func fi_may) fa_may fc_may] bG:=
 cy func182 λK=>cN [1,0] (sf [1] [(3,.ptr [.clo (.func fi_may) fa_may fc_may] 0)]) [hc (a.im),hc (aY (a.im) (bf))]<|ak λv1 e2=>aw [hz 7 [] (jf (c:=0) aH (kw gl (⟨aH,bf,eB aH,λ_ _ e=>wD gl a e⟩) e2) (aY (aG 20 (aE bp l) aH) (aY (aG 20 (.clo (.func 277) [] [.ptr [.clo (.func fi_may) fa_may fc_may] 0]) aH) (bf))))]<|rv K
def wE(n:DR):Fw:=
 some (decide (ah n.Boxes<=12))
theorem H8{n}:DC prog gl (wE n) 183 [.agg (bY n)] bG:=
 cy func183 λK=>rv K
def wF(s:DS):Fw:=
 some (decide (ah s.Body<=208))
theorem H9{s}:DC prog gl (wF s) 184 [.agg (bp s)] bG:=
 cy func184 λK=>rv K
def FX(o:Bi):Fw:=
 (bif 12<ah o.Past then(some true)else(bif 5<ah o.Path then(some true)else((Ot o.Path (λz=>wE z)).bind λa=>bif(!a)then(some true)else(bif 208<ah o.Body then(some true)else(bif 8<ah o.Refs then(some true)else(bif 20<ah o.Hist then(some true)else((Ot o.Hist (λz=>wF z)).bind λb=>bif(!b)then(some true)else(some (decide (6<ah o.Guards)))))))))).bind λc=>bif c then(some true)else(bif o.Kind=7 then((FV (ah o.Body) 1 20).bind λd=>some (!d))else(bif o.Kind=9 then(some (decide (ah o.Boxes≠ah o.Guards)))else(bif o.Kind=10 then((FV (ah o.Boxes) 1 6).bind λe=>some (!e))else(bif o.Kind=11 then(some (decide (ah o.Boxes≠1)))else(some false)))))
theorem Es{o}:DC prog gl (FX o) 101 [.agg (aJ o)] bG:=
 cy func101 λK=>cN 111100 (sp [] [(1,.ref 0 0),(3,.clo (.func 183) [] []),(4,.clo (.func 184) [] [])] [ob 0 50 (aJ o)] 1) [hc (aG 20 (.clo (.func 183) [] []) aH),hc (aG 20 (.clo (.func 184) [] []) aH)]<|cC 111100 (λa=>sg [1] [(52,bG a)]) (λa=>eH [52] (rv K)<|aF 56 (BU 60 (eE gl) λd=>rv K)<|aF 63 (rv K)<|aF 72 (BU 76 (eE gl) λf=>rv K)<|aF 79 (rv K)<|rv K) λa k12=>aF 8 (rx k12)<|aF 14 (rx k12)<|BU 19 (tK gl (⟨aH,bf,eB aH,λ_ _ e=>H8 gl e⟩)) λb=>aF 21 (rx k12)<|aF 27 (rx k12)<|aF 33 (rx k12)<|aF 39 (rx k12)<|BU 44 (pY gl (⟨aH,bf,eB aH,λ_ _ e=>H9 gl e⟩)) λc=>aF 46 (rx k12)<|rx k12
def eR(n:Nat):FF:=
 bif ((2305843009213693951:Nat):Int)<=((wU (((bD n 2305843009213693951:Nat):Int)+((JB n 61:Nat):Int)):Nat):Int)then(some (wU (((wU (((bD n 2305843009213693951:Nat):Int)+((JB n 61:Nat):Int)):Nat):Int)-((2305843009213693951:Nat):Int))))else(some (wU (((bD n 2305843009213693951:Nat):Int)+((JB n 61:Nat):Int))))
theorem dr{n}:DC prog gl (eR n) 279 [uG n] (λr:Nat=>uG r):=
 cy func279 λK=>aw [hV 4 (ju (P:=prog) (t:=40) n 2305843009213693951),hV 6 (TH (P:=prog) (t:=40) (k':= .u64) n 61),hbb 7 (gV ((bD n 2305843009213693951:Nat):Int) ((JB n 61:Nat):Int))]<|aF 9 (aw [hbb 11 (YH ((wU (((bD n 2305843009213693951:Nat):Int)+((JB n 61:Nat):Int)):Nat):Int) ((2305843009213693951:Nat):Int))]<|rv K)<|rv K
def jZ(a:Nat)(b:Nat):FF:=
 (eR a).bind λv1=>(eR b).bind λd=>(sL v1 d).bind λc=>(eR c.2).bind λe=>(eR (wU ((e:Int)+((I1 c.1 3:Nat):Int)))).bind λf=>some f
theorem j0{a b}:DC prog gl (jZ a b) 205 [uG a,uG b] (λr:Nat=>uG r):=
 cy func205 λK=>BU 9 (dr gl) λv1=>BU 11 (dr gl) λe=>BU 12 (FY gl) λc=>BU 16 (dr gl) λd=>BU 20 (dr gl) λf=>aw [hV 18 (Ks (P:=prog) (t:=40) (k':= .u64) c.1 3),hbb 19 (gV (d:Int) ((I1 c.1 3:Nat):Int))]<|rv K
def iB(n:Nat)(low:Nat)(a:Nat):Fw:=
 (bif (low:Int)<=(n:Int)then(some (decide ((n:Int)<=(a:Int))))else(some false)).bind λb=>some b
theorem GL{n low a}:DC prog gl (iB n low a) 202 [uG n,uG low,uG a] bG:=
 cy func202 λK=>cN [1,0] (sf [] []) []<|cC [1,0] (λb=>sg [] [(6,bG b)]) (λb=>rv K) λb k3=>aF 9 (rx k3)<|rx k3
end
section
set_option maxHeartbeats 2000000
attribute [local irreducible] Tr dz Gp
def df(a:Ab)(a1:Aj):Fw:=
 some ((a1.at_.get a).isSome)
theorem jk{id_ a1}:DC prog gl (df id_ a1) 113 [.agg (aj id_),.ptr [.ptr (Ag a1) 0] 0] bG:=
 cy func113 λK=>aw [hm 12 (H7 a1.at_ id_)]<|rv K
def wG(a:Nat)(b:Nat):FF:=
 (eR a).bind λv1=>(eR b).bind λc=>(eR (wU ((v1:Int)+(c:Int)))).bind λd=>some d
theorem Ia{a b}:DC prog gl (wG a b) 333 [uG a,uG b] (λr:Nat=>uG r):=
 cy func333 λK=>BU 6 (dr gl) λv1=>BU 8 (dr gl) λc=>BU 10 (dr gl) λd=>aw [hbb 9 (gV (v1:Int) (c:Int))]<|rv K
def Ou(d:Int)(a1:Ad):Fw:=
 some (!(Hi (a1.in_.get d)))
theorem O4{d a1}:DC prog gl (Ou d a1) 398 [iG d,.ptr [.ptr (CB a1) 0] 0] bG:=
 cy func398 λK=>aw [hm 9 (SA a1.in_ d)]<|rv K
def VG(a:Ad)(o:Bi)(m:Int):JP:=
 (Abc o.Guards (λz=>Ou z a)).bind λv1=>bif v1 then(some 17)else(some 0)
theorem XT{r_ o m}:DC prog gl (VG r_ o m) 397 [.ptr (CB r_) 0,.agg (aJ o),iG m] iG:=
 cy func397 λK=>cN 1100 (sp [] [(3,.ptr [.ptr (CB r_) 0] 0),(4,.ref 0 0)] [ob 0 50 (aJ o)] 1) [hc (aY (Ah (CB r_) 0) (bf))]<|ak λv1 e2=>kV (λb3=>aw [hf 10 (cF (ml gl (⟨aH,bf,eB aH,λ_ _ e=>O4 gl e⟩) e2) b3)]<|rv K) λb3=>aw [hf 10 (cF (ml gl (⟨aH,bf,eB aH,λ_ _ e=>O4 gl e⟩) e2) b3)]<|rv K
end
section
attribute [local irreducible] Tr dz Gp
abbrev u1(n:Nat):Option Ob:=some ⟨40,[uG n],none⟩
theorem Kt(a n:Nat):jg prog gl 284 [uG a,uG n] [] 0 (.clo (.func 335) [] [.ref 0 0,.ref 1 0]) [(0,u1 a),(1,u1 n)] 2:=by refine pP func284 ?_;exact dEf .ret (s0 6 gl [(4,.clo (.func 335) [] [.ref 0 0,.ref 1 0])] [(1,u1 n),(0,u1 a)] 2 0) [.clo (.func 335) [] [.ref 0 0,.ref 1 0]] [] (λk o hk=>by rcases k with _|_|k<;>exact hk)
def mW(s:Nat×Nat×Nat):Option ((Nat×Nat×Nat)⊕Nat):=
 bif ((0:Nat):Int)<(s.2.1:Int)then((bif ((bD s.2.1 1:Nat):Int)=((1:Nat):Int)then(jZ s.2.2 s.1)else some s.2.2).bind λo=>(jZ s.1 s.1).bind λb=>some (.inl (b,JB s.2.1 1,o)))else some (.inr s.2.2)
def Mi(a n:Nat):FF:=(eR a).bind λv=>AQ mW (v,n,1)
noncomputable abbrev FZ:Code:=bq 111012 (ai Tryz.f204)
noncomputable abbrev tL(st:LoopState)(fr:Fr):Option Ob:=some ⟨0,[],some (.loop st none 18 fr (Dy FZ) (Dz FZ) (DA FZ))⟩
noncomputable abbrev Yo:Fr:=[(5,.ref 0 0),(10,.clo (.func 335) [] [.ref 1 0,.ref 2 0])]
abbrev r4:Dx:=[(0,0),(1,1),(2,2),(3,3)]
theorem mX{r:Nat}(h:Mi a n=some r):ba prog gl 204 [uG a,uG n] (uG r):=by
 unfold Mi at h;obtain⟨v,ev,h⟩:=bS h;refine Gh func204 ?_;refine YR [1,1,0,1,2] (s0 18 gl Yo [(1,u1 a),(2,u1 n),(0,u1 1)] 3 0) [hmc 10 [] 1 [] [uG a,uG n] [(0,⟨40,[uG a],none⟩),(1,⟨40,[uG n],none⟩)] (Kt gl a n) trivial ⟨⟨rfl,.inl rfl⟩,⟨rfl,.inl rfl⟩,trivial⟩] ?_;refine Xt (fst:=[]) (cap:=[.ref 1 0,.ref 2 0]) Tryz.f335 func335 ?_;refine pN (λs:Nat×Nat×Nat=>(s0 22 gl [(0,.yld 3),(1,.ref 1 0),(2,.ref 2 0),(4,uG s.1)] [(0,u1 s.2.2),(2,u1 s.2.1),(3,tL .ready [(5,.ref 0 0)])] 4 4)) 1122 h [hf 6 (dr gl ev)] [] (λB s w hs k5 d=>?_) [] r4;unfold mW at hs;rcases bC hs with⟨b1,hs⟩|⟨b1,hs⟩
 .obtain⟨o,c,hs⟩:=bS hs;obtain⟨b,eb,hs⟩:=bS hs;obtain rfl:=Bh hs;refine pO 112200 (s0 22 gl [(0,.yld 3),(1,.ref 1 0),(2,.ref 2 0),(4,uG s.1)] [(0,u1 s.2.2),(2,u1 s.2.1),(3,tL .ready [(5,.ref 0 0)])] 4 4) [] [] ?_ [] r4;refine Xw (i:=3) (j:=8) (n:=18) (t:=0) (t2:=0) (pe:=none) (fr:=[(5,.ref 0 0)]) (ps:=Dy FZ) (a:=Dz FZ) (b:=DA FZ) (s1:=(s0 22 gl [(14,bG (decide (((bD s.2.1 1:Nat):Int)=((1:Nat):Int)))),(13,uG (bD s.2.1 1)),(12,uG s.2.1),(11,uG s.1),(10,.yld 3),(9,bG true),(8,bG true),(7,uG s.2.1),(0,.yld 3),(1,.ref 1 0),(2,.ref 2 0),(4,uG s.1)] [(0,u1 s.2.2),(2,u1 s.2.1),(3,tL .ready [(5,.ref 0 0)])] 4 4))
   (s3:=(s0 22 gl [(16,bG true),(15,bG true),(14,bG (decide (((bD s.2.1 1:Nat):Int)=((1:Nat):Int)))),(13,uG (bD s.2.1 1)),(12,uG s.2.1),(11,uG s.1),(10,.yld 3),(9,bG true),(8,bG true),(7,uG s.2.1),(0,.yld 3),(1,.ref 1 0),(2,.ref 2 0),(4,uG s.1)] ((3,tL .ready [(5,.ref 0 0)])::[(0,u1 o),(2,u1 s.2.1),(3,tL .busy [(5,.ref 0 0)])]) 4 4))
   [(0,u1 o),(2,u1 s.2.1),(3,tL .busy [(5,.ref 0 0)])] 4 (.loop .ready none 18 [(5,.ref 0 0)] (Dy FZ) (Dz FZ) (DA FZ)) [hr 8 b1,hV 13 (ju (P:=prog) (t:=40) s.2.1 1)] [] ?_ ?_
  .refine C9 .normal ⟨18,gl,[(5,.ref 0 0),(6,uG s.1),(7,bG (decide (((bD s.2.1 1:Nat):Int)=((1:Nat):Int))))],[(0,u1 s.2.2),(2,u1 s.2.1),(3,tL .ready [(5,.ref 0 0)])],4,4,true⟩ [] [] (Xv Tryz.f204 ?_ rfl) [] r4;rcases bC c with⟨b2,c⟩|⟨b2,c⟩
   .rw[b2];exact C9 .normal ⟨18,gl,[],[(0,u1 o),(2,u1 s.2.1),(3,tL .busy [(5,.ref 0 0)])],4,4,true⟩ [hf 16 (j0 gl c)] [] (jy rfl rfl rfl rfl rfl rfl) [] r4
   .rw[b2];obtain rfl:=Bh c;exact C9 .normal ⟨18,gl,[],[(0,u1 s.2.2),(2,u1 s.2.1),(3,tL .busy [(5,.ref 0 0)])],4,4,true⟩ [] [] (jy rfl rfl rfl rfl rfl rfl) [] r4
  .exact jw [hf 21 (j0 gl eb),hV 18 (TH (P:=prog) (t:=40) (k':= .u64) s.2.1 1)] [] (k5 _ rfl) [] r4
 .obtain rfl:=Bh hs;obtain rfl:=d _ rfl;refine C9 .normal (s0 22 gl [] [(0,u1 s.2.2),(3,tL .ready [(5,.ref 0 0)])] 4 4) [hr 8 b1] [] (Xu ?_ rfl) [] r4;exact Ar [] []
def kE(s k w:Nat):FF:=(jZ 37 s).bind λa=>(eR (wU ((w:Int)+((wU ((k:Int)+((1:Nat):Int)):Nat):Int)))).bind λb=>(wG a b).bind λc=>Mi c 17
def rK(l:Bp)(x:Nat×Nat×Int):Option ((Nat×Nat×Int)⊕(Nat×Nat)):=bif x.2.2<ah l then(aS l x.2.2).bind λw=>(kE x.1 x.2.1 w).bind λs=>some (.inl (s,wU ((x.2.1:Int)+((1:Nat):Int)),wI (x.2.2+1)))else some (.inr (x.1,x.2.1))
abbrev Ku(s k:Nat):Option Ob:=some ⟨314,[uG s,uG k],none⟩
abbrev Ci(l:Bp):Option Ob:=some ⟨40,l.flatMap cW,none⟩
theorem Th{l:Bp}{r:Nat×Nat}(h:AQ (rK l) (s,k,0)=some r):jg prog gl 278 [.ref 0 0,.rsl 1 0 l.length] [(0,Ku s k),(1,Ci l)] 2 (.tup []) [(0,Ku r.1 r.2),(1,Ci l)] 2:=by
 refine pP func278 ?_;refine pN (λx:Nat×Nat×Int=>(s0 37 gl [(0,.ref 0 0),(6,.rsl 1 0 l.length),(7,iG (ah l)),(8,iG x.2.2)] [(0,Ku x.1 x.2.1),(1,Ci l)] 2 2)) 1122 h [] [hc (rfl:l.length=l.length),hc (rW.imm l)] (λB x w hs k5 e=>?_) (kd:=[(1,.row)]);unfold rK at hs;rcases bC hs with⟨b1,hs⟩|⟨b1,hs⟩
 .obtain⟨y,d,hs⟩:=bS hs;obtain⟨s',es,hs⟩:=bS hs;obtain rfl:=Bh hs;unfold kE at es;obtain⟨a,f,es⟩:=bS es;obtain⟨b,eb,es⟩:=bS es;obtain⟨c,g,es⟩:=bS es;exact jw [hr 9 b1,AA 10 (rW.ixrZ 1 d),AA 11 (rW.p10Z tW d),hbb 16 (gV (x.2.1:Int) ((1:Nat):Int)),hf 24 (j0 gl f),hbb 30 (gV (y:Int) ((wU ((x.2.1:Int)+((1:Nat):Int)):Nat):Int)),hf 31 (dr gl eb),hf 32 (Ia gl g),hf 33 (mX gl es)] [hc (rfl:l.length=l.length),hc (rW.imm l)] (k5 _ rfl) (kd:=[(1,.row)])
 .obtain rfl:=Bh hs;obtain rfl:=e _ rfl;exact mt .normal (s0 37 gl [] [(0,Ku x.1 x.2.1),(1,Ci l)] 2 2) [] [hr 9 b1] [hc (rW.imm l)] (kd:=[(1,.row)])
abbrev ny(b:CO):G:= .clo (.func 281) [] [.ptr [aE cY b] 0]
abbrev Kv(b:CO):G:= .clo (.func 334) [] [.ptr [aE cY b] 0,.ptr [iG 7] 0]
theorem Ic(b:CO):ba prog gl 187 [aE cY b] (ny b):=by refine Gh func187 ?_;refine pO [1,0] (s0 4 gl [(1,.ptr [aE cY b] 0)] [] 0 0) [] [hc (aY (aG 20 (aE cY b) aH) bf)] ?_;exact Ar [] []
theorem Ie(b:CO):ba prog gl 282 [aE cY b,iG 7] (Kv b):=by refine Gh func282 ?_;refine pO 1100 (s0 9 gl [(2,.ptr [aE cY b] 0),(3,.ptr [iG 7] 0)] [] 0 0) [] [hc (aY (aG 20 (aE cY b) aH) bf),hc (aY (aG 20 (iG 7) aH) bf)] ?_;exact Ar [] []
def hcv(d:Nat){g:G}{p:Prop}(t:p):HP:=⟨some (.c d g),p,t⟩
theorem Yp{ts te:Bn}{f:α->Bo}(R:Ba P ts te k f){l y z:List α}{i j:Int}(h1:tq l j=some y)(h2:mc y i=some z):sJ P ts (aE f l) (iG i) (iG j) (iG j)=some (aE f z):=by obtain⟨a1,a2,rfl⟩:=ym h1;obtain⟨b1,b2,rfl⟩:=yn h2;rw[Ns] at b2;simp only[sJ,R.el,R.sz,aE,iG,xL];grind [Ba,yk,sQ]
def oD(q:CO)(x:Nat×Int):Option ((Nat×Int)⊕Nat):=bif x.2<ah q then(aS q x.2).bind λy=>(wJ (wI (8*x.2))).bind λn=>some (.inl (gM x.1 (I1 (wU (y.toNat:Int)) n),wI (x.2+1)))else some (.inr x.1)
def xZ(b:CO)(x:Bp×Int):Option ((Bp×Int)⊕Bp):=bif x.2<ah b then(mc b x.2).bind λq0=>(tq b (wI (x.2+iI 7 (ah q0)))).bind λy=>(mc y x.2).bind λq=>(AQ (oD q) (0,0)).bind λw=>(aT 8 x.1 [w]).bind λa=>some (.inl (a,wI (x.2+7)))else some (.inr x.1)
def Cj(b:CO):Option Bp:=AQ (xZ b) ([],0)
noncomputable abbrev OV:Code:=bq 11012 (ai Tryz.f280)
noncomputable abbrev Kw:Code:=bq 1112 (ai Tryz.f281)
noncomputable abbrev uS(st:LoopState):Option Ob:=some ⟨0,[],some (.loop st none 13 [(2,.ref 0 0)] (Dy OV) (Dz OV) (DA OV))⟩
noncomputable abbrev rL(st:LoopState):Option Ob:=some ⟨0,[],some (.loop st none 29 [(2,.ref 2 0)] (Dy Kw) (Dz Kw) (DA Kw))⟩
abbrev I8(g:G):Option Ob:=some ⟨44,[g],none⟩
abbrev Kx(i:Nat):Option Ob:=some ⟨228,[.yld i],none⟩
abbrev aar(b:CO)(i m:Int):Fr:=[(0,.yld 3),(1,.ptr [aE cY b] 0),(2,.ptr [iG 7] 0),(4,iG i),(5,iG m)]
noncomputable abbrev σCh(acc:Bp):aQ:=[(0,I8 (.rsl 4 0 acc.length)),(1,uS .ready),(2,Kx 1),(3,rL .ready),(4,Ci acc)]
abbrev Ti(b q:CO)(i m:Int):Fr:=[(28,aE cY q),(27,iG (wI (i+m))),(26,iG m),(25,iG i),(24,iG (wI (i+m))),(23,iG m),(22,iG i),(21,iG i),(20,aE cY b),(19,.yld 3)]++aar b i m
noncomputable abbrev σRd(acc:Bp):aQ:=[(0,I8 (.rsl 5 0 acc.length)),(1,uS .ready),(2,Kx 1),(3,rL .busy),(5,Ci acc)]
theorem F0{b:CO}(h:Cj b=some r):iV prog gl 280 [.lit (.slice none 0 0),ny b] 40 r.length (r.flatMap cW):=by
 unfold Cj at h;refine OW func280 ?_;refine YR [1,0,1,2] (s0 13 gl [(2,.ref 0 0),(6,ny b)] [(0,I8 (.lit (.slice none 0 0)))] 1 0) [] ?_;refine Xt (fst:=[]) (cap:=[.ptr [aE cY b] 0]) Tryz.f281 func281 ?_;refine YR [1,1,2] (s0 29 gl [(2,.ref 2 0),(8,Kv b)] [(2,Kx 1),(1,some ⟨0,[],some (.loop .ready none 13 [(2,.ref 0 0),(6,ny b)] (Dy OV) (Dz OV) (DA OV))⟩),(0,I8 (.lit (.slice none 0 0)))] 3 2) [hf 8 (Ie gl b)] ?_;refine Xt (fst:=[]) (cap:=[.ptr [aE cY b] 0,.ptr [iG 7] 0]) Tryz.f334 func334 ?_;refine pN (λx:Bp×Int=>(s0 31 gl [(0,.yld 3),(1,.ptr [aE cY b] 0),(2,.ptr [iG 7] 0),(4,iG x.2)] [(0,I8 (.rsl 4 0 x.1.length)),(1,uS .ready),(2,Kx 1),(3,rL .ready),(4,Ci x.1)] 5 4)) 1122 h [] [hc (rW.imm [])] (λB x w hs k5 d=>?_) (vs:=[40]) (ρ:=rI 5) (kd:=[(4,.row)]);unfold xZ at hs;rcases bC hs with⟨b1,hs⟩|⟨b1,hs⟩
 .obtain⟨q0,e0,hs⟩:=bS hs;obtain⟨y,k,hs⟩:=bS hs;obtain⟨q,l,hs⟩:=bS hs;obtain⟨w,ew,hs⟩:=bS hs;obtain⟨a,m,hs⟩:=bS hs;obtain rfl:=Bh hs;refine pO 112210210 (s0 31 gl [(0,.yld 3),(1,.ptr [aE cY b] 0),(2,.ptr [iG 7] 0),(4,iG x.2),(5,iG (iI 7 (ah q0)))] [(0,I8 (.rsl 4 0 x.1.length)),(1,uS .ready),(2,Kx 1),(3,rL .ready),(4,Ci x.1)] 5 4) [hr 9 b1,AA 16 (rY.sufZI e0)] [hc (rfl:x.1.length=x.1.length),hc (rW.imm x.1)] ?_ (ρ:=rI 5) (kd:=[(4,.row)]);refine Xw (i:=3) (j:=10) (n:=29) (t:=0) (t2:=0) (pe:=none) (fr:=[(2,.ref 2 0)]) (ps:=Dy Kw) (a:=Dz Kw) (b:=DA Kw) (s1:=(s0 31 gl (Ti b q x.2 (iI 7 (ah q0))) (σCh x.1) 5 4))
   (s3:=(s0 31 gl ([(30,bG false),(29,bG true)]++Ti b q x.2 (iI 7 (ah q0))) ((3,rL .ready)::σRd a) 6 4))
   (σRd a) 6 (.loop .ready none 29 [(2,.ref 2 0)] (Dy Kw) (Dz Kw) (DA Kw)) [hcv 28 (g:=aE cY q) (Yp rY k l)] [] ?_ ?_
  .refine C9 .normal ⟨29,gl,[(2,.ref 2 0),(3,aE cY q)],σCh x.1,5,5,true⟩ [] [hc (rfl:x.1.length=x.1.length),hc (rW.imm x.1)] (Xv Tryz.f281 ?_ rfl) (ρ:=rI 5) (kd:=[(4,.row)]);refine Ix 12101 ⟨29,gl,[(2,.ref 2 0),(4,uG w)],[(0,I8 (.rsl 4 0 x.1.length)),(1,uS .ready),(2,Kx 1),(3,rL .busy),(4,Ci x.1)],5,5,true⟩ ?_ λkk=>?_
   .refine pO 12110 ⟨29,gl,[(2,.ref 2 0),(4,uG w)],[(0,I8 (.rsl 4 0 x.1.length)),(1,uS .ready),(2,Kx 1),(3,rL .busy),(4,Ci x.1)],5,5,true⟩ [] [hc (rfl:x.1.length=x.1.length),hc (rW.imm x.1)] ?_ (ρ:=rI 5) (kd:=[(4,.row)]);refine Xw (i:=1) (j:=2) (n:=13) (t:=0) (t2:=0) (pe:=none) (fr:=[(2,.ref 0 0)]) (ps:=Dy OV) (a:=Dz OV) (b:=DA OV) (s1:=⟨29,gl,[(26,uG w),(25,.yld 1),(2,.ref 2 0),(4,uG w)],[(0,I8 (.rsl 4 0 x.1.length)),(1,uS .ready),(2,Kx 1),(3,rL .busy),(4,Ci x.1)],5,5,true⟩)
     (s3:=⟨29,gl,[(28,bG false),(27,bG true),(26,uG w),(25,.yld 1),(2,.ref 2 0),(4,uG w)],(1,uS .ready)::[(0,I8 (.rsl 5 0 a.length)),(1,uS .busy),(2,Kx 1),(3,rL .busy),(5,Ci a)],6,5,true⟩)
     [(0,I8 (.rsl 5 0 a.length)),(1,uS .busy),(2,Kx 1),(3,rL .busy),(5,Ci a)] 6 (.loop .ready none 13 [(2,.ref 0 0)] (Dy OV) (Dz OV) (DA OV)) [] [] ?_ ?_
    .refine C9 .normal ⟨13,gl,[(2,.ref 0 0),(5,uG w)],[(0,I8 (.rsl 4 0 x.1.length)),(1,uS .ready),(2,Kx 1),(3,rL .busy),(4,Ci x.1)],5,5,true⟩ [] [hc (rfl:x.1.length=x.1.length),hc (rW.imm x.1)] (Xv Tryz.f280 ?_ rfl) (ρ:=rI 5) (kd:=[(4,.row)]);exact C9 .normal ⟨13,gl,[],[(0,I8 (.rsl 5 0 a.length)),(1,uS .busy),(2,Kx 1),(3,rL .busy),(5,Ci a)],6,5,true⟩ [dg 11 rW m] [hc (el a),hc (rW.imm a)] (by grind [jy]) (ρ:=rI 5++[(5,6)]) (kd:=[(5,.row)])
    .exact C9 .normal ⟨29,gl,[],σRd a,6,5,true⟩ [] [hc (el a),hc (rW.imm a)] (by grind [jy]) (ρ:=rI 6) (kd:=[(5,.row)])
   refine pN (λz:Nat×Int=>⟨29,gl,[(2,.ref 2 0),(4,uG z.1),(10,aE cY q),(11,iG (ah q)),(12,iG z.2)],[(0,I8 (.rsl 4 0 x.1.length)),(1,uS .ready),(2,Kx 1),(3,rL .busy),(4,Ci x.1)],5,5,true⟩) [2,1,0,1,2,2] ew [] [hc (rfl:x.1.length=x.1.length),hc (rW.imm x.1)] (λo z v hz e f=>?_) (ρ:=rI 5) (kd:=[(4,.row)]);unfold oD at hz;rcases bC hz with⟨c1,hz⟩|⟨c1,hz⟩
   .obtain⟨c,e1,hz⟩:=bS hz;obtain⟨n1,e2,hz⟩:=bS hz;obtain rfl:=Bh hz;exact jw [hr 13 c1,AA 15 (rY.ixZ e1),AA 16 (rY.p1Z tY e1),AA 19 (C8 (c.toNat:Int)),hV 22 (sM (P:=prog) (t:=40) (wU (c.toNat:Int)) e2),hV 23 (jc (P:=prog) (t:=40) z.1 (I1 (wU (c.toNat:Int)) n1))] [hc (rfl:x.1.length=x.1.length),hc (rW.imm x.1)] (e _ rfl) (ρ:=rI 5) (kd:=[(4,.row)])
   .obtain rfl:=Bh hz;obtain rfl:=f _ rfl;exact yl 12101 [hr 13 c1] [hc (rfl:x.1.length=x.1.length),hc (rW.imm x.1)] kk (ρ:=rI 5) (kd:=[(4,.row)])
  .exact jw [] [hc (rfl:a.length=a.length),hc (rW.imm a)] (k5 _ rfl) (ρ:=rI 4++[(4,5)]) (kd:=[(4,.row)])
 .obtain rfl:=Bh hs;obtain rfl:=d _ rfl;refine C9 .normal (s0 31 gl [] [(0,I8 (.rsl 4 0 x.1.length)),(1,uS .ready),(3,rL .ready),(4,Ci x.1)] 5 4) [hr 9 b1] [hc (rfl:x.1.length=x.1.length),hc (rW.imm x.1)] (Xu ?_ rfl) (ρ:=rI 5) (kd:=[(4,.row)]);refine C9 .normal (s0 29 gl [] [(0,I8 (.rsl 4 0 x.1.length)),(1,uS .ready),(4,Ci x.1)] 5 2) [] [hc (rfl:x.1.length=x.1.length),hc (rW.imm x.1)] (Xu ?_ rfl) (ρ:=[(0,0),(1,1),(4,4)]) (kd:=[(4,.row)]);exact EI [] (rW.imm _)
theorem Ky{b:CO}(h:Cj b=some r):iV prog gl 186 [ny b] 40 r.length (r.flatMap cW):=by refine OW func186 ?_;exact EI [ho 4 [.lit (.slice none 0 0),ny b] [] (F0 gl h) (Gj (λx g hg=>by simp only[cW,List.mem_singleton] at hg;exact⟨_,hg⟩) r)] (rW.imm _)
theorem Qx{σ ρ:Type}{step:σ->Option (σ⊕ρ)}{s s':σ}{r:ρ}(h1:step s=some (.inl s'))(h2:step s'=some (.inr r)):AQ step s=some r:=by unfold AQ FU;rw[show(4611686018427387904:Nat)=4611686018427387902+1+1 from rfl];unfold KN;rw[h1];show KN step (4611686018427387902+1) s'=some r;unfold KN;rw[h2]
def k1(k:Nat):Nat:=wU ((k:Int)+((1:Nat):Int))
theorem Qy{w s':Nat}(h:kE s k w=some s'):jg prog gl 278 [.ref 0 0,.rsl 1 0 1] [(0,Ku s k),(1,Ci [w])] 2 (.tup []) [(0,Ku s' (k1 k)),(1,Ci [w])] 2:=by
 have e:AQ (rK [w]) (s,k,0)=some (s',k1 k):=by
  refine Qx (s':=(s',k1 k,1)) ?_ ?_
  .unfold rK;rw[CM (show((s,k,0):Nat×Nat×Int).2.2<ah [w] by simp[ah]),ax];show(some w:FF).bind _=_;rw[aL];show(kE s k w).bind _=_;rw[h,aL];rfl
  .unfold rK;rw[C3 (show¬((s',k1 k,1):Nat×Nat×Int).2.2<ah [w] by simp[ah]),A9]
 exact Th gl e
def F1(b:CO)(x:(Nat×Nat)×Int):Option (((Nat×Nat)×Int)⊕(Nat×Nat)):=bif x.2<ah b then(mc b x.2).bind λq0=>(tq b (wI (x.2+iI 7 (ah q0)))).bind λy=>(mc y x.2).bind λq=>(AQ (oD q) (0,0)).bind λw=>(kE x.1.1 x.1.2 w).bind λs=>some (.inl ((s,k1 x.1.2),wI (x.2+7)))else some (.inr x.1)
def F3(l:Bp)(x:(Nat×Nat)×Int):Option (((Nat×Nat)×Int)⊕(Nat×Nat)):=bif x.2<ah l then(aS l x.2).bind λy=>(eR y).bind λn=>(kE x.1.1 x.1.2 n).bind λs=>some (.inl ((s,k1 x.1.2),wI (x.2+1)))else some (.inr x.1)
def x6(label:CO)(l:Bp):FF:=(Gk label).bind λt=>(AQ (F1 t) ((wU (ah label),0),0)).bind λa=>(kE a.1 a.2 (wU (ah l))).bind λs1=>(AQ (F3 l) ((s1,k1 a.2),0)).bind λc=>kE c.1 c.2 0
end
end Go.Proofs.YtlimmeehdfbheaaGreatDoor
