/- Texts. -/
import Derived.Test.YtghphhhpagagbaaGreatDoorV9
namespace Go.Proofs.YtghphhhpagagbaaGreatDoor
set_option linter.unusedSectionVars false
set_option linter.unusedVariables false
set_option linter.unusedSimpArgs false
open Go.RowKit Tryz
attribute [local irreducible] Tr dz Gp
variable {α:Type}{o:Bp}{a b f i j k v:Nat}{K c d n:Int}{g:A7}{l:List α}{r:List Bool}{id x:Ab}{N:JH}{u:Bk}{m:JI}{W ids:Bc}{gg:Aj}{P:Br}{st:St}{al:AQ}{fi:FuncId}
section
variable {α β ρ:Type}
theorem cL{c:Bool}{a b:α}:(bif c then some a else some b)=some (bif c then a else b):=by cases c<;>rfl
theorem T.bindc{x:Option α}{f:α->Option β}{Q:β->Prop}(h:T x λ_=>True)(k:∀v,x= .some v->T (f v) Q):T (x.bind f) Q:=by obtain⟨v,e,_⟩:=h;exact .bind ⟨v,e,k v e⟩
theorem T.for1{step:Int->Option (Int⊕ρ)}{Q:ρ->Prop}(n:Nat)(J:Fq)(hn:n<2305843009213693952)(h0:J 1)(h:∀k,1<=k->k<n->J k->T (step (k:Int)) (Rd (λs'=>s'=((k+1:Nat):Int)/\J (k+1)) Q))(he:∀k,n<=k->k<=n+1->J k->T (step (k:Int)) (Rd (λ_=>False) Q)):T (AA step 1) Q:=by
 refine T.loop (λs=>∃k:Nat,1<=k/\k<=n+1/\s=(k:Int)/\J k) (λs=>n+1-s.toNat) (by grind) cq ?_;rintro i ⟨k,h1,hk,hik,hj⟩;subst hik;rcases HE k n with hlt|hge
 .refine(h k h1 hlt hj).mono λr hr=>?_;cases r with
  |inl s'=>refine⟨⟨k+1,aa,aa,hr.1,hr.2⟩,?_⟩;rw[hr.1];simp;omega
  |inr r=>exact hr
 .refine(he k hge hk hj).mono λr hr=>?_;cases r with
  |inl s'=>exact hr.elim
  |inr r=>exact hr
theorem T.search{step:Int->Option (Int⊕(Unit⊕ρ))}(l:List α)(p:α->Bool)(g:Nat->α->ρ)(hn:l.length<2305843009213693952)(h:∀(k:Nat) (x:α),l[k]?= .some x->k<l.length->step (k:Int)= .some (bif p x then .inr (.inr (g k x))else .inl ((k+1:Nat):Int)))(he:step (l.length:Int)= .some (.inr (.inl ()))):T (AA step 0) (λr=>(r= .inl ()/\∀x∈l,p x=false)\/∃k x,l[k]?= .some x/\p x=true/\r= .inr (g k x)/\∀(j:Nat) (y:α),j<k->l[j]?= .some y->p y=false):=by
 refine T.forI l.length (λk=>∀(j:Nat) (y:α),j<k->l[j]?= .some y->p y=false) hn (by grind) (λk hk hj=>?_) λhj=>?_
 .have hx:l[k]?= .some (l[k]'hk):=DR hk;rw[h k _ hx hk];refine .some ?_;cases hp:p l[k] with
  |true=>exact .inr ⟨k,_,hx,hp,rfl,hj⟩
  |false=>constructor<;>grind
 .rw[he];refine .some (.inl ⟨rfl,λx hx=>?_⟩);grind [Gu]
end
theorem gT(n a b:Int):fB n a b=some (decide (a<=n/\n<=b)):=by grind [fB]
theorem Cq(n:Nat):AL n=some (decide (n<2305843009213693951)):=by unfold AL;congr 2;grind
def l7(i:Ab):Bool:=decide (1<=i.By/\i.By<=12/\1<=i.Seq/\i.Seq<=2147483647/\i.Sum<2305843009213693951)
def Cr(n:Nat):Bool:=decide (1<=n/\n<2305843009213693951)
theorem mY(i:Ab):iM i=some (l7 i):=by grind [iM,l7,gT,Cq]
theorem kS(n:Nat):Jb n=some (Cr n):=by grind [Jb,Cr]
def yZ(b:Ha):Bool:=Cr b.To&&Cr b.Eph&&decide (b.Body<2305843009213693951)&&decide (b.Tag<2305843009213693951)
theorem Cs{l:List Ha}(hn:l.length<=1000000):T (qw l) λb=>b=l.all yZ:=by
 unfold qw;refine .bind ((T.search l (λb=> !yZ b) (λ_ _=>false) aa (λk x hx hk=>?_) ?_).mono ?_)
 .unfold qv;rw[eA hk,ax,au,hx];simp only[aL,kS,Cq];grind [yZ,aq]
 .unfold qv;rw[eF,Be]
 .rintro r (⟨rfl,h⟩|⟨k,x,hx,hp,rfl,_⟩)
  .refine .some (Eq.symm (Ge.2 λx hx=>?_));have:=h x hx;simpa using this
  .refine .some (Eq.symm (Bool.eq_false_iff.2 λh=>?_));have:=Ge.1 h x (bO hx);rw[this] at hp;cases hp
theorem Ip{p:α->Bool}{step:Int->Option (Int⊕(Unit⊕Bool))}{next:Unit->Fl}{rest:Bool}(l:List α)(hl:l.length<=1000000)(h:∀(k:Nat) (x:α),l[k]?=some x->x∈l->k<l.length->step (k:Int)=some (bif p x then .inl ((k+1:Nat):Int)else .inr (.inr false)))(he:step (l.length:Int)=some (.inr (.inl ())))(hn:T (next ()) λb=>b=rest):T ((AA step 0).bind λx=>ma x next (λq=>some q)) λb=>b=(l.all p&&rest):=by
 refine .bind ((T.search l (λx=> !p x) (λ_ _=>false) aa (λk x hx hk=>?_) he).mono ?_)
 .grind
 .rintro r (⟨rfl,hr⟩|⟨k,x,hx,hp,rfl,_⟩)
  .have:l.all p=true:=by grind
   rw[this,Bool.true_and];exact hn
  .have:l.all p=false:=by grind
   rw[this,Bool.false_and];exact .some rfl
theorem Mq{p:α->Bool}{step:Int->Option (Int⊕(Unit⊕Bool))}{next:Unit->Fl}{rest:Bool}(l:List α)(hl:l.length<=1000000)(h:∀(k:Nat) (x:α),l[k]?=some x->x∈l->k<l.length->step (k:Int)=some (bif p x then .inr (.inr true)else .inl ((k+1:Nat):Int)))(he:step (l.length:Int)=some (.inr (.inl ())))(hn:T (next ()) λb=>b=rest):T ((AA step 0).bind λx=>ma x next (λq=>some q)) λb=>b=(l.any p||rest):=by
 refine .bind ((T.search l p (λ_ _=>true) aa (λk x hx hk=>?_) he).mono ?_)
 .grind
 .rintro r (⟨rfl,hr⟩|⟨k,x,hx,hp,rfl,_⟩)
  .have:l.any p=false:=by grind
   rw[this,Bool.false_or];exact hn
  .have:l.any p=true:=by grind
   rw[this,Bool.true_or];exact .some rfl
def yb(o:Bp):Bool:=o.Guards.all (λz=>decide (1<=z/\z<=12))&&(o.Refs.all (λn=>decide (n<2305843009213693951))&&(o.Past.all l7&&(o.Path.all (λn=>Cr n.Pub&&n.Boxes.all yZ)&&(o.Hist.all (λx=>l7 x.Of)&&o.Boxes.all yZ))))
theorem KA(h:Bb o):T (vw o) λb=>b=yb o:=by
 have n1:=h.nPast;have n2:=h.nPath;have a:=h.nRefs;have c:=h.nGuards;have d:=h.nHist;have f:=h.nBoxes;unfold vw yb;refine Ip o.Guards aa (λk x hx hm hk=>?_) (by unfold qB;rw[eF,Be]) (Ip o.Refs aa (λk x hx hm hk=>?_) (by unfold qA;rw[eF,Be]) (Ip o.Past aa (λk x hx hm hk=>?_) (by unfold qz;rw[eF,Be]) (Ip o.Path aa (λk x hx hm hk=>?_) (by unfold qy;rw[eF,Be]) (Ip o.Hist aa (λk x hx hm hk=>?_) (by unfold qx;rw[eF,Be]) (by grind [Cs])))))
 .grind [qB,eA,au,aq,gT]
 .grind [qA,eA,au,aq,Cq]
 .grind [qz,eA,au,aq,mY]
 .have e:=(Cs (l:=x.Boxes) (by have:=(h.path x hm).n;omega)).eq;unfold qy;grind [eA,au,aq,kS]
 grind [qx,eA,au,aq,mY]
def Ct(o:Bp):Bool:=o.Path.any (λn=>decide (12<n.Boxes.length))||(o.Hist.any (λn=>decide (208<n.Body.length))||(decide (12<o.Past.length\/5<o.Path.length\/208<o.Body.length\/8<o.Refs.length\/20<o.Hist.length\/6<o.Guards.length)||(if o.Kind=7 then !decide (1<=o.Body.length/\o.Body.length<=20)else if o.Kind=9 then decide (o.Boxes.length≠o.Guards.length)else if o.Kind=10 then !decide (1<=o.Boxes.length/\o.Boxes.length<=6)else if o.Kind=11 then decide (o.Boxes.length≠1)else false)))
theorem Iq(l:List α)(n:Nat):decide ((n:Int)<ah l)=decide (n<l.length):=decide_eq_decide.2 (by unfold ah;omega)
theorem NZ(h:Bb o):T (z6 o) λb=>b=Ct o:=by
 have n1:=h.nPast;have n2:=h.nPath;have a:=h.nHist;unfold z6 Ct;refine Mq o.Path aa (λk x hx hm hk=>?_) (by unfold tV;rw[eF,Be]) (Mq o.Hist aa (λk x hx hm hk=>?_) (by unfold tU;rw[eF,Be]) ?_)
 .grind [tV,au,aq,ah]
 .grind [tU,au,aq,ah]
 .have a1:decide ((12:Int)<ah o.Past)=decide (12<o.Past.length):=Iq o.Past 12;have a2:decide ((5:Int)<ah o.Path)=decide (5<o.Path.length):=Iq o.Path 5;have a3:decide ((208:Int)<ah o.Body)=decide (208<o.Body.length):=Iq o.Body 208;have a4:decide ((8:Int)<ah o.Refs)=decide (8<o.Refs.length):=Iq o.Refs 8;have a5:decide ((20:Int)<ah o.Hist)=decide (20<o.Hist.length):=Iq o.Hist 20;have a6:decide ((6:Int)<ah o.Guards)=decide (6<o.Guards.length):=Iq o.Guards 6;have b1:decide ((1:Int)<=ah o.Body/\ah o.Body<=20)=decide (1<=o.Body.length/\o.Body.length<=20):=decide_eq_decide.2 (by unfold ah;omega);have b2:decide ((1:Int)<=ah o.Boxes/\ah o.Boxes<=6)=decide (1<=o.Boxes.length/\o.Boxes.length<=6):=decide_eq_decide.2 (by unfold ah;omega);have b3:decide (ah o.Boxes≠ah o.Guards)=decide (o.Boxes.length≠o.Guards.length):=decide_eq_decide.2 (by unfold ah;omega);have b4:decide (ah o.Boxes≠1)=decide (o.Boxes.length≠1):=decide_eq_decide.2 (by unfold ah;omega);rw[a1,a2,a3,a4,a5,a6];simp only[gT,aL,b1,b2,b3,b4,cL];refine⟨_,rfl,?_⟩;grind
def AbW(o:Bp):Bool:=(mz o).getD false
theorem Cu(o:Bp):mz o=some (AbW o):=by
 have:T (mz o) λ_=>True:=by unfold mz;repeat'(first|exact T.some trivial|(refine T.bindc ?_ λv _=>?_)|(refine T.ite (λ_=>?_) λ_=>?_))
 obtain⟨b,e,_⟩:=this;unfold AbW;rw[e];rfl
def gU(o:Bp):Bool:=(Fw o).getD false
theorem jF(o:Bp):Fw o=some (gU o):=by
 have:T (Fw o) λ_=>True:=by unfold Fw;simp only[gT,mY,kS];repeat'(first|exact T.some trivial|(refine T.bindc ?_ λv _=>?_)|(refine T.ite (λ_=>?_) λ_=>?_))
 obtain⟨b,e,_⟩:=this;unfold gU;rw[e];rfl
def dt(a b:Ab):Bool:=if a.By≠b.By then decide (a.By<b.By)else if a.Seq≠b.Seq then decide (a.Seq<b.Seq)else decide (a.Sum<b.Sum)
theorem pJ(a b:Ab):oU a b=some (dt a b):=by unfold oU dt;rw[show decide ((a.Sum:Int)<(b.Sum:Int))=decide (a.Sum<b.Sum) from decide_eq_decide.2 aa];grind
structure EZ (o:Bp):Prop where
 kind:1<=o.Kind/\o.Kind<=13
 bare:AbW o=true
 numbers:gU o=true
 items:yb o=true
 long:Ct o=false
 past:∀(k:Nat) (a b:Ab),o.Past[k]?=some a->o.Past[k+1]?=some b->dt a b=true
 guards:∀(k:Nat) (a b:Int),o.Guards[k]?=some a->o.Guards[k+1]?=some b->a<b
 create:o.Past=[]↔o.Kind=1
theorem F7(h:1<=k)(h2:k<2305843009213693952):wI ((k:Int)-1)=((k-1:Nat):Int):=by grind [bM]
theorem Cv(h:Bb o):T (qE o) λe=>e=0->EZ o:=by
 have n1:=h.nPast;have f:=h.nGuards;unfold qE;rw[cL,aL];refine .ite (by grind [T.some]) λhk=>?_;rw[Cu,aL];refine .ite (by grind [T.some]) λhb=>?_;rw[jF,aL];refine .then (v:= !(gU o)|| !(yb o)) ?_ ?_
 .cases hn:gU o with
  |false=>exact .some rfl
  |true=>exact .then (KA h) (.some aC)
 refine .ite (by grind [T.some]) λhn=>?_;refine .then (NZ h) (.ite (by grind [T.some]) λhl=>?_);refine .bind (T.for1 o.Past.length (λk=>∀(j:Nat) (a b:Ab),j+1<k->o.Past[j]?=some a->o.Past[j+1]?=some b->dt a b=true) aa (by grind) (λk h1 hk hj=>?_) λk hge _ hj=>?_)
 .obtain⟨a0,e0⟩:∃a0,o.Past[k-1]?=some a0:=⟨_,DR aa⟩;obtain⟨a1,e1⟩:∃a1,o.Past[k]?=some a1:=⟨_,DR hk⟩;unfold qD;rw[eA hk,ax,F7 h1 aa,au,au,e0,e1,aq aa];simp only[aL,pJ];refine .ite (λ_=> .some (.some (by grind))) λc=> .some ⟨rfl,λj a b d ha hb'=>?_⟩;grind
 unfold qD;rw[show decide ((k:Int)<ah o.Past)=false from C6 (by unfold ah;omega),Be];refine .some ?_;have hpast:∀(j:Nat) (a b:Ab),o.Past[j]?=some a->o.Past[j+1]?=some b->dt a b=true:=by grind
 clear hj;refine .bind (T.for1 o.Guards.length (λk=>∀(j:Nat) (a b:Int),j+1<k->o.Guards[j]?=some a->o.Guards[j+1]?=some b->a<b) aa (by grind) (λk h1 hk hj=>?_) λk hge _ hj=>?_)
 .obtain⟨a0,e0⟩:∃a0,o.Guards[k-1]?=some a0:=⟨_,DR aa⟩;obtain⟨a1,e1⟩:∃a1,o.Guards[k]?=some a1:=⟨_,DR hk⟩;unfold qC;rw[eA hk,ax,F7 h1 aa,au,au,e0,e1,aq aa];simp only[aL];refine .dec (λ_=> .some (.some (by grind))) λc=> .some ⟨rfl,λj a b d ha hb'=>?_⟩;grind
 unfold qC;rw[show decide ((k:Int)<ah o.Guards)=false from C6 (by unfold ah;omega),Be];refine .some ?_;have hguards:∀(j:Nat) (a b:Int),o.Guards[j]?=some a->o.Guards[j+1]?=some b->a<b:=λj a b ha hb'=>hj j a b (by grind) ha hb';rw[cL,cL,cL,aL];refine .ite (by grind [T.some]) λhc=> .some λ_=>⟨?_,?_,?_,?_,hl,hpast,hguards,?_⟩
 .grind
 .simpa using hb
 .grind
 .grind
 .have e:ah o.Past=0↔o.Past=[]:=by unfold ah;simp_all
  grind
theorem uW{x:Option α}{Q:α->Prop}(h:T x Q):T x λ_=>True:=h.mono (by grind)
theorem KB{p:Nat}{b:CD}{s:Xf}(hp:fS p)(hS:fS s.S)(hb:b.length<=1073741824):T (jJ p b s) λ_=>True:=by
 unfold jJ;have e:fV=some 2305843009213693950:=rfl;simp only[e,aL];refine .bindc ?_ λj _=>?_
 .grind [T.some]
 .refine .ite (λ_=> .some trivial) λ_=>?_;refine .bind ((ka _ hS).mono (by grind [T.bind,T.mono,QE,ka,wL,T.some]))
section
variable {K:Type} [DecidableEq K]
theorem gb{k:K}:∀{l:List K} {n:Nat},bu k l=some n->l[n]?=some k/\∀j,j<n->l[j]?≠some k
 |[],n,h=>by cases h
 |x::r,n,h=>by
  unfold bu at h;split at h
  .grind
  .rename_i e;rw[DG] at h;obtain⟨a,h',rfl⟩:=h;obtain⟨h1,h2⟩:=gb h';grind
theorem jv{k:K}:∀{l:List K},bu k l=none↔k∉l
 |[]=>by simp[bu]
 |x::r=>by
  unfold bu;by_cases h:k=x
  .simp[h]
  .simp[h,jv (l:=r)]
theorem y0{k:K}{l:List K}{n:Nat}(h:l[n]?=some k)(h2:∀j,j<n->l[j]?≠some k):bu k l=some n:=by
 cases hk:bu k l with
 |none=>grind [jv]
 |some m=>obtain⟨h3,h4⟩:=gb hk;grind
end
def gO(g:A7)(id:Ab):Int:=match bu id g.IDs with
 |none=> -1
 |some k=>(k:Int)
theorem dC(hn:g.IDs.length<=1000000)(id:Ab):fC g id=some (gO g id):=by
 unfold fC;refine T.eq (.bind ((T.search g.IDs (λx=>decide (x=id)) (λk _=>(k:Int)) aa (λk x hx hk=>?_) ?_).mono ?_))
 .grind [qF,eA,au,aq]
 .grind [qF,eF]
 .rintro r (⟨rfl,h⟩|⟨k,x,hx,hp,rfl,h⟩)
  .have:bu id g.IDs=none:=by grind [jv]
   refine .some ?_;grind [gO]
  .have hp:=DL hp;subst hp;have:bu x g.IDs=some k:=by grind [y0]
   refine .some ?_;grind [gO]
def UW:DH:=⟨0,0,0,0,0⟩
def mZ(g:A7)(d:Int):DH×Bool:=match g.Cards.find? (λc=>decide (c.Device=d)) with
 |none=>(UW,false)
 |some c=>(c,true)
theorem Cw(hn:g.Cards.length<=1000000)(d:Int):vz g d=some (mZ g d):=by
 unfold vz;refine T.eq (.bind (T.forA g.Cards.length (λk acc=>acc=UW/\∀(j:Nat) (c:DH),j<k->g.Cards[j]?=some c->c.Device≠d) aa ⟨rfl,(by grind)⟩ (λk acc hk hj=>?_) λacc hj=>?_))
 .obtain⟨c,hc⟩:∃c,g.Cards[k]?=some c:=⟨_,DR hk⟩;unfold tX;dsimp only;rw[eA hk,ax,au,hc,aL];refine .dec (λh=>?_) λh=> .some ⟨aq aa,hj.1,λj c' a b=>?_⟩
  .refine .some (.some ?_);grind [mZ,List.find?_eq_some_iff_getElem]
  grind
 .unfold tX;dsimp only;rw[eF,Be];refine .some (.some ?_);unfold mZ;have:g.Cards.find? (λc=>decide (c.Device=d))=none:=by grind [Gu]
  rw[this];rfl
def QF(l:Bk)(n:Int):Bool:=l.any λx=>decide (x=n)
theorem cX{l:Bk}(hn:l.length<=1000000)(n:Int):fb l n=some (QF l n):=by unfold fb QF;refine T.eq ((Mq l hn (rest:=false) (next:=λ_=>some false) (λk x hx hm hk=>?_) ?_ (.some rfl)).mono λv hv=>by simpa using hv);all_goals grind [xq,eA,au,aq,eF]
def nA(l:Bc)(n:Ab):Bool:=l.any λx=>decide (x=n)
theorem kf{l:Bc}(hn:l.length<=1000000)(n:Ab):jL l n=some (nA l n):=by unfold jL nA;refine T.eq ((Mq l hn (rest:=false) (next:=λ_=>some false) (λk x hx hm hk=>?_) ?_ (.some rfl)).mono λv hv=>by simpa using hv);all_goals grind [qJ,eA,au,aq,eF]
def O9(g:A7)(i k:Nat):Bool:=((g.In[i]?).bind λr=>r[k]?).getD false
structure Fo (g:A7):Prop where
 nL:g.L.length<=200
 nI:g.IDs.length=g.L.length
 nU:g.Up.length=g.L.length
 nN:g.In.length=g.L.length
 nC:g.Cards.length<=1000
 cards:∀c∈g.Cards,c8 c.Device/\c8 c.Member/\fS c.Sign
 up:∀(i:Nat) (u:Bk),g.Up[i]?=some u->u.length<=12/\∀x∈u,0<=x/\x<(i:Int)
 rows:∀(i:Nat) (r:List Bool),g.In[i]?=some r->r.length=g.L.length
 inlt:∀i k,O9 g i k=true->k<i/\i<g.L.length
 ops:∀(i:Nat) (o:Bp),g.L[i]?=some o->Bb o/\EZ o/\fS o.Sig.S
 ids:∀(i:Nat) (o:Bp) (id:Ab),g.L[i]?=some o->g.IDs[i]?=some id->pV o=some id
 nd:g.IDs.Nodup
 one:∀(i k:Nat) (u:Bk),g.Up[i]?=some u->(k:Int)∈u->O9 g i k=true
 tr:∀(i j k:Nat) (u:Bk),O9 g i j=true->g.Up[j]?=some u->(k:Int)∈u->O9 g i k=true
 la:∀(i k:Nat),O9 g i k=true->∃u,g.Up[i]?=some u/\((k:Int)∈u\/∃j v,O9 g i j=true/\g.Up[j]?=some v/\(k:Int)∈v)
def Hq(g:A7)(up:Bk)(k:Nat):Prop:=(k:Int)∈up\/∃j:Nat,(j:Int)∈up/\O9 g j k=true
theorem yc(w:Fo g){up:Bk}(h1:up.length<=1000)(h2:∀x∈up,0<=x/\x<(g.L.length:Int)):T (jA g up) λr=>r.length=g.L.length/\∀k,k<g.L.length->(r[k]?=some true↔Hq g up k):=by
 have nL:=w.nL;unfold jA;refine .bind (.make (by unfold ah;omega) (by unfold ah;omega) (by unfold ah;omega) ?_);have e0:wI (ah g.L-1)=(g.L.length:Int)-1:=bM (by unfold ah;omega) (by unfold ah;omega);rw[e0];have e1:(ah g.L).toNat=g.L.length:=by unfold ah;omega
 rw[e1];refine .bind (T.loop (λs=> -1<=s.2/\s.2<g.L.length/\s.1.length=g.L.length/\(∀k:Nat,k<g.L.length->s.2<k->(s.1[k]?=some true↔Hq g up k))/\∀k:Nat,(k:Int)<=s.2->(s.1[k]?=some true↔∃j v,s.2<(j:Nat)/\Hq g up j/\j<g.L.length/\g.Up[j]?=some v/\(k:Int)∈v)) (λs=>(s.2+1).toNat) ⟨by simp only;omega,by simp only;omega,aC,λk hk hi=>by simp only at hi;omega,λk hk=>?_⟩ (by grind) ?_)
 .simp only at hk⊢;constructor
  .intro h;rw[List.getElem?_replicate] at h;split at h<;>cases h
  .rintro⟨j,v,hj,_,hjl,_⟩;omega
 rintro⟨r,i⟩ ⟨p,i1,f,l,a⟩;simp only at p i1 f l a;unfold AJ;dsimp only;refine .dec (λhi=>?_) λhi=> .some (.some ⟨f,λk hk=>l k hk aa⟩);obtain⟨n,rfl⟩:∃n:Nat,i=(n:Int):=⟨i.toNat,aa⟩;have hn:n<g.L.length:=aa;rw[cX aa,aL];have hUp:∃u,g.Up[n]?=some u:=⟨_,DR (by rw[w.nU];exact hn)⟩;obtain⟨u,hu⟩:=hUp;obtain⟨u1,o⟩:=w.up n u hu;have hbeh:∀k,Hq g up k↔((k:Int)∈up\/∃j v,Hq g up j/\g.Up[j]?=some v/\(k:Int)∈v):=λk=>by
  constructor
  .rintro(h|⟨j,hj,c⟩)
   .exact .inl h
   .obtain⟨v,hv,hk|⟨m,v',h3,h4,h5⟩⟩:=w.la j k c
    .exact .inr ⟨j,v,.inl hj,hv,hk⟩
    .exact .inr ⟨m,v',.inr ⟨j,hj,h3⟩,h4,h5⟩
  .rintro(h|⟨j,v,hj|⟨m,hm,d⟩,hv,hk⟩)
   .exact .inl h
   .exact .inr ⟨j,hj,w.one j k v hv hk⟩
   .exact .inr ⟨m,hm,w.tr m j k v d hv hk⟩
 have hlt:∀(j:Nat) (v:Bk) (k:Nat),g.Up[j]?=some v->(k:Int)∈v->k<j:=λj v k hv hk=>by have:=(w.up j v hv).2 _ hk;omega
 refine .bind (T.mono (Q:=λs=>s.length=g.L.length/\(∀k:Nat,k≠n->s[k]?=r[k]?)/\(s[n]?=some true↔Hq g up n)) ?_ ?_)
 .have key:(r[n]?=some true\/(n:Int)∈up)↔Hq g up n:=by grind [Fo.nU]
  refine .ite (λhh=>?_) λhh=>?_
  .have hm:(n:Int)∈up:=by obtain⟨x,hx,hb⟩:=List.any_eq_true.1 hh;grind
   grind [T.set,Fs]
  grind [QF,T.some]
 .rintro s ⟨s1,s2,s3⟩;obtain⟨b,hb⟩:∃b,s[n]?=some b:=⟨_,DR aa⟩;rw[au,hb,aL];have ew:wI ((n:Int)-1)=(n:Int)-1:=bM aa aa;refine .ite (λhbt=>?_) λhbf=>?_
  .have hbt:b=true:=hbt;subst hbt;have hbn:=s3.1 hb;refine .bind (T.mono (Q:=λt=>t.length=g.L.length/\∀k:Nat,t[k]?=some true↔(s[k]?=some true\/(k:Int)∈u)) (T.forA u.length (λm t=>t.length=g.L.length/\∀k:Nat,t[k]?=some true↔(s[k]?=some true\/∃j,j<m/\u[j]?=some (k:Int))) aa ⟨s1,λk=>aC⟩ (λm t hm hj=>?_) λt hj=>?_) ?_)
   .obtain⟨x,hx⟩:∃x,u[m]?=some x:=⟨_,DR hm⟩;have e:=o x (bO hx);unfold tT;dsimp only;rw[au,hu,aL,eA hm,ax,aL,au,hx,aL];refine .bind (.set e.1 (by grind) (.some ⟨aq aa,by grind,λk=>?_⟩));obtain⟨y,rfl⟩:∃y:Nat,x=(y:Int):=⟨x.toNat,aa⟩;simp only[Fs];by_cases hk:k=y
    .grind
    .rw[List.getElem?_set_ne (Ne.symm hk),hj.2 k];grind
   .unfold tT;dsimp only;rw[au,hu,aL,eF,Be];refine .some ⟨hj.1,λk=>?_⟩;rw[hj.2 k];constructor
    .grind
    .rintro(h|h)
     .exact .inl h
     .obtain⟨j,hj'⟩:=Gu h;grind
   .rintro t ⟨q,t2⟩;refine .some ⟨⟨?_,?_,q,λk hk hik=>?_,λk hk=>?_⟩,?_⟩
    .grind
    .grind
    .replace hik:wI ((n:Int)-1)<k:=hik;rw[ew] at hik;show t[k]?=some true↔_;rw[t2 k];have hku:(k:Int)∉u:=λh=>by have:=o _ h;omega
     rcases Nat.lt_trichotomy k n with h|rfl|h
     all_goals grind
    .replace hk:(k:Int)<=wI ((n:Int)-1):=hk;rw[ew] at hk;show t[k]?=some true↔∃j v,wI ((n:Int)-1)<(j:Nat)/\_;rw[ew,t2 k,s2 k aa,a k aa];grind
    .show(wI ((n:Int)-1)+1).toNat<_;rw[ew];omega
  .have hbf:b=false:=hbf;subst hbf;have hbn:¬Hq g up n:=λh=>by have:=s3.2 h;rw[hb] at this;cases this
   refine .some ⟨⟨?_,?_,s1,λk hk hik=>?_,λk hk=>?_⟩,?_⟩
   .grind
   .grind
   .grind
   .replace hk:(k:Int)<=wI ((n:Int)-1):=hk;rw[ew] at hk;show s[k]?=some true↔∃j v,wI ((n:Int)-1)<(j:Nat)/\_;rw[ew,s2 k aa,a k aa];grind
   .show(wI ((n:Int)-1)+1).toNat<_;rw[ew];omega
theorem Fo.op{g:A7}(w:Fo g){i:Nat}(h:i<g.L.length):∃o,g.L[i]?=some o/\Bb o/\EZ o:=by obtain⟨o,ho⟩:∃o,g.L[i]?=some o:=⟨_,DR h⟩;grind [ops]
theorem KC(w:Fo g){o:Bp}(hr:r.length=g.L.length):T (lA g o r) λ_=>True:=by
 have nL:=w.nL;unfold lA;refine .bind (T.forA g.L.length (λ_ _=>True) aa trivial (λk b hk _=>?_) λb _=>?_)
 .obtain⟨p,hp,_⟩:=w.op hk;obtain⟨x,hx⟩:∃x,r[k]?=some x:=⟨_,DR aa⟩;unfold jK;dsimp only;rw[eA hk,ax,au,au,hx,hp];simp only[aL];refine .bindc ?_ λj _=> .ite (λ_=> .some ⟨aq aa,trivial⟩) λ_=>?_
  .grind [T.some]
  .refine .ite (λ_=> .some (.some trivial)) λ_=> .bindc ?_ λj _=> .some ⟨aq aa,trivial⟩;grind [T.some]
 .unfold jK;dsimp only;rw[eF,Be];refine .some (.bindc ?_ λj _=> .some trivial);grind [T.some]
structure Q1 (g:A7) (o:Bp) (up:Bk):Prop where
 check:EZ o
 id:∃i,pV o=some i/\bu i g.IDs=none
 room:g.L.length<200
 card:∃c,mZ g o.By=(c,true)/\jJ c.Sign (qc o) o.Sig=some true
 create:o.Kind=1->g.L=[]
 upl:up.length=o.Past.length
 par:∀(k:Nat) (i:Ab),o.Past[k]?=some i->∃n:Nat,bu i g.IDs=some n/\up[k]?=some (n:Int)
 upb:∀x∈up,0<=x/\x<(g.L.length:Int)
 apart:∀i k:Nat,(i:Int)∈up->(k:Int)∈up->O9 g i k=false
 late:∀(i:Nat) (p:Bp),(i:Int)∈up->g.L[i]?=some p->p.At<=o.At
 right:∃r,jA g up=some r/\lA g o r=some true
theorem pK(h:Ct o=false):o.Past.length<=12:=by grind [Ct]
theorem yd{c:DH}(h:mZ g d=(c,true)):c∈g.Cards/\c.Device=d:=by grind [mZ]
theorem wO(h:g.In[i]?=some r):O9 g i k=(r[k]?).getD false:=by unfold O9;rw[h];rfl
theorem KD(w:Fo g)(ho:Bb o)(hs:fS o.Sig.S):T (vA g o) λr=>r.1=0->Q1 g o r.2:=by
 have nL:=w.nL;have nI:=w.nI;have nC:=w.nC;have nP:=ho.nPast;unfold vA;refine .bind ((Cv ho).mono λe he=> .dec (by grind [T.some]) λh=>?_);have hc:EZ o:=he (by simpa using h);obtain⟨i,ei,i1,A,B,C⟩:=wN ho;rw[ei,aL,dC aa,aL];refine .dec (by grind [T.some]) λhpl=>?_;have hk:bu i g.IDs=none:=by grind [gO]
 refine .dec (by grind [T.some]) λhroom=>?_;have hroom:g.L.length<200:=by unfold ah at hroom;omega
 rw[Cw aa,aL];refine .ite (by grind [T.some]) λhcard=>?_;obtain⟨c,hcd⟩:∃c,mZ g o.By=(c,true):=by grind
 rw[hcd];refine .then (uV ho) ?_;refine .bindc (by grind [Fo,KB,yd,yY]) λsg hsg=>?_;refine .ite (by grind [T.some]) λf=>?_;have hsg:jJ c.Sign (qc o) o.Sig=some true:=by grind
 rw[cL,aL];refine .ite (by grind [T.some]) λhcr=>?_;have hcr:o.Kind=1->g.L=[]:=λh1=>by rw[CO h1,ax] at hcr;have:=LR hcr;unfold ah at this;exact List.eq_nil_of_length_eq_zero aa
 refine .bind (T.forA o.Past.length (λk acc=>acc.length=k/\(∀(j:Nat) (x:Ab),j<k->o.Past[j]?=some x->∃n:Nat,bu x g.IDs=some n/\acc[j]?=some (n:Int))/\∀x∈acc,0<=x/\x<(g.L.length:Int)) aa (by grind) (λk acc hk hj=>?_) λacc hj=>?_)
 .obtain⟨x,hx⟩:∃x,o.Past[k]?=some x:=⟨_,DR hk⟩;unfold qI;dsimp only;rw[eA hk,ax,au,hx,aL,dC aa,aL];refine .dec (λ_=> .some (.some (by grind))) λhp=>?_;have hkx:∃n,bu x g.IDs=some n:=by grind [gO]
  obtain⟨n,hn⟩:=hkx;have ep:gO g x=(n:Int):=by unfold gO;rw[hn]
  have hnl:n<g.L.length:=by have:=(cr (gb hn).1).1;omega
  rw[ep];refine .bind (.app cq (.some (by constructor<;>grind [aq])));all_goals grind
 unfold qI;dsimp only;rw[eF,Be];refine .some ?_;obtain⟨a1,a2,a3⟩:=hj;have hup:∀(k:Nat) (x:Ab),o.Past[k]?=some x->∃n:Nat,bu x g.IDs=some n/\acc[k]?=some (n:Int):=by grind
 clear a2;refine .bind (T.forI acc.length (λk=>(∀(j:Nat) (x y:Nat),j<k->acc[j]?=some (x:Int)->(y:Int)∈acc->O9 g x y=false)/\∀(j:Nat) (x:Nat) (p:Bp),j<k->acc[j]?=some (x:Int)->g.L[x]?=some p->p.At<=o.At) aa (by grind) (λk hk hj=>?_) λhj=>?_)
 .obtain⟨x,hx⟩:∃x,acc[k]?=some x:=⟨_,DR hk⟩;have l:=a3 x (bO hx);obtain⟨n,rfl⟩:∃n:Nat,x=(n:Int):=⟨x.toNat,aa⟩;have hnl:n<g.L.length:=aa;obtain⟨r,hr⟩:∃r,g.In[n]?=some r:=⟨_,DR (by rw[w.nN];exact hnl)⟩;obtain⟨p,hp,_⟩:=w.op hnl;unfold qH;rw[eA hk,ax];refine .bind (T.forI acc.length (λm=>∀(j:Nat) (y:Nat),j<m->acc[j]?=some (y:Int)->O9 g n y=false) aa (by grind) (λm hm hjm=>?_) λhjm=>?_)
  .obtain⟨y,hy⟩:∃y,acc[m]?=some y:=⟨_,DR hm⟩;have s:=a3 y (bO hy);obtain⟨q,rfl⟩:∃q:Nat,y=(q:Int):=⟨y.toNat,aa⟩;obtain⟨b,hb⟩:∃b,r[q]?=some b:=by grind [Fo.rows]
   unfold qG;rw[eA hm,ax,au,hx,aL,au,hr,aL,au,hy,aL,au,hb,aL];refine .ite (λ_=> .some (.some (.some (by grind)))) λhbf=> .some ⟨aq aa,λj z t hz=>?_⟩;rcases HE j m with hlt|hge
   .exact hjm j z hlt hz
   .obtain rfl:j=m:=aa;rw[hy] at hz;obtain rfl:q=z:=by grind
    grind [wO]
  .unfold qG;rw[eF,Be];refine .some ?_;show T (ma _ _ _) _;dsimp only[ma];rw[au,hx,aL,au,hp,aL];refine .dec (λ_=> .some (.some (by grind))) λhat=> .some ⟨aq aa,λj a y d hx' hy=>?_,λj a v d hx' hp'=>?_⟩
   .rcases HE j k with hlt|hge
    .exact hj.1 j a y hlt hx' hy
    .obtain rfl:j=k:=aa;rw[hx] at hx';obtain rfl:n=a:=by grind
     obtain⟨m,hm⟩:=Gu hy;grind
   .rcases HE j k with hlt|hge
    .exact hj.2 j a v hlt hx' hp'
    .obtain rfl:j=k:=aa;rw[hx] at hx';obtain rfl:n=a:=by grind
     rw[hp] at hp';cases hp';omega
 unfold qH;rw[eF,Be];refine .some ?_;obtain⟨b1,b2⟩:=hj;obtain⟨r,hr,u,D⟩:=yc w (up:=acc) aa a3;obtain⟨b,hb,_⟩:=KC w (o:=o) u;show T (ma _ _ _) _;dsimp only[ma];rw[hr,aL,hb,aL];refine .ite (by grind [T.some]) λhbt=> .some λ_=>⟨hc,⟨i,ei,hk⟩,hroom,⟨c,hcd,hsg⟩,hcr,a1,hup,a3,λx y hx hy=>?_,λx p hx hp=>?_,⟨r,hr,?_⟩⟩
 .obtain⟨j,hj⟩:=Gu hx;grind
 .obtain⟨j,hj⟩:=Gu hx;grind
 grind
def pL(g:A7)(o:Bp)(i:Ab)(up:Bk)(r:List Bool):A7:=⟨g.Cards,g.L++[o],g.IDs++[i],g.Up++[up],g.In.map (·++[false])++[r++[false]]⟩
theorem je{l:List α}{x y:α}(h:(l++[x])[i]?=some y):(i<l.length/\l[i]?=some y)\/(i=l.length/\y=x):=by grind
theorem Ms{x y:α}(h:l[i]?=some y):(l++[x])[i]?=some y:=by grind
theorem F8{x:α}:(l++[x])[l.length]?=some x:=aC
theorem kU(w:Fo g){o:Bp}{id:Ab}{up:Bk}{r:List Bool}(hr:r.length=g.L.length)(i k:Nat):O9 (pL g o id up r) i k=true↔(i<g.L.length/\O9 g i k=true)\/(i=g.L.length/\r[k]?=some true):=by
 have nN:=w.nN;have e:(pL g o id up r).In=g.In.map (·++[false])++[r++[false]]:=rfl;have lm:(g.In.map (·++[false])).length=g.L.length:=by rw[Hl,nN]
 have snoc:∀(l:List Bool),((l++[false])[k]?).getD false=true↔l[k]?=some true:=by grind
 rcases Nat.lt_trichotomy i g.L.length with h|h|h
 .obtain⟨row,hrow⟩:∃row,g.In[i]?=some row:=⟨_,DR aa⟩;have h1:(pL g o id up r).In[i]?=some (row++[false]):=by grind
  rw[wO h1,snoc,wO hrow];constructor
  .grind
  .rintro(⟨_,h2⟩|⟨h2,_⟩);all_goals grind
 .grind [wO]
 .have h1:(pL g o id up r).In[i]?=none:=by grind
  grind [O9]
theorem Wc(w:Fo g){up:Bk}(ho:Bb o)(hs:fS o.Sig.S)(a:Q1 g o up)(hid:pV o=some id)(hr:r.length=g.L.length)(hb:∀k,k<g.L.length->(r[k]?=some true↔Hq g up k)):Fo (pL g o id up r):=by
 have nL:=w.nL;have nI:=w.nI;have nU:=w.nU;have nN:=w.nN;have inr:∀k,r[k]?=some true↔Hq g up k:=λk=>by
  rcases HE k g.L.length with h|h
  .exact hb k h
  .constructor
   .grind
   .rintro(h2|⟨j,h2,h3⟩)
    .have:=(a.upb _ h2).2;omega
    .have:=w.inlt j k h3;omega
 have upAt:∀(j:Nat) (v:Bk),j<g.L.length->((pL g o id up r).Up[j]?=some v↔g.Up[j]?=some v):=λj v hj=>by show(g.Up++[up])[j]?=some v↔_;rw[List.getElem?_append_left aa]
 obtain⟨c,e1,e2⟩:=a.id;rw[hid] at e1;cases e1;exact{
  nL:=by show(g.L++[o]).length<=200;have:=a.room;simp;omega
  nI:=by show(g.IDs++[id]).length=(g.L++[o]).length;simp;omega
  nU:=by show(g.Up++[up]).length=(g.L++[o]).length;simp;omega
  nN:=by show(g.In.map _++[_]).length=(g.L++[o]).length;simp;omega
  nC:=w.nC
  cards:=w.cards
  up:=λi u hu=>by
   rcases je hu with⟨_,h⟩|⟨h,rfl⟩
   .exact w.up i u h
   grind [Q1,pK,EZ.long]
  rows:=λi row hrow=>by
   show row.length=(g.L++[o]).length;rcases je hrow with⟨_,h⟩|⟨h,rfl⟩
   all_goals grind [Fo.rows]
  inlt:=λi k h=>by
   show k<i/\i<(g.L++[o]).length;rcases(kU w hr i k).1 h with⟨h1,h2⟩|⟨h1,h2⟩
   .have:=w.inlt i k h2;simp;omega
   grind
  ops:=λi p hp=>by
   rcases je hp with⟨_,h⟩|⟨h,rfl⟩
   all_goals grind [Fo.ops,Q1.check]
  ids:=λi p q hp hq=>by
   rcases je hp with⟨h0,h⟩|⟨h,rfl⟩
   .rcases je hq with⟨_,h'⟩|⟨h',_⟩
    all_goals grind [Fo.ids]
   .rcases je hq with⟨h',_⟩|⟨_,rfl⟩
    .omega
    .exact hid
  nd:=by show(g.IDs++[id]).Nodup;grind [Fo.nd,jv]
  one:=λi k u hu hk=>by
   rw[kU w hr];rcases je hu with⟨h0,h⟩|⟨h,rfl⟩
   .grind [Fo.one]
   .exact .inr ⟨aa,(inr k).2 (.inl hk)⟩
  tr:=λi j k v hij hv hk=>by
   rw[kU w hr];rcases(kU w hr i j).1 hij with⟨h1,h2⟩|⟨h1,h2⟩
   .have:=w.inlt i j h2;grind [Fo.tr]
   .have hj:=(cr h2).1;have b:=(upAt j v aa).1 hv;refine .inr ⟨h1,(inr k).2 ?_⟩;rcases(inr j).1 h2 with h3|⟨m,h3,h4⟩
    .exact .inr ⟨j,h3,w.one j k v b hk⟩
    .exact .inr (by grind [Fo.tr])
  la:=λi k hik=>by
   rcases(kU w hr i k).1 hik with⟨h1,h2⟩|⟨h1,h2⟩
   .grind [Fo.la,kU]
   .refine⟨up,by show(g.Up++[up])[i]?=some up;rw[h1,<-nU];exact F8,?_⟩;rcases(inr k).1 h2 with h3|⟨j,h3,h4⟩
    .exact .inl h3
    .obtain⟨v,hv,h5⟩:=w.la j k h4;have hj:=w.inlt j k h4;rcases h5 with h5|⟨m,v',h6,h7,h8⟩
     .exact .inr ⟨j,v,(kU w hr i j).2 (.inr ⟨h1,(inr j).2 (.inl h3)⟩),(upAt j v hj.2).2 hv,h5⟩
     .have hm:=w.inlt j m h6;exact .inr ⟨m,v',(kU w hr i m).2 (.inr ⟨h1,(inr m).2 (.inr ⟨j,h3,h6⟩)⟩),(upAt m v' aa).2 h7,h8⟩}
def Yr(g:A7)(o:Bp)(r:A7×Int):Prop:=(r.2≠0/\r.1=g)\/∃id up row,r.2=0/\Q1 g o up/\pV o=some id/\jA g up=some row/\r.1=pL g o id up row
theorem QG(w:Fo g)(ho:Bb o)(hs:fS o.Sig.S):T (AO g o) λr=>Fo r.1/\Yr g o r:=by
 have nL:=w.nL;have nI:=w.nI;have nU:=w.nU;have nN:=w.nN;unfold AO;refine .bind ((KD w ho hs).mono λv hv=> .dec (λh=> .some ⟨w,.inl ⟨h,rfl⟩⟩) λh=>?_);have a:=hv (by simpa using h);have ul:v.2.length<=12:=by rw[a.upl];exact pK a.check.long
 obtain⟨row,hrow,b,c⟩:=yc w (up:=v.2) aa a.upb;obtain⟨id,hid,_⟩:=a.id;rw[hrow,aL];refine .bind (.app cq (.bind (.app cq (.bind (.app cq ?_)))));rw[hid,aL];refine .bind (.app cq (.bind (.app cq (.bind (.app cq ?_)))));refine .then (T.forE g.In [] (λx=>[x++[false]]) 1 aa (λx _=>aC) (λk acc x hx hm hk hl=>?_) λacc=>?_) ?_
 .have:=w.rows k x hx;unfold xr;dsimp only;rw[eA hk,ax,au,hx,aL];refine .bind (.app cq (.bind (.bind (.app cq (.bind (.app (by simp at hl⊢;omega) (.some (.some ⟨aq aa,?_⟩))))))));simp
 .grind [xr,eF]
 .have el:([]:List (List Bool))++g.In.flatMap (λx=>[x++[false]])=g.In.map (·++[false]):=by rw[M1];induction g.In<;>grind
  rw[el];refine .bind (.bind (.app cq (.bind (.app cq (.some (.some ?_))))));have e:(⟨g.Cards,[]++g.L++[o],[]++g.IDs++[id],[]++g.Up++[v.2],g.In.map (·++[false])++[row++[false]]⟩:A7)=pL g o id v.2 row:=rfl;exact⟨e▸Wc w ho hs a hid b c,.inr (by grind)⟩
theorem Ad3{f:α->Fl}(hn:l.length<=1000000)(h:∀x∈l,f x=some false):AA (λs1:Int=>(bif s1<ah l then((aS l s1).bind λa=>(f a).bind λb=>bif b then(some (.inr (.inr s1)))else(some (.inl (wI (s1+1)))))else(some (.inr (.inl ()))):Option (Int⊕(Unit⊕Int)))) 0=some (.inl ()):=by
 refine T.eq (T.forI (Q:=λv:Unit⊕Int=>v= .inl ()) l.length (λ_=>True) aa trivial (λk hk _=>?_) λ_=>?_)
 .rw[eA hk,ax,au,DR hk,aL,h _ (List.getElem_mem hk),aL,Be];exact .some ⟨aq aa,trivial⟩
 .rw[eF,Be];exact .some rfl
theorem Sr{may:α->Fl}(hn:l.length<=1000000)(h:∀x∈l,may x=some true):Nw l may=some true:=by unfold Nw Aad Um;rw[show AA (Hx l (λz=>Sg z may)) 0=some (.inl ()) from Ad3 hn (by grind [Sg])];rfl
structure JO (o:Bp):Prop where
 dev:o.Device≠0->o.Kind=2\/o.Kind=3\/o.Kind=11\/o.Kind=13
 old:o.Old≠0->o.Kind=13
 mem:o.Member≠0->o.Kind=3\/o.Kind=5
 role:o.Role≠0->o.Kind=2\/o.Kind=5
 path:0<ah o.Path->E1 o.Kind=some true
 ep:o.Epoch≠⟨0,0,0⟩->o.Kind=6
 n:o.N≠0->o.Kind=6
 refs:0<ah o.Refs->o.Kind=6
 body:0<ah o.Body->o.Kind=6\/o.Kind=7
 of_:o.Of≠⟨0,0,0⟩->o.Kind=7\/o.Kind=8\/o.Kind=12\/o.Kind=10\/o.Kind=11\/o.Kind=13
 gu:0<ah o.Guards->o.Kind=9
 wait:o.Wait≠0->o.Kind=9
 pub:o.Pub≠0->o.Kind=9
 need:o.Need≠0->o.Kind=9\/o.Kind=1
 box:0<ah o.Boxes->o.Kind=9\/o.Kind=10\/o.Kind=11
 hist:ah o.Hist≠0->o.Kind=2\/o.Kind=13
theorem ZD(h:AbW o=true):JO o:=by
 have h:mz o=some true:=by rw[Cu,h]
 unfold mz at h;obtain⟨s,e1,h⟩:=bS h;obtain⟨t,e3,h⟩:=bS h;rcases bC h with⟨b3,h⟩|⟨b3,h⟩;· cases h
 obtain⟨u,e6,h⟩:=bS h;rcases bC h with⟨f,h⟩|⟨f,h⟩;· cases h
 obtain⟨w,e,h⟩:=bS h;rcases bC h with⟨g,h⟩|⟨g,h⟩;· cases h
 obtain⟨j12,i,h⟩:=bS h;rcases bC h with⟨a,h⟩|⟨a,h⟩;· cases h
 obtain⟨j,k,h⟩:=bS h;rcases bC h with⟨b,h⟩|⟨b,h⟩;· cases h
 obtain⟨l,m,h⟩:=bS h;rcases bC h with⟨c,h⟩|⟨c,h⟩;· cases h
 obtain⟨n,p,h⟩:=bS h;rcases bC h with⟨d,h⟩|⟨d,h⟩;· cases h
 obtain⟨q,r,h⟩:=bS h;obtain rfl:=Bf h;subst b3 f g a b c d;refine⟨λhd=>?_,λhd=>?_,λhd=>?_,λhd=>?_,λhd=>?_,λhd=>?_,λhd=>?_,λhd=>?_,λhd=>?_,λhd=>?_,λhd=>?_,λhd=>?_,λhd=>?_,λhd=>?_,λhd=>?_,λhd=>?_⟩
 .grind
 .grind
 .refine Classical.byContradiction λhc=>?_;try simp only[not_or] at hc
  simp[hd,hc] at e6
 .refine Classical.byContradiction λhc=>?_;try simp only[not_or] at hc
  simp[hd,hc] at e6
 .rw[CO hd,ax] at e;obtain⟨v,ev,e⟩:=bS e;grind
 .grind
 .grind
 .grind
 .grind
 .grind
 .grind
 .grind
 .grind
 .grind
 all_goals grind
theorem MU{kk:Nat}:∀{l:List (Nat×Bool)},(∀q∈l,q.2=true->q.1&&&kk=q.1)->La l&&&kk=La l
 |[],_=>by simp[La]
 |q::r,h=>by unfold La;rw[Nat.and_or_distrib_right,MU (l:=r) (by grind)];grind
theorem IY(ha:a<1048576)(hb:b<1048576)(h:a&&&b=a):wH (a:Int) (b:Int)=0:=by
 unfold wH;have e:BitVec.ofInt IntKind.i64.bits (a:Int)&&&BitVec.ofInt IntKind.i64.bits (b:Int)=BitVec.ofInt IntKind.i64.bits (a:Int):=by grind
 have e2:BitVec.ofInt IntKind.i64.bits (a:Int)&&& ~~~BitVec.ofInt IntKind.i64.bits (b:Int)=0:=by grind
 rw[e2];rfl
theorem Hd{a b:Int}(h:a<=n/\n<=b):xj n a b=true:=by grind [xj]
theorem kW{i:Ab}(h:l7 i=true):Rz i=true:=by have h:=DL h;unfold Rz WV;grind [Hd]
theorem GC{n:Nat}(h:Cr n=true):Z5 n=true:=by have h:=DL h;grind [Z5]
theorem Vl{a:Bool}{x:Fl}:((bif a then x else some false)=some true)↔(a=true/\x=some true):=by cases a<;>simp
structure NN (o:Bp):Prop where
 by_:1<=o.By/\o.By<=12
 seq:1<=o.Seq/\o.Seq<=2147483647
 at_:0<=o.At/\o.At<=2147483647
 k1:o.Kind=1->0<=o.Need/\o.Need<=20
 k2:o.Kind=2->(1<=o.Device/\o.Device<=12)/\1<=o.Role/\o.Role<=3
 k3:o.Kind=3->((1<=o.Device/\o.Device<=12)/\o.Member=0)\/(o.Device=0/\1<=o.Member/\o.Member<=8)
 k5:o.Kind=5->(1<=o.Member/\o.Member<=8)/\1<=o.Role/\o.Role<=3
 k6:o.Kind=6->l7 o.Epoch=true/\0<=o.N/\o.N<=2147483647
 k9:o.Kind=9->(1<=o.Need/\o.Need<=ah o.Guards)/\(0<=o.Wait/\o.Wait<=2147483647)/\Cr o.Pub=true
 k11:o.Kind=11->l7 o.Of=true/\1<=o.Device/\o.Device<=12
 k13:o.Kind=13->l7 o.Of=true/\(1<=o.Device/\o.Device<=12)/\1<=o.Old/\o.Old<=12
 kr:o.Kind=7\/o.Kind=8\/o.Kind=10\/o.Kind=12->l7 o.Of=true
theorem T1(h:gU o=true):NN o:=by
 have h:Fw o=some true:=by rw[jF,h]
 unfold Fw at h;obtain⟨a,e3,h⟩:=bS h;rcases bC h with⟨b3,h⟩|⟨b3,h⟩;· cases h
 subst b3;rw[gT,gT,gT,aL,aL,aL] at e3;simp only[gT,mY,show Jb o.Pub=some (Cr o.Pub) from kS o.Pub,aL] at h;have e1:1<=o.By/\o.By<=12:=by grind
 have e2:1<=o.Seq/\o.Seq<=2147483647:=by grind
 have e4:0<=o.At/\o.At<=2147483647:=by grind
 refine⟨e1,e2,e4,λhk=>?_,λhk=>?_,λhk=>?_,λhk=>?_,λhk=>?_,λhk=>?_,λhk=>?_,λhk=>?_,λhk=>?_⟩
 .simpa[hk,Vl] using h
 .simpa[hk,Vl] using h
 .grind
 .simpa[hk,Vl] using h
 .simpa[hk,Vl] using h
 .simpa[hk,Vl] using h
 .simpa[hk,Vl] using h
 .simpa[hk,Vl] using h
 .rcases hk with hk|hk|hk|hk<;>simpa[hk,Vl] using h
def pT(K:Int):Nat:=(nG.getD K.toNat 0).toNat
theorem vj:pT 1=2064:=BX
theorem kk2:pT 2=32793:=BX
theorem zS:pT 3=21:=BX
theorem yu:pT 4=16:=BX
theorem zT:pT 5=12:=BX
theorem zU:pT 6=480:=BX
theorem zt:pT 7=640:=BX
theorem zu:pT 8=512:=BX
theorem Aw:pT 9=31744:=BX
theorem ki:pT 10=8704:=BX
theorem kC:pT 11=8705:=BX
theorem km:pT 12=512:=BX
theorem kX:pT 13=33299:=BX
theorem ic(h:1<=K/\K<=13):K=1\/K=2\/K=3\/K=4\/K=5\/K=6\/K=7\/K=8\/K=9\/K=10\/K=11\/K=12\/K=13:=aa
theorem RK(h:E1 K=some true):K=1\/K=2\/K=3\/K=4\/K=13:=by grind [E1]
theorem W9(b:JO o):∀q∈rU o,q.2=true->q.1&&&pT o.Kind=q.1:=by
 intro q hq hb;simp only[rU,EG,KY,or_false] at hq;rcases hq with rfl|rfl|rfl|rfl|rfl|rfl|rfl|rfl|rfl|rfl|rfl|rfl|rfl|rfl|rfl|rfl
 .grind [JO.dev,kk2,zS,kC,kX]
 .grind [JO.old,kX]
 .grind [JO.mem,zS,zT]
 .grind [JO.role,kk2,zT]
 .grind [RK,JO.path,vj,kk2,zS,yu,kX]
 .grind [JO.ep,zU]
 .grind [JO.n,zU]
 .grind [JO.body,zU,zt]
 .grind [JO.refs,zU]
 .grind [JO.of_,zt,zu,ki,kC,km,kX]
 .grind [JO.gu,Aw]
 .grind [JO.need,vj,Aw]
 .grind [JO.wait,Aw]
 .grind [JO.box,Aw,ki,kC]
 all_goals grind [JO.pub,kk2,Aw,kX,JO.hist]
theorem ZE(f:NN o)(hK:1<=o.Kind/\o.Kind<=13):∀q∈OC o,pT o.Kind&&&q.1≠0->q.2=true:=by
 intro q hq hne;simp only[OC,EG,KY,or_false] at hq;rcases hq with rfl|rfl|rfl|rfl|rfl|rfl|rfl|rfl|rfl|rfl
 .rcases ic hK with hk|hk|hk|hk|hk|hk|hk|hk|hk|hk|hk|hk|hk
  .simp[hk,vj] at hne
  .grind [GH,Hd,NN.k2]
  .grind [NN,GH,Hd]
  .simp[hk,yu] at hne
  .simp[hk,zT] at hne
  .simp[hk,zU] at hne
  .simp[hk,zt] at hne
  .simp[hk,zu] at hne
  .simp[hk,Aw] at hne
  .simp[hk,ki] at hne
  all_goals grind [NN,GH,Hd,km]
 .rcases ic hK with hk|hk|hk|hk|hk|hk|hk|hk|hk|hk|hk|hk|hk
  .simp[hk,vj] at hne
  .simp[hk,kk2] at hne
  .simp[hk,zS] at hne
  .simp[hk,yu] at hne
  .simp[hk,zT] at hne
  .simp[hk,zU] at hne
  .simp[hk,zt] at hne
  .simp[hk,zu] at hne
  .simp[hk,Aw] at hne
  .simp[hk,ki] at hne
  all_goals grind [NN,kC,km,Hd]
 .rcases ic hK with hk|hk|hk|hk|hk|hk|hk|hk|hk|hk|hk|hk|hk
  .simp[hk,vj] at hne
  .simp[hk,kk2] at hne
  .grind [NN,GB,Hd]
  .simp[hk,yu] at hne
  .grind [GB,Hd,NN.k5]
  .simp[hk,zU] at hne
  .simp[hk,zt] at hne
  all_goals grind [zu,Aw,ki,kC,km,kX]
 .rcases ic hK with hk|hk|hk|hk|hk|hk|hk|hk|hk|hk|hk|hk|hk
  .simp[hk,vj] at hne
  .exact Hd (f.k2 hk).2
  .simp[hk,zS] at hne
  .simp[hk,yu] at hne
  .exact Hd (f.k5 hk).2
  .simp[hk,zU] at hne
  .simp[hk,zt] at hne
  all_goals grind [zu,Aw,ki,kC,km,kX]
 .rcases ic hK with hk|hk|hk|hk|hk|hk|hk|hk|hk|hk|hk|hk|hk
  .simp[hk,vj] at hne
  .simp[hk,kk2] at hne
  .simp[hk,zS] at hne
  .simp[hk,yu] at hne
  .simp[hk,zT] at hne
  .exact Hd (f.k6 hk).2
  .simp[hk,zt] at hne
  all_goals grind [zu,Aw,ki,kC,km,kX]
 .rcases ic hK with hk|hk|hk|hk|hk|hk|hk|hk|hk|hk|hk|hk|hk
  .simp[hk,vj] at hne
  .simp[hk,kk2] at hne
  .simp[hk,zS] at hne
  .simp[hk,yu] at hne
  .simp[hk,zT] at hne
  .simp[hk,zU] at hne
  .simp[hk,zt] at hne
  .simp[hk,zu] at hne
  .exact Hd (f.k9 hk).2.1
  all_goals grind [ki,kC,km,kX]
 .rcases ic hK with hk|hk|hk|hk|hk|hk|hk|hk|hk|hk|hk|hk|hk
  .grind [NN,Sk,Sl,Hd]
  .simp[hk,kk2] at hne
  .simp[hk,zS] at hne
  .simp[hk,yu] at hne
  .simp[hk,zT] at hne
  .simp[hk,zU] at hne
  .simp[hk,zt] at hne
  .simp[hk,zu] at hne
  .grind [Sk,Sl,Hd,NN.k9]
  all_goals grind [ki,kC,km,kX]
 .grind [NN,vj,kk2,zS,yu,zT,kW,zt,zu,Aw,ki,kC,km,kX]
 .grind [vj,kk2,zS,yu,zT,zU,kW,NN.kr,Aw,NN.k11,NN.k13]
 grind [NN,vj,kk2,zS,yu,zT,zU,zt,zu,GC,ki,kC,km,kX]
theorem IZ{b:Ha}(h:yZ b=true):wB b=some true:=by unfold yZ at h;simp only[bA] at h;obtain⟨⟨⟨h1,h2⟩,h3⟩,h4⟩:=h;have e3:WV b.Body=true:=CO (by have:=DL h3;omega);have e4:WV b.Tag=true:=CO (by have:=DL h4;omega);grind [wB,rV,GA,GC]
theorem T2(sm:Bb o)(h:Ct o=false):FX o=some false:=by
 have n2:=sm.nPath;have a:=sm.nHist;unfold Ct at h;simp only[Bool.or_eq_false_iff] at h;obtain⟨h1,h2,h3,h4⟩:=h;have h3:=LR h3;have a1:Nw o.Path (λz=>wE z)=some true:=by grind [Sr,wE,ah]
 have a2:Nw o.Hist (λz=>wF z)=some true:=by grind [Sr,wF,ah]
 grind [Bb,ah,FX,ib,Hd]
theorem Ax(x y:Int):f8 x y=some (if x<y then-1 else if y<x then 1 else 0):=by grind [f8,Fu]
theorem MV(x y:Nat):fQ x y=some (if x<y then-1 else if y<x then 1 else 0):=by grind [fQ,g9]
theorem CZ{l:Bk}{k:Nat}(hl:l.length<=3)(hk:l[k]?=some (-1))(h:∀j,j<k->l[j]?=some 0):iy l=some (-1):=by
 unfold iy;refine T.eq (.bind ((T.search l (λy=>decide (y≠0)) (λ_ y=>y) aa (λk x hx hk=>?_) ?_).mono ?_))
 .grind [fm,eA,au,aq]
 .unfold fm;rw[eF,Be]
 .rintro r (⟨rfl,h0⟩|⟨k',x,hx,hp,rfl,h0⟩)
  .have:=h0 (-1) (bO hk);simp at this
  .refine .some ?_;grind
theorem MW{a b:Ab}(h:dt a b=true):pE a b=some true:=by
 unfold pE;rw[Ax,Ax,MV];simp only[aL];unfold dt at h;by_cases h1:a.By=b.By
 .rw[BA (by simp[h1])] at h;by_cases h2:a.Seq=b.Seq
  .rw[BA (by simp[h2])] at h;have h3:=DL h;rw[CZ (k:=2) aC (by simp[h3]) (by grind)];rfl
  .rw[Bx h2] at h;have h3:=DL h;rw[CZ (k:=1) aC (by simp[h3]) (by grind)];rfl
 .rw[Bx h1] at h;have h3:=DL h;rw[CZ (k:=0) aC (by simp[h3]) (by grind)];rfl
theorem RL(h:EZ o)(sm:Bb o):Aal o (pT o.Kind):=by
 have n1:=sm.nPast;have n2:=sm.nPath;have c:=sm.nRefs;have d:=sm.nGuards;have e:=sm.nHist;have g:=sm.nBoxes;have hK:=h.kind;have kb:pT o.Kind<1048576:=by rcases ic hK with hk|hk|hk|hk|hk|hk|hk|hk|hk|hk|hk|hk|hk<;>simp[hk,vj,kk2,zS,yu,zT,zU,zt,zu,Aw,ki,kC,km,kX]
 have b:=ZD h.bare;have f:=T1 h.numbers;have it:=h.items;unfold yb at it;simp only[bA,Ge] at it;obtain⟨i,t2,j,k,l,m⟩:=it;have a:=MU (W9 b);exact{
  lo:=C6 aa
  hi:=C6 aa
  kind:=by rcases ic hK with hk|hk|hk|hk|hk|hk|hk|hk|hk|hk|hk|hk|hk<;>(rw[hk];decide)
  kb:=kb
  bits:=by grind [IY,Nat.and_le_right]
  rg:={
   by_:=Hd f.by_
   seq:=Hd f.seq
   at_:=Hd f.at_
   ents:=ZE f hK
   guards:=by grind [Sr,uR,ib,Hd]
   refs:=Sr aa λx hx=>by rw[GA];exact congrArg some (CO (by have:=DL (t2 x hx);omega))
   past:=by grind [Sr,pS,kW]
   path:=by grind [Sr,I5.n,Bb.path,uP,rV,GC,Sr,IZ]
   boxes:=by grind [Sr,IZ]
   hist:=by grind [Sr,uQ,pS,kW]}
  long:=T2 sm h.long
  nPast:=aa
  nGuards:=aa
  past:=by grind [MW,EZ.past]
  guards:=h.guards
  create:=decide_eq_decide.2 (by have:=h.create;unfold ah;simp_all)}
theorem kY(h:l.length*b<=140737488355328):aT b [] l=some l:=by grind [aT]
theorem I0{x:α}(h:l[k]?=some x):ji l (k:Int) x=some l:=by have hk:=(cr h).1;unfold ji;rw[Bx ⟨aa,aa⟩,Fs];congr 1;apply List.ext_getElem?;grind
theorem RM(sm:Bb o):pG o=some o:=by
 have n1:=sm.nPast;have n2:=sm.nPath;have b:=sm.nRefs;have c:=sm.nGuards;have d:=sm.nHist;have e:=sm.nBoxes;have f:=sm.nBody;unfold pG cU Fe dK fF dx gt fu;rw[kY aa,kY aa,kY aa,kY aa,kY aa,kY aa,kY aa];simp only[aL];have l0:AA (jD o.Path) (o.Path,0)=some o.Path:=by
  refine T.eq (T.forA o.Path.length (λ_ a=>a=o.Path) aa rfl (λk a hk ha=>?_) λa ha=>?_)
  .subst ha;unfold jD;dsimp only;have hx:=DR hk;have hb:=(sm.path _ (List.getElem_mem hk)).n;rw[eA hk,ax,au,hx,aL];unfold dx;rw[kY aa,aL,aL,I0 hx];exact .some ⟨aq aa,rfl⟩
  .subst ha;unfold jD;dsimp only;rw[eF,Be];exact .some rfl
 have l1:AA (jC o.Hist) (o.Hist,0)=some o.Hist:=by
  refine T.eq (T.forA o.Hist.length (λ_ a=>a=o.Hist) aa rfl (λk a hk ha=>?_) λa ha=>?_)
  .subst ha;unfold jC;dsimp only;have hx:=DR hk;have hb:=(sm.hist _ (List.getElem_mem hk)).n;rw[eA hk,ax,au,hx,aL];unfold Fe;rw[kY aa,aL,aL,I0 hx];exact .some ⟨aq aa,rfl⟩
  .subst ha;unfold jC;dsimp only;rw[eF,Be];exact .some rfl
 rw[l0,l1];rfl
def gW(s:N4)(j:Nat):Bool:=match j/64 with
 |0=>s.a0.testBit (j%64)
 |1=>s.a1.testBit (j%64)
 |2=>s.a2.testBit (j%64)
 |3=>s.a3.testBit (j%64)
 |_=>false
theorem xg(h:i<64):(gM a b).testBit i=(a.testBit i||b.testBit i):=by unfold gM;rw[Nat.testBit_or,show(18446744073709551616:Nat)=2^64 from rfl,Nat.testBit_mod_two_pow,Nat.testBit_mod_two_pow];simp[h]
theorem RN(h:i<64):(bD a b).testBit i=(a.testBit i&&b.testBit i):=by unfold bD;rw[Nat.testBit_and,show(18446744073709551616:Nat)=2^64 from rfl,Nat.testBit_mod_two_pow,Nat.testBit_mod_two_pow];simp[h]
theorem Ay(hk:k<64)(h:i<64):(HU 1 k).testBit i=decide (k=i):=by unfold HU;rw[Nat.min_eq_left aa,Nat.one_mul,show(18446744073709551616:Nat)=2^64 from rfl,Nat.testBit_mod_two_pow,Nat.testBit_two_pow];simp[h]
theorem RP(s t:N4)(j:Nat):gW (Qs s t) j=(gW s j||gW t j):=by have h:=Nat.mod_lt j (show 64>0 by decide);unfold gW Qs;split<;>first|exact xg h|rfl
theorem T3{s:N4}{n:Nat}(hn:n<256)(hj:j<256):gW (yt s n) j=(gW s j||decide (j=n)):=by
 have h:=Nat.mod_lt j (show 64>0 by decide);have h':=Nat.mod_lt n (show 64>0 by decide);have e:∀q:Nat,n/64=q->j/64=q->decide (n%64=j%64)=decide (j=n):=by grind
 have e':n/64≠j/64->decide (j=n)=false:=by grind
 have h4:n/64=0\/n/64=1\/n/64=2\/n/64=3:=aa;have h5:j/64=0\/j/64=1\/j/64=2\/j/64=3:=aa;unfold gW yt;rcases h4 with e1|e1|e1|e1
 .rcases h5 with e2|e2|e2|e2
  .grind [xg,Ay]
  .grind
  all_goals grind
 .rcases h5 with e2|e2|e2|e2
  .grind
  .grind [xg,Ay]
  all_goals grind
 .rcases h5 with e2|e2|e2|e2
  .grind
  .grind
  .grind [xg,Ay]
  grind
 .rcases h5 with e2|e2|e2|e2
  .grind
  .grind
  .grind
  grind [xg,Ay]
theorem OK(ha:a<18446744073709551616)(h:∀i,i<64->a.testBit i=false):a=0:=by
 apply Nat.eq_of_testBit_eq;intro i;rw[Nat.zero_testBit];rcases HE i 64 with hi|hi
 .exact h i hi
 .exact Nat.testBit_lt_two_pow (Nat.lt_of_lt_of_le ha (LD (by grind) (Nat.pow_le_pow_right BX hi)))
theorem T4(a b:Nat):bD a b<18446744073709551616:=by grind [bD,Nat.and_le_left]
theorem RQ{p b:N4}(h:∀j,j<256->¬(gW p j=true/\gW b j=true)):ZA p b 4=z4:=by
 have w:∀(q:Nat) (x y:Nat),q<4->(∀i,i<64->gW p (64*q+i)=x.testBit i/\gW b (64*q+i)=y.testBit i)->bD x y=0:=by grind [OK,T4,RN]
 have d:∀(q i:Nat),i<64->(64*q+i)/64=q/\(64*q+i)%64=i:=λq i hi=>aa;show(⟨bD p.a0 b.a0,bD p.a1 b.a1,bD p.a2 b.a2,bD p.a3 b.a3⟩:N4)=⟨0,0,0,0⟩;rw[w 0 p.a0 b.a0 BX λi hi=>by unfold gW;rw[(d 0 i hi).1,(d 0 i hi).2];exact⟨rfl,rfl⟩];rw[w 1 p.a1 b.a1 BX λi hi=>by unfold gW;rw[(d 1 i hi).1,(d 1 i hi).2];exact⟨rfl,rfl⟩];rw[w 2 p.a2 b.a2 BX λi hi=>by unfold gW;rw[(d 2 i hi).1,(d 2 i hi).2];exact⟨rfl,rfl⟩];rw[w 3 p.a3 b.a3 BX λi hi=>by unfold gW;rw[(d 3 i hi).1,(d 3 i hi).2];exact⟨rfl,rfl⟩]
theorem Xa{s:N4}{n:Nat}(hn:n<256):iX s (n:Int)=some (gW s n):=by
 have hd:wI (Int.tdiv (n:Int) 64)=((n/64:Nat):Int):=by grind [bM]
 have ht:Int.tmod (n:Int) 64=((n%64:Nat):Int):=by rw[Int.tmod_eq_emod_of_nonneg aa];rfl
 have hcn:wJ ((n%64:Nat):Int)=some (n%64):=by grind [wJ]
 have h:=Nat.mod_lt n (show 64>0 by decide);have key:∀y:Nat,decide (((bD (Jn y (n%64)) 1:Nat):Int)=((1:Nat):Int))=y.testBit (n%64):=by grind [bD,Jn]
 unfold iX;rw[hd,ht,hcn,au];have h4:n/64=0\/n/64=1\/n/64=2\/n/64=3:=aa;unfold gW;grind
def lvN(N:JH)(j:Int):Int:=((N[j.toNat]?).map (·.level)).getD 0
def lvF(N:JH)(u:Bk):Int:=u.foldl (λa j=>Fv a (lvN N j+1)) 1
theorem Aan{j:Int}:lvF N (u++[j])=Fv (lvF N u) (lvN N j+1):=by unfold lvF;rw[On];rfl
theorem Ab2{y:CY}(h:∀x∈u,0<=x/\x<(N.length:Int)):lvF (N++[y]) u=lvF N u:=by
 have key:∀(l:Bk) (a:Int),(∀x∈l,0<=x/\x<(N.length:Int))->l.foldl (λa j=>Fv a (lvN (N++[y]) j+1)) a=l.foldl (λa j=>Fv a (lvN N j+1)) a:=by
  intro l;induction l with
  |nil=>exact λa _=>rfl
  |cons x r ih=>
   intro a hh;have e:lvN (N++[y]) x=lvN N x:=by have:=hh x aC;grind [lvN]
   grind
 exact key u 1 h
structure NP (g:A7) (m:JI) (N:JH):Prop where
 len:N.length=g.L.length
 nd:∀(k:Nat) (y:CY),N[k]?=some y->g.L[k]?=some y.o/\g.IDs[k]?=some y.id/\(∀j,j<256->gW y.past j=O9 g k j)/\0<=y.level/\y.level<=(k:Int)+1
 get:∀x,m.get x=(bu x g.IDs).map (λn=>(n:Int))
 lv:∀(k:Nat) (y:CY) (u:Bk),N[k]?=some y->g.Up[k]?=some u->y.level=lvF N u
theorem MX{a b:Int}(h1:a<=c)(h2:b<=c):Fv a b<=c:=by unfold Fv;split<;>omega
theorem T5{a b:Int}(h1:c<=a):c<=Fv a b:=by unfold Fv;split<;>omega
theorem ZF{up:Bk}(w:Fo g)(pg:NP g m N)(a:Q1 g o up)(sm:Bb o):T (AA (Z6 m N o.Past) (z4,z4,0,1,0)) λr=>(∀j:Nat,j<256->(gW r.1 j=true↔(j:Int)∈up))/\(∀j:Nat,j<256->(gW r.2.1 j=true↔∃n:Nat,(n:Int)∈up/\O9 g n j=true))/\r.2.2.1<=o.At/\0<=r.2.2.2/\r.2.2.2<=(N.length:Int)+1/\r.2.2.2=lvF N up:=by
 have f:=T1 a.check.numbers;have n1:=sm.nPast;have nL:=w.nL;have nI:=w.nI;have pl:=pg.len;refine T.loop (λs=>∃k:Nat,s.2.2.2.2=(k:Int)/\k<=o.Past.length/\(∀j:Nat,j<256->(gW s.1 j=true↔∃i,i<k/\up[i]?=some (j:Int)))/\(∀j:Nat,j<256->(gW s.2.1 j=true↔∃i n:Nat,i<k/\up[i]?=some (n:Int)/\O9 g n j=true))/\s.2.2.1<=o.At/\0<=s.2.2.2.1/\s.2.2.2.1<=(N.length:Int)+1/\s.2.2.2.1=lvF N (up.take k)) (λs=>o.Past.length-s.2.2.2.2.toNat) ⟨0,rfl,aa,λj hj=>?_,λj hj=>?_,f.at_.1,BX,by show(1:Int)<=_;omega,rfl⟩ (by show o.Past.length-_<_;omega) ?_
 .grind [gW]
 .grind [gW]
 rintro⟨p,b,z,lev,i⟩ ⟨k,rfl,hk,q1,h,c,d,e,t⟩;dsimp only at q1 h c d e t;unfold Z6;dsimp only;refine .dec (λhlt=>?_) λhge=>?_
 .unfold ah at hlt;have hk2:k<o.Past.length:=aa;have hx:=DR hk2;obtain⟨n,hn,hu⟩:=a.par k _ hx;have eg:m.get o.Past[k]=some (n:Int):=by rw[pg.get,hn];rfl
  have hnl:n<g.IDs.length:=(cr (gb hn).1).1;have hy:N[n]?=some (N[n]'aa):=DR _;obtain⟨l,u,q,v,x⟩:=pg.nd n _ hy;generalize N[n]'aa=y at hy l u q v x;have hmem:(n:Int)∈up:=bO hu;have hat:=a.late n _ hmem l;have ew:wI (y.level+1)=y.level+1:=bM aa aa;rw[au,hx,aL,eg];dsimp only[M2];rw[au,hy,aL,ew,aq aa];refine .some ⟨⟨k+1,rfl,aa,λj hj=>?_,λj hj=>?_,MX c hat,T5 d,MX e aa,?_⟩,?_⟩
  .dsimp only;rw[Fs,T3 aa hj,Bool.or_eq_true,q1 j hj,decide_eq_true_eq];grind
  .dsimp only;rw[RP,Bool.or_eq_true,h j hj,q j hj];grind
  all_goals grind [JJ,lvN,Aan]
 .unfold ah at hge;obtain rfl:k=o.Past.length:=aa;have ul:=a.upl;refine .some ⟨λj hj=>?_,λj hj=>?_,c,d,e,by grind⟩;all_goals grind [Gu]
def RR(g:A7)(o:Bp)(r:List Bool):Prop:=(∀(k:Nat) (p:Bp),g.L[k]?=some p->r[k]?=some true->p.By=o.By->p.Seq<o.Seq)/\(o.Seq=1\/∃(k:Nat) (p:Bp),g.L[k]?=some p/\r[k]?=some true/\p.By=o.By/\p.Seq=wI (o.Seq-1))
theorem Xb(w:Fo g){o:Bp}(hr:r.length=g.L.length):T (lA g o r) λv=>v=true->RR g o r:=by
 have nL:=w.nL;unfold lA;refine .bind (T.forA g.L.length (λk b=>(∀(j:Nat) (p:Bp),j<k->g.L[j]?=some p->r[j]?=some true->p.By=o.By->p.Seq<o.Seq)/\(b=true->∃(j:Nat) (p:Bp),g.L[j]?=some p/\r[j]?=some true/\p.By=o.By/\p.Seq=wI (o.Seq-1))) aa (by grind) (λk b hk a=>?_) λb a=>?_)
 .have hp:=DR hk;obtain⟨x,hx⟩:∃x,r[k]?=some x:=⟨_,DR aa⟩;generalize g.L[k]=p at hp;have more:∀(c:Prop),(c->p.Seq<o.Seq)->((r[k]?=some true/\p.By=o.By)->c)->∀(j:Nat) (q:Bp),j<k+1->g.L[j]?=some q->r[j]?=some true->q.By=o.By->q.Seq<o.Seq:=by grind
  unfold jK;dsimp only;rw[eA hk,ax,au,au,hx,hp];simp only[aL];cases x with
  |false=>exact .some (by constructor<;>grind [aq])
  |true=>
   simp only[Bool.not_true,Be,aL];by_cases hb:p.By=o.By
   .rw[C6 (by grind),Be];refine .dec (λhs=> .some (.some λh=>by cases h)) λhs=>?_;have hm:=more True (λ_=>aa) λ_=>trivial;cases b with
    |true=>exact .some ⟨aq aa,hm,a.2⟩
    |false=>exact .some (by constructor<;>grind [aq])
   .rw[CO hb,ax];exact .some (by constructor<;>grind [aq])
 .unfold jK;dsimp only;rw[eF,Be];refine .some ?_;show T (ma _ _ _) _;dsimp only[ma];have h1:∀(k:Nat) (p:Bp),g.L[k]?=some p->r[k]?=some true->p.By=o.By->p.Seq<o.Seq:=by grind
  by_cases hs:o.Seq=1
  .rw[CO hs];exact .some λ_=>⟨h1,.inl hs⟩
  .rw[C6 hs];exact .some λhb=>⟨h1,.inr (a.2 hb)⟩
theorem ZG{A:N4}(w:Fo g)(pg:NP g m N)(f:NN o)(hA:∀j:Nat,j<g.L.length->(gW A j=true↔r[j]?=some true))(hR:RR g o r):T (AA (Z7 N o A) (0,false,0)) λv=>v.1<o.Seq/\(1<o.Seq->v.2=true):=by
 have nL:=w.nL;have pl:=pg.len;have fs:=f.seq;refine T.loop (λs=>∃k:Nat,s.2.2=(k:Int)/\k<=N.length/\s.1<o.Seq/\∀(j:Nat) (p:Bp),j<k->g.L[j]?=some p->r[j]?=some true->p.By=o.By->p.Seq=wI (o.Seq-1)->s.2.1=true) (λs=>N.length-s.2.2.toNat) ⟨0,rfl,aa,by show(0:Int)<_;omega,λj p hj=>absurd hj (Nat.not_lt_zero _)⟩ (by show N.length-_<_;omega) ?_;rintro⟨la,b,i⟩ ⟨k,rfl,hk,q1,e⟩;dsimp only at q1 e;unfold Z7;dsimp only;refine .dec (λhlt=>?_) λhge=>?_
 .unfold ah at hlt;have hk2:k<N.length:=aa;have hy:=DR hk2;obtain⟨c,_⟩:=pg.nd k _ hy;generalize N[k]=y at hy c;rw[au,hy,aL,aq aa];have dn:N.length-(((k+1:Nat):Int)).toNat<N.length-((k:Int)).toNat:=aa;have more:∀a:Bool,(b=true->a=true)->(r[k]?=some true->y.o.By=o.By->y.o.Seq=wI (o.Seq-1)->a=true)->∀(j:Nat) (p:Bp),j<k+1->g.L[j]?=some p->r[j]?=some true->p.By=o.By->p.Seq=wI (o.Seq-1)->a=true:=λa h1 h2 j p hj hp h3 h4 h5=>by
   rcases HE j k with hjk|hjk
   .exact h1 (e j p hjk hp h3 h4 h5)
   .obtain rfl:j=k:=aa;rw[c] at hp;cases hp;exact h2 h3 h4 h5
  refine .dec (λhb=>?_) λhb=> .some ⟨⟨k+1,rfl,aa,q1,more b id λ_ h=>absurd h hb⟩,dn⟩;rw[Xa aa,aL];refine .ite (λhh=>?_) λhh=> .some ⟨⟨k+1,rfl,aa,q1,more b id λh=>?_⟩,dn⟩
  .have d:=(hA k aa).1 hh;refine .some ⟨⟨k+1,rfl,aa,?_,more _ (λh=>by rw[h];rfl) λ_ _ h=>by rw[CO h];cases b<;>rfl⟩,dn⟩;have:=hR.1 k _ c d hb;grind [Fv]
  .rw[(hA k aa).2 h] at hh;cases hh
 .unfold ah at hge;refine .some ⟨q1,λh1=>?_⟩;rcases hR.2 with h|⟨j,p,h2,h3,h4,h5⟩
  all_goals grind
theorem ye{a b:Ab}:dt a b=true↔a.By<b.By\/(a.By=b.By/\(a.Seq<b.Seq\/(a.Seq=b.Seq/\a.Sum<b.Sum))):=by grind [dt]
def rN(a b:Ab):Prop:=dt b a=false
theorem KG{a b c:Ab}(h1:rN a b)(h2:rN b c):rN a c:=by grind [rN,ye]
theorem F9{a b:Ab}(h:dt a b=true):rN a b:=by grind [rN,ye]
theorem Cy{x:α}:(l.take k++[x]++l.drop k).Perm (l++[x]):=by grind [List.perm_append_comm,OQ]
theorem kg{l:Bc}(hl:l.length<=1000000):T (iu l) λr=>r.Perm l/\r.Pairwise rN:=by
 unfold iu;refine .bind (T.forA l.length (λk acc=>acc.Perm (l.take k)/\acc.Pairwise rN) aa (by simp_all) (λk acc hk hj=>?_) λacc hj=>?_)
 .obtain⟨x,hx⟩:∃x,l[k]?=some x:=by simp_all
  have ha:acc.length<=1000000:=by have:=hj.1.length_eq;grind
  unfold oZ;dsimp only;rw[eA hk,ax];refine .bind (T.mono (Q:=λq:Int=>∃n:Nat,q=(n:Int)/\n<=acc.length/\(∀(j:Nat) (y:Ab),n<=j->acc[j]?=some y->dt x y=true)/\∀(y:Ab),0<n->acc[n-1]?=some y->dt x y=false) (T.loop (λq=>∃n:Nat,q=(n:Int)/\n<=acc.length/\∀(j:Nat) (y:Ab),n<=j->acc[j]?=some y->dt x y=true) (λq=>q.toNat) ⟨acc.length,rfl,DC _,(by grind)⟩ (by unfold ah;omega) ?_) ?_)
  .rintro q ⟨n,rfl,hn,b⟩;unfold vB;dsimp only;refine .dec (λh0=>?_) λh0=> .some ⟨n,rfl,hn,b,(by grind)⟩;obtain⟨y,hy⟩:∃y,acc[n-1]?=some y:=by grind
   rw[au,hx,aL,F7 aa aa,au,hy,aL,pJ,aL];refine .ite (λhf=> .some ⟨n,rfl,hn,b,(by grind)⟩) λht=> .some (by constructor<;>grind);all_goals grind
  .rintro q ⟨n,rfl,hn,h1,h2⟩;refine .bind (.pre aa aa (.bind (.app cq ?_)));rw[au,hx,aL];refine .bind (.app cq (.bind (.suf aa aa (.bind (.app cq (.some ⟨aq aa,?_,?_⟩))))))
   .grind [Cy,JJ]
   .show([]++acc.take (n:Int).toNat++[x]++acc.drop (n:Int).toNat).Pairwise rN;rw[M1,Fs];have hp:=hj.2;rw[<-OQ n acc,List.pairwise_append] at hp;obtain⟨p1,p2,c⟩:=hp;have low:∀a∈acc.take n,rN a x:=by grind [rN,Gu,List.pairwise_iff_getElem,KG]
    grind [Gu,F9]
 .unfold oZ;dsimp only;rw[eF,Be];refine .some (.some ?_);grind
theorem Cz(w:Fo g):T (xt g) λr=>r.Perm g.IDs/\r.Pairwise rN:= .bind (by grind [T.mono,kg,Fo.nI,Fo.nL,T.some])
def uX(g:A7)(ids:Bc)(k:Nat):Prop:=∃x∈ids,∃n,bu x g.IDs=some n/\O9 g n k=true
theorem EB(w:Fo g)(hl:ids.length<=1000):T (r9 g ids) λr=>r.Nodup/\(∀x,x∈r↔∃k,g.IDs[k]?=some x/\uX g ids k)/\r.Pairwise rN/\r.length<=g.L.length:=by
 have nL:=w.nL;have nI:=w.nI;unfold r9;refine .bind (T.forA g.L.length (λk acc=>acc.length<=k/\acc.Nodup/\∀x,x∈acc↔∃j,j<k/\g.IDs[j]?=some x/\uX g ids j) aa ⟨aC,aC,λx=>aC⟩ (λk acc hk hj=>?_) λacc hj=>?_)
 .obtain⟨y,hy⟩:∃y,g.IDs[k]?=some y:=⟨_,DR aa⟩;unfold t8;dsimp only;rw[eA hk,ax];refine .bind (T.mono (Q:=λb:Bool=>b=true↔uX g ids k) (T.forA ids.length (λm b=>b=true↔∃(j:Nat) (x:Ab) (n:Nat),j<m/\ids[j]?=some x/\bu x g.IDs=some n/\O9 g n k=true) aa aC (λm b hm hjm=>?_) λb hjm=>?_) λb hb=>?_)
  .obtain⟨x,hx⟩:∃x,ids[m]?=some x:=⟨_,DR hm⟩;unfold t7;dsimp only;rw[eA hm,ax,au,hx,aL,dC aa,aL];refine .bind (T.mono (Q:=λc:Bool=>c=true↔(b=true\/∃n,bu x g.IDs=some n/\O9 g n k=true)) ?_ λc hc=> .some ⟨aq aa,?_⟩)
   .refine .ite (λhb=> .some (by simp[hb])) λhb=>?_;unfold gO;cases hkx:bu x g.IDs with
    |none=>grind [T.some]
    |some n=>
     have hn:n<g.L.length:=by have:=(cr (gb hkx).1).1;omega
     grind [Fo,Fv,au,T.some,wO]
   grind
  .unfold t7;dsimp only;rw[eF,Be];refine .some ?_;show b=true↔_;rw[hjm];constructor
   .rintro⟨j,x,n,_,h2,h3,h4⟩;exact⟨x,bO h2,n,h3,h4⟩
   .rintro⟨x,hx,n,h3,h4⟩;grind [Gu]
  .refine .ite (λhbt=>?_) λhbf=> .some ⟨aq aa,by show acc.length<=k+1;have:=hj.1;omega,hj.2.1,λx=>?_⟩
   .have hin:=hb.1 hbt;rw[au,hy,aL];have hny:y∉acc:=λhm=>by obtain⟨j,h1,h2,_⟩:=(hj.2.2 y).1 hm;have:=(List.getElem?_inj (show j<g.IDs.length by omega) w.nd).1 (h2.trans hy.symm);omega
    refine .bind (.app (by grind) (.some ⟨aq aa,by simp;exact hj.1,?_,λx=>?_⟩));all_goals grind
   .show x∈acc↔_;rw[hj.2.2 x];constructor
    .rintro⟨j,h1,h2⟩;exact⟨j,aa,h2⟩
    .rintro⟨j,h1,h2,h3⟩;rcases HE j k with hlt|hge
     .exact⟨j,hlt,h2,h3⟩
     .obtain rfl:j=k:=aa;rw[hb.2 h3] at hbf;cases hbf
 .unfold t8;dsimp only;rw[eF,Be];refine .some (.bind ((kg (by grind)).mono λr hr=> .some ⟨hr.1.nodup_iff.2 hj.2.1,λx=>?_,hr.2,by rw[hr.1.length_eq];exact hj.1⟩));rw[hr.1.mem_iff,hj.2.2 x];constructor
  .rintro⟨j,_,h2⟩;exact⟨j,h2⟩
  .rintro⟨j,h2,h3⟩;exact⟨j,by have:=(cr h2).1;omega,h2,h3⟩
structure GJ (g:A7) (r:Bc):Prop where
 sub:∀x∈r,x∈g.IDs
 len:r.length<=1000
theorem Rf(z:Int):c8 (wI z):=by grind [c8,wI,IntKind.wrap_i64]
theorem nD(h:gU o=true):(1<=o.By/\o.By<=12)/\(1<=o.Seq/\o.Seq<=2147483647)/\0<=o.At/\o.At<=2147483647:=by have e:=jF o;rw[h] at e;unfold Fw at e;simp only[gT,aL] at e;grind
theorem l8(h:gU o=true)(hk:o.Kind=9):1<=o.Need/\o.Need<=(o.Guards.length:Int):=by obtain⟨h1,h2,h3⟩:=nD h;have e:=jF o;rw[h] at e;unfold Fw at e;simp only[gT,aL,hk,CO h1,CO h2,CO h3] at e;grind [ah]
theorem Fo.name{g:A7}(w:Fo g){x:Ab}(h:x∈g.IDs):∃i o,g.IDs[i]?=some x/\g.L[i]?=some o/\bu x g.IDs=some i/\i<g.L.length/\JU x/\x.By=o.By/\x.Seq=o.Seq/\Bb o/\EZ o:=by have nI:=w.nI;obtain⟨i,hi⟩:=Gu h;have hlt:=(cr hi).1;obtain⟨o,ho,so,a⟩:=w.op (i:=i) aa;obtain⟨y,e,h1,h2,_,h4⟩:=wN so;grind [ids,y0,List.getElem?_inj,nd]
theorem Fo.place{g:A7}(w:Fo g){x:Ab}(h:0<=gO g x):∃i o,gO g x=(i:Nat)/\g.IDs[i]?=some x/\g.L[i]?=some o/\x∈g.IDs/\Bb o/\EZ o:=by
 have nI:=w.nI;unfold gO at h⊢;cases hk:bu x g.IDs with
 |none=>rw[hk] at h;simp at h
 |some i=>have hi:=(gb hk).1;grind [op]
theorem lj:0<=gO g x↔x∈g.IDs:=by grind [gO,jv]
theorem EC{α:Type}[DecidableEq α]:∀{l m:List α},l.Nodup->(∀x∈l,x∈m)->l.length<=m.length
 |[],_,_,_=>aC
 |x::r,m,h,hs=>by have hx:=hs x aC;have h2:=LS.1 h;have:=EC (l:=r) (m:=m.erase x) h2.2 (by grind);grind
theorem yf(w:Fo g){ids:Bc}(hl:ids.length<=1000):T (Lu g ids) λr=>GJ g r/\r.Nodup/\(∀x,x∈r↔(∃k,g.IDs[k]?=some x/\uX g ids k)\/x∈ids/\x∈g.IDs)/\r.Pairwise rN:=by
 have nL:=w.nL;have nI:=w.nI;unfold Lu;refine .bind ((EB w aa).mono λa h1=>?_);obtain⟨p1,p2,b,c⟩:=h1;refine .bind (T.forA ids.length (λk acc=>acc.length<=a.length+k/\acc.Nodup/\∀x,x∈acc↔x∈a\/∃j,j<k/\ids[j]?=some x/\x∈g.IDs) aa (by grind) (λk acc hk hj=>?_) λacc hj=>?_)
 .obtain⟨y,hy⟩:∃y,ids[k]?=some y:=⟨_,DR hk⟩;unfold t9;dsimp only;rw[eA hk,ax,au,hy];simp only[aL];rw[dC aa,aL,kf aa];simp only[aL];rw[cL,aL];refine .ite (λhb=>?_) λhb=> .some ⟨aq aa,by grind,hj.2.1,λx=>?_⟩
  .by_cases hp:0<=gO g y
   .rw[CO hp,ax] at hb;have hny:y∉acc:=by grind [nA]
    refine .bind (.app cq (.some ⟨aq aa,by grind,?_,λx=>?_⟩))
    .grind
    grind [lj]
   grind
  grind [lj,nA]
 .unfold t9;dsimp only;rw[eF,Be];refine .some (.bind ((kg aa).mono λr hr=>?_));have key:∀x,x∈r↔(∃k,g.IDs[k]?=some x/\uX g ids k)\/x∈ids/\x∈g.IDs:=λx=>by rw[hr.1.mem_iff,hj.2.2 x,p2 x];grind [Gu]
  have hsub:∀x∈r,x∈g.IDs:=by grind
  have hnd:r.Nodup:=hr.1.nodup_iff.2 hj.2.1;exact .some ⟨⟨hsub,by have:=EC hnd hsub;omega⟩,hnd,key,hr.2⟩
theorem KH(w:Fo g)(hl:ids.length<=1000):T (qL g ids) λr=>GJ g r/\r.Nodup/\(∀x,x∈r↔x∈ids/\x∈g.IDs/\¬∃k,g.IDs[k]?=some x/\uX g ids k)/\r.Pairwise rN:=by
 have nL:=w.nL;have nI:=w.nI;unfold qL;refine .bind ((EB w aa).mono λa h1=>?_);obtain⟨p1,p2,c,d⟩:=h1;refine .bind (T.forA ids.length (λk acc=>acc.length<=k/\acc.Nodup/\∀x,x∈acc↔∃j,j<k/\ids[j]?=some x/\x∈g.IDs/\x∉a) aa ⟨aC,aC,λx=>aC⟩ (λk acc hk hj=>?_) λacc hj=>?_)
 .obtain⟨y,hy⟩:∃y,ids[k]?=some y:=⟨_,DR hk⟩;unfold qK;dsimp only;rw[eA hk,ax,au,hy];simp only[aL];rw[dC aa,aL,kf aa,kf aa];simp only[aL];rw[cL,cL,aL];have m1:nA a y=true↔y∈a:=by
   constructor
   .intro h;obtain⟨z,hz,e⟩:=List.any_eq_true.1 h;rw[DL e] at hz;exact hz
   .intro h;exact List.any_eq_true.2 ⟨y,h,aC⟩
  have m2:nA acc y=true↔y∈acc:=by
   constructor
   .intro h;obtain⟨z,hz,e⟩:=List.any_eq_true.1 h;rw[DL e] at hz;exact hz
   .intro h;exact List.any_eq_true.2 ⟨y,h,aC⟩
  have hc:∀b:Bool,(bif 0<=gO g y then bif !nA a y then !nA acc y else false else false)=b->(b=true↔y∈g.IDs/\y∉a/\y∉acc):=λb hb=>by rw[<-hb,<-lj,<-m1,<-m2];by_cases q1:0<=gO g y<;>cases nA a y<;>cases nA acc y<;>simp[q1]
  refine .ite (λhb=>?_) λhb=> .some ⟨aq aa,by show acc.length<=k+1;omega,hj.2.1,λx=>?_⟩
  .obtain⟨q1,f,i⟩:=(hc true hb).1 rfl;refine .bind (.app cq (.some ⟨aq aa,by grind,?_,λx=>?_⟩));all_goals grind
  .have q:=hc false hb;show x∈acc↔_;rw[hj.2.2 x];constructor
   .rintro⟨j,h1,h2⟩;exact⟨j,aa,h2⟩
   .rintro⟨j,h1,h2,h3,h4⟩;rcases HE j k with hlt|hge
    .exact⟨j,hlt,h2,h3,h4⟩
    .obtain rfl:j=k:=aa;rw[hy] at h2;cases h2;by_cases hm:y∈acc
     .exact(hj.2.2 y).1 hm
     .have:=q.2 ⟨h3,h4,hm⟩;cases this
 .unfold qK;dsimp only;rw[eF,Be];refine .some (.bind ((kg aa).mono λr hr=>?_));have key:∀x,x∈r↔x∈ids/\x∈g.IDs/\¬∃k,g.IDs[k]?=some x/\uX g ids k:=λx=>by rw[hr.1.mem_iff,hj.2.2 x,<-p2 x];grind [Gu]
  grind [T.some,GJ,List.Perm.length_eq]
theorem QH(w:Fo g)(h:GJ g ids)(d:Int):T (Fc g ids d) λn=>1<=n/\n<=2147483648:=by
 have hl:=h.len;unfold Fc;refine .bind (T.forA ids.length (λ_ n=>0<=n/\n<=2147483647) aa ⟨BX,BX⟩ (λk n hk hj=>?_) λn hj=>?_)
 .obtain⟨y,hy⟩:∃y,ids[k]?=some y:=⟨_,DR hk⟩;obtain⟨i,o,_,_,_,_,_,_,e,_,a⟩:=w.name (h.sub y (bO hy));have:=(nD a.numbers).2.1;unfold xu;dsimp only;rw[eA hk,ax,au,hy];simp only[aL];refine .dec (λ_=> .some ⟨aq aa,?_⟩) λ_=> .some ⟨aq aa,hj⟩;grind [Fv]
 .unfold xu;dsimp only;rw[eF,Be];refine .some (.some ?_);grind [bM]
theorem N0(w:Fo g)(hl:ids.length<=1000):T (z8 g ids) λn=>0<=n/\n<=2147483647:=by
 have nL:=w.nL;have nI:=w.nI;unfold z8;refine .bind (T.forA ids.length (λ_ n=>0<=n/\n<=2147483647) aa ⟨BX,BX⟩ (λk n hk hj=>?_) λn hj=>?_)
 .obtain⟨y,hy⟩:∃y,ids[k]?=some y:=⟨_,DR hk⟩;unfold ue;dsimp only;rw[eA hk,ax,au,hy,aL,dC aa,aL];refine .dec (λhp=>?_) λ_=> .some ⟨aq aa,hj⟩;obtain⟨i,o,e,_,ho,_,_,a⟩:=w.place hp;have:=(nD a.numbers).2.2;rw[e,au,ho,aL];refine .some ⟨aq aa,?_⟩;grind [Fv]
 .unfold ue;dsimp only;rw[eF,Be];exact .some (.some hj)
theorem eX{m:Int}(h:c8 n)(hm:0<m):T (iq n m) λv=>0<=v/\v<m:=by obtain⟨h1,h2⟩:=h;grind [iq,T.rem,bM,Int.tmod_nonneg,Int.tmod_lt_of_pos]
def zId:Ab:=⟨0,0,0⟩
def Ys:Bp:=⟨0,0,0,0,[],0,0,0,0,[],⟨0,0,0⟩,0,[],[],⟨0,0,0⟩,[],0,0,[],0,[],⟨0,0⟩⟩
theorem dP:c8 0:=by unfold c8;omega
theorem pM:JU ⟨0,0,0⟩:=⟨dP,dP,by show(0:Nat)<_;omega⟩
theorem Wd:Bb Ys:=by constructor<;>first|exact pM|(unfold Ys;simp;done)|(intro z hz;simp[Ys] at hz;subst hz;exact dP)|(show fS 0;unfold fS;omega)
theorem zb(w:Fo g)(h:GJ g ids)(kd:Int):T (nS g ids kd) λr=>(r.1=zId/\r.2=Ys)\/(r.1∈ids/\Bb r.2/\EZ r.2/\r.2.Kind=kd):=by
 have nL:=w.nL;have nI:=w.nI;have hl:=h.len;have e0:wI (ah g.L-1)=(g.L.length:Int)-1:=by grind [bM,ah]
 unfold nS;rw[e0];refine .bind (T.loop (λs=>s.1=zId/\s.2.1=Ys∧-1<=s.2.2/\s.2.2<g.L.length) (λs=>(s.2.2+1).toNat) ⟨rfl,rfl,by simp only;omega,by simp only;omega⟩ (by simp only;omega) ?_);rintro⟨a,b,i⟩ ⟨rfl,rfl,c,i1⟩;simp only at c i1;unfold vC;dsimp only;refine .dec (λhi=>?_) λhi=> .some (.some (.inl ⟨rfl,rfl⟩));obtain⟨n,rfl⟩:∃n:Nat,i=(n:Int):=⟨i.toNat,aa⟩;obtain⟨o,ho,so,d⟩:=w.op (i:=n) aa;obtain⟨x,hx⟩:∃x,g.IDs[n]?=some x:=⟨_,DR aa⟩;have ew:wI ((n:Int)-1)=(n:Int)-1:=bM aa aa;rw[au,ho,aL,au,hx];simp only[aL];rw[kf aa];simp only[aL];rw[cL,aL];refine .ite (λhb=> .some (.some (.inr ?_))) λhb=> .some ⟨⟨rfl,rfl,?_,?_⟩,?_⟩
 .by_cases hk:o.Kind=kd
  .rw[CO hk,ax] at hb;obtain⟨z,hz,e⟩:=List.any_eq_true.1 hb;grind
  grind
 all_goals grind
theorem yg{n:Int}(h1:n<=1000):T (o4 n) λr=>r.length<=1000/\(r.length:Int)=(if n<0 then 0 else n)/\∀x∈r,Fm x:=by
 unfold o4;refine .bind (T.forA n.toNat (λk acc=>acc.length=k/\∀x∈acc,Fm x) aa ⟨rfl,aC⟩ (λk acc hk hj=>?_) λacc hj=>?_)
 .unfold uc;dsimp only;rw[CO (show(k:Int)<n by omega),ax];refine .bind (.app cq (.some ⟨aq aa,by simp;exact hj.1,λx hx=>?_⟩));grind [Fm,fS,Mp]
 .unfold uc;dsimp only;rw[C6 (by grind),Be];refine .some (.some ⟨aa,?_,hj.2⟩);split<;>omega
theorem zc(w:Fo g)(d:Int):T (nT g d) λm=>c8 m:=by grind [Fo.nC,nT,Cw,T.some,dP,mZ,Fo.cards]
theorem ED(w:Fo g)(d:Int)(h:0<=n/\n<=1000000):T (R4 g d n) λr=>GJ g r:=by
 have nL:=w.nL;have nI:=w.nI;unfold R4;refine .bind ((Cz w).mono λb hv1=>?_);have i1:GJ g b:=by grind [GJ,List.Perm.length_eq]
 refine .bind (T.mono (Q:=λx:Int=> -1<=x/\x<g.L.length) (T.forA g.L.length (λ_ x=> -1<=x/\x<g.L.length) aa ⟨BX,aa⟩ (λk x hk hj=>?_) λx hj=>?_) λa h4=>?_)
 .obtain⟨o,ho,_⟩:=w.op hk;unfold ub;dsimp only;rw[eA hk,ax,au,ho,aL];exact .dec (λ_=> .some (by constructor<;>grind [aq])) λ_=> .some ⟨aq aa,hj⟩
 .unfold ub;dsimp only;rw[eF,Be];exact .some hj
 .rw[cL,aL];refine .ite (λhb=>?_) λhb=>?_
  .have hx:0<a:=by grind
   obtain⟨k,rfl⟩:∃k:Nat,a=(k:Int):=⟨a.toNat,aa⟩;obtain⟨o,ho,so,c⟩:=w.op (i:=k) aa;rw[au,ho,aL];exact .bind (by grind [T.mono,yf,pK,EZ.long,T.some])
  .rw[cL,aL];refine .ite (λ_=> .some i1) λhb2=>?_;have hx:0<=a:=by grind
   obtain⟨k,rfl⟩:∃k:Nat,a=(k:Int):=⟨a.toNat,aa⟩;obtain⟨y,hy⟩:∃y,g.IDs[k]?=some y:=⟨_,DR aa⟩;rw[au,hy,aL];have e3:wI (n.tdiv 3)=n.tdiv 3:=by grind [bM]
   rw[e3];refine .bind (.rem (by unfold ah;omega) ?_);have q0:0<=(n.tdiv 3).tmod (ah g.IDs):=Int.tmod_nonneg _ (Int.tdiv_nonneg h.1 BX);have q1:(n.tdiv 3).tmod (ah g.IDs)<ah g.IDs:=Int.tmod_lt_of_pos _ (by unfold ah;omega);refine .bind (.ixl q0 (by unfold ah at q1;exact q1) λz _ _=>?_);exact .bind (by grind [T.mono,yf,T.some])
def il{α:Type}(p:α->Prop)(l:List α):Prop:=l.length<=1000/\∀x∈l,p x
theorem ay{p:α->Prop}:il p []:=⟨aC,aC⟩
theorem Hh(h1:c8 o.By)(h2:c8 o.Seq)(h3:c8 o.Kind)(h4:c8 o.At)(h5:il JU o.Past)(h6:c8 o.Device)(h7:c8 o.Old)(h8:c8 o.Member)(h9:c8 o.Role)(h10:il I5 o.Path)(h11:JU o.Epoch)(h12:c8 o.N)(h13:o.Body.length<=1000)(h14:il fS o.Refs)(d:JU o.Of)(a:il c8 o.Guards)(f:c8 o.Need)(g:c8 o.Wait)(b:il Fm o.Boxes)(e:fS o.Pub)(c:il Hp o.Hist):Bb o:=by refine⟨λz hz=>?_,h5.1,h5.2,h10.1,h10.2,h11,h13,h14.1,h14.2,d,a.1,a.2,b.1,b.2,e,c.1,c.2⟩;simp only[EG,KY,or_false] at hz;rcases hz with rfl|rfl|rfl|rfl|rfl|rfl|rfl|rfl|rfl|rfl|rfl<;>assumption
theorem Bb.iBy{o:Bp}(h:Bb o):c8 o.By:=h.ints _ aC
theorem Bb.iSeq{o:Bp}(h:Bb o):c8 o.Seq:=h.ints _ aC
theorem Bb.iKind{o:Bp}(h:Bb o):c8 o.Kind:=h.ints _ aC
theorem Bb.iAt{o:Bp}(h:Bb o):c8 o.At:=h.ints _ aC
theorem Bb.iDevice{o:Bp}(h:Bb o):c8 o.Device:=h.ints _ aC
theorem Bb.iOld{o:Bp}(h:Bb o):c8 o.Old:=h.ints _ aC
theorem Bb.iMember{o:Bp}(h:Bb o):c8 o.Member:=h.ints _ aC
theorem Bb.iRole{o:Bp}(h:Bb o):c8 o.Role:=h.ints _ aC
theorem Bb.iN{o:Bp}(h:Bb o):c8 o.N:=h.ints _ aC
theorem Bb.iNeed{o:Bp}(h:Bb o):c8 o.Need:=h.ints _ aC
theorem Bb.iWait{o:Bp}(h:Bb o):c8 o.Wait:=h.ints _ aC
theorem Bb.sPast{o:Bp}(h:Bb o):il JU o.Past:=⟨h.nPast,h.past⟩
theorem Bb.sRefs{o:Bp}(h:Bb o):il fS o.Refs:=⟨h.nRefs,h.refs⟩
theorem Bb.sGuards{o:Bp}(h:Bb o):il c8 o.Guards:=⟨h.nGuards,h.guards⟩
theorem Bb.sBoxes{o:Bp}(h:Bb o):il Fm o.Boxes:=⟨h.nBoxes,h.boxes⟩
theorem Bb.sHist{o:Bp}(h:Bb o):il Hp o.Hist:=⟨h.nHist,h.hist⟩
theorem Bb.nopath{o:Bp}(h:Bb o):Bb {o with Path:=[]}:=by grind [Hh,iBy,iSeq,iKind,iAt,sPast,iDevice,iOld,iMember,iRole,ay,epoch,iN,nBody,sRefs,of_,sGuards,iNeed,iWait,sBoxes,pub,sHist]
theorem m7(h: -1000000<=n/\n<=1000000):c8 n:=by unfold c8;omega
theorem GJ.smid{g:A7}(w:Fo g){ids:Bc}(h:GJ g ids){x:Ab}(hx:x∈ids):JU x:=by grind [GJ,Fo.name]
theorem Ir(w:Fo g)(h:GJ g ids)(so:Bb o)(hn:0<=n/\n<=1000000):T (sc g ids o n) λr=>Bb r:=by
 unfold sc;refine .bind ((zb w h 9).mono λc hv=>?_);have s1:JU c.1:=by
  rcases hv with⟨e,_⟩|⟨e,_⟩
  .rw[e];exact pM
  .exact h.smid w e
 have s2:Bb c.2:=by grind [Wd]
 rw[cL,aL,cL,aL];have e16:wI (n.tdiv 16)=n.tdiv 16:=by grind [bM]
 have e32:wI (n.tdiv 32)=n.tdiv 32:=by grind [bM]
 refine .dec (λh9=>?_) λh9=>?_
 ·
  refine .bind (T.mono (Q:=λx:Bk=>x.length<=4/\∀z∈x,c8 z) (T.loop (λs=>1<=s.2/\s.2<=5/\(s.1.length:Int)<=s.2-1/\∀z∈s.1,c8 z) (λs=>(5-s.2).toNat) (by grind) BX ?_) λp hx=>?_)
  .rintro⟨acc,i⟩ ⟨i1,q,t,k⟩
   simp only at i1 q t k
   have ei:wI (i+1)=i+1:=bM aa aa
   unfold vF
   dsimp only
   refine .dec (λh4=>?_) λh4=> .some ⟨aa,k⟩
   refine .bind (.quo aa (.dec (λ_=>?_) λ_=> .some ⟨⟨?_,?_,?_,k⟩,?_⟩))
   .refine .bind (.app cq (.some ⟨⟨?_,?_,?_,λz hz=>?_⟩,?_⟩))
    .show 1<=wI (i+1);omega
    all_goals grind [m7]
   all_goals grind
  .rw[cL,aL]
   have hj:∃j:Bk,(bif ah p=0 then([1,2]:Bk)else p)=j/\1<=j.length/\j.length<=4/\∀z∈j,c8 z:=by grind [ah,m7]
   obtain⟨j,ej,E,F,u⟩:=hj
   rw[ej,e16]
   have hm:0<iI 2 (ah j)/\iI 2 (ah j)<=2:=by unfold iI ah;split<;>omega
   refine .bind (.rem aa (.bind ((yg (n:=ah j) (by unfold ah;omega)).mono λbx d=> .some ?_)))
   exact Hh so.iBy so.iSeq (by grind [m7]) so.iAt so.sPast so.iDevice so.iOld so.iMember so.iRole ay so.epoch so.iN so.nBody so.sRefs so.of_ ⟨by show j.length<=1000;omega,u⟩ (Rf _) (by grind [c8]) ⟨d.1,d.2.2⟩ (by show(5:Nat)<_;omega) so.sHist
 ·
  generalize hj5:(bif bif o.Kind≠9 then decide (c.1=(⟨0,0,0⟩:Ab))else false then(9:Int)else o.Kind)=v at h9⊢
  have hk5:v=o.Kind/\c.1≠⟨0,0,0⟩:=by grind
  obtain⟨rfl,l⟩:=hk5
  have hv2:EZ c.2/\c.2.Kind=9:=by
   rcases hv with⟨e,_⟩|⟨_,_,e,e'⟩
   .exact absurd e l
   .exact⟨e,e'⟩
  have hg:=l8 hv2.1.numbers hv2.2
  have hgl:0<ah c.2.Guards/\ah c.2.Guards<=1000:=by grind [Bb.nGuards,ah]
  refine .bind ((zc w _).mono λm y=>?_)
  refine .bind (T.mono (Q:=λx:Int×List Ha=>c8 x.1/\il Fm x.2) (.ite (λ_=> .bind ((yg hgl.2).mono λb hb=> .some ⟨s1.a,hb.1,hb.2.2⟩)) λ_=> .some ⟨so.iBy,so.sBoxes⟩) λA f=>?_)
  rw[cL,aL]
  refine .bind (T.mono (Q:=λx:Int×Int=>c8 x.1/\c8 x.2) (.ite (λ_=> .bind (.rem aa (.bind (.ixl (Int.tmod_nonneg _ hn.1) (Int.tmod_lt_of_pos _ hgl.1) (by grind [T.some,Bb.guards,Rf]))))) λ_=> .some ⟨f.1,so.iDevice⟩) λB h36=>?_)
  refine .bind (T.mono (Q:=λx:List Ha=>il Fm x) (.ite (λ_=> .bind ((yg BX).mono λb hb=> .some ⟨hb.1,hb.2.2⟩)) λ_=> .some f.2) λC D=>?_)
  rw[cL,aL]
  have h40:c8 (bif o.Kind=13 then m else o.Old):=by grind [Bb.iOld]
  grind [T.some,Hh,Bb.iSeq,Bb.iKind,Bb.iAt,Bb.sPast,Bb.iMember,Bb.iRole,ay,Bb.epoch,Bb.iN,Bb.nBody,Bb.sRefs,Bb.iNeed,Bb.iWait,Bb.pub,Bb.sHist]
theorem EE(h:0<=n):T (z7 n) λk=>c8 k:=by unfold z7;refine .bind (.ixl (Int.tmod_nonneg _ h) (by have:=Int.tmod_lt_of_pos n (show(0:Int)<20 by decide);simp;omega) λx _ hx=> .some ?_);have:x∈([6,4,3,2,5,7,8,3,6,9,11,11,13,12,10,4,3,2,6,13]:Bk):=hx;have key:∀y∈([6,4,3,2,5,7,8,3,6,9,11,11,13,12,10,4,3,2,6,13]:Bk),-1000000<=y/\y<=1000000:=BX;exact m7 (key x this)
theorem Mt:c8 1:=m7 aa
theorem Yt:c8 2:=m7 aa
theorem QJ:fS 0:=by unfold fS;omega
def Nx(g:A7)(x:Bp×Bc):Prop:=Bb x.1/\GJ g x.2
theorem Nx.np{g:A7}{x:Bp×Bc}(h:Nx g x):Nx g ({x.1 with Path:=[]},x.2):=⟨h.1.nopath,h.2⟩
theorem N2(w:Fo g){m:Int}(hn:c8 n)(hm:c8 m):T (sd g n m) λr=>Bb r:=by
 have nL:=w.nL;have nI:=w.nI;unfold sd;refine .bind ((eX hn BX).mono λf h1=> .bind ((eX hm BX).mono λi h3=> .bind ((EE h3.1).mono λC h5=>?_)));have hq:∀q:Int,0<q->wI (f.tdiv q)=f.tdiv q/\0<=f.tdiv q/\f.tdiv q<=1000000:=λq hq=>by have a:=Int.tdiv_nonneg h1.1 (show(0:Int)<=q by omega);have b:=Int.tdiv_le_self q h1.1;grind [bM]
 have hk:wI (i.tdiv 20)=i.tdiv 20/\0<=i.tdiv 20/\i.tdiv 20<=1000000:=by grind [bM]
 rw[hk.1];generalize hkk:i.tdiv 20=k at hk⊢;obtain⟨_,B,k1⟩:=hk;have tm:∀(z q:Int),0<q->q<=1000000→-1000000<=z.tmod q/\z.tmod q<=1000000:=λz q h h'=>by have h3:=Int.tmod_lt_of_pos z h;have h4: -q<z.tmod q:=Int.lt_tmod_of_pos z h;omega
 refine .dec (λh0=> .some ?_) λh0=>?_
 .grind [Hh,ay,pM,m7,QJ]
 have hL:0<g.L.length:=by unfold ah at h0;omega
 rw[cL,aL];generalize hj8:(bif ah g.L<4 then(⟨1,0,2,0,[],wI ((ah g.L)+1),0,0,wI (3-(wI (Int.tdiv (Int.tmod f 5) 4))),[],⟨0,0,0⟩,0,[],[],⟨0,0,0⟩,[],0,0,[],0,[],⟨0,0⟩⟩:Bp) else⟨wI (1+(Int.tmod f 5)),0,C,0,[],0,0,0,0,[],⟨0,0,0⟩,0,[],[],⟨0,0,0⟩,[],0,0,[],0,[],⟨0,0⟩⟩)=o;have s8:Bb o:=by grind [Hh,Mt,dP,Yt,ay,Rf,pM,QJ]
 clear hj8;obtain⟨D,p,t⟩:=hq 5 BX;rw[D];refine .bind ((ED w o.By ⟨p,t⟩).mono λE h10=>?_);refine .bind (T.mono (Q:=λx=>GJ g x) (.ite (λ_=> .bind ((Cz w).mono (by grind [T.some,GJ,List.Perm.length_eq]))) λ_=> .some h10) λj12 h12=>?_);refine .bind ((zb w h12 6).mono λu h14=>?_);have s14:JU u.1:=by
  rcases h14 with⟨e,_⟩|⟨e,_⟩
  .rw[e];exact pM
  .exact h12.smid w e
 refine .bind (T.mono (Q:=λx:Int×Int×Nat=>JU ⟨x.1,x.2.1,x.2.2⟩) (.ite (λ_=> .bind (.ixl BX (by rw[nI];omega) λy _ hy=> .some ?_)) λ_=> .some s14) λF H=>?_)
 .obtain⟨_,_,_,_,_,_,s,_⟩:=w.name hy;exact s
 refine .bind (T.mono (Q:=λx:Bp×Bc=>Nx g x) ?_ λI v=>?_)
 .refine .ite (λ_=>?_) λ_=>?_
  .refine .bind (T.mono (Q:=λx:Int×Int=>c8 x.1/\c8 x.2) (by grind [T.some,Rf,Bb.iDevice,Bb.iRole]) λx hx=> .some ⟨?_,h12⟩);grind [Hh,Bb.iBy,Bb.iSeq,Bb.iKind,Bb.iAt,ay,Bb.iOld,Bb.iMember,Bb.epoch,Bb.iN,Bb.of_,Bb.iNeed,Bb.iWait,Bb.pub]
  refine .bind (T.mono (Q:=λx:Bp×Bc=>Nx g x) ?_ λx hx=> .some hx.np);refine .ite (λ_=>?_) λ_=>?_
  .refine .bind (T.mono (Q:=λx:Int×Int=>c8 x.1/\c8 x.2) (by grind [T.some,dP,Rf,Bb.iMember]) λx hx=> .some ⟨?_,h12⟩);grind [Hh,Bb.iBy,Bb.iSeq,Bb.iKind,Bb.iAt,ay,Bb.iOld,Bb.iRole,Bb.epoch,Bb.iN,Bb.of_,Bb.iNeed,Bb.iWait,Bb.pub]
  refine .bind (T.mono (Q:=λx:Bp×Bc=>Nx g x) ?_ λx hx=> .some hx.np);refine .ite (λ_=> .some ⟨?_,h12⟩) λ_=>?_
  .grind [Hh,Bb.iBy,Bb.iSeq,Bb.iKind,Bb.iAt,ay,Bb.iDevice,Bb.iOld,Rf,Bb.epoch,Bb.iN,Bb.of_,Bb.iNeed,Bb.iWait,Bb.pub]
  refine .bind (T.mono (Q:=λx:Bp×Bc=>Nx g x) ?_ λx hx=> .some hx.np);refine .ite (λ_=>?_) λ_=>?_
  .have hm4:0<iI (ah g.IDs) 4/\iI (ah g.IDs) 4<=ah g.IDs:=by unfold iI ah;split<;>omega
   refine .bind (.rem aa (.bind (.ixl (Int.tmod_nonneg _ B) (by have:=Int.tmod_lt_of_pos k hm4.1;grind [ah]) λy _ hy=>?_)));obtain⟨_,_,_,_,_,_,sy,_⟩:=w.name hy;refine .bind (T.mono (Q:=λx:Bq=>il fS x) (.ite (λ_=> .some ⟨aC,λz hz=>by simp at hz;rcases hz with rfl|rfl<;>exact Mp _⟩) λ_=> .some ay) λx hx=> .some ⟨?_,h12⟩);exact Hh s8.iBy s8.iSeq s8.iKind s8.iAt ay s8.iDevice s8.iOld s8.iMember s8.iRole ay sy (by grind [m7]) aC hx s8.of_ ay s8.iNeed s8.iWait ay s8.pub ay
  refine .bind (T.mono (Q:=λx:Bp×Bc=>Nx g x) ?_ λx hx=> .some hx.np);refine .ite (λ_=> .some ⟨?_,h12⟩) λ_=>?_
  .grind [Hh,Bb.iBy,Bb.iSeq,Bb.iKind,Bb.iAt,ay,Bb.iDevice,Bb.iOld,Bb.iMember,Bb.iRole,Bb.epoch,Bb.iN,Bb.iNeed,Bb.iWait,Bb.pub]
  refine .bind (T.mono (Q:=λx:Bp×Bc=>Nx g x) ?_ λx hx=> .some hx.np);refine .ite (λ_=> .some ⟨?_,h12⟩) λ_=>?_
  .grind [Hh,Bb.iBy,Bb.iSeq,Bb.iKind,Bb.iAt,ay,Bb.iDevice,Bb.iOld,Bb.iMember,Bb.iRole,Bb.epoch,Bb.iN,Bb.iNeed,Bb.iWait,Bb.pub]
  have s8':Bb {o with Past:=[],Path:=[],Body:=[],Refs:=[],Guards:=[],Boxes:=[],Hist:=[]}:=by grind [Hh,Bb.iBy,Bb.iSeq,Bb.iKind,Bb.iAt,ay,Bb.iDevice,Bb.iOld,Bb.iMember,Bb.iRole,Bb.epoch,Bb.iN,Bb.of_,Bb.iNeed,Bb.iWait,Bb.pub]
  refine .bindc ?_ λb _=>?_
  .grind [T.some]
  refine .bind (T.mono (Q:=λx:Bp×Bc=>Nx g x) (.ite (λ_=>?_) λ_=> .some ⟨s8',h12⟩) λx hx=> .some hx.np);refine .bind ((Ir w h12 s8' ⟨B,k1⟩).mono λJ A=>?_);refine .bind (T.mono (Q:=λx=>GJ g x) (by grind [ED,T.some]) λx hx=> .some ⟨A.nopath,hx⟩)
 .obtain⟨c,j⟩:=v;have K:=j.len;refine .bindc ?_ λb _=>?_
  .grind [T.some,kf]
  refine .bind (T.mono (Q:=λx=>GJ g x) (.ite (λ_=> .bind ((Cz w).mono (by grind [T.some,GJ,List.Perm.length_eq]))) λ_=> .some j) λM d=>?_);refine .bind ((KH w d.len).mono λN l=> .bind ((QH w d _).mono λO P=> .bind ((N0 w d.len).mono λR S=> .some ?_)));exact Hh c.iBy (by grind [c8]) c.iKind (Rf _) ⟨l.1.len,λx hx=>l.1.smid w hx⟩ c.iDevice c.iOld c.iMember c.iRole ay c.epoch c.iN c.nBody c.sRefs c.of_ c.sGuards c.iNeed c.iWait c.sBoxes c.pub c.sHist
theorem dk{l:List α}{k:Nat}(h:k<l.length):∃y,l[k]?=some y/\y∈l:=by simp_all
def EF(g:A7)(l:Bk):Prop:=∀x∈l,0<=x/\x<(g.L.length:Int)
theorem EF.nat{g:A7}{l:Bk}(h:EF g l){x:Int}(hx:x∈l):∃i:Nat,x=(i:Int)/\i<g.L.length:=by obtain⟨h1,h2⟩:=h x hx;exact⟨x.toNat,aa,aa⟩
theorem EF.snoc{g:A7}{l:Bk}(h:EF g l){i:Nat}(hi:i<g.L.length):EF g (l++[(i:Int)]):=λx hx=>by
 rcases Jk.1 hx with h'|h'
 .exact h x h'
 grind
theorem EF.nil{g:A7}:EF g []:=λx hx=>by cases hx
structure Jo (g:A7) (n:Nat) (r:C5):Prop where
 cards:r.Cards=g.Cards
 dev:r.In.length+r.Gone.length<=n
 nL:r.L.length<=n
 nV:r.V.length<=n
 mem:∀m∈r.L,m.Guards.length<=1000
def Nd(r:C5):Prop:=∀m∈r.L,m.Is=true->1<=m.Need
theorem Jo.up{g:A7}{n m:Nat}{r:C5}(h:Jo g n r)(hm:n<=m):Jo g m r:=by grind [Jo]
section
variable {g:A7} {n:Nat} {r:C5}
theorem dM(w:Fo g)(h:Jo g n r)(d:Int):T (gE r d) λ_=>True:=by
 have nC:=w.nC;have hc:r.Cards.length<=1000:=by rw[h.cards];exact nC
 unfold gE;refine .bind (T.mono (Q:=λ_=>True) (T.forI r.Cards.length (λ_=>True) aa trivial (λk hk _=>?_) λ_=>?_) λx _=>?_)
 .obtain⟨y,hy,_⟩:=dk hk;unfold AR;simp only[eA hk,ax,au,hy,aL];exact .ite (λ_=> .some trivial) λ_=> .some ⟨aq aa,trivial⟩
 .unfold AR;rw[eF,Be];exact .some trivial
 .cases x<;>exact .some trivial
theorem d9(h:Jo g n r)(hn:n<=100001)(d:Int):T (dS r d) λv=>v<0\/∃k:Nat,v=(k:Int)/\k<r.L.length:=by
 have nL:=h.nL;unfold dS;refine .bind (T.mono (Q:=λx:Unit⊕Int=>∀q,x= .inr q->∃k:Nat,q=(k:Int)/\k<r.L.length) (T.forI r.L.length (λ_=>True) aa trivial (λk hk _=>?_) λ_=>?_) λx hx=>?_)
 .obtain⟨y,hy,_⟩:=dk hk;unfold o5;simp only[eA hk,ax,au,hy,aL];refine .ite (λ_=> .some ?_) λ_=> .some ⟨aq aa,trivial⟩;intro q e;grind
 .unfold o5;rw[eF,Be];refine .some ?_;intro q e;cases e
 .cases x with
  |inl u=>exact .some (.inl BX)
  |inr q=>exact .some (.inr (hx q rfl))
theorem yh(hn:n<=100000)(h:Jo g n r)(d:Int):T (se r d) λ_=>True:=by grind [se,T.bind,T.mono,d9,T.some,au]
theorem QK(hn:n<=100000)(h:Jo g n r)(d:Int):T (Fd r d) λ_=>True:=by grind [Jo,Fd,cX,T.some]
theorem uY(w:Fo g)(hn:n<=100000)(h:Jo g n r)(d:Int):T (nW r d) λ_=>True:=by grind [nW,T.bindc,QK,dM,T.some]
theorem uZ(w:Fo g)(hn:n<=100000)(h:Jo g n r)(d role:Int):T (nX r d role) λr'=>Jo g (n+1) r'/\(Nd r->Nd r'):=by
 have h1:=h.dev;have h2:=h.nL;unfold nX;refine .bindc (uY w hn h d) λv _=> .ite (λ_=> .some ⟨h.up aa,id⟩) λ_=>?_;refine .bind (.app cq (.bind (.app cq ?_)));rw[M1];have h':Jo g (n+1) {r with In:=r.In++[d]}:=⟨h.cards,by simp;omega,by show r.L.length<=_;omega,by have:=h.nV;show r.V.length<=_;omega,h.mem⟩;refine .bindc (dM w h' d) λa _=> .bind ((d9 h' (show n+1<=100001 by omega) a).mono λb _=> .dec (λ_=>?_) λ_=> .some ⟨h',id⟩);refine .bind (.bind (.app cq (.bind (.app cq (.some ?_)))));rw[M1];refine .some ⟨⟨h'.cards,h'.dev,by simp;omega,h'.nV,λm hm=>?_⟩,λnd m hm=>?_⟩
 .rcases Jk.1 hm with hm|hm
  .exact h.mem m hm
  .simp at hm;subst hm;simp
 .rcases Jk.1 hm with hm|hm
  .exact nd m hm
  .simp at hm;subst hm;simp
theorem zd(h:Jo g n r)(hn:n<=100001)(i:Ab):T (jN r i) λv=>v<0\/∃(k:Nat) (m:D3),v=(k:Int)/\r.L[k]?=some m/\m.Is=true:=by
 have nL:=h.nL;unfold jN;refine .bind (T.mono (Q:=λx:Unit⊕Int=>∀q,x= .inr q->∃(k:Nat) (m:D3),q=(k:Int)/\r.L[k]?=some m/\m.Is=true) (T.forI r.L.length (λ_=>True) aa trivial (λk hk _=>?_) λ_=>?_) λx hx=>?_)
 .obtain⟨y,hy,_⟩:=dk hk;unfold qQ;simp only[eA hk,ax,au,hy,aL];refine .bind (T.mono (Q:=λb:Bool=>b=true->y.Is=true) (by grind [T.some]) λb hb=> .ite (λe=> .some ?_) λ_=> .some ⟨aq aa,trivial⟩);intro q e';grind
 .unfold qQ;rw[eF,Be];refine .some ?_;intro q e;cases e
 .cases x with
  |inl u=>exact .some (.inl BX)
  |inr q=>exact .some (.inr (hx q rfl))
theorem u4(hn:n<=100000)(h:Jo g n r)(i:Ab):T (jN r i) λv=>v<0\/∃(k:Nat) (m:D3),v=(k:Int)/\r.L[k]?=some m/\m.Is=true:=zd h (Nat.le_succ_of_le hn) i
theorem CC(w:Fo g)(h:Jo g n r)(hn:n<=100001)(d:Int):T (sh r d) λr'=>Jo g n r'/\(Nd r->Nd r'):=by
 have h1:=h.dev;have h2:=h.nL;have h3:=h.nV;unfold sh;rw[cX aa,aL];refine .ite (λ_=> .some ⟨h,id⟩) λhh=>?_;have hd:d∈r.In:=by grind [QF]
 have hlt:(r.In.filter λx=>decide (x≠d)).length<r.In.length:=by simp_all
 refine .bindc (dM w h d) λq _=> .bind (T.mono (Q:=λx:Bk×Bool=>x.1=r.In.filter λx=>decide (x≠d)) ?_ λp h7=>?_)
 .refine T.mono (T.loop (Q:=λx:Bk×Bool=>x.1=r.In.filter λx=>decide (x≠d)) (λs=>∃k:Nat,k<=r.In.length/\s.2.2=(k:Int)/\s.1=(r.In.take k).filter λx=>decide (x≠d)) (λs=>r.In.length-s.2.2.toNat) (by grind) cq ?_) λ_ hx=>hx;rintro⟨a,b,i⟩ ⟨k,hk,rfl,ha⟩;simp only at ha;rcases HE k r.In.length with hl|hg
  .obtain⟨y,hy,_⟩:=dk hl;have ht:(r.In.take (k+1)).filter (λx=>decide (x≠d))=a++[y].filter (λx=>decide (x≠d)):=by grind [JJ]
   have hal:a.length<=k:=by grind
   have hm:wI ((k:Int)+1)=((k+1:Nat):Int):=aq aa;unfold uj;simp only[eA hl,ax,au,hy,aL];refine .dec (λhp=> .bind (.app cq (.bindc (by grind [T.some,T.bindc,dM]) λj _=> .some ⟨⟨k+1,aa,hm,?_⟩,?_⟩))) λhp=> .some ⟨⟨k+1,aa,hm,?_⟩,?_⟩
   .grind
   .grind
   .grind
   .show r.In.length-(wI ((k:Int)+1)).toNat<_;rw[hm];simp;omega
  .obtain rfl:k=r.In.length:=aa;unfold uj;dsimp only;rw[eF,Be];exact .some (by show a=_;rw[ha,EQ])
 .obtain⟨t,u⟩:=p;simp only at h7;subst h7;refine .bind (.app cq (.bind (.app cq ?_)));rw[M1];have hk:∀(L:List D3) (V:List G4),L.length<=n->V.length<=n->(∀m∈L,m∈r.L)->Jo g n {r with In:=r.In.filter λx=>decide (x≠d),Gone:=r.Gone++[d],L:=L,V:=V}:=by grind [Jo]
  refine .ite (λ_=> .some ⟨(by grind),id⟩) λ_=>?_;refine .bind (T.mono (Q:=λx:List D3×List G4=>x.1.length<=n/\(∀m∈x.1,m∈r.L)/\x.2=[]) ?_ λc e=>?_)
  .refine T.mono (T.loop (Q:=λx:List D3×List G4=>x.1.length<=n/\(∀m∈x.1,m∈r.L)/\x.2=[]) (λs=>∃k:Nat,k<=r.L.length/\s.2.2=(k:Int)/\s.1.length<=k/\(∀m∈s.1,m∈r.L)/\s.2.1=[]) (λs=>r.L.length-s.2.2.toNat) (by grind) cq ?_) λ_ hx=>hx;rintro⟨a,b,i⟩ ⟨k,hk,rfl,ha,hs,hb⟩;simp only at ha hs hb;rcases HE k r.L.length with hl|hg
   .obtain⟨y,hy,f⟩:=dk hl;have hm:wI ((k:Int)+1)=((k+1:Nat):Int):=aq aa;unfold ui;simp only[eA hl,ax,au,hy,aL];refine .dec (λhp=> .bind (.app cq (.some ⟨⟨k+1,aa,hm,by simp;omega,λm hmm=>?_,hb⟩,?_⟩))) λhp=> .some ⟨⟨k+1,aa,hm,Nat.le_succ_of_le ha,hs,hb⟩,?_⟩;all_goals grind
   .obtain rfl:k=r.L.length:=aa;unfold ui;dsimp only;rw[eF,Be];exact .some ⟨LD ha h2,hs,hb⟩
  .obtain⟨L,V⟩:=c;obtain⟨hL,hs,hV⟩:=e;simp only at hL hs hV;subst hV;have hx:=hk L r.V hL h3 hs;refine .bind (T.mono (Q:=λv:List G4=>v.length<=n) (T.forA r.V.length (λk acc=>acc.length<=k) aa aC (λk acc hkl hj=>?_) λacc hj=>?_) λl o=> .some ⟨hk L l hL o hs,λnd m hm=>nd m (hs m hm)⟩)
   .obtain⟨y,hy,f⟩:=dk hkl;unfold uh;simp only[eA hkl,ax,au,hy,aL];refine .bind ((zd hx hn y.Of).mono λv _=> .dec (λ_=> .bind (.app cq (.some ⟨aq aa,by simp;omega⟩))) λ_=> .some ⟨aq aa,Nat.le_succ_of_le hj⟩)
   .unfold uh;dsimp only;rw[eF,Be];exact .some (LD hj h3)
theorem N5(w:Fo g)(hn:n<=100000)(h:Jo g n r)(d:Int):T (sh r d) λr'=>Jo g n r'/\(Nd r->Nd r'):=CC w h (Nat.le_succ_of_le hn) d
end
theorem yi{l:List D3}(hl:l.length<=1000000){k:Nat}(hk:k<l.length)(m:D3):T (o6 l (k:Int) m) λr=>r=l.set k m:=by grind [o6,T.bind,T.app,T.set]
theorem Mu{l:List D3}{m x:D3}(h:x∈l.set k m):x∈l\/x=m:=by grind
section
variable {g:A7} {n:Nat} {r:C5}
theorem Jo.setL(h:Jo g n r){k:Nat}{m:D3}(hm:m.Guards.length<=1000):Jo g n {r with L:=r.L.set k m}:=by grind [Jo]
theorem Nd.setL(h:Nd r){k:Nat}{m:D3}(hm:m.Is=true->1<=m.Need):Nd {r with L:=r.L.set k m}:=λx hx=>by
 rcases Mu hx with hx|rfl
 .exact h x hx
 .exact hm
theorem Jo.setV(h:Jo g n r){V:List G4}(hV:V.length<=n):Jo g n {r with V:=V}:=by grind [Jo]
theorem Ga(w:Fo g)(hn:n<=100000)(h:Jo g n r)(so:Bb o)(a:Ab):T (o7 r o a) λr'=>Jo g n r'/\((o.Kind=9->1<=o.Need)->o.Kind=9->Nd r->Nd r'):=by
 have h2:=h.nL;have h3:=h.nV;unfold o7;refine .bindc (dM w h _) λd _=> .bind ((d9 h aa d).mono λl hv=> .dec (by grind [T.some]) λhp=>?_);rcases hv with hv|⟨k,rfl,hk⟩
 .omega
 obtain⟨y,hy,hm⟩:=dk hk;simp only[au,hy,aL];refine .bind ((yi aa hk _).mono λf e=>?_);subst e;have hx:=h.setL (k:=k) (m:=⟨y.N,y.Role,true,a,o.Guards,o.Need,o.Wait,false,0⟩) so.sGuards.1;refine .bind (T.mono (Q:=λv:List G4=>v.length<=n) (T.forA r.V.length (λk acc=>acc.length<=k) aa aC (λk acc hkl hj=>?_) λacc hj=>?_) λi b=> .some ⟨hx.setV b,λhd c nd=>?_⟩)
 .obtain⟨y,hy,j⟩:=dk hkl;unfold ni;simp only[eA hkl,ax,au,hy,aL];refine .bind ((u4 hn hx y.Of).mono λv _=> .dec (λ_=> .bind (.app cq (.some ⟨aq aa,by simp;omega⟩))) λ_=> .some ⟨aq aa,Nat.le_succ_of_le hj⟩)
 .unfold ni;dsimp only;rw[eF,Be];exact .some (LD hj h3)
 .exact nd.setL (k:=k) λ_=>hd c
theorem ze(w:Fo g)(hn:n<=100000)(h:Jo g n r)(o:Bp):T (nY r o) λv=>v.2≠0\/∃(k:Nat) (m:D3),v.1=(k:Int)/\r.L[k]?=some m/\m.Is=true:=by unfold nY;refine .bind ((u4 hn h o.Of).mono λv hv=> .dec (by grind [T.some]) λhp=>?_);grind [au,cX,Jo.mem,T.some]
theorem Gb(w:Fo g)(hn:n<=100000)(h:Jo g n r)(o:Bp):T (o8 r o) λr'=>Jo g (n+1) r'/\(Nd r->Nd r'):=by
 have h3:=h.nV;unfold o8;refine .bind ((ze w hn h o).mono λd _=> .dec (by grind [T.some,Jo.up]) λ_=>?_);refine .bind (T.mono (Q:=λx:Int×List G4=>x.2.length<=n) ?_ λe h5=> .bind (.app cq (.some ⟨(by grind [Jo.setV,Jo.up]),λnd=>nd⟩)));refine T.mono (T.loop (Q:=λx:Int×List G4=>x.2.length<=n) (λs=>∃k:Nat,k<=r.V.length/\s.2.2=(k:Int)/\s.2.1.length<=k) (λs=>r.V.length-s.2.2.toNat) (by grind) cq ?_) λ_ hx=>hx;rintro⟨a,b,i⟩ ⟨k,hk,rfl,ha⟩;simp only at ha;rcases HE k r.V.length with hl|hg
 .obtain⟨y,hy,c⟩:=dk hl;have hm:wI ((k:Int)+1)=((k+1:Nat):Int):=aq aa;have hμ:r.V.length-(wI ((k:Int)+1)).toNat<r.V.length-((k:Int)).toNat:=by rw[hm];simp;omega
  unfold nj;simp only[eA hl,ax,au,hy,aL];refine .bindc ?_ λj _=> .ite (λ_=> .some (by constructor<;>grind)) λ_=> .bind (.app cq (.some (by constructor<;>grind)));grind [T.some]
 .obtain rfl:k=r.V.length:=aa;unfold nj;dsimp only;rw[eF,Be];exact .some (LD ha h3)
theorem N6(w:Fo g)(hn:n<=100000)(h:Jo g n r){o:Bp}{step:Bk×Int->Option ((Bk×Int)⊕Bk)}(he:step=λs=>bif s.2<ah r.In then((aS r.In s.2).bind λa=>(gE r a).bind λb=>bif b=o.Member then((aS r.In s.2).bind λc=>(aT 8 s.1 ([c]:Bk)).bind λd=>some (.inl (d,wI (s.2+1))))else(some (.inl (s.1,wI (s.2+1)))))else(some (.inr s.1))):T (AA step ([],0)) λl=>l.length<=n:=by
 have h1:=h.dev;subst he;refine T.forA r.In.length (λk acc=>acc.length<=k) aa aC (λk acc hk hj=>?_) λacc hj=>?_
 .obtain⟨y,hy,e⟩:=dk hk;simp only[eA hk,ax,au,hy,aL];refine .bindc (dM w h y) λv _=> .dec (λ_=> .bind (.app cq (.some ⟨aq aa,by simp;omega⟩))) λ_=> .some ⟨aq aa,Nat.le_succ_of_le hj⟩
 .dsimp only;rw[eF,Be];exact .some (by show acc.length<=n;omega)
theorem Gc(w:Fo g)(hn:n<=100000)(h:Jo g n r)(so:Bb o)(c:Ab):T (DM r o c) λr'=>Jo g (n+1) r'/\((o.Kind=9->1<=o.Need)->Nd r->Nd r'):=by
 have h1:=h.dev;have h2:=h.nL;have up:=h.up (Nat.le_succ n);unfold DM;refine .bindc (dM w h _) λd _=> .bind ((d9 h aa d).mono λf hv=> .dec (λ_=>?_) λ_=>?_)
 .refine .bindc (by grind [T.some]) λj _=> .ite (by grind [T.some]) λ_=> .bind ((uZ w hn h _ _).mono λu h9=> .some ⟨(by grind [Jo]),λ_ nd=>h9.2 nd⟩)
 refine .dec (λ_=> .bind (by grind [T.mono,uZ,T.some])) λ_=>?_;refine .dec (λ_=>?_) λ_=>?_
 .refine .bind (T.mono (Q:=λx:Bk⊕C5=>∃l,x= .inl l/\l.length<=n+1) (.dec (λ_=> .bind ((N6 w hn h (o:=o) rfl).mono (by grind [T.some]))) (by grind [T.some])) λx hx=>?_);obtain⟨l,rfl,hl⟩:=hx;refine .bind (T.mono (Q:=λr':C5=>Jo g n r'/\(Nd r->Nd r')) (T.forA l.length (λ_ r'=>Jo g n r'/\(Nd r->Nd r')) aa ⟨h,λnd=>nd⟩ (λk acc hk hj=>?_) λacc hj=>?_) (by grind [T.some,Jo.up]))
  .obtain⟨y,hy,i⟩:=dk hk;unfold AT;simp only[eA hk,ax,au,hy,aL];exact .bind ((N5 w hn hj.1 y).mono λv hv=> .some (by constructor<;>grind [aq]))
  .unfold AT;dsimp only;rw[eF,Be];exact .some hj
 refine .dec (λ_=>?_) λ_=>?_
 .refine .bind ((d9 h aa o.Member).mono λv hv=> .dec (λhp=>?_) (by grind [T.some]));rcases hv with hv|⟨k,rfl,hk⟩
  .omega
  obtain⟨y,hy,hm⟩:=dk hk;rw[au,hy,aL];refine .bind ((yi aa hk _).mono λa e=> .some ?_);subst e;exact⟨up.setL (h.mem y hm),λ_ nd=>nd.setL λe=>nd y hm e⟩
 refine .dec (λhk=> .bind (by grind [T.mono,Ga,T.some,Jo.up])) λ_=>?_;refine .dec (λ_=> .bind (by grind [T.mono,Gb,T.some])) λ_=>?_;refine .dec (λ_=>?_) λ_=>?_
 .refine .bind (T.mono (Q:=λb:Bool=>b=true->0<=f) (.dec (λh0=>?_) (by grind [T.some])) λb hb=> .ite (λe=>?_) (by grind [T.some]))
  .grind [Fv,au,T.some]
  .have h0:=hb e;rcases hv with hv|⟨k,rfl,hk⟩
   .omega
   obtain⟨y,hy,hm⟩:=dk hk;rw[au,hy,aL];refine .bind ((yi aa hk _).mono λa e=> .some ?_);subst e;exact⟨up.setL (h.mem y hm),λ_ nd=>nd.setL λe=>nd y hm e⟩
 refine .dec (λ_=>?_) (by grind [T.some]);refine .bind ((u4 hn h o.Of).mono λm hv=> .bindc (.dec (λh0=>?_) λ_=> .some trivial) λj _=> .ite (λ_=>?_) (by grind [T.some]))
 .grind [Fv,cX,au,T.bindc,dM,T.some]
 .exact .bindc (dM w h _) λp _=> .bindc (yh hn h _) λq _=> .bind ((uZ w hn h _ _).mono λs t=> .bind (by grind [T.mono,CC,T.some]))
end
theorem Fo.inrow{g:A7}(w:Fo g){i:Nat}(h:i<g.L.length):∃r,g.In[i]?=some r/\r.length=g.L.length:=by obtain⟨r,hr,_⟩:=dk (l:=g.In) (k:=i) (by rw[w.nN];exact h);grind [rows]
theorem Fo.cell{g:A7}(w:Fo g){i k:Nat}(h:i<g.L.length)(hk:k<g.L.length):∃r b,g.In[i]?=some r/\r[k]?=some b:=by obtain⟨r,hr,hl⟩:=w.inrow h;simp_all
theorem Mv(g:A7):Jo g 0 ⟨g.Cards,[],[],[],0,[]⟩:=by grind [Jo]
theorem Oc{n:Nat}(h:2<=n)(hn:n<=1000000):T (zZ (n:Int)) λv=>∃k:Nat,v=(k:Int)/\1<=k/\k<n:=by
 unfold zZ;refine .bind (T.mono (Q:=λv:Int=>∃k:Nat,v=(k:Int)/\1<=k/\k<n) (T.loop (λs=>∃k:Nat,s=(k:Int)/\1<=k/\k<n) (λs=>n-s.toNat) ⟨1,rfl,aa,aa⟩ cq ?_) λv hv=> .some hv);rintro s ⟨k,rfl,h1,h2⟩;unfold AE;have e:wI (2*(k:Int))=((2*k:Nat):Int):=by grind [bM]
 rw[e];refine .dec (λhp=> .some ⟨⟨2*k,rfl,aa,aa⟩,?_⟩) λ_=> .some ⟨k,rfl,h1,h2⟩;simp;omega
theorem u6:∀(nn:Nat) (l:Bk),l.length<nn->l.length<=1000000->T (KF nn l) λr=>r.length<=2*l.length-1/\∀y∈r,y.length<=l.length
 |0,_,h,_=>absurd h (Nat.not_lt_zero _)
 |nn+1,l,h,hl=>by
  unfold KF;refine .dec (λ_=> .some ⟨aC,aC⟩) λh0=> .dec (λh1=>?_) λh1=>?_
  .grind [ah,T.some]
  .unfold ah at h0 h1⊢;refine .bind ((Oc (n:=l.length) aa hl).mono λd hv=>?_);obtain⟨k,rfl,k1,k2⟩:=hv;refine .bind (.pre aa aa ?_);rw[Fs];refine .bind ((u6 nn (l.take k) cq cq).mono λe h7=> .bind (.app (by simp at h7⊢;omega) (.bind (.suf aa aa ?_))));rw[Fs];refine .bind ((u6 nn (l.drop k) cq cq).mono λc h13=> .bind (.app (by simp at h7 h13⊢;omega) (.some ?_)));simp only[Nv,List.length_drop] at h7 h13;have e1:min k l.length=k:=aa;rw[e1] at h7;refine⟨?_,λy hy=>?_⟩
   .have a:=h7.1;have b:=h13.1;simp only[Uh,List.length_singleton];omega
   .simp only[Jk,List.mem_singleton] at hy;rcases hy with(rfl|hy)|hy
    .exact DC _
    .have:=h7.2 y hy;omega
    .have:=h13.2 y hy;omega
theorem Od{l:Bk}(hl:l.length<=100000)(d:Int):T (Nr l d) λr=>r.length<=200000:=by
 unfold Nr z0;refine .bind ((u6 _ l aa aa).mono λb h1=>?_);have e:wI (ah b-1)=ah b-1:=by grind [bM,ah]
 rw[e];refine .bind (T.mono (Q:=λr:LE=>r.length<=200000) (T.loop (λs=> -1<=s.2/\s.2<(b.length:Int)/\s.1.length+(s.2+1).toNat<=b.length) (λs=>(s.2+1).toNat) (by grind [ah]) (by grind [ah]) ?_) λ_ h=> .some h);rintro⟨a,i⟩ ⟨i1,c,f⟩;simp only at i1 c f;unfold AF;refine .dec (λh0=>?_) λ_=> .some (by show a.length<=_;omega);replace h0:0<=i:=h0;refine .bind (.ixl h0 (by show i<_;omega) λy hy hm=>?_);have hw:wI (i-1)=i-1:=bM aa aa;rw[cX (by have:=h1.2 y hm;omega),aL];refine .ite (λ_=>?_) λ_=> .some ⟨⟨?_,?_,?_⟩,?_⟩
 .rw[show aS b (a,i).2=aS b i from rfl];refine .bind (.ixl h0 aa λz _ _=> .bind (.app (by show(a.length+1)*24<=_;omega) (.some ⟨⟨?_,?_,?_⟩,?_⟩)));all_goals grind
 all_goals grind
theorem zh(k:Int):T (E1 k) λ_=>True:=by grind [E1,T.some]
inductive KI (g0:A7):A7->Prop
 |base:KI g0 g0
 |step {g:A7} {o:Bp} {id:Ab} {up:Bk} {row:List Bool}:KI g0 g->Fo g->Bb o->fS o.Sig.R->fS o.Sig.S->Q1 g o up->pV o=some id->jA g up=some row->KI g0 (pL g o id up row)
def u7:LQ:=(ql [1,2,3,1,2,3]).getD []
theorem Oe:ql [1,2,3,1,2,3]=some u7:=aH
def KK(c:DH):Bool:=decide (1<=c.Device/\c.Device<=6/\1<=c.Member/\c.Member<=3/\c.Sign<18446744073709551616)
theorem Og:u7.all KK=true:=aH
theorem KL:u7.length=6:=aH
attribute [irreducible] u7
def g0:A7:=⟨u7,[],[],[],[]⟩
theorem Yu:Fo g0 where
 nL:=by simp[g0]
 nI:=rfl
 nU:=rfl
 nN:=rfl
 nC:=by show u7.length<=1000;rw[KL];decide
 cards:=λc hc=>by have h:KK c=true:=Ge.1 Og c hc;grind [KK,c8,fS]
 up:=by grind [g0]
 rows:=by grind [g0]
 inlt:=by grind [O9,g0]
 ops:=by grind [g0]
 ids:=by grind [g0]
 nd:=by simp[g0]
 one:=by grind [g0]
 tr:=by grind [g0]
 la:=by grind [O9,g0]
def We(c:Int):Bp:=⟨1,1,1,0,[],0,0,0,0,[],⟨0,0,0⟩,0,[],[],⟨0,0,0⟩,[],c,0,[],0,[],⟨0,0⟩⟩
theorem Yv{a b:Int}(ha:c8 a)(hb:c8 b):∃c∈([0,1,2,3]:Bk),sd g0 a b=some (We c):=by
 obtain⟨d,e1,h1⟩:=eX ha (show(0:Int)<1000000 by decide);obtain⟨e,e3,h3⟩:=eX hb (show(0:Int)<1000000 by decide);obtain⟨f,e5,_⟩:=EE h3.1;refine⟨d.tmod 4,?_,?_⟩
 .grind
 .unfold sd;rw[e1,aL,e3,aL,e5,aL];rfl
def Mw(c:Int)(b:Bool):Option (A7×Int):=(jm g0 ({We c with Path:=[]})).bind λa=>(bif b then(some (wI ((ah a)+1)))else(some (ah a))).bind λd=>(E1 (We c).Kind).bind λe=>(AA (lw (g0,0) d e) ([],0)).bind λf=>(nR ({We c with Path:=f})).bind λg=>AO g0 g
theorem QO:(([0,1,2,3]:Bk).all λc=>[true,false].all λb=>(Mw c b).map (λr=>(r.2,r.1.L.length))==some (0,1))=true:=aH
theorem Tm(hc:c∈([0,1,2,3]:Bk))(b:Bool):∃r,Mw c b=some r/\r.2=0/\r.1.L.length=1:=by have h:=Ge.1 (Ge.1 QO c hc) b (by cases b<;>simp);simp_all
theorem KM{l:Bk}(hi:∀x∈l,c8 x){most:Int}(h0:0<most){r:(A7×Int)⊕A7}(h:ly l most (g0,((0:Nat):Int))=some r):∃g,r= .inl (g,1)/\g.L.length=1:=by
 have at_:∀(n:Int),0<=n->∃v,c8 v/\(bif n<ah l then((aS l n).bind λk=>some k)else(some 0))=some v:=by grind [ah,aS,dP]
 have e2:wI (2*((0:Nat):Int))=0:=bM BX BX;have e3:wI ((0:Int)+1)=1:=bM BX BX;have e4:wI (((0:Nat):Int)+1)=1:=bM BX BX;obtain⟨a,ha,p⟩:=at_ 0 BX;obtain⟨b,hb,eb⟩:=at_ 1 BX;obtain⟨c,hc,s⟩:=Yv ha hb;obtain⟨d,m,_⟩:=eX hb (show(0:Int)<31 by decide);obtain⟨q,hq,q1,t⟩:=Tm hc (decide (d=30));unfold Mw at hq;unfold ly at h;simp only[e2,e3,e4] at h;rw[CO (by grind),CO (by grind),ax,ax,aL,ax,p,aL,eb,aL,s,aL] at h;cases hs:jm g0 ({We c with Path:=[]}) with
 |none=>rw[hs] at hq;cases hq
 |some e=>
  rw[hs,aL] at hq;rw[hs,aL,m,aL] at h;cases hj:(bif d=30 then(some (wI ((ah e)+1)))else(some (ah e)):JL) with
  |none=>rw[hj] at hq;cases hq
  |some f=>
   rw[hj,aL] at hq h;cases hk:E1 (We c).Kind with
   |none=>rw[hk] at hq;cases hq
   |some i=>
    rw[hk,aL] at hq h;cases hx:AA (lw (g0,0) f i) ([],0) with
    |none=>rw[hx] at hq;cases hq
    |some j=>
     rw[hx,aL] at hq;rw[show AA (lw (g0,((0:Nat):Int)) f i) ([],0)=some j from hx,aL] at h;cases hg:nR ({We c with Path:=j}) with
     |none=>rw[hg] at hq;cases hq
     |some o=>grind
theorem T6(m:JI)(i:Ab)(n:Int)(x:Ab):(CW m i n).get x=match m.get x with|some v=>some v|none=>if i=x then some n else none:=by grind [CW,FM.get]
theorem EV{k x:Ab}:∀{l:Bc},bu k (l++[x])=match bu k l with|some n=>some n|none=>if x=k then some l.length else none
 |[]=>by grind [bu]
 |y::r=>by
  rw[List.cons_append,bu,bu];by_cases e:k=y
  .rw[Bx e,Bx e]
  .rw[BA e,BA e,EV (l:=r)];grind
theorem T7(hn:g.Cards.length<=1000000){c:DH}(h:mZ g d=(c,true)):hY ⟨g.Cards,m,N⟩ d=some (c,true):=by
 unfold mZ at h;unfold hY;refine T.eq (.bind (T.forA g.Cards.length (λk acc=>∀(j:Nat) (c:DH),j<k->g.Cards[j]?=some c->c.Device≠d) aa (by grind) (λk acc hk hj=>?_) λacc hj=>?_))
 .obtain⟨x,hx⟩:∃x,g.Cards[k]?=some x:=⟨_,DR hk⟩;unfold ij;dsimp only;rw[eA hk,ax,au,hx,aL];refine .dec (λe=> .some (.some ?_)) λe=> .some ⟨aq aa,λj c' a b=>?_⟩
  .grind [List.find?_eq_some_iff_getElem]
  grind
 grind [Gu]
theorem T8(w:Fo g)(pg:NP g m N){up:Bk}{row:List Bool}(sm:Bb o)(hs:fS o.Sig.S)(a:Q1 g o up)(hid:pV o=some id)(hrow:jA g up=some row):
  ∃y:CY,y.o=o/\y.id=id/\NP (pL g o id up row) (CW m id N.length) (N++[y])/\jg prog fI 101 [.ref 0 0,.agg (aJ o)] [(0,oG g.Cards N.length 2),(1,oM m),(2,zQ N)] 3 (iG 0) [(0,oG g.Cards (N++[y]).length 3),(1,oM (CW m id N.length)),(3,zQ (N++[y]))] 4:=by
 have nL:=w.nL
 have nI:=w.nI
 have pl:=pg.len
 have hro:=a.room
 have f:=T1 a.check.numbers
 have ul:up.length<=12:=by rw[a.upl];exact pK a.check.long
 obtain⟨s,d,r,t⟩:=yc w (up:=up) aa a.upb
 rw[hrow] at d
 cases d
 obtain⟨E,e,hfr⟩:=a.id
 rw[hid] at e
 cases e
 obtain⟨c,hc,i⟩:=a.card
 obtain⟨K,hr1,hr2⟩:=a.right
 rw[hrow] at hr1
 cases hr1
 obtain⟨v,hv,l⟩:=Xb w (o:=o) r
 rw[hr2] at hv
 cases hv
 have hR:=l rfl
 obtain⟨⟨p,b,F,lev⟩,h1,e1,e2,e3,e4,e5,e8⟩:=ZF w pg a sm
 dsimp only at e1 e2 e3 e4 e5 e8
 have hbeh:∀j:Nat,j<256->(gW (Qs b p) j=true↔Hq g up j):=by grind [RP,Hq]
 obtain⟨⟨last,H⟩,h4,e6,e7⟩:=ZG (A:=Qs b p) w pg f (by grind) hR
 dsimp only at e6 e7
 obtain⟨I,q,ho2⟩:=TU sm
 rw[hid] at ho2
 cases ho2
 have ap:AcM g.Cards m N o id c (pT o.Kind):={
  chk:=RL a.check sm
  sm:=sm
  cl:=RM sm
  id:=q
  fresh:=by rw[pg.get,hfr];rfl
  room:=aa
  card:=T7 (by have:=w.nC;omega) hc
  by_:=(yd hc).2.symm
  sig:=TW (by have:=yY sm;omega) i
  create:=by grind [Q1.create]
  nPast:=by have:=sm.nPast;omega
  par:=λx hx=>by obtain⟨k,hk⟩:=Gu hx;obtain⟨n,hn,_⟩:=a.par k x hk;have hnl:n<g.IDs.length:=(cr (gb hn).1).1;grind [NP.get]}
 have h2:ZA p b 4=z4:=by grind [RQ,Q1.apart]
 refine⟨⟨o,id,Qs b p,lev⟩,rfl,rfl,⟨?_,?_,?_,?_⟩,(by grind [W7])⟩
 .show(N++[_]).length=(g.L++[o]).length
  simp[pl]
 .intro k y hy
  have inx:=kU w (o:=o) (id:=id) (up:=up) r
  rcases je hy with⟨hk,h⟩|⟨hk,rfl⟩
  .obtain⟨z,B,J,C,D⟩:=pg.nd k y h
   refine⟨Ms z,Ms B,λj hj=>?_,C,D⟩
   grind
  .subst hk
   refine⟨by rw[pl];exact F8,by rw[show N.length=g.IDs.length by omega];exact F8,λj hj=>?_,e4,e5⟩
   have:=inx N.length j
   have hb:=hbeh j hj
   have hrj:row[j]?=some true↔Hq g up j:=by
    rcases HE j g.L.length with h|h
    .exact t j h
    .constructor
     .grind
     .rintro(h2|⟨n,h2,h3⟩)
      .have:=(a.upb _ h2).2;omega
      .have:=w.inlt n j h3;omega
   grind
 .intro x
  rw[T6,pg.get,show(pL g o id up row).IDs=g.IDs++[id] from rfl,EV]
  cases bu x g.IDs<;>grind
 .intro k y u hy hu
  have hUp:(pL g o id up row).Up=g.Up++[up]:=rfl
  have nU:=w.nU
  rw[hUp] at hu
  rcases je hy with⟨hk,h⟩|⟨hk,rfl⟩
  .rw[List.getElem?_append_left aa] at hu
   rw[pg.lv k y u h hu]
   refine(Ab2 λx hx=>?_).symm
   have:=(w.up k u hu).2 x hx
   omega
  .subst hk
   rw[List.getElem?_append_right aa,show N.length-g.Up.length=0 by omega] at hu
   obtain rfl:=Bf hu
   show lev=_
   rw[e8]
   refine(Ab2 λx hx=>?_).symm
   have:=a.upb x hx
   omega
theorem OL{b:A7}(h:KI b g)(hb:b.L=[])(hi:b.IDs=[])(hs:xf b.Cards):∃(c:Nat->JI) (N:JH),g.Cards=b.Cards/\g.L.length<=200/\Aam g c N/\NP g (c g.L.length) N:=by
 induction h with
 |base=>refine⟨λ_=>⟨[],0⟩,[],rfl,by rw[hb];exact Nat.zero_le _,⟨hs,by rw[hb];exact Nat.zero_le _,by rw[hb];rfl,rfl,λk o ho=>by rw[hb] at ho;simp at ho⟩,⟨by rw[hb];rfl,λk y hy=>by simp at hy,(λx=>by rw[hi];rfl),(λk y u hy=>by simp at hy)⟩⟩
 | @step g o id up row gr w sm _ d a hid hrow ih=>
  obtain⟨c,N,hc,hl,hrun,pg⟩:=ih;have pl:=pg.len;have hro:=a.room;obtain⟨y,f,i,e,hm⟩:=T8 w pg sm d a hid hrow;have el:(pL g o id up row).L=g.L++[o]:=rfl;have ell:(pL g o id up row).L.length=g.L.length+1:=by rw[el];simp
  have eC:(pL g o id up row).Cards=g.Cards:=rfl;refine⟨λk=>if k<=g.L.length then c k else CW (c g.L.length) id N.length,N++[y],hc,aa,⟨by rw[eC];exact hrun.srt,aa,by rw[ell];simp[pl],by show(if 0<=g.L.length then c 0 else _)=_;rw[Bx (Nat.zero_le _)];exact hrun.m0,λk p hp=>?_⟩,?_⟩
  .rw[eC];rcases je (l:=g.L) (x:=o) hp with⟨hk,h⟩|⟨hk,rfl⟩
   .grind [Aam.step]
   grind
  .rw[ell];dsimp only;rw[BA aa];exact e
structure Tz (gg:Aj):Prop where
 pos:∀x n,gg.at_.get x=some n->∃(k:Nat) (y:CY),n=(k:Int)/\gg.nodes[k]?=some y/\k<256
 cl:∀y∈gg.nodes,pG y.o=some y.o
 nc:gg.cards.length<=1000
def MY(gg:Aj)(x:Ab):Option CY:=(gg.at_.get x).bind λn=>aS gg.nodes n
def Ae4(gg:Aj)(x y:Ab):Bool:=match gg.at_.get x,MY gg y with
 |some n,some b=>gW b.past n.toNat
 |_,_=>false
def PA(gg:Aj):Gi:=⟨λx=>(MY gg x).map (·.o),Ae4 gg,λx=>match MY gg x with|some y=>y.level|none=>0,gg.cards,λd=>gg.cards.find? λc=>decide (c.Device=d)⟩
theorem TB(h:Tz gg)(e:gg.at_.get x=some n):∃(k:Nat) (y:CY),n=(k:Int)/\aS gg.nodes n=some y/\MY gg x=some y/\k<256/\y∈gg.nodes:=by
 obtain⟨k,y,rfl,hy,hk⟩:=h.pos x n e;have hz:aS gg.nodes (k:Int)=some y:=by rw[au];exact hy
 refine⟨k,y,rfl,hz,?_,hk,bO hy⟩;unfold MY;rw[e];exact hz
theorem Wq(e:gg.at_.get x=none):MY gg x=none:=by unfold MY;rw[e];rfl
def XU(q:Ab->Bool)(l:Bc)(j:Nat):Nat:=((l.take j).filter q).length
def wK(q:Ab->Bool)(l:Bc)(j:Nat):Bc:=(l.take j).filter q++l.drop (XU q l j)
theorem AkB{q:Ab->Bool}{l:Bc}{j:Nat}:XU q l j<=j/\XU q l j<=l.length:=by grind [XU]
theorem AbA{q:Ab->Bool}{l:Bc}{j:Nat}:(wK q l j).length=l.length:=by grind [wK,XU]
theorem AkC{q:Ab->Bool}{l:Bc}:(wK q l j)[j]?=l[j]? :=by grind [wK,XU]
theorem AkD{q:Ab->Bool}{l:Bc}(hx:l[j]?=some x)(hq:q x=false):XU q l (j+1)=XU q l j/\wK q l (j+1)=wK q l j:=by grind [JJ,XU,wK]
theorem Ams{q:Ab->Bool}{l:Bc}(hx:l[j]?=some x)(hq:q x=true):XU q l (j+1)=XU q l j+1/\ji (wK q l j) ((XU q l j:Nat):Int) x=some (wK q l (j+1)):=by
 have e:(l.take (j+1)).filter q=(l.take j).filter q++[x]:=by grind [JJ]
 have e2:XU q l (j+1)=XU q l j+1:=by grind [XU]
 grind [ji,AbA,wK,List.set_append_right,XU,List.drop_eq_getElem_cons]
theorem AkE{q:Ab->Bool}{l:Bc}(h:l.findIdx? (λx=> !q x)=some i):i<l.length/\XU q l (i+1)=i/\wK q l (i+1)=l:=by
 obtain⟨hi,h1,h2⟩:=List.findIdx?_eq_some_iff_getElem.1 h;have e:(l.take i).filter q=l.take i:=by grind [List.filter_eq_self,List.getElem_of_mem]
 have hx:l[i]?=some l[i]:=DR hi;grind [XU,AkD,wK,OQ]
theorem AkF{q:Ab->Bool}{l:Bc}(h:l.any (λx=> !q x)=false):l.filter q=l:=by grind [List.filter_eq_self]
theorem AbB{q:Ab->Bool}{l:Bc}:(wK q l l.length).take (l.filter q).length=l.filter q/\XU q l l.length=(l.filter q).length:=by grind [wK,XU]
theorem AgE{s:Bc}{f:Ab->Fl}{p:Ab->Bool}(hn:s.length<2305843009213693952)(hf:∀x∈s,f x=some (p x)):(Um s f=some (-1)/\s.any p=false)\/∃j:Nat,Um s f=some (j:Int)/\s.findIdx? p=some j:=by
 obtain⟨r,h1,h2⟩:=Agk (s:=s) p hn (step:=Hx s f) (λk x hx=>by unfold Hx;rw[Dd hx,ax,Bg hx,aL,hf x (bO hx),aL];cases p x<;>simp) (by unfold Hx;rw[DZ];rfl)
 unfold Um;rw[h1];rcases h2 with⟨rfl,h2⟩|⟨j,rfl,h2,h3⟩
 .exact .inl ⟨rfl,h2⟩
 .exact .inr ⟨j,rfl,h3⟩
def dfT(del:Ab->Bool)(s:Nat×Nat×Bc):Option ((Nat×Nat×Bc)⊕(Nat×Bc)):=
 bif s.2.2.length<=1000/\s.2.1<=s.1 then bif (s.1:Int)<ah s.2.2 then(aS s.2.2 (s.1:Int)).bind λx=>bif del x then some (.inl (s.1+1,s.2.1,s.2.2))else(ji s.2.2 (s.2.1:Int) x).bind λW=>some (.inl (s.1+1,s.2.1+1,W))else some (.inr s.2)else none
theorem AkG{del:Ab->Bool}{l:Bc}(hl:l.length<=1000)(h:l.findIdx? del=some i):AA (dfT del) (i+1,i,l)=some ((l.filter λx=> !del x).length,wK (λx=> !del x) l l.length):=by
 have h':l.findIdx? (λx=> !(!del x))=some i:=by simpa using h
 obtain⟨hi,k1,k2⟩:=AkE (q:=λx=> !del x) h';refine T.eq (T.loop (λs=>s.1<=l.length/\s.2.1=XU (λx=> !del x) l s.1/\s.2.2=wK (λx=> !del x) l s.1) (λs=>l.length-s.1) (by grind) (by show l.length-(i+1)<_;omega) ?_);rintro⟨j,k,W⟩ ⟨hj,hk,a⟩;dsimp only at hj hk a;subst hk;subst a;unfold dfT;dsimp only;have hlen:=AbA (q:=λx=> !del x) (l:=l) (j:=j);rw[CO (by grind [AkB]),ax];refine .dec (λhh=>?_) λhh=> .some ?_
 .unfold ah at hh;have hlt:j<l.length:=aa;have hx:l[j]?=some l[j]:=DR hlt;refine .bind (.ix aa (x:=l[j]) (by rw[Fs,AkC];exact hx) ?_);refine .ite (λhd=>?_) λhd=>?_
  .obtain⟨a1,a2⟩:=AkD (q:=λx=> !del x) hx (by simpa using hd);exact .some (by constructor<;>grind)
  .obtain⟨a1,a2⟩:=Ams (q:=λx=> !del x) hx (by simpa using hd);rw[a2];exact .some (by constructor<;>grind)
 .unfold ah at hh;obtain rfl:j=l.length:=aa;rw[AbB.2];exact rfl
abbrev zR(W:Bc)(i:Nat):Bn:=(W.flatMap aj).take (0+(i:Int).toNat*3)++(bN zI ((W.length-(i:Int).toNat)*3)).map .lit++(W.flatMap aj).drop (0+(i:Int).toNat*3+(W.length-(i:Int).toNat)*3)
theorem AiG(W:Bc)(i:Nat):∀g∈zR W i,bB g:=by grind [AH.imm,ac,mN]
theorem AgF(h:i<=W.length):(zR W i).take (i*3)=(W.take i).flatMap aj:=by grind [Fs,OQ,AH.len,ac]
section
variable {gl:CB}
end
abbrev tMI:Bo:=296
abbrev oLi(al:AQ)(v f:Nat):Option Ob:=some ⟨298,[.ptr (Ag al.g) 0,aE aj al.row,.mref v,.mref f],none⟩
abbrev Wv(m:FM Ab Bool):Option Ob:=some (MZ tMI ga bG m)
abbrev oBl(b:Nat):Option Ob:=some ⟨216,[.ref b 0],none⟩
abbrev σL(al:AQ):aQ:=[(1,oBl 2),(2,oLi al 3 4),(3,Wv al.void),(4,Wv al.fork)]
abbrev ρL:DD:=[(0,0),(1,1),(2,2),(3,3),(4,4)]
abbrev kdL:List (Nat×Rk):=[(0,.row),(999999,.clo)]
theorem AbC(m:FM Ab Bool):∀e∈mEs ga bG m,bB e.2.1:=by grind [mN]
abbrev mLs(al:AQ):List HP:=[hc (AbC al.void),hc (AbC al.fork)]
theorem aaI(h1:ag st.σ b=oLi al v f)(h2:ag st.σ v=Wv al.void)(h3:ag st.σ f=Wv al.fork):ve P st (.ref b 0) (.ptr (BU al) 0):=by
 refine Mb h1 (DC _) (Ng rfl λp hp=>?_);simp only[BU,List.zip_cons_cons,List.zip_nil_right,EG,KY,or_false] at hp;rcases hp with rfl|rfl|rfl|rfl
 .exact jB (Ah _ _)
 .exact jB (FC _ _)
 .exact NQ h2 λe _=>jB (mN _)
 .exact NQ h3 λe _=>jB (mN _)
theorem Ae6(h0:ag st.σ a=oBl b)(h1:ag st.σ b=oLi al v f)(h2:ag st.σ v=Wv al.void)(h3:ag st.σ f=Wv al.fork):ve P st (.ref a 0) (.ptr [.ptr (BU al) 0] 0):=by refine Mb h0 (DC _) (Ng rfl λp hp=>?_);grind [List.zip_cons_cons,List.zip_nil_right,aaI]
section
variable {gl:CB}
theorem AiI{al:AQ}{r:Bool}{c:Nat}(a:aK prog fi=true)(hF:ba prog gl fi [.agg (aj x),.ptr [.ptr (BU al) 0] 0] (bG r)):oJ prog gl fi [.agg (aj x),.ref 1 0] (σL al) c (bG r) [] c:=
 Pr a hF (lR _) rfl λst h i y z h1 h2=>by
  match i with
  |0=>cases h1;cases h2;exact jB (aG 20 (.agg (aj x)) aH)
  |1=>cases h1;cases h2;exact Ae6 (h 1 _ rfl) (h 2 _ rfl) (h 3 _ rfl) (h 4 _ rfl)
  |j+2=>cases h1
theorem Ae7{f:Ab->Fl}(hv:SP prog gl fi [] [.ptr [.ptr (BU al) 0] 0] (λx:Ab=>[.agg (aj x)]) (λb:Bool=>bG b) f){l:Bc}{r:Int}(e:Um l f=some r):oJ prog gl 213 [.rsl 0 0 l.length,.clo (.func fi) [] [.ref 1 0]] ((0,Bw l)::σL al) 5 (iG r) [] 5:=
 Pr aH (gS gl hv e) (lR _) rfl λst h i x y h1 h2=>by
  match i with
  |0=>
   cases h1;cases h2;exact FD (s:=3) (h 0 _ rfl) aH (by show 0+l.length*3<=(l.flatMap aj).length;rw[ac.len];omega) (ac.len l) λj g c a b=>by rw[Nat.zero_add] at a;rw[show(l.flatMap aj)[j]?=some g from a] at b;cases b;exact jB (ac.imm l g (bO a))
  |1=>
   cases h1;cases h2;exact SX rfl rfl (λi g c a b=>by cases a) (λi g c a b=>by
    match i with
    |0=>cases a;cases b;exact Ae6 (h 1 _ rfl) (h 2 _ rfl) (h 3 _ rfl) (h 4 _ rfl)
    |j+1=>cases a)
  |j+2=>cases h1
theorem Amu{al:AQ}{i:Nat}(h:i<W.length):rF prog ((0,Bw W)::σL al) 29 (.rsl 0 (0+(i:Int).toNat*3) (W.length-(i:Int).toNat))=some (0,⟨25,zR W i,none⟩):=by have e1:dp prog 29=some 25:=aH;have e2:jj prog 25=some zI:=aH;have e3:bw prog 25=some 3:=aH;have e4:ag ((0,Bw W)::σL al) 0=some ⟨25,W.flatMap aj,none⟩:=rfl;have e5:(i:Int).toNat=i:=Fs i;unfold rF;rw[e1];simp only[e2,e3,e4];rw[Bx ⟨rfl,aa,BX,by rw[ac.len];omega,rfl⟩]
theorem AbD{del:Ab->Bool}(a:aK prog fi=true)(hF:∀x,ba prog gl fi [.agg (aj x),.ptr [.ptr (BU al) 0] 0] (bG (del x))){l:Bc}(hl:l.length<=1000):SW prog gl 239 [.rsl 0 0 l.length,.clo (.func fi) [] [.ref 1 0]] ((0,Bw l)::σL al) 5 5 (.rsl 0 0 (l.filter λx=> !del x).length) ((0,Bw (l.filter λx=> !del x))::σL al):=by
 have hv:SP prog gl fi [] [.ptr [.ptr (BU al) 0] 0] (λx:Ab=>[.agg (aj x)]) (λb:Bool=>bG b) (λx=>some (del x)):=⟨a,bf,eB aH,λx r e=>by cases e;exact hF x⟩;refine dFP func239 ?_;rcases AgE (s:=l) (p:=del) aa (λx _=>rfl) with⟨e,h0⟩|⟨i,e,h0⟩
 .have hi:=Ae7 hv e;rw[AkF (by simpa using h0)];exact ZT [hz 10 [0,1,2,3,4] hi] (hc (el l)::hc (ac.imm l)::mLs al) ρL kdL
 .have hi:=Ae7 hv e;have hlt:=(List.findIdx?_eq_some_iff_getElem.1 h0).1;have hkn:(l.filter λx=> !del x).length<l.length:=by have:=AkE (q:=λx=> !del x) (by simpa using h0);have h2:=AbB (q:=λx=> !del x) (l:=l);refine Nat.lt_of_le_of_ne (Mj _ _) λhe=>?_;have h3:=List.length_filter_eq_length_iff.1 he _ (List.getElem_mem hlt);have h4:=(List.findIdx?_eq_some_iff_getElem.1 h0).2.1;simp[h4] at h3
  refine pN (λs:Nat×Nat×Bc=>(s0 42 gl [(0,.rsl 0 0 s.2.2.length),(1,.clo (.func fi) [] [.ref 1 0]),(5,iG (s.2.1:Int)),(6,iG (s.1:Int))] ((0,Bw s.2.2)::σL al) 5 5)) 11110122 (AkG hl h0) [hz 10 [0,1,2,3,4] hi,hr 12 (show decide ((i:Int)= -1)=false from C6 aa),hbb 15 (Xl (q:=i) aa)] (hc (el l)::hc (ac.imm l)::mLs al) (λB s w hs k5 g=>?_) [] ρL kdL;obtain⟨j,k,W⟩:=s;unfold dfT at hs;dsimp only at hs;cases b0:decide (W.length<=1000/\k<=j) with
  |false=>rw[b0] at hs;cases hs
  |true=>
  rw[b0,ax] at hs;obtain⟨g1,g2⟩:=DL b0;rcases bC hs with⟨b1,hs⟩|⟨b1,hs⟩
  .have hjl:=DL b1;unfold ah at hjl;obtain⟨x,ex,hs⟩:=bS hs;have hcl:=AiI (al:=al) (c:=6) a (hF x);have hjb:j<1000000:=aa;cases hd:del x with
   |true=>rw[hd] at hs hcl;obtain rfl:=Bf hs;exact jw [hr 19 b1,AB 24 (ac.ixrZ 0 ex),AB 25 (ac.pt0Z aW ex),hz 28 [1,2,3,4] hcl,hbb 21 (Xl (q:=j) aa)] (hc (el W)::hc (ac.imm W)::mLs al) (k5 _ rfl) [] ρL kdL
   |false=>rw[hd] at hs hcl;obtain⟨d,e2,hs⟩:=bS hs;obtain rfl:=Bf hs;have hkb:k<1000000:=aa;exact jw [hr 19 b1,AB 24 (ac.ixrZ 0 ex),AB 25 (ac.pt0Z aW ex),hz 28 [1,2,3,4] hcl,AB 33 (ac.ixsZ 0 e2),hw 33 (d.flatMap aj) (ac.putZ e2),hbb 35 (Xl (q:=k) aa),hbb 21 (Xl (q:=j) aa)] (hc (hZ e2)::hc (ac.imm d)::mLs al) (k5 _ rfl) [] ρL kdL
  .obtain rfl:=Bf hs;have ek:=g _ rfl;simp only[FF] at ek;obtain⟨ek,f⟩:=ek;have hkW:k<W.length:=by rw[f,AbA,ek];exact hkn
   have e:(zR W k).take (k*3)=(l.filter λx=> !del x).flatMap aj:=by rw[AgF (Nat.le_of_lt hkW),f,ek,AbB.1]
   rw[<-ek];generalize (l.filter λx=> !del x)=F at e⊢;refine pO 1111110 (J:=(s0 42 gl [(0,.rsl 0 0 W.length),(5,iG (k:Int))] ((ob 0 25 (zR W k))::σL al) 5 5)) [hr 19 b1,AB 38 (ac.sufZ 0 (l:=W) (i:=(k:Int)) (y:=W.drop k) (by unfold mc;rw[Bx ⟨aa,by rw[Fs];omega⟩,Fs])),Go.Proofs.YtghphhhpagagbaaGreatDoor.hcl 5 (Amu (al:=al) hkW)] (hc (el W)::hc (AiG W k)::mLs al) ?_ [] ρL kdL;refine dSh 0 (k*3) ?_;show Gp _ _ _ _ _ _ (s0 42 gl [(0,.rsl 0 0 W.length),(5,iG (k:Int))] ((ob 0 25 ((zR W k).take (k*3)))::(ob 0 25 (zR W k))::σL al) 5 5);rw[e];exact ZT [AB 41 (ac.preZ 0 (l:=W) (i:=(k:Int)) (y:=W.take k) (by unfold tq;rw[Bx ⟨aa,by rw[Fs];omega⟩,Fs]))] (hc (rfl:k=k)::hc (ac.imm F)::mLs al) ρL kdL
end
def JF(k:Int):Bool:=bif k=3 then true else bif k=13 then true else decide (k=12)
def Nl(I:Gi)(R:Ad)(x:Ab):Ad:=Ug R (I.o x) x
def YD(I:Gi)(cs:Bc):Ad:=cs.foldl (Nl I) (Hf I.cards)
theorem Ww{I:Gi}:∀{l:Bc} {R:Ad},Bj R->(∀x∈l,UH (I.o x) x)->Bj (l.foldl (Nl I) R)
 |[],R,h,_=>h
 |x::r,R,h,hx=>Ww (l:=r) (Q5 h (hx x aC)) (by grind)
section
variable {gl:CB} {gg:Aj} {I:Gi}
theorem Ac8(k:Int):ba prog gl 241 [iG k] (bG (JF k)):=XJ gl (by unfold UR JF;cases decide (k=3)<;>cases decide (k=13)<;>rfl)
theorem AgH{al:AQ}(h:QL gl al.g I)(x:Ab):ba prog gl 240 [.agg (aj x),.ptr [.ptr (BU al) 0] 0] (bG (!JF (I.o x).Kind)):=by have h1:=h.op x;have h2:=Ac8 (gl:=gl) (I.o x).Kind;refine Gh func240 ?_;exact Ar [hf 12 h1,hf 17 h2] []
theorem aaS{al:AQ}(x:Ab):ba prog gl 242 [.agg (aj x),.ptr [.ptr (BU al) 0] 0] (bG (Ba (al.void.get x))):=O4 gl rfl
abbrev ρr0:DD:=[(0,0),(1,1),(2,2),(3,3),(4,4),(5,5),(6,6),(7,7),(8,8),(9,9),(10,10),(11,11),(12,12),(13,13)]
abbrev ρr2:DD:=[(0,0),(1,1),(2,2),(3,3),(4,4),(5,16),(6,17),(7,18),(8,19),(9,20),(10,21),(11,22),(12,23),(13,24)]
theorem AgI(h:QL gl gg I)(hc:Ac2 I.cards){ids cs:Bc}(c:ba prog gl 82 [.ptr (Ag gg) 0,aE aj ids] (aE aj cs))(hl:∀x∈cs,UH (I.o x) x)(hn:cs.length<=1000):SW prog gl 30 [.ptr (Ag gg) 0,aE aj ids] [] 0 0 (.ref 0 0) (BG f0 (YD I cs)):=by
 have hQ:∀k,Bj ((cs.take k).foldl (Nl I) (Hf I.cards)):=λk=>Ww (Lw hc.r) λx hx=>hl x (List.mem_of_mem_take hx);refine dFP func30 ?_;refine pN (λk:Nat=>(s0 33 gl [(0,.ptr (Ag gg) 0),(5,.ref 0 0),(15,aE aj cs),(16,iG (ah cs)),(17,iG (k:Int))] (BG f0 ((cs.take k).foldl (Nl I) (Hf I.cards))) 14 0)) 1110122 (EO (n:=cs.length) aa) [hf 11 h.cards,hrn 12 0 [aE bv I.cards] (Lw hc.r) (AeP gl hc),hf 15 c] (rlB ρr0 (Px 0) (hQ 0)) (λB k v hs k5 d=>?_) [] ρr0 Nh;unfold Ko at hs;split at hs
 .rename_i hlt;obtain rfl:=Bf hs;obtain⟨x,hx⟩:∃x,cs[k]?=some x:=⟨_,DR hlt⟩;have hz:=Bg hx;have k5:=k5 _ rfl;have hq:=hQ k;have a:=hl x (bO hx);rw[JJ,hx,Option.toList_some,On,List.foldl_cons,List.foldl_nil] at k5;generalize (cs.take k).foldl (Nl I) (Hf I.cards)=Q at hq k5⊢;unfold Nl at k5;have b:=Q5 hq a;exact jw [hr 18 (Dd hx),AB 19 (ac.ixZ hz),AB 20 (ac.ptZ aW hz),hf 24 (h.op x),ZZ 30 f0 16 [.agg (aJ (I.o x)),.agg (aj x)] hq b (AeO gl hq a),hbb 31 (Xl (q:=k) aa)] (rlB ρr2 (fW f0 16) b) k5 [] ρr2 Nh
 .split at hs
  .rename_i he;subst he;rw[EQ];exact ZT [hr 18 (DZ (s:=cs))] (rlB ρr0 f0 (Ww (Lw hc.r) hl)) ρr0 Nh
  .cases hs
end
section
variable {g:A7} {m:JI} {N:JH}
theorem AaJ(w:Fo g)(p:NP g m N)(h:bu x g.IDs=some k):∃y,N[k]?=some y/\k<256/\y.id=x:=by have h1:=(gb h).1;have hlt:=(cr h1).1;have n1:=w.nL;have n2:=w.nI;have a:=p.len;have hy:N[k]?=some (N[k]'aa):=DR _;have:=(p.nd k _ hy).2.1;rw[h1] at this;exact⟨_,hy,aa,(Bf this).symm⟩
theorem TC(w:Fo g)(p:NP g m N)(x:Ab):MY ⟨g.Cards,m,N⟩ x=(bu x g.IDs).bind λk=>N[k]? :=by
 unfold MY;show(m.get x).bind _=_;rw[p.get];cases bu x g.IDs with
 |none=>rfl
 |some k=>exact au
theorem Ae8(w:Fo g)(p:NP g m N)(x:Ab):(PA ⟨g.Cards,m,N⟩).op x=(bu x g.IDs).bind λk=>g.L[k]? :=by
 show(MY _ x).map (·.o)=_;rw[TC w p];cases hk:bu x g.IDs with
 |none=>rfl
 |some k=>obtain⟨y,h1,_,_⟩:=AaJ w p hk;show(N[k]?).map _=g.L[k]?;rw[h1,(p.nd k y h1).1];rfl
theorem AiJ(w:Fo g)(p:NP g m N)(x y:Ab):(PA ⟨g.Cards,m,N⟩).bef x y=match bu x g.IDs,bu y g.IDs with|some i,some j=>O9 g j i|_,_=>false:=by
 show Ae4 _ x y=_;unfold Ae4;show(match m.get x,MY ⟨g.Cards,m,N⟩ y with|some n,some b=>gW b.past n.toNat|_,_=>false)=_;rw[TC w p,p.get];cases hx:bu x g.IDs with
 |none=>rfl
 |some i=>
  cases hy:bu y g.IDs with
  |none=>rfl
  |some j=>obtain⟨b,h1,_,_⟩:=AaJ w p hy;obtain⟨_,_,h2,_⟩:=AaJ w p hx;show(match some (i:Int),N[j]? with|some n,some b=>gW b.past n.toNat|_,_=>false)=_;rw[h1];exact(p.nd j b h1).2.2.1 i h2
end
end Go.Proofs.YtghphhhpagagbaaGreatDoor
