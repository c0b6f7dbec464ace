/- Texts. -/
import Derived.Test.YtjbfcillbjiajaaGreatDoorY9
namespace Go.Proofs.YtjbfcillbjiajaaGreatDoor
set_option linter.unusedSectionVars false
set_option linter.unusedVariables false
set_option linter.unusedSimpArgs false
open Go.RowKit Tryz
attribute [local irreducible] Tr dz Gp
variable (gl:CC)
variable {α:Type}{K c d n:Int}{g:Bc}{l:List α}{r:List Bool}{o:Bo}{a b f i j k v:Nat}{id x:Ab}{N:I4}{u:Bn}{m:Jb}{W ids:Ba}{gg:Az}{P:Bu}{st:St}{al:Bb}{fi:FuncId}
theorem uW{x:Option α}{Q:α->Prop}(h:T x Q):T x λ_=>True:=h.mono (by grind)
theorem KB{p:Nat}{b:CY}{s:YB}(hp:fS p)(hS:fS s.S)(hb:b.length<=1073741824):T (jJ p b s) λ_=>True:=by
 unfold jJ;have e:fV=some 2305843009213693950:=rfl;simp only[e,aL];refine .bindc ?_ λj _=>?_
 .grind [T.some]
 .refine .ite (λ_=> .some trivial) λ_=>?_;refine .bind ((ka _ hS).mono (by grind [T.bind,T.mono,QE,ka,wL,T.some]))
section
variable {K:Type} [DecidableEq K]
theorem gb{k:K}:∀{l:List K} {n:Nat},bu k l=some n->l[n]?=some k/\∀j,j<n->l[j]?≠some k
 |[],n,h=>by cases h
 |x::r,n,h=>by
  unfold bu at h;split at h
  .grind
  .rename_i e;rw[DQ] at h;obtain⟨a,h',rfl⟩:=h;obtain⟨h1,h2⟩:=gb h';grind
theorem jv{k:K}:∀{l:List K},bu k l=none↔k∉l
 |[]=>by simp[bu]
 |x::r=>by
  unfold bu;by_cases h:k=x
  .simp[h]
  .simp[h,jv (l:=r)]
theorem y0{k:K}{l:List K}{n:Nat}(h:l[n]?=some k)(h2:∀j,j<n->l[j]?≠some k):bu k l=some n:=by
 cases hk:bu k l with
 |none=>grind [jv]
 |some m=>obtain⟨h3,h4⟩:=gb hk;grind
end
def gO(g:Bc)(id:Ab):Int:=match bu id g.IDs with
 |none=> -1
 |some k=>(k:Int)
theorem dC(hn:g.IDs.length<=1000000)(id:Ab):fC g id=some (gO g id):=by
 unfold fC;refine T.eq (.bind ((T.search g.IDs (λx=>decide (x=id)) (λk _=>(k:Int)) aa (λk x hx hk=>?_) ?_).mono ?_))
 .grind [qF,eA,au,aq]
 .grind [qF,eF]
 .rintro r (⟨rfl,h⟩|⟨k,x,hx,hp,rfl,h⟩)
  .have:bu id g.IDs=none:=by grind [jv]
   refine .some ?_;grind [gO]
  .have hp:=DV hp;subst hp;have:bu x g.IDs=some k:=by grind [y0]
   refine .some ?_;grind [gO]
def UW:DR:=⟨0,0,0,0,0⟩
def mZ(g:Bc)(d:Int):DR×Bool:=match g.Cards.find? (λc=>decide (c.Device=d)) with
 |none=>(UW,false)
 |some c=>(c,true)
theorem Cw(hn:g.Cards.length<=1000000)(d:Int):vz g d=some (mZ g d):=by
 unfold vz;refine T.eq (.bind (T.forA g.Cards.length (λk acc=>acc=UW/\∀(j:Nat) (c:DR),j<k->g.Cards[j]?=some c->c.Device≠d) aa ⟨rfl,(by grind)⟩ (λk acc hk hj=>?_) λacc hj=>?_))
 .obtain⟨c,hc⟩:∃c,g.Cards[k]?=some c:=⟨_,EA hk⟩;unfold tX;dsimp only;rw[eA hk,ax,au,hc,aL];refine .dec (λh=>?_) λh=> .some ⟨aq aa,hj.1,λj c' hjk a=>?_⟩
  .refine .some (.some ?_);grind [mZ,List.find?_eq_some_iff_getElem]
  grind
 .unfold tX;dsimp only;rw[eF,Bf];refine .some (.some ?_);unfold mZ;have:g.Cards.find? (λc=>decide (c.Device=d))=none:=by grind [Gu]
  rw[this];rfl
def QF(l:Bn)(n:Int):Bool:=l.any λx=>decide (x=n)
theorem cX{l:Bn}(hn:l.length<=1000000)(n:Int):fb l n=some (QF l n):=by unfold fb QF;refine T.eq ((Mq l hn (rest:=false) (next:=λ_=>some false) (λk x hx hm hk=>?_) ?_ (.some rfl)).mono λv hv=>by simpa using hv);all_goals grind [xq,eA,au,aq,eF]
def nA(l:Ba)(n:Ab):Bool:=l.any λx=>decide (x=n)
theorem kf{l:Ba}(hn:l.length<=1000000)(n:Ab):jL l n=some (nA l n):=by unfold jL nA;refine T.eq ((Mq l hn (rest:=false) (next:=λ_=>some false) (λk x hx hm hk=>?_) ?_ (.some rfl)).mono λv hv=>by simpa using hv);all_goals grind [qJ,eA,au,aq,eF]
def RU(g:Bc)(i k:Nat):Bool:=((g.In[i]?).bind λr=>r[k]?).getD false
structure G9 (g:Bc):Prop where
 nL:g.L.length<=200
 nI:g.IDs.length=g.L.length
 nU:g.Up.length=g.L.length
 nN:g.In.length=g.L.length
 nC:g.Cards.length<=1000
 cards:∀c∈g.Cards,c8 c.Device/\c8 c.Member/\fS c.Sign
 up:∀(i:Nat) (u:Bn),g.Up[i]?=some u->u.length<=12/\∀x∈u,0<=x/\x<(i:Int)
 rows:∀(i:Nat) (r:List Bool),g.In[i]?=some r->r.length=g.L.length
 inlt:∀i k,RU g i k=true->k<i/\i<g.L.length
 ops:∀(i:Nat) (o:Bo),g.L[i]?=some o->Be o/\Ga o/\fS o.Sig.S
 ids:∀(i:Nat) (o:Bo) (id:Ab),g.L[i]?=some o->g.IDs[i]?=some id->pV o=some id
 nd:g.IDs.Nodup
 one:∀(i k:Nat) (u:Bn),g.Up[i]?=some u->(k:Int)∈u->RU g i k=true
 tr:∀(i j k:Nat) (u:Bn),RU g i j=true->g.Up[j]?=some u->(k:Int)∈u->RU g i k=true
 la:∀(i k:Nat),RU g i k=true->∃u,g.Up[i]?=some u/\((k:Int)∈u\/∃j v,RU g i j=true/\g.Up[j]?=some v/\(k:Int)∈v)
def Hs(g:Bc)(up:Bn)(k:Nat):Prop:=(k:Int)∈up\/∃j:Nat,(j:Int)∈up/\RU g j k=true
theorem yc(w:G9 g){up:Bn}(h1:up.length<=1000)(h2:∀x∈up,0<=x/\x<(g.L.length:Int)):T (jA g up) λr=>r.length=g.L.length/\∀k,k<g.L.length->(r[k]?=some true↔Hs g up k):=by
 have nL:=w.nL;unfold jA;refine .bind (.make (by unfold ah;omega) (by unfold ah;omega) (by unfold ah;omega) ?_);have e0:wI (ah g.L-1)=(g.L.length:Int)-1:=bM (by unfold ah;omega) (by unfold ah;omega);rw[e0];have e1:(ah g.L).toNat=g.L.length:=by unfold ah;omega
 rw[e1];refine .bind (T.loop (λs=> -1<=s.2/\s.2<g.L.length/\s.1.length=g.L.length/\(∀k:Nat,k<g.L.length->s.2<k->(s.1[k]?=some true↔Hs g up k))/\∀k:Nat,(k:Int)<=s.2->(s.1[k]?=some true↔∃j v,s.2<(j:Nat)/\Hs g up j/\j<g.L.length/\g.Up[j]?=some v/\(k:Int)∈v)) (λs=>(s.2+1).toNat) ⟨by simp only;omega,by simp only;omega,aC,λk hk hi=>by simp only at hi;omega,λk hk=>?_⟩ (by grind) ?_)
 .simp only at hk⊢;constructor
  .intro h;rw[List.getElem?_replicate] at h;split at h<;>cases h
  .rintro⟨j,v,hj,_,hjl,_⟩;omega
 rintro⟨r,i⟩ ⟨o,i1,e,f,a⟩;simp only at o i1 e f a;unfold AJ;dsimp only;refine .dec (λhi=>?_) λhi=> .some (.some ⟨e,λk hk=>f k hk aa⟩);obtain⟨n,rfl⟩:∃n:Nat,i=(n:Int):=⟨i.toNat,aa⟩;have hn:n<g.L.length:=aa;rw[cX aa,aL];have hUp:∃u,g.Up[n]?=some u:=⟨_,EA (by rw[w.nU];exact hn)⟩;obtain⟨u,hu⟩:=hUp;obtain⟨u1,l⟩:=w.up n u hu;have hbeh:∀k,Hs g up k↔((k:Int)∈up\/∃j v,Hs g up j/\g.Up[j]?=some v/\(k:Int)∈v):=λk=>by
  constructor
  .rintro(h|⟨j,hj,hjk⟩)
   .exact .inl h
   .obtain⟨v,hv,hk|⟨m,v',h3,h4,h5⟩⟩:=w.la j k hjk
    .exact .inr ⟨j,v,.inl hj,hv,hk⟩
    .exact .inr ⟨m,v',.inr ⟨j,hj,h3⟩,h4,h5⟩
  .rintro(h|⟨j,v,hj|⟨m,hm,c⟩,hv,hk⟩)
   .exact .inl h
   .exact .inr ⟨j,hj,w.one j k v hv hk⟩
   .exact .inr ⟨m,hm,w.tr m j k v c hv hk⟩
 have hlt:∀(j:Nat) (v:Bn) (k:Nat),g.Up[j]?=some v->(k:Int)∈v->k<j:=λj v k hv hk=>by have:=(w.up j v hv).2 _ hk;omega
 refine .bind (T.mono (Q:=λs=>s.length=g.L.length/\(∀k:Nat,k≠n->s[k]?=r[k]?)/\(s[n]?=some true↔Hs g up n)) ?_ ?_)
 .have key:(r[n]?=some true\/(n:Int)∈up)↔Hs g up n:=by grind [G9.nU]
  refine .ite (λhh=>?_) λhh=>?_
  .have hm:(n:Int)∈up:=by obtain⟨x,hx,hb⟩:=List.any_eq_true.1 hh;grind
   grind [T.set,Fw]
  grind [QF,T.some]
 .rintro s ⟨s1,s2,s3⟩;obtain⟨b,hb⟩:∃b,s[n]?=some b:=⟨_,EA aa⟩;rw[au,hb,aL];have ew:wI ((n:Int)-1)=(n:Int)-1:=bM aa aa;refine .ite (λhbt=>?_) λhbf=>?_
  .have hbt:b=true:=hbt;subst hbt;have hbn:=s3.1 hb;refine .bind (T.mono (Q:=λt=>t.length=g.L.length/\∀k:Nat,t[k]?=some true↔(s[k]?=some true\/(k:Int)∈u)) (T.forA u.length (λm t=>t.length=g.L.length/\∀k:Nat,t[k]?=some true↔(s[k]?=some true\/∃j,j<m/\u[j]?=some (k:Int))) aa ⟨s1,λk=>aC⟩ (λm t hm hj=>?_) λt hj=>?_) ?_)
   .obtain⟨x,hx⟩:∃x,u[m]?=some x:=⟨_,EA hm⟩;have d:=l x (bO hx);unfold tT;dsimp only;rw[au,hu,aL,eA hm,ax,aL,au,hx,aL];refine .bind (.set d.1 (by grind) (.some ⟨aq aa,by grind,λk=>?_⟩));obtain⟨y,rfl⟩:∃y:Nat,x=(y:Int):=⟨x.toNat,aa⟩;simp only[Fw];by_cases hk:k=y
    .grind
    .rw[List.getElem?_set_ne (Ne.symm hk),hj.2 k];grind
   .unfold tT;dsimp only;rw[au,hu,aL,eF,Bf];refine .some ⟨hj.1,λk=>?_⟩;rw[hj.2 k];constructor
    .grind
    .rintro(h|h)
     .exact .inl h
     .obtain⟨j,hj'⟩:=Gu h;grind
   .rintro t ⟨p,t2⟩;refine .some ⟨⟨?_,?_,p,λk hk hik=>?_,λk hk=>?_⟩,?_⟩
    .grind
    .grind
    .replace hik:wI ((n:Int)-1)<k:=hik;rw[ew] at hik;show t[k]?=some true↔_;rw[t2 k];have hku:(k:Int)∉u:=λh=>by have:=l _ h;omega
     rcases Nat.lt_trichotomy k n with h|rfl|h
     all_goals grind
    .replace hk:(k:Int)<=wI ((n:Int)-1):=hk;rw[ew] at hk;show t[k]?=some true↔∃j v,wI ((n:Int)-1)<(j:Nat)/\_;rw[ew,t2 k,s2 k aa,a k aa];grind
    .show(wI ((n:Int)-1)+1).toNat<_;rw[ew];omega
  .have hbf:b=false:=hbf;subst hbf;have hbn:¬Hs g up n:=λh=>by have:=s3.2 h;rw[hb] at this;cases this
   refine .some ⟨⟨?_,?_,s1,λk hk hik=>?_,λk hk=>?_⟩,?_⟩
   .grind
   .grind
   .grind
   .replace hk:(k:Int)<=wI ((n:Int)-1):=hk;rw[ew] at hk;show s[k]?=some true↔∃j v,wI ((n:Int)-1)<(j:Nat)/\_;rw[ew,s2 k aa,a k aa];grind
   .show(wI ((n:Int)-1)+1).toNat<_;rw[ew];omega
theorem G9.op{g:Bc}(w:G9 g){i:Nat}(h:i<g.L.length):∃o,g.L[i]?=some o/\Be o/\Ga o:=by obtain⟨o,ho⟩:∃o,g.L[i]?=some o:=⟨_,EA h⟩;grind [ops]
theorem KC(w:G9 g){o:Bo}(hr:r.length=g.L.length):T (lA g o r) λ_=>True:=by
 have nL:=w.nL;unfold lA;refine .bind (T.forA g.L.length (λ_ _=>True) aa trivial (λk b hk _=>?_) λb _=>?_)
 .obtain⟨p,hp,_⟩:=w.op hk;obtain⟨x,hx⟩:∃x,r[k]?=some x:=⟨_,EA aa⟩;unfold jK;dsimp only;rw[eA hk,ax,au,au,hx,hp];simp only[aL];refine .bindc ?_ λj _=> .ite (λ_=> .some ⟨aq aa,trivial⟩) λ_=>?_
  .grind [T.some]
  .refine .ite (λ_=> .some (.some trivial)) λ_=> .bindc ?_ λj _=> .some ⟨aq aa,trivial⟩;grind [T.some]
 .unfold jK;dsimp only;rw[eF,Bf];refine .some (.bindc ?_ λj _=> .some trivial);grind [T.some]
structure R8 (g:Bc) (o:Bo) (up:Bn):Prop where
 check:Ga o
 id:∃i,pV o=some i/\bu i g.IDs=none
 room:g.L.length<200
 card:∃c,mZ g o.By=(c,true)/\jJ c.Sign (qc o) o.Sig=some true
 create:o.Kind=1->g.L=[]
 upl:up.length=o.Past.length
 par:∀(k:Nat) (i:Ab),o.Past[k]?=some i->∃n:Nat,bu i g.IDs=some n/\up[k]?=some (n:Int)
 upb:∀x∈up,0<=x/\x<(g.L.length:Int)
 apart:∀i k:Nat,(i:Int)∈up->(k:Int)∈up->RU g i k=false
 late:∀(i:Nat) (p:Bo),(i:Int)∈up->g.L[i]?=some p->p.At<=o.At
 right:∃r,jA g up=some r/\lA g o r=some true
theorem pK(h:Ct o=false):o.Past.length<=12:=by grind [Ct]
theorem yd{c:DR}(h:mZ g d=(c,true)):c∈g.Cards/\c.Device=d:=by grind [mZ]
theorem wO(h:g.In[i]?=some r):RU g i k=(r[k]?).getD false:=by unfold RU;rw[h];rfl
theorem KD(w:G9 g)(ho:Be o)(hs:fS o.Sig.S):T (vA g o) λr=>r.1=0->R8 g o r.2:=by
 have nL:=w.nL;have nI:=w.nI;have nC:=w.nC;have nP:=ho.nPast;unfold vA;refine .bind ((Cv ho).mono λe he=> .dec (by grind [T.some]) λh=>?_);have hc:Ga o:=he (by simpa using h);obtain⟨i,ei,i1,A,B,C⟩:=wN ho;rw[ei,aL,dC aa,aL];refine .dec (by grind [T.some]) λhpl=>?_;have hk:bu i g.IDs=none:=by grind [gO]
 refine .dec (by grind [T.some]) λhroom=>?_;have hroom:g.L.length<200:=by unfold ah at hroom;omega
 rw[Cw aa,aL];refine .ite (by grind [T.some]) λd=>?_;obtain⟨c,hcd⟩:∃c,mZ g o.By=(c,true):=by grind
 rw[hcd];refine .then (uV ho) ?_;refine .bindc (by grind [G9,KB,yd,yY]) λsg hsg=>?_;refine .ite (by grind [T.some]) λf=>?_;have hsg:jJ c.Sign (qc o) o.Sig=some true:=by grind
 rw[cL,aL];refine .ite (by grind [T.some]) λhcr=>?_;have hcr:o.Kind=1->g.L=[]:=λh1=>by rw[C6 h1,ax] at hcr;have:=Ni hcr;unfold ah at this;exact List.eq_nil_of_length_eq_zero aa
 refine .bind (T.forA o.Past.length (λk acc=>acc.length=k/\(∀(j:Nat) (x:Ab),j<k->o.Past[j]?=some x->∃n:Nat,bu x g.IDs=some n/\acc[j]?=some (n:Int))/\∀x∈acc,0<=x/\x<(g.L.length:Int)) aa (by grind) (λk acc hk hj=>?_) λacc hj=>?_)
 .obtain⟨x,hx⟩:∃x,o.Past[k]?=some x:=⟨_,EA hk⟩;unfold qI;dsimp only;rw[eA hk,ax,au,hx,aL,dC aa,aL];refine .dec (λ_=> .some (.some (by grind))) λhp=>?_;have hkx:∃n,bu x g.IDs=some n:=by grind [gO]
  obtain⟨n,hn⟩:=hkx;have ep:gO g x=(n:Int):=by unfold gO;rw[hn]
  have hnl:n<g.L.length:=by have:=(cr (gb hn).1).1;omega
  rw[ep];refine .bind (.app cq (.some (by constructor<;>grind [aq])));all_goals grind
 unfold qI;dsimp only;rw[eF,Bf];refine .some ?_;obtain⟨a1,a2,a3⟩:=hj;have hup:∀(k:Nat) (x:Ab),o.Past[k]?=some x->∃n:Nat,bu x g.IDs=some n/\acc[k]?=some (n:Int):=by grind
 clear a2;refine .bind (T.forI acc.length (λk=>(∀(j:Nat) (x y:Nat),j<k->acc[j]?=some (x:Int)->(y:Int)∈acc->RU g x y=false)/\∀(j:Nat) (x:Nat) (p:Bo),j<k->acc[j]?=some (x:Int)->g.L[x]?=some p->p.At<=o.At) aa (by grind) (λk hk hj=>?_) λhj=>?_)
 .obtain⟨x,hx⟩:∃x,acc[k]?=some x:=⟨_,EA hk⟩;have l:=a3 x (bO hx);obtain⟨n,rfl⟩:∃n:Nat,x=(n:Int):=⟨x.toNat,aa⟩;have hnl:n<g.L.length:=aa;obtain⟨r,hr⟩:∃r,g.In[n]?=some r:=⟨_,EA (by rw[w.nN];exact hnl)⟩;obtain⟨p,hp,_⟩:=w.op hnl;unfold qH;rw[eA hk,ax];refine .bind (T.forI acc.length (λm=>∀(j:Nat) (y:Nat),j<m->acc[j]?=some (y:Int)->RU g n y=false) aa (by grind) (λm hm hjm=>?_) λhjm=>?_)
  .obtain⟨y,hy⟩:∃y,acc[m]?=some y:=⟨_,EA hm⟩;have s:=a3 y (bO hy);obtain⟨q,rfl⟩:∃q:Nat,y=(q:Int):=⟨y.toNat,aa⟩;obtain⟨b,hb⟩:∃b,r[q]?=some b:=by grind [G9.rows]
   unfold qG;rw[eA hm,ax,au,hx,aL,au,hr,aL,au,hy,aL,au,hb,aL];refine .ite (λ_=> .some (.some (.some (by grind)))) λhbf=> .some ⟨aq aa,λj z t hz=>?_⟩;rcases JB j m with hlt|hge
   .exact hjm j z hlt hz
   .obtain rfl:j=m:=aa;rw[hy] at hz;obtain rfl:q=z:=by grind
    grind [wO]
  .unfold qG;rw[eF,Bf];refine .some ?_;show T (ma _ _ _) _;dsimp only[ma];rw[au,hx,aL,au,hp,aL];refine .dec (λ_=> .some (.some (by grind))) λhat=> .some ⟨aq aa,λj a y hjk hx' hy=>?_,λj a v hjk hx' hp'=>?_⟩
   .rcases JB j k with hlt|hge
    .exact hj.1 j a y hlt hx' hy
    .obtain rfl:j=k:=aa;rw[hx] at hx';obtain rfl:n=a:=by grind
     obtain⟨m,hm⟩:=Gu hy;grind
   .rcases JB j k with hlt|hge
    .exact hj.2 j a v hlt hx' hp'
    .obtain rfl:j=k:=aa;rw[hx] at hx';obtain rfl:n=a:=by grind
     rw[hp] at hp';cases hp';omega
 unfold qH;rw[eF,Bf];refine .some ?_;obtain⟨b1,b2⟩:=hj;obtain⟨r,hr,u,D⟩:=yc w (up:=acc) aa a3;obtain⟨b,hb,_⟩:=KC w (o:=o) u;show T (ma _ _ _) _;dsimp only[ma];rw[hr,aL,hb,aL];refine .ite (by grind [T.some]) λhbt=> .some λ_=>⟨hc,⟨i,ei,hk⟩,hroom,⟨c,hcd,hsg⟩,hcr,a1,hup,a3,λx y hx hy=>?_,λx p hx hp=>?_,⟨r,hr,?_⟩⟩
 .obtain⟨j,hj⟩:=Gu hx;grind
 .obtain⟨j,hj⟩:=Gu hx;grind
 grind
def pL(g:Bc)(o:Bo)(i:Ab)(up:Bn)(r:List Bool):Bc:=⟨g.Cards,g.L++[o],g.IDs++[i],g.Up++[up],g.In.map (·++[false])++[r++[false]]⟩
theorem je{l:List α}{x y:α}(h:(l++[x])[i]?=some y):(i<l.length/\l[i]?=some y)\/(i=l.length/\y=x):=by grind
theorem Ms{x y:α}(h:l[i]?=some y):(l++[x])[i]?=some y:=by grind
theorem F8{x:α}:(l++[x])[l.length]?=some x:=aC
theorem kU(w:G9 g){o:Bo}{id:Ab}{up:Bn}(hr:r.length=g.L.length)(i k:Nat):RU (pL g o id up r) i k=true↔(i<g.L.length/\RU g i k=true)\/(i=g.L.length/\r[k]?=some true):=by
 have nN:=w.nN;have e:(pL g o id up r).In=g.In.map (·++[false])++[r++[false]]:=rfl;have lm:(g.In.map (·++[false])).length=g.L.length:=by rw[Gq,nN]
 have snoc:∀(l:List Bool),((l++[false])[k]?).getD false=true↔l[k]?=some true:=by grind
 rcases Nat.lt_trichotomy i g.L.length with h|h|h
 .obtain⟨row,hrow⟩:∃row,g.In[i]?=some row:=⟨_,EA aa⟩;have h1:(pL g o id up r).In[i]?=some (row++[false]):=by grind
  rw[wO h1,snoc,wO hrow];constructor
  .grind
  .rintro(⟨_,h2⟩|⟨h2,_⟩);all_goals grind
 .grind [wO]
 .have h1:(pL g o id up r).In[i]?=none:=by grind
  grind [RU]
theorem Wc(w:G9 g){up:Bn}(ho:Be o)(hs:fS o.Sig.S)(a:R8 g o up)(hid:pV o=some id)(hr:r.length=g.L.length)(hb:∀k,k<g.L.length->(r[k]?=some true↔Hs g up k)):G9 (pL g o id up r):=by
 have nL:=w.nL;have nI:=w.nI;have nU:=w.nU;have nN:=w.nN;have inr:∀k,r[k]?=some true↔Hs g up k:=λk=>by
  rcases JB k g.L.length with h|h
  .exact hb k h
  .constructor
   .grind
   .rintro(h2|⟨j,h2,h3⟩)
    .have:=(a.upb _ h2).2;omega
    .have:=w.inlt j k h3;omega
 have upAt:∀(j:Nat) (v:Bn),j<g.L.length->((pL g o id up r).Up[j]?=some v↔g.Up[j]?=some v):=λj v hj=>by show(g.Up++[up])[j]?=some v↔_;rw[List.getElem?_append_left aa]
 obtain⟨c,e1,e2⟩:=a.id;rw[hid] at e1;cases e1;exact{
  nL:=by show(g.L++[o]).length<=200;have:=a.room;simp;omega
  nI:=by show(g.IDs++[id]).length=(g.L++[o]).length;simp;omega
  nU:=by show(g.Up++[up]).length=(g.L++[o]).length;simp;omega
  nN:=by show(g.In.map _++[_]).length=(g.L++[o]).length;simp;omega
  nC:=w.nC
  cards:=w.cards
  up:=λi u hu=>by
   rcases je hu with⟨_,h⟩|⟨h,rfl⟩
   .exact w.up i u h
   grind [R8,pK,Ga.long]
  rows:=λi row hrow=>by
   show row.length=(g.L++[o]).length;rcases je hrow with⟨_,h⟩|⟨h,rfl⟩
   all_goals grind [G9.rows]
  inlt:=λi k h=>by
   show k<i/\i<(g.L++[o]).length;rcases(kU w hr i k).1 h with⟨h1,h2⟩|⟨h1,h2⟩
   .have:=w.inlt i k h2;simp;omega
   grind
  ops:=λi p hp=>by
   rcases je hp with⟨_,h⟩|⟨h,rfl⟩
   all_goals grind [G9.ops,R8.check]
  ids:=λi p q hp hq=>by
   rcases je hp with⟨h0,h⟩|⟨h,rfl⟩
   .rcases je hq with⟨_,h'⟩|⟨h',_⟩
    all_goals grind [G9.ids]
   .rcases je hq with⟨h',_⟩|⟨_,rfl⟩
    .omega
    .exact hid
  nd:=by show(g.IDs++[id]).Nodup;grind [G9.nd,jv]
  one:=λi k u hu hk=>by
   rw[kU w hr];rcases je hu with⟨h0,h⟩|⟨h,rfl⟩
   .grind [G9.one]
   .exact .inr ⟨aa,(inr k).2 (.inl hk)⟩
  tr:=λi j k v hij hv hk=>by
   rw[kU w hr];rcases(kU w hr i j).1 hij with⟨h1,h2⟩|⟨h1,h2⟩
   .have:=w.inlt i j h2;grind [G9.tr]
   .have hj:=(cr h2).1;have b:=(upAt j v aa).1 hv;refine .inr ⟨h1,(inr k).2 ?_⟩;rcases(inr j).1 h2 with h3|⟨m,h3,h4⟩
    .exact .inr ⟨j,h3,w.one j k v b hk⟩
    .exact .inr (by grind [G9.tr])
  la:=λi k hik=>by
   rcases(kU w hr i k).1 hik with⟨h1,h2⟩|⟨h1,h2⟩
   .grind [G9.la,kU]
   .refine⟨up,by show(g.Up++[up])[i]?=some up;rw[h1,<-nU];exact F8,?_⟩;rcases(inr k).1 h2 with h3|⟨j,h3,h4⟩
    .exact .inl h3
    .obtain⟨v,hv,h5⟩:=w.la j k h4;have hj:=w.inlt j k h4;rcases h5 with h5|⟨m,v',h6,h7,h8⟩
     .exact .inr ⟨j,v,(kU w hr i j).2 (.inr ⟨h1,(inr j).2 (.inl h3)⟩),(upAt j v hj.2).2 hv,h5⟩
     .have hm:=w.inlt j m h6;exact .inr ⟨m,v',(kU w hr i m).2 (.inr ⟨h1,(inr m).2 (.inr ⟨j,h3,h6⟩)⟩),(upAt m v' aa).2 h7,h8⟩}
def Yr(g:Bc)(o:Bo)(r:Bc×Int):Prop:=(r.2≠0/\r.1=g)\/∃id up row,r.2=0/\R8 g o up/\pV o=some id/\jA g up=some row/\r.1=pL g o id up row
theorem QG(w:G9 g)(ho:Be o)(hs:fS o.Sig.S):T (AO g o) λr=>G9 r.1/\Yr g o r:=by
 have nL:=w.nL;have nI:=w.nI;have nU:=w.nU;have nN:=w.nN;unfold AO;refine .bind ((KD w ho hs).mono λv hv=> .dec (λh=> .some ⟨w,.inl ⟨h,rfl⟩⟩) λh=>?_);have a:=hv (by simpa using h);have ul:v.2.length<=12:=by rw[a.upl];exact pK a.check.long
 obtain⟨row,hrow,b,c⟩:=yc w (up:=v.2) aa a.upb;obtain⟨id,hid,_⟩:=a.id;rw[hrow,aL];refine .bind (.app cq (.bind (.app cq (.bind (.app cq ?_)))));rw[hid,aL];refine .bind (.app cq (.bind (.app cq (.bind (.app cq ?_)))));refine .then (T.forE g.In [] (λx=>[x++[false]]) 1 aa (λx _=>aC) (λk acc x hx hm hk hl=>?_) λacc=>?_) ?_
 .have:=w.rows k x hx;unfold xr;dsimp only;rw[eA hk,ax,au,hx,aL];refine .bind (.app cq (.bind (.bind (.app cq (.bind (.app (by simp at hl⊢;omega) (.some (.some ⟨aq aa,?_⟩))))))));simp
 .grind [xr,eF]
 .have el:([]:List (List Bool))++g.In.flatMap (λx=>[x++[false]])=g.In.map (·++[false]):=by rw[Px];induction g.In<;>grind
  rw[el];refine .bind (.bind (.app cq (.bind (.app cq (.some (.some ?_))))));have e:(⟨g.Cards,[]++g.L++[o],[]++g.IDs++[id],[]++g.Up++[v.2],g.In.map (·++[false])++[row++[false]]⟩:Bc)=pL g o id v.2 row:=rfl;exact⟨e▸Wc w ho hs a hid b c,.inr (by grind)⟩
theorem Afv{f:α->Fo}(hn:l.length<=1000000)(h:∀x∈l,f x=some false):AH (λs1:Int=>(bif s1<ah l then((aS l s1).bind λa=>(f a).bind λb=>bif b then(some (.inr (.inr s1)))else(some (.inl (wI (s1+1)))))else(some (.inr (.inl ()))):Option (Int⊕(Unit⊕Int)))) 0=some (.inl ()):=by
 refine T.eq (T.forI (Q:=λv:Unit⊕Int=>v= .inl ()) l.length (λ_=>True) aa trivial (λk hk _=>?_) λ_=>?_)
 .rw[eA hk,ax,au,EA hk,aL,h _ (List.getElem_mem hk),aL,Bf];exact .some ⟨aq aa,trivial⟩
 .rw[eF,Bf];exact .some rfl
theorem S8{may:α->Fo}(hn:l.length<=1000000)(h:∀x∈l,may x=some true):On l may=some true:=by unfold On Aa7 Y4;rw[show AH (KS l (λz=>SN z may)) 0=some (.inl ()) from Afv hn (by grind [SN])];rfl
structure JS (o:Bo):Prop where
 dev:o.Device≠0->o.Kind=2\/o.Kind=3\/o.Kind=11\/o.Kind=13
 old:o.Old≠0->o.Kind=13
 mem:o.Member≠0->o.Kind=3\/o.Kind=5
 role:o.Role≠0->o.Kind=2\/o.Kind=5
 path:0<ah o.Path->Fa o.Kind=some true
 ep:o.Epoch≠⟨0,0,0⟩->o.Kind=6
 n:o.N≠0->o.Kind=6
 refs:0<ah o.Refs->o.Kind=6
 body:0<ah o.Body->o.Kind=6\/o.Kind=7
 of_:o.Of≠⟨0,0,0⟩->o.Kind=7\/o.Kind=8\/o.Kind=12\/o.Kind=10\/o.Kind=11\/o.Kind=13
 gu:0<ah o.Guards->o.Kind=9
 wait:o.Wait≠0->o.Kind=9
 pub:o.Pub≠0->o.Kind=9
 need:o.Need≠0->o.Kind=9\/o.Kind=1
 box:0<ah o.Boxes->o.Kind=9\/o.Kind=10\/o.Kind=11
 hist:ah o.Hist≠0->o.Kind=2\/o.Kind=13
theorem ZD(h:Adc o=true):JS o:=by
 have h:mz o=some true:=by rw[Cu,h]
 unfold mz at h;obtain⟨s,e1,h⟩:=bS h;obtain⟨t,e3,h⟩:=bS h;rcases bC h with⟨b3,h⟩|⟨b3,h⟩;· cases h
 obtain⟨u,e6,h⟩:=bS h;rcases bC h with⟨f,h⟩|⟨f,h⟩;· cases h
 obtain⟨w,e,h⟩:=bS h;rcases bC h with⟨g,h⟩|⟨g,h⟩;· cases h
 obtain⟨j12,i,h⟩:=bS h;rcases bC h with⟨a,h⟩|⟨a,h⟩;· cases h
 obtain⟨j,k,h⟩:=bS h;rcases bC h with⟨b,h⟩|⟨b,h⟩;· cases h
 obtain⟨l,m,h⟩:=bS h;rcases bC h with⟨c,h⟩|⟨c,h⟩;· cases h
 obtain⟨n,p,h⟩:=bS h;rcases bC h with⟨d,h⟩|⟨d,h⟩;· cases h
 obtain⟨q,r,h⟩:=bS h;obtain rfl:=Bp h;subst b3 f g a b c d;refine⟨λhd=>?_,λhd=>?_,λhd=>?_,λhd=>?_,λhd=>?_,λhd=>?_,λhd=>?_,λhd=>?_,λhd=>?_,λhd=>?_,λhd=>?_,λhd=>?_,λhd=>?_,λhd=>?_,λhd=>?_,λhd=>?_⟩
 .grind
 .grind
 .refine Classical.byContradiction λhc=>?_;try simp only[not_or] at hc
  simp[hd,hc] at e6
 .refine Classical.byContradiction λhc=>?_;try simp only[not_or] at hc
  simp[hd,hc] at e6
 .rw[C6 hd,ax] at e;obtain⟨v,ev,e⟩:=bS e;grind
 .grind
 .grind
 .grind
 .grind
 .grind
 .grind
 .grind
 .grind
 .grind
 all_goals grind
theorem MU{kk:Nat}:∀{l:List (Nat×Bool)},(∀q∈l,q.2=true->q.1&&&kk=q.1)->La l&&&kk=La l
 |[],_=>by simp[La]
 |q::r,h=>by unfold La;rw[Nat.and_or_distrib_right,MU (l:=r) (by grind)];grind
theorem IY(ha:a<1048576)(hb:b<1048576)(h:a&&&b=a):wH (a:Int) (b:Int)=0:=by
 unfold wH;have e:BitVec.ofInt IntKind.i64.bits (a:Int)&&&BitVec.ofInt IntKind.i64.bits (b:Int)=BitVec.ofInt IntKind.i64.bits (a:Int):=by grind
 have e2:BitVec.ofInt IntKind.i64.bits (a:Int)&&& ~~~BitVec.ofInt IntKind.i64.bits (b:Int)=0:=by grind
 rw[e2];rfl
theorem He{a b:Int}(h:a<=n/\n<=b):xj n a b=true:=by grind [xj]
theorem kW{i:Ab}(h:l7 i=true):Rz i=true:=by have h:=DV h;unfold Rz WV;grind [He]
theorem GC{n:Nat}(h:Cr n=true):Z5 n=true:=by have h:=DV h;grind [Z5]
theorem Vl{a:Bool}{x:Fo}:((bif a then x else some false)=some true)↔(a=true/\x=some true):=by cases a<;>simp
structure Ot (o:Bo):Prop where
 by_:1<=o.By/\o.By<=12
 seq:1<=o.Seq/\o.Seq<=2147483647
 at_:0<=o.At/\o.At<=2147483647
 k1:o.Kind=1->0<=o.Need/\o.Need<=20
 k2:o.Kind=2->(1<=o.Device/\o.Device<=12)/\1<=o.Role/\o.Role<=3
 k3:o.Kind=3->((1<=o.Device/\o.Device<=12)/\o.Member=0)\/(o.Device=0/\1<=o.Member/\o.Member<=8)
 k5:o.Kind=5->(1<=o.Member/\o.Member<=8)/\1<=o.Role/\o.Role<=3
 k6:o.Kind=6->l7 o.Epoch=true/\0<=o.N/\o.N<=2147483647
 k9:o.Kind=9->(1<=o.Need/\o.Need<=ah o.Guards)/\(0<=o.Wait/\o.Wait<=2147483647)/\Cr o.Pub=true
 k11:o.Kind=11->l7 o.Of=true/\1<=o.Device/\o.Device<=12
 k13:o.Kind=13->l7 o.Of=true/\(1<=o.Device/\o.Device<=12)/\1<=o.Old/\o.Old<=12
 kr:o.Kind=7\/o.Kind=8\/o.Kind=10\/o.Kind=12->l7 o.Of=true
theorem T1{o:Bo}(h:gU o=true):Ot o:=by
 have h:Gb o=some true:=by rw[jF,h]
 unfold Gb at h;obtain⟨a,e3,h⟩:=bS h;rcases bC h with⟨b3,h⟩|⟨b3,h⟩;· cases h
 subst b3;rw[gT,gT,gT,aL,aL,aL] at e3;simp only[gT,mY,show Jo o.Pub=some (Cr o.Pub) from kS o.Pub,aL] at h;have e1:1<=o.By/\o.By<=12:=by grind
 have e2:1<=o.Seq/\o.Seq<=2147483647:=by grind
 have e4:0<=o.At/\o.At<=2147483647:=by grind
 refine⟨e1,e2,e4,λhk=>?_,λhk=>?_,λhk=>?_,λhk=>?_,λhk=>?_,λhk=>?_,λhk=>?_,λhk=>?_,λhk=>?_⟩
 .simpa[hk,Vl] using h
 .simpa[hk,Vl] using h
 .grind
 .simpa[hk,Vl] using h
 .simpa[hk,Vl] using h
 .simpa[hk,Vl] using h
 .simpa[hk,Vl] using h
 .simpa[hk,Vl] using h
 .rcases hk with hk|hk|hk|hk<;>simpa[hk,Vl] using h
def pT(K:Int):Nat:=(nG.getD K.toNat 0).toNat
theorem vj:pT 1=2064:=BU
theorem kk2:pT 2=32793:=BU
theorem zS:pT 3=21:=BU
theorem yu:pT 4=16:=BU
theorem zT:pT 5=12:=BU
theorem zU:pT 6=480:=BU
theorem zt:pT 7=640:=BU
theorem zu:pT 8=512:=BU
theorem Aw:pT 9=31744:=BU
theorem UT:pT 10=8704:=BU
theorem kC:pT 11=8705:=BU
theorem km:pT 12=512:=BU
theorem kX:pT 13=33299:=BU
theorem ic(h:1<=K/\K<=13):K=1\/K=2\/K=3\/K=4\/K=5\/K=6\/K=7\/K=8\/K=9\/K=10\/K=11\/K=12\/K=13:=aa
theorem RK(h:Fa K=some true):K=1\/K=2\/K=3\/K=4\/K=13:=by grind [Fa]
theorem W9(b:JS o):∀q∈rU o,q.2=true->q.1&&&pT o.Kind=q.1:=by
 intro q hq hb;simp only[rU,EG,K3,or_false] at hq;rcases hq with rfl|rfl|rfl|rfl|rfl|rfl|rfl|rfl|rfl|rfl|rfl|rfl|rfl|rfl|rfl|rfl
 .grind [JS.dev,kk2,zS,kC,kX]
 .grind [JS.old,kX]
 .grind [JS.mem,zS,zT]
 .grind [JS.role,kk2,zT]
 .grind [RK,JS.path,vj,kk2,zS,yu,kX]
 .grind [JS.ep,zU]
 .grind [JS.n,zU]
 .grind [JS.body,zU,zt]
 .grind [JS.refs,zU]
 .grind [JS.of_,zt,zu,UT,kC,km,kX]
 .grind [JS.gu,Aw]
 .grind [JS.need,vj,Aw]
 .grind [JS.wait,Aw]
 .grind [JS.box,Aw,UT,kC]
 all_goals grind [JS.pub,kk2,Aw,kX,JS.hist]
theorem ZE(f:Ot o)(a:1<=o.Kind/\o.Kind<=13):∀q∈OC o,pT o.Kind&&&q.1≠0->q.2=true:=by
 intro q hq hne;simp only[OC,EG,K3,or_false] at hq;rcases hq with rfl|rfl|rfl|rfl|rfl|rfl|rfl|rfl|rfl|rfl
 .rcases ic a with hk|hk|hk|hk|hk|hk|hk|hk|hk|hk|hk|hk|hk
  .simp[hk,vj] at hne
  .grind [GH,He,Ot.k2]
  .grind [Ot,GH,He]
  .simp[hk,yu] at hne
  .simp[hk,zT] at hne
  .simp[hk,zU] at hne
  .simp[hk,zt] at hne
  .simp[hk,zu] at hne
  .simp[hk,Aw] at hne
  .simp[hk,UT] at hne
  all_goals grind [Ot,GH,He,km]
 .rcases ic a with hk|hk|hk|hk|hk|hk|hk|hk|hk|hk|hk|hk|hk
  .simp[hk,vj] at hne
  .simp[hk,kk2] at hne
  .simp[hk,zS] at hne
  .simp[hk,yu] at hne
  .simp[hk,zT] at hne
  .simp[hk,zU] at hne
  .simp[hk,zt] at hne
  .simp[hk,zu] at hne
  .simp[hk,Aw] at hne
  .simp[hk,UT] at hne
  all_goals grind [Ot,kC,km,He]
 .rcases ic a with hk|hk|hk|hk|hk|hk|hk|hk|hk|hk|hk|hk|hk
  .simp[hk,vj] at hne
  .simp[hk,kk2] at hne
  .grind [Ot,GB,He]
  .simp[hk,yu] at hne
  .grind [GB,He,Ot.k5]
  .simp[hk,zU] at hne
  .simp[hk,zt] at hne
  all_goals grind [zu,Aw,UT,kC,km,kX]
 .rcases ic a with hk|hk|hk|hk|hk|hk|hk|hk|hk|hk|hk|hk|hk
  .simp[hk,vj] at hne
  .exact He (f.k2 hk).2
  .simp[hk,zS] at hne
  .simp[hk,yu] at hne
  .exact He (f.k5 hk).2
  .simp[hk,zU] at hne
  .simp[hk,zt] at hne
  all_goals grind [zu,Aw,UT,kC,km,kX]
 .rcases ic a with hk|hk|hk|hk|hk|hk|hk|hk|hk|hk|hk|hk|hk
  .simp[hk,vj] at hne
  .simp[hk,kk2] at hne
  .simp[hk,zS] at hne
  .simp[hk,yu] at hne
  .simp[hk,zT] at hne
  .exact He (f.k6 hk).2
  .simp[hk,zt] at hne
  all_goals grind [zu,Aw,UT,kC,km,kX]
 .rcases ic a with hk|hk|hk|hk|hk|hk|hk|hk|hk|hk|hk|hk|hk
  .simp[hk,vj] at hne
  .simp[hk,kk2] at hne
  .simp[hk,zS] at hne
  .simp[hk,yu] at hne
  .simp[hk,zT] at hne
  .simp[hk,zU] at hne
  .simp[hk,zt] at hne
  .simp[hk,zu] at hne
  .exact He (f.k9 hk).2.1
  all_goals grind [UT,kC,km,kX]
 .rcases ic a with hk|hk|hk|hk|hk|hk|hk|hk|hk|hk|hk|hk|hk
  .grind [Ot,Sk,Sl,He]
  .simp[hk,kk2] at hne
  .simp[hk,zS] at hne
  .simp[hk,yu] at hne
  .simp[hk,zT] at hne
  .simp[hk,zU] at hne
  .simp[hk,zt] at hne
  .simp[hk,zu] at hne
  .grind [Sk,Sl,He,Ot.k9]
  all_goals grind [UT,kC,km,kX]
 .grind [Ot,vj,kk2,zS,yu,zT,kW,zt,zu,Aw,UT,kC,km,kX]
 .grind [vj,kk2,zS,yu,zT,zU,kW,Ot.kr,Aw,Ot.k11,Ot.k13]
 grind [Ot,vj,kk2,zS,yu,zT,zU,zt,zu,GC,UT,kC,km,kX]
theorem IZ{b:Hd}(h:yZ b=true):wB b=some true:=by unfold yZ at h;simp only[bA] at h;obtain⟨⟨⟨h1,h2⟩,h3⟩,h4⟩:=h;have e3:WV b.Body=true:=C6 (by have:=DV h3;omega);have e4:WV b.Tag=true:=C6 (by have:=DV h4;omega);grind [wB,rV,GA,GC]
theorem T2(sm:Be o)(h:Ct o=false):FX o=some false:=by
 have n2:=sm.nPath;have a:=sm.nHist;unfold Ct at h;simp only[Bool.or_eq_false_iff] at h;obtain⟨h1,h2,h3,h4⟩:=h;have h3:=Ni h3;have a1:On o.Path (λz=>wE z)=some true:=by grind [S8,wE,ah]
 have a2:On o.Hist (λz=>wF z)=some true:=by grind [S8,wF,ah]
 grind [Be,ah,FX,ib,He]
theorem Ax(x y:Int):f8 x y=some (if x<y then-1 else if y<x then 1 else 0):=by grind [f8,FI]
theorem MV(x y:Nat):fQ x y=some (if x<y then-1 else if y<x then 1 else 0):=by grind [fQ,g9]
theorem CZ{l:Bn}{k:Nat}(hl:l.length<=3)(hk:l[k]?=some (-1))(h:∀j,j<k->l[j]?=some 0):iy l=some (-1):=by
 unfold iy;refine T.eq (.bind ((T.search l (λy=>decide (y≠0)) (λ_ y=>y) aa (λk x hx hk=>?_) ?_).mono ?_))
 .grind [fm,eA,au,aq]
 .unfold fm;rw[eF,Bf]
 .rintro r (⟨rfl,h0⟩|⟨k',x,hx,hp,rfl,h0⟩)
  .have:=h0 (-1) (bO hk);simp at this
  .refine .some ?_;grind
theorem MW{a b:Ab}(h:dt a b=true):pE a b=some true:=by
 unfold pE;rw[Ax,Ax,MV];simp only[aL];unfold dt at h;by_cases h1:a.By=b.By
 .rw[BX (by simp[h1])] at h;by_cases h2:a.Seq=b.Seq
  .rw[BX (by simp[h2])] at h;have h3:=DV h;rw[CZ (k:=2) aC (by simp[h3]) (by grind)];rfl
  .rw[BB h2] at h;have h3:=DV h;rw[CZ (k:=1) aC (by simp[h3]) (by grind)];rfl
 .rw[BB h1] at h;have h3:=DV h;rw[CZ (k:=0) aC (by simp[h3]) (by grind)];rfl
theorem RL(h:Ga o)(sm:Be o):Abd o (pT o.Kind):=by
 have n1:=sm.nPast;have n2:=sm.nPath;have d:=sm.nRefs;have e:=sm.nGuards;have g:=sm.nHist;have i:=sm.nBoxes;have a:=h.kind;have kb:pT o.Kind<1048576:=by rcases ic a with hk|hk|hk|hk|hk|hk|hk|hk|hk|hk|hk|hk|hk<;>simp[hk,vj,kk2,zS,yu,zT,zU,zt,zu,Aw,UT,kC,km,kX]
 have b:=ZD h.bare;have f:=T1 h.numbers;have it:=h.items;unfold yb at it;simp only[bA,GV] at it;obtain⟨j,t2,t3,t4,t5,k⟩:=it;have c:=MU (W9 b);exact{
  lo:=Dl aa
  hi:=Dl aa
  kind:=by rcases ic a with hk|hk|hk|hk|hk|hk|hk|hk|hk|hk|hk|hk|hk<;>(rw[hk];decide)
  kb:=kb
  bits:=by grind [IY,Nat.and_le_right]
  rg:={
   by_:=He f.by_
   seq:=He f.seq
   at_:=He f.at_
   ents:=ZE f a
   guards:=by grind [S8,uR,ib,He]
   refs:=S8 aa λx hx=>by rw[GA];exact congrArg some (C6 (by have:=DV (t2 x hx);omega))
   past:=by grind [S8,pS,kW]
   path:=by grind [S8,Jd.n,Be.path,uP,rV,GC,S8,IZ]
   boxes:=by grind [S8,IZ]
   hist:=by grind [S8,uQ,pS,kW]}
  long:=T2 sm h.long
  nPast:=aa
  nGuards:=aa
  past:=by grind [MW,Ga.past]
  guards:=h.guards
  create:=decide_eq_decide.2 (by have:=h.create;unfold ah;simp_all)}
theorem kY(h:l.length*b<=140737488355328):aT b [] l=some l:=by grind [aT]
theorem I0{x:α}(h:l[k]?=some x):ji l (k:Int) x=some l:=by have hk:=(cr h).1;unfold ji;rw[BB ⟨aa,aa⟩,Fw];congr 1;apply List.ext_getElem?;grind
theorem RM(sm:Be o):pG o=some o:=by
 have n1:=sm.nPast;have n2:=sm.nPath;have b:=sm.nRefs;have c:=sm.nGuards;have d:=sm.nHist;have e:=sm.nBoxes;have f:=sm.nBody;unfold pG cU Fk dK fF dx gt fu;rw[kY aa,kY aa,kY aa,kY aa,kY aa,kY aa,kY aa];simp only[aL];have l0:AH (jD o.Path) (o.Path,0)=some o.Path:=by
  refine T.eq (T.forA o.Path.length (λ_ a=>a=o.Path) aa rfl (λk a hk ha=>?_) λa ha=>?_)
  .subst ha;unfold jD;dsimp only;have hx:=EA hk;have hb:=(sm.path _ (List.getElem_mem hk)).n;rw[eA hk,ax,au,hx,aL];unfold dx;rw[kY aa,aL,aL,I0 hx];exact .some ⟨aq aa,rfl⟩
  .subst ha;unfold jD;dsimp only;rw[eF,Bf];exact .some rfl
 have l1:AH (jC o.Hist) (o.Hist,0)=some o.Hist:=by
  refine T.eq (T.forA o.Hist.length (λ_ a=>a=o.Hist) aa rfl (λk a hk ha=>?_) λa ha=>?_)
  .subst ha;unfold jC;dsimp only;have hx:=EA hk;have hb:=(sm.hist _ (List.getElem_mem hk)).n;rw[eA hk,ax,au,hx,aL];unfold Fk;rw[kY aa,aL,aL,I0 hx];exact .some ⟨aq aa,rfl⟩
  .subst ha;unfold jC;dsimp only;rw[eF,Bf];exact .some rfl
 rw[l0,l1];rfl
def gW(s:OP)(j:Nat):Bool:=match j/64 with
 |0=>s.a0.testBit (j%64)
 |1=>s.a1.testBit (j%64)
 |2=>s.a2.testBit (j%64)
 |3=>s.a3.testBit (j%64)
 |_=>false
theorem xg(h:i<64):(gM a b).testBit i=(a.testBit i||b.testBit i):=by unfold gM;rw[Nat.testBit_or,show(18446744073709551616:Nat)=2^64 from rfl,Nat.testBit_mod_two_pow,Nat.testBit_mod_two_pow];simp[h]
theorem RN(h:i<64):(bD a b).testBit i=(a.testBit i&&b.testBit i):=by unfold bD;rw[Nat.testBit_and,show(18446744073709551616:Nat)=2^64 from rfl,Nat.testBit_mod_two_pow,Nat.testBit_mod_two_pow];simp[h]
theorem Ay(hk:k<64)(h:i<64):(It 1 k).testBit i=decide (k=i):=by unfold It;rw[Nat.min_eq_left aa,Nat.one_mul,show(18446744073709551616:Nat)=2^64 from rfl,Nat.testBit_mod_two_pow,Nat.testBit_two_pow];simp[h]
theorem RP(s t:OP)(j:Nat):gW (RX s t) j=(gW s j||gW t j):=by have h:=Nat.mod_lt j (show 64>0 by decide);unfold gW RX;split<;>first|exact xg h|rfl
theorem T3{s:OP}{n:Nat}(hn:n<256)(hj:j<256):gW (yt s n) j=(gW s j||decide (j=n)):=by
 have h:=Nat.mod_lt j (show 64>0 by decide);have h':=Nat.mod_lt n (show 64>0 by decide);have e:∀q:Nat,n/64=q->j/64=q->decide (n%64=j%64)=decide (j=n):=by grind
 have e':n/64≠j/64->decide (j=n)=false:=by grind
 have h4:n/64=0\/n/64=1\/n/64=2\/n/64=3:=aa;have h5:j/64=0\/j/64=1\/j/64=2\/j/64=3:=aa;unfold gW yt;rcases h4 with e1|e1|e1|e1
 .rcases h5 with e2|e2|e2|e2
  .grind [xg,Ay]
  .grind
  all_goals grind
 .rcases h5 with e2|e2|e2|e2
  .grind
  .grind [xg,Ay]
  all_goals grind
 .rcases h5 with e2|e2|e2|e2
  .grind
  .grind
  .grind [xg,Ay]
  grind
 .rcases h5 with e2|e2|e2|e2
  .grind
  .grind
  .grind
  grind [xg,Ay]
theorem OK(ha:a<18446744073709551616)(h:∀i,i<64->a.testBit i=false):a=0:=by
 apply Nat.eq_of_testBit_eq;intro i;rw[Nat.zero_testBit];rcases JB i 64 with hi|hi
 .exact h i hi
 .exact Nat.testBit_lt_two_pow (Nat.lt_of_lt_of_le ha (Nj (by grind) (Nat.pow_le_pow_right BU hi)))
theorem T4(a b:Nat):bD a b<18446744073709551616:=by grind [bD,Nat.and_le_left]
theorem RQ{p b:OP}(h:∀j,j<256->¬(gW p j=true/\gW b j=true)):ZA p b 4=z4:=by
 have w:∀(q:Nat) (x y:Nat),q<4->(∀i,i<64->gW p (64*q+i)=x.testBit i/\gW b (64*q+i)=y.testBit i)->bD x y=0:=by grind [OK,T4,RN]
 have d:∀(q i:Nat),i<64->(64*q+i)/64=q/\(64*q+i)%64=i:=λq i hi=>aa;show(⟨bD p.a0 b.a0,bD p.a1 b.a1,bD p.a2 b.a2,bD p.a3 b.a3⟩:OP)=⟨0,0,0,0⟩;rw[w 0 p.a0 b.a0 BU λi hi=>by unfold gW;rw[(d 0 i hi).1,(d 0 i hi).2];exact⟨rfl,rfl⟩];rw[w 1 p.a1 b.a1 BU λi hi=>by unfold gW;rw[(d 1 i hi).1,(d 1 i hi).2];exact⟨rfl,rfl⟩];rw[w 2 p.a2 b.a2 BU λi hi=>by unfold gW;rw[(d 2 i hi).1,(d 2 i hi).2];exact⟨rfl,rfl⟩];rw[w 3 p.a3 b.a3 BU λi hi=>by unfold gW;rw[(d 3 i hi).1,(d 3 i hi).2];exact⟨rfl,rfl⟩]
theorem Xa{s:OP}{n:Nat}(hn:n<256):iX s (n:Int)=some (gW s n):=by
 have hd:wI (Int.tdiv (n:Int) 64)=((n/64:Nat):Int):=by grind [bM]
 have ht:Int.tmod (n:Int) 64=((n%64:Nat):Int):=by rw[Int.tmod_eq_emod_of_nonneg aa];rfl
 have hcn:wJ ((n%64:Nat):Int)=some (n%64):=by grind [wJ]
 have h:=Nat.mod_lt n (show 64>0 by decide);have key:∀y:Nat,decide (((bD (JH y (n%64)) 1:Nat):Int)=((1:Nat):Int))=y.testBit (n%64):=by grind [bD,JH]
 unfold iX;rw[hd,ht,hcn,au];have h4:n/64=0\/n/64=1\/n/64=2\/n/64=3:=aa;unfold gW;grind
def lvN(N:I4)(j:Int):Int:=((N[j.toNat]?).map (·.level)).getD 0
def lvF(N:I4)(u:Bn):Int:=u.foldl (λa j=>Fv a (lvN N j+1)) 1
theorem Abf{j:Int}:lvF N (u++[j])=Fv (lvF N u) (lvN N j+1):=by unfold lvF;rw[Om];rfl
theorem Adi{y:C5}(h:∀x∈u,0<=x/\x<(N.length:Int)):lvF (N++[y]) u=lvF N u:=by
 have key:∀(l:Bn) (a:Int),(∀x∈l,0<=x/\x<(N.length:Int))->l.foldl (λa j=>Fv a (lvN (N++[y]) j+1)) a=l.foldl (λa j=>Fv a (lvN N j+1)) a:=by
  intro l;induction l with
  |nil=>exact λa _=>rfl
  |cons x r ih=>
   intro a hh;have e:lvN (N++[y]) x=lvN N x:=by have:=hh x aC;grind [lvN]
   grind
 exact key u 1 h
structure Ou (g:Bc) (m:Jb) (N:I4):Prop where
 len:N.length=g.L.length
 nd:∀(k:Nat) (y:C5),N[k]?=some y->g.L[k]?=some y.o/\g.IDs[k]?=some y.id/\(∀j,j<256->gW y.past j=RU g k j)/\0<=y.level/\y.level<=(k:Int)+1
 get:∀x,m.get x=(bu x g.IDs).map (λn=>(n:Int))
 lv:∀(k:Nat) (y:C5) (u:Bn),N[k]?=some y->g.Up[k]?=some u->y.level=lvF N u
theorem MX{a b:Int}(h1:a<=c)(h2:b<=c):Fv a b<=c:=by unfold Fv;split<;>omega
theorem T5{a b:Int}(h1:c<=a):c<=Fv a b:=by unfold Fv;split<;>omega
theorem ZF{up:Bn}(w:G9 g)(pg:Ou g m N)(a:R8 g o up)(sm:Be o):T (AH (Z6 m N o.Past) (z4,z4,0,1,0)) λr=>(∀j:Nat,j<256->(gW r.1 j=true↔(j:Int)∈up))/\(∀j:Nat,j<256->(gW r.2.1 j=true↔∃n:Nat,(n:Int)∈up/\RU g n j=true))/\r.2.2.1<=o.At/\0<=r.2.2.2/\r.2.2.2<=(N.length:Int)+1/\r.2.2.2=lvF N up:=by
 have f:=T1 a.check.numbers;have n1:=sm.nPast;have nL:=w.nL;have nI:=w.nI;have pl:=pg.len;refine T.loop (λs=>∃k:Nat,s.2.2.2.2=(k:Int)/\k<=o.Past.length/\(∀j:Nat,j<256->(gW s.1 j=true↔∃i,i<k/\up[i]?=some (j:Int)))/\(∀j:Nat,j<256->(gW s.2.1 j=true↔∃i n:Nat,i<k/\up[i]?=some (n:Int)/\RU g n j=true))/\s.2.2.1<=o.At/\0<=s.2.2.2.1/\s.2.2.2.1<=(N.length:Int)+1/\s.2.2.2.1=lvF N (up.take k)) (λs=>o.Past.length-s.2.2.2.2.toNat) ⟨0,rfl,aa,λj hj=>?_,λj hj=>?_,f.at_.1,BU,by show(1:Int)<=_;omega,rfl⟩ (by show o.Past.length-_<_;omega) ?_
 .grind [gW]
 .grind [gW]
 rintro⟨p,b,z,lev,i⟩ ⟨k,rfl,hk,q1,h,c,d,e,t⟩;dsimp only at q1 h c d e t;unfold Z6;dsimp only;refine .dec (λhlt=>?_) λhge=>?_
 .unfold ah at hlt;have hk2:k<o.Past.length:=aa;have hx:=EA hk2;obtain⟨n,hn,hu⟩:=a.par k _ hx;have eg:m.get o.Past[k]=some (n:Int):=by rw[pg.get,hn];rfl
  have hnl:n<g.IDs.length:=(cr (gb hn).1).1;have hy:N[n]?=some (N[n]'aa):=EA _;obtain⟨l,u,q,v,x⟩:=pg.nd n _ hy;generalize N[n]'aa=y at hy l u q v x;have hmem:(n:Int)∈up:=bO hu;have hat:=a.late n _ hmem l;have ew:wI (y.level+1)=y.level+1:=bM aa aa;rw[au,hx,aL,eg];dsimp only[Nt];rw[au,hy,aL,ew,aq aa];refine .some ⟨⟨k+1,rfl,aa,λj hj=>?_,λj hj=>?_,MX c hat,T5 d,MX e aa,?_⟩,?_⟩
  .dsimp only;rw[Fw,T3 aa hj,Bool.or_eq_true,q1 j hj,decide_eq_true_eq];grind
  .dsimp only;rw[RP,Bool.or_eq_true,h j hj,q j hj];grind
  all_goals grind [JD,lvN,Abf]
 .unfold ah at hge;obtain rfl:k=o.Past.length:=aa;have ul:=a.upl;refine .some ⟨λj hj=>?_,λj hj=>?_,c,d,e,by grind⟩;all_goals grind [Gu]
def RR(g:Bc)(o:Bo)(r:List Bool):Prop:=(∀(k:Nat) (p:Bo),g.L[k]?=some p->r[k]?=some true->p.By=o.By->p.Seq<o.Seq)/\(o.Seq=1\/∃(k:Nat) (p:Bo),g.L[k]?=some p/\r[k]?=some true/\p.By=o.By/\p.Seq=wI (o.Seq-1))
theorem Xb(w:G9 g){o:Bo}(hr:r.length=g.L.length):T (lA g o r) λv=>v=true->RR g o r:=by
 have nL:=w.nL;unfold lA;refine .bind (T.forA g.L.length (λk b=>(∀(j:Nat) (p:Bo),j<k->g.L[j]?=some p->r[j]?=some true->p.By=o.By->p.Seq<o.Seq)/\(b=true->∃(j:Nat) (p:Bo),g.L[j]?=some p/\r[j]?=some true/\p.By=o.By/\p.Seq=wI (o.Seq-1))) aa (by grind) (λk b hk a=>?_) λb a=>?_)
 .have hp:=EA hk;obtain⟨x,hx⟩:∃x,r[k]?=some x:=⟨_,EA aa⟩;generalize g.L[k]=p at hp;have more:∀(c:Prop),(c->p.Seq<o.Seq)->((r[k]?=some true/\p.By=o.By)->c)->∀(j:Nat) (q:Bo),j<k+1->g.L[j]?=some q->r[j]?=some true->q.By=o.By->q.Seq<o.Seq:=by grind
  unfold jK;dsimp only;rw[eA hk,ax,au,au,hx,hp];simp only[aL];cases x with
  |false=>exact .some (by constructor<;>grind [aq])
  |true=>
   simp only[Bool.not_true,Bf,aL];by_cases hb:p.By=o.By
   .rw[Dl (by grind),Bf];refine .dec (λhs=> .some (.some λh=>by cases h)) λhs=>?_;have hm:=more True (λ_=>aa) λ_=>trivial;cases b with
    |true=>exact .some ⟨aq aa,hm,a.2⟩
    |false=>exact .some (by constructor<;>grind [aq])
   .rw[C6 hb,ax];exact .some (by constructor<;>grind [aq])
 .unfold jK;dsimp only;rw[eF,Bf];refine .some ?_;show T (ma _ _ _) _;dsimp only[ma];have h1:∀(k:Nat) (p:Bo),g.L[k]?=some p->r[k]?=some true->p.By=o.By->p.Seq<o.Seq:=by grind
  by_cases hs:o.Seq=1
  .rw[C6 hs];exact .some λ_=>⟨h1,.inl hs⟩
  .rw[Dl hs];exact .some λhb=>⟨h1,.inr (a.2 hb)⟩
theorem ZG{A:OP}(w:G9 g)(pg:Ou g m N)(f:Ot o)(hA:∀j:Nat,j<g.L.length->(gW A j=true↔r[j]?=some true))(hR:RR g o r):T (AH (Z7 N o A) (0,false,0)) λv=>v.1<o.Seq/\(1<o.Seq->v.2=true):=by
 have nL:=w.nL;have pl:=pg.len;have fs:=f.seq;refine T.loop (λs=>∃k:Nat,s.2.2=(k:Int)/\k<=N.length/\s.1<o.Seq/\∀(j:Nat) (p:Bo),j<k->g.L[j]?=some p->r[j]?=some true->p.By=o.By->p.Seq=wI (o.Seq-1)->s.2.1=true) (λs=>N.length-s.2.2.toNat) ⟨0,rfl,aa,by show(0:Int)<_;omega,λj p hj=>absurd hj (Nat.not_lt_zero _)⟩ (by show N.length-_<_;omega) ?_;rintro⟨la,b,i⟩ ⟨k,rfl,hk,q1,e⟩;dsimp only at q1 e;unfold Z7;dsimp only;refine .dec (λhlt=>?_) λhge=>?_
 .unfold ah at hlt;have hk2:k<N.length:=aa;have hy:=EA hk2;obtain⟨c,_⟩:=pg.nd k _ hy;generalize N[k]=y at hy c;rw[au,hy,aL,aq aa];have dn:N.length-(((k+1:Nat):Int)).toNat<N.length-((k:Int)).toNat:=aa;have more:∀a:Bool,(b=true->a=true)->(r[k]?=some true->y.o.By=o.By->y.o.Seq=wI (o.Seq-1)->a=true)->∀(j:Nat) (p:Bo),j<k+1->g.L[j]?=some p->r[j]?=some true->p.By=o.By->p.Seq=wI (o.Seq-1)->a=true:=λa h1 h2 j p hj hp h3 h4 h5=>by
   rcases JB j k with hjk|hjk
   .exact h1 (e j p hjk hp h3 h4 h5)
   .obtain rfl:j=k:=aa;rw[c] at hp;cases hp;exact h2 h3 h4 h5
  refine .dec (λhb=>?_) λhb=> .some ⟨⟨k+1,rfl,aa,q1,more b id λ_ h=>absurd h hb⟩,dn⟩;rw[Xa aa,aL];refine .ite (λhh=>?_) λhh=> .some ⟨⟨k+1,rfl,aa,q1,more b id λh=>?_⟩,dn⟩
  .have d:=(hA k aa).1 hh;refine .some ⟨⟨k+1,rfl,aa,?_,more _ (λh=>by rw[h];rfl) λ_ _ h=>by rw[C6 h];cases b<;>rfl⟩,dn⟩;have:=hR.1 k _ c d hb;grind [Fv]
  .rw[(hA k aa).2 h] at hh;cases hh
 .unfold ah at hge;refine .some ⟨q1,λh1=>?_⟩;rcases hR.2 with h|⟨j,p,h2,h3,h4,h5⟩
  all_goals grind
theorem ye{a b:Ab}:dt a b=true↔a.By<b.By\/(a.By=b.By/\(a.Seq<b.Seq\/(a.Seq=b.Seq/\a.Sum<b.Sum))):=by grind [dt]
def rN(a b:Ab):Prop:=dt b a=false
theorem KG{a b c:Ab}(h1:rN a b)(h2:rN b c):rN a c:=by grind [rN,ye]
theorem F9{a b:Ab}(h:dt a b=true):rN a b:=by grind [rN,ye]
theorem Cy{x:α}:(l.take k++[x]++l.drop k).Perm (l++[x]):=by grind [List.perm_append_comm,Pw]
theorem kg{l:Ba}(hl:l.length<=1000000):T (iu l) λr=>r.Perm l/\r.Pairwise rN:=by
 unfold iu;refine .bind (T.forA l.length (λk acc=>acc.Perm (l.take k)/\acc.Pairwise rN) aa (by simp_all) (λk acc hk hj=>?_) λacc hj=>?_)
 .obtain⟨x,hx⟩:∃x,l[k]?=some x:=by simp_all
  have ha:acc.length<=1000000:=by have:=hj.1.length_eq;grind
  unfold oZ;dsimp only;rw[eA hk,ax];refine .bind (T.mono (Q:=λq:Int=>∃n:Nat,q=(n:Int)/\n<=acc.length/\(∀(j:Nat) (y:Ab),n<=j->acc[j]?=some y->dt x y=true)/\∀(y:Ab),0<n->acc[n-1]?=some y->dt x y=false) (T.loop (λq=>∃n:Nat,q=(n:Int)/\n<=acc.length/\∀(j:Nat) (y:Ab),n<=j->acc[j]?=some y->dt x y=true) (λq=>q.toNat) ⟨acc.length,rfl,Dk _,(by grind)⟩ (by unfold ah;omega) ?_) ?_)
  .rintro q ⟨n,rfl,hn,b⟩;unfold vB;dsimp only;refine .dec (λh0=>?_) λh0=> .some ⟨n,rfl,hn,b,(by grind)⟩;obtain⟨y,hy⟩:∃y,acc[n-1]?=some y:=by grind
   rw[au,hx,aL,F7 aa aa,au,hy,aL,pJ,aL];refine .ite (λhf=> .some ⟨n,rfl,hn,b,(by grind)⟩) λht=> .some (by constructor<;>grind);all_goals grind
  .rintro q ⟨n,rfl,hn,h1,h2⟩;refine .bind (.pre aa aa (.bind (.app cq ?_)));rw[au,hx,aL];refine .bind (.app cq (.bind (.suf aa aa (.bind (.app cq (.some ⟨aq aa,?_,?_⟩))))))
   .grind [Cy,JD]
   .show([]++acc.take (n:Int).toNat++[x]++acc.drop (n:Int).toNat).Pairwise rN;rw[Px,Fw];have hp:=hj.2;rw[<-Pw n acc,List.pairwise_append] at hp;obtain⟨c,d,e⟩:=hp;have low:∀a∈acc.take n,rN a x:=by grind [rN,Gu,List.pairwise_iff_getElem,KG]
    grind [Gu,F9]
 .unfold oZ;dsimp only;rw[eF,Bf];refine .some (.some ?_);grind
theorem Cz(w:G9 g):T (xt g) λr=>r.Perm g.IDs/\r.Pairwise rN:= .bind (by grind [T.mono,kg,G9.nI,G9.nL,T.some])
def uX(g:Bc)(ids:Ba)(k:Nat):Prop:=∃x∈ids,∃n,bu x g.IDs=some n/\RU g n k=true
theorem EB(w:G9 g)(hl:ids.length<=1000):T (r9 g ids) λr=>r.Nodup/\(∀x,x∈r↔∃k,g.IDs[k]?=some x/\uX g ids k)/\r.Pairwise rN/\r.length<=g.L.length:=by
 have nL:=w.nL;have nI:=w.nI;unfold r9;refine .bind (T.forA g.L.length (λk acc=>acc.length<=k/\acc.Nodup/\∀x,x∈acc↔∃j,j<k/\g.IDs[j]?=some x/\uX g ids j) aa ⟨aC,aC,λx=>aC⟩ (λk acc hk hj=>?_) λacc hj=>?_)
 .obtain⟨y,hy⟩:∃y,g.IDs[k]?=some y:=⟨_,EA aa⟩;unfold t8;dsimp only;rw[eA hk,ax];refine .bind (T.mono (Q:=λb:Bool=>b=true↔uX g ids k) (T.forA ids.length (λm b=>b=true↔∃(j:Nat) (x:Ab) (n:Nat),j<m/\ids[j]?=some x/\bu x g.IDs=some n/\RU g n k=true) aa aC (λm b hm hjm=>?_) λb hjm=>?_) λb hb=>?_)
  .obtain⟨x,hx⟩:∃x,ids[m]?=some x:=⟨_,EA hm⟩;unfold t7;dsimp only;rw[eA hm,ax,au,hx,aL,dC aa,aL];refine .bind (T.mono (Q:=λc:Bool=>c=true↔(b=true\/∃n,bu x g.IDs=some n/\RU g n k=true)) ?_ λc hc=> .some ⟨aq aa,?_⟩)
   .refine .ite (λhb=> .some (by simp[hb])) λhb=>?_;unfold gO;cases hkx:bu x g.IDs with
    |none=>grind [T.some]
    |some n=>
     have hn:n<g.L.length:=by have:=(cr (gb hkx).1).1;omega
     grind [G9,Fv,au,T.some,wO]
   grind
  .unfold t7;dsimp only;rw[eF,Bf];refine .some ?_;show b=true↔_;rw[hjm];constructor
   .rintro⟨j,x,n,_,h2,h3,h4⟩;exact⟨x,bO h2,n,h3,h4⟩
   .rintro⟨x,hx,n,h3,h4⟩;grind [Gu]
  .refine .ite (λhbt=>?_) λhbf=> .some ⟨aq aa,by show acc.length<=k+1;have:=hj.1;omega,hj.2.1,λx=>?_⟩
   .have hin:=hb.1 hbt;rw[au,hy,aL];have hny:y∉acc:=λhm=>by obtain⟨j,h1,h2,_⟩:=(hj.2.2 y).1 hm;have:=(List.getElem?_inj (show j<g.IDs.length by omega) w.nd).1 (h2.trans hy.symm);omega
    refine .bind (.app (by grind) (.some ⟨aq aa,by simp;exact hj.1,?_,λx=>?_⟩));all_goals grind
   .show x∈acc↔_;rw[hj.2.2 x];constructor
    .rintro⟨j,h1,h2⟩;exact⟨j,aa,h2⟩
    .rintro⟨j,h1,h2,h3⟩;rcases JB j k with hlt|hge
     .exact⟨j,hlt,h2,h3⟩
     .obtain rfl:j=k:=aa;rw[hb.2 h3] at hbf;cases hbf
 .unfold t8;dsimp only;rw[eF,Bf];refine .some (.bind ((kg (by grind)).mono λr hr=> .some ⟨hr.1.nodup_iff.2 hj.2.1,λx=>?_,hr.2,by rw[hr.1.length_eq];exact hj.1⟩));rw[hr.1.mem_iff,hj.2.2 x];constructor
  .rintro⟨j,_,h2⟩;exact⟨j,h2⟩
  .rintro⟨j,h2,h3⟩;exact⟨j,by have:=(cr h2).1;omega,h2,h3⟩
structure Fm (g:Bc) (r:Ba):Prop where
 sub:∀x∈r,x∈g.IDs
 len:r.length<=1000
theorem Si(z:Int):c8 (wI z):=by grind [c8,wI,IntKind.wrap_i64]
theorem nD(h:gU o=true):(1<=o.By/\o.By<=12)/\(1<=o.Seq/\o.Seq<=2147483647)/\0<=o.At/\o.At<=2147483647:=by have e:=jF o;rw[h] at e;unfold Gb at e;simp only[gT,aL] at e;grind
theorem l8(h:gU o=true)(hk:o.Kind=9):1<=o.Need/\o.Need<=(o.Guards.length:Int):=by obtain⟨h1,h2,h3⟩:=nD h;have e:=jF o;rw[h] at e;unfold Gb at e;simp only[gT,aL,hk,C6 h1,C6 h2,C6 h3] at e;grind [ah]
theorem G9.name{g:Bc}(w:G9 g){x:Ab}(h:x∈g.IDs):∃i o,g.IDs[i]?=some x/\g.L[i]?=some o/\bu x g.IDs=some i/\i<g.L.length/\Ko x/\x.By=o.By/\x.Seq=o.Seq/\Be o/\Ga o:=by have nI:=w.nI;obtain⟨i,hi⟩:=Gu h;have hlt:=(cr hi).1;obtain⟨o,ho,so,a⟩:=w.op (i:=i) aa;obtain⟨y,e,h1,h2,_,h4⟩:=wN so;grind [ids,y0,List.getElem?_inj,nd]
theorem G9.place{g:Bc}(w:G9 g){x:Ab}(h:0<=gO g x):∃i o,gO g x=(i:Nat)/\g.IDs[i]?=some x/\g.L[i]?=some o/\x∈g.IDs/\Be o/\Ga o:=by
 have nI:=w.nI;unfold gO at h⊢;cases hk:bu x g.IDs with
 |none=>rw[hk] at h;simp at h
 |some i=>have hi:=(gb hk).1;grind [op]
theorem lj:0<=gO g x↔x∈g.IDs:=by grind [gO,jv]
theorem EC{α:Type}[DecidableEq α]:∀{l m:List α},l.Nodup->(∀x∈l,x∈m)->l.length<=m.length
 |[],_,_,_=>aC
 |x::r,m,h,hs=>by have hx:=hs x aC;have h2:=M0.1 h;have:=EC (l:=r) (m:=m.erase x) h2.2 (by grind);grind
theorem yf(w:G9 g){ids:Ba}(hl:ids.length<=1000):T (M4 g ids) λr=>Fm g r/\r.Nodup/\(∀x,x∈r↔(∃k,g.IDs[k]?=some x/\uX g ids k)\/x∈ids/\x∈g.IDs)/\r.Pairwise rN:=by
 have nL:=w.nL;have nI:=w.nI;unfold M4;refine .bind ((EB w aa).mono λv1 h1=>?_);obtain⟨b,a,c,d⟩:=h1;refine .bind (T.forA ids.length (λk acc=>acc.length<=v1.length+k/\acc.Nodup/\∀x,x∈acc↔x∈v1\/∃j,j<k/\ids[j]?=some x/\x∈g.IDs) aa (by grind) (λk acc hk hj=>?_) λacc hj=>?_)
 .obtain⟨y,hy⟩:∃y,ids[k]?=some y:=⟨_,EA hk⟩;unfold Sc;dsimp only;rw[eA hk,ax,au,hy];simp only[aL];rw[dC aa,aL,kf aa];simp only[aL];rw[cL,aL];refine .ite (λhb=>?_) λhb=> .some ⟨aq aa,by grind,hj.2.1,λx=>?_⟩
  .by_cases hp:0<=gO g y
   .rw[C6 hp,ax] at hb;have hny:y∉acc:=by grind [nA]
    refine .bind (.app cq (.some ⟨aq aa,by grind,?_,λx=>?_⟩))
    .grind
    grind [lj]
   grind
  grind [lj,nA]
 .unfold Sc;dsimp only;rw[eF,Bf];refine .some (.bind ((kg aa).mono λr hr=>?_));have key:∀x,x∈r↔(∃k,g.IDs[k]?=some x/\uX g ids k)\/x∈ids/\x∈g.IDs:=λx=>by rw[hr.1.mem_iff,hj.2.2 x,a x];grind [Gu]
  have hsub:∀x∈r,x∈g.IDs:=by grind
  have hnd:r.Nodup:=hr.1.nodup_iff.2 hj.2.1;exact .some ⟨⟨hsub,by have:=EC hnd hsub;omega⟩,hnd,key,hr.2⟩
theorem KH(w:G9 g)(hl:ids.length<=1000):T (qL g ids) λr=>Fm g r/\r.Nodup/\(∀x,x∈r↔x∈ids/\x∈g.IDs/\¬∃k,g.IDs[k]?=some x/\uX g ids k)/\r.Pairwise rN:=by
 have nL:=w.nL;have nI:=w.nI;unfold qL;refine .bind ((EB w aa).mono λv1 h1=>?_);obtain⟨c,a,d,f⟩:=h1;refine .bind (T.forA ids.length (λk acc=>acc.length<=k/\acc.Nodup/\∀x,x∈acc↔∃j,j<k/\ids[j]?=some x/\x∈g.IDs/\x∉v1) aa ⟨aC,aC,λx=>aC⟩ (λk acc hk hj=>?_) λacc hj=>?_)
 .obtain⟨y,hy⟩:∃y,ids[k]?=some y:=⟨_,EA hk⟩;unfold qK;dsimp only;rw[eA hk,ax,au,hy];simp only[aL];rw[dC aa,aL,kf aa,kf aa];simp only[aL];rw[cL,cL,aL];have m1:nA v1 y=true↔y∈v1:=by
   constructor
   .intro h;obtain⟨z,hz,e⟩:=List.any_eq_true.1 h;rw[DV e] at hz;exact hz
   .intro h;exact List.any_eq_true.2 ⟨y,h,aC⟩
  have m2:nA acc y=true↔y∈acc:=by
   constructor
   .intro h;obtain⟨z,hz,e⟩:=List.any_eq_true.1 h;rw[DV e] at hz;exact hz
   .intro h;exact List.any_eq_true.2 ⟨y,h,aC⟩
  have hc:∀b:Bool,(bif 0<=gO g y then bif !nA v1 y then !nA acc y else false else false)=b->(b=true↔y∈g.IDs/\y∉v1/\y∉acc):=λb hb=>by rw[<-hb,<-lj,<-m1,<-m2];by_cases q1:0<=gO g y<;>cases nA v1 y<;>cases nA acc y<;>simp[q1]
  refine .ite (λhb=>?_) λhb=> .some ⟨aq aa,by show acc.length<=k+1;omega,hj.2.1,λx=>?_⟩
  .obtain⟨q1,i,l⟩:=(hc true hb).1 rfl;refine .bind (.app cq (.some ⟨aq aa,by grind,?_,λx=>?_⟩));all_goals grind
  .have q:=hc false hb;show x∈acc↔_;rw[hj.2.2 x];constructor
   .rintro⟨j,h1,h2⟩;exact⟨j,aa,h2⟩
   .rintro⟨j,h1,h2,h3,h4⟩;rcases JB j k with hlt|hge
    .exact⟨j,hlt,h2,h3,h4⟩
    .obtain rfl:j=k:=aa;rw[hy] at h2;cases h2;by_cases hm:y∈acc
     .exact(hj.2.2 y).1 hm
     .have:=q.2 ⟨h3,h4,hm⟩;cases this
 .unfold qK;dsimp only;rw[eF,Bf];refine .some (.bind ((kg aa).mono λr hr=>?_));have key:∀x,x∈r↔x∈ids/\x∈g.IDs/\¬∃k,g.IDs[k]?=some x/\uX g ids k:=λx=>by rw[hr.1.mem_iff,hj.2.2 x,<-a x];grind [Gu]
  grind [T.some,Fm,List.Perm.length_eq]
theorem QH(w:G9 g)(h:Fm g ids)(d:Int):T (Fc g ids d) λn=>1<=n/\n<=2147483648:=by
 have hl:=h.len;unfold Fc;refine .bind (T.forA ids.length (λ_ n=>0<=n/\n<=2147483647) aa ⟨BU,BU⟩ (λk n hk hj=>?_) λn hj=>?_)
 .obtain⟨y,hy⟩:∃y,ids[k]?=some y:=⟨_,EA hk⟩;obtain⟨i,o,_,_,_,_,_,_,e,_,a⟩:=w.name (h.sub y (bO hy));have:=(nD a.numbers).2.1;unfold xu;dsimp only;rw[eA hk,ax,au,hy];simp only[aL];refine .dec (λ_=> .some ⟨aq aa,?_⟩) λ_=> .some ⟨aq aa,hj⟩;grind [Fv]
 .unfold xu;dsimp only;rw[eF,Bf];refine .some (.some ?_);grind [bM]
theorem N0(w:G9 g)(hl:ids.length<=1000):T (z8 g ids) λn=>0<=n/\n<=2147483647:=by
 have nL:=w.nL;have nI:=w.nI;unfold z8;refine .bind (T.forA ids.length (λ_ n=>0<=n/\n<=2147483647) aa ⟨BU,BU⟩ (λk n hk hj=>?_) λn hj=>?_)
 .obtain⟨y,hy⟩:∃y,ids[k]?=some y:=⟨_,EA hk⟩;unfold ue;dsimp only;rw[eA hk,ax,au,hy,aL,dC aa,aL];refine .dec (λhp=>?_) λ_=> .some ⟨aq aa,hj⟩;obtain⟨i,o,e,_,ho,_,_,a⟩:=w.place hp;have:=(nD a.numbers).2.2;rw[e,au,ho,aL];refine .some ⟨aq aa,?_⟩;grind [Fv]
 .unfold ue;dsimp only;rw[eF,Bf];exact .some (.some hj)
theorem eX{m:Int}(h:c8 n)(hm:0<m):T (iq n m) λv=>0<=v/\v<m:=by obtain⟨h1,h2⟩:=h;grind [iq,T.rem,bM,Int.tmod_nonneg,Int.tmod_lt_of_pos]
def zId:Ab:=⟨0,0,0⟩
def Ys:Bo:=⟨0,0,0,0,[],0,0,0,0,[],⟨0,0,0⟩,0,[],[],⟨0,0,0⟩,[],0,0,[],0,[],⟨0,0⟩⟩
theorem dP:c8 0:=by unfold c8;omega
theorem pM:Ko ⟨0,0,0⟩:=⟨dP,dP,by show(0:Nat)<_;omega⟩
theorem Wd:Be Ys:=by constructor<;>first|exact pM|(unfold Ys;simp;done)|(intro z hz;simp[Ys] at hz;subst hz;exact dP)|(show fS 0;unfold fS;omega)
theorem zb(w:G9 g)(h:Fm g ids)(kd:Int):T (nS g ids kd) λr=>(r.1=zId/\r.2=Ys)\/(r.1∈ids/\Be r.2/\Ga r.2/\r.2.Kind=kd):=by
 have nL:=w.nL;have nI:=w.nI;have hl:=h.len;have e0:wI (ah g.L-1)=(g.L.length:Int)-1:=by grind [bM,ah]
 unfold nS;rw[e0];refine .bind (T.loop (λs=>s.1=zId/\s.2.1=Ys∧-1<=s.2.2/\s.2.2<g.L.length) (λs=>(s.2.2+1).toNat) ⟨rfl,rfl,by simp only;omega,by simp only;omega⟩ (by simp only;omega) ?_);rintro⟨a,b,i⟩ ⟨rfl,rfl,c,i1⟩;simp only at c i1;unfold vC;dsimp only;refine .dec (λhi=>?_) λhi=> .some (.some (.inl ⟨rfl,rfl⟩));obtain⟨n,rfl⟩:∃n:Nat,i=(n:Int):=⟨i.toNat,aa⟩;obtain⟨o,ho,so,d⟩:=w.op (i:=n) aa;obtain⟨x,hx⟩:∃x,g.IDs[n]?=some x:=⟨_,EA aa⟩;have ew:wI ((n:Int)-1)=(n:Int)-1:=bM aa aa;rw[au,ho,aL,au,hx];simp only[aL];rw[kf aa];simp only[aL];rw[cL,aL];refine .ite (λhb=> .some (.some (.inr ?_))) λhb=> .some ⟨⟨rfl,rfl,?_,?_⟩,?_⟩
 .by_cases hk:o.Kind=kd
  .rw[C6 hk,ax] at hb;obtain⟨z,hz,e⟩:=List.any_eq_true.1 hb;grind
  grind
 all_goals grind
theorem yg{n:Int}(h1:n<=1000):T (o4 n) λr=>r.length<=1000/\(r.length:Int)=(if n<0 then 0 else n)/\∀x∈r,Fs x:=by
 unfold o4;refine .bind (T.forA n.toNat (λk acc=>acc.length=k/\∀x∈acc,Fs x) aa ⟨rfl,aC⟩ (λk acc hk hj=>?_) λacc hj=>?_)
 .unfold uc;dsimp only;rw[C6 (show(k:Int)<n by omega),ax];refine .bind (.app cq (.some ⟨aq aa,by simp;exact hj.1,λx hx=>?_⟩));grind [Fs,fS,Mp]
 .unfold uc;dsimp only;rw[Dl (by grind),Bf];refine .some (.some ⟨aa,?_,hj.2⟩);split<;>omega
theorem zc(w:G9 g)(d:Int):T (nT g d) λm=>c8 m:=by grind [G9.nC,nT,Cw,T.some,dP,mZ,G9.cards]
theorem ED(w:G9 g)(d:Int)(h:0<=n/\n<=1000000):T (SC g d n) λr=>Fm g r:=by
 have nL:=w.nL;have nI:=w.nI;unfold SC;refine .bind ((Cz w).mono λv1 hv1=>?_);have i1:Fm g v1:=by grind [Fm,List.Perm.length_eq]
 refine .bind (T.mono (Q:=λx:Int=> -1<=x/\x<g.L.length) (T.forA g.L.length (λ_ x=> -1<=x/\x<g.L.length) aa ⟨BU,aa⟩ (λk x hk hj=>?_) λx hj=>?_) λa h4=>?_)
 .obtain⟨o,ho,_⟩:=w.op hk;unfold ub;dsimp only;rw[eA hk,ax,au,ho,aL];exact .dec (λ_=> .some (by constructor<;>grind [aq])) λ_=> .some ⟨aq aa,hj⟩
 .unfold ub;dsimp only;rw[eF,Bf];exact .some hj
 .rw[cL,aL];refine .ite (λhb=>?_) λhb=>?_
  .have hx:0<a:=by grind
   obtain⟨k,rfl⟩:∃k:Nat,a=(k:Int):=⟨a.toNat,aa⟩;obtain⟨o,ho,so,b⟩:=w.op (i:=k) aa;rw[au,ho,aL];exact .bind (by grind [T.mono,yf,pK,Ga.long,T.some])
  .rw[cL,aL];refine .ite (λ_=> .some i1) λhb2=>?_;have hx:0<=a:=by grind
   obtain⟨k,rfl⟩:∃k:Nat,a=(k:Int):=⟨a.toNat,aa⟩;obtain⟨y,hy⟩:∃y,g.IDs[k]?=some y:=⟨_,EA aa⟩;rw[au,hy,aL];have e3:wI (n.tdiv 3)=n.tdiv 3:=by grind [bM]
   rw[e3];refine .bind (.rem (by unfold ah;omega) ?_);have q0:0<=(n.tdiv 3).tmod (ah g.IDs):=Int.tmod_nonneg _ (Int.tdiv_nonneg h.1 BU);have q1:(n.tdiv 3).tmod (ah g.IDs)<ah g.IDs:=Int.tmod_lt_of_pos _ (by unfold ah;omega);refine .bind (.ixl q0 (by unfold ah at q1;exact q1) λz _ _=>?_);exact .bind (by grind [T.mono,yf,T.some])
def il{α:Type}(p:α->Prop)(l:List α):Prop:=l.length<=1000/\∀x∈l,p x
theorem ay{p:α->Prop}:il p []:=⟨aC,aC⟩
theorem Hg(h1:c8 o.By)(h2:c8 o.Seq)(h3:c8 o.Kind)(h4:c8 o.At)(h5:il Ko o.Past)(h6:c8 o.Device)(h7:c8 o.Old)(h8:c8 o.Member)(h9:c8 o.Role)(h10:il Jd o.Path)(h11:Ko o.Epoch)(h12:c8 o.N)(h13:o.Body.length<=1000)(h14:il fS o.Refs)(d:Ko o.Of)(a:il c8 o.Guards)(f:c8 o.Need)(g:c8 o.Wait)(b:il Fs o.Boxes)(e:fS o.Pub)(c:il Hr o.Hist):Be o:=by refine⟨λz hz=>?_,h5.1,h5.2,h10.1,h10.2,h11,h13,h14.1,h14.2,d,a.1,a.2,b.1,b.2,e,c.1,c.2⟩;simp only[EG,K3,or_false] at hz;rcases hz with rfl|rfl|rfl|rfl|rfl|rfl|rfl|rfl|rfl|rfl|rfl<;>assumption
theorem Be.iBy{o:Bo}(h:Be o):c8 o.By:=h.ints _ aC
theorem Be.iSeq{o:Bo}(h:Be o):c8 o.Seq:=h.ints _ aC
theorem Be.iKind{o:Bo}(h:Be o):c8 o.Kind:=h.ints _ aC
theorem Be.iAt{o:Bo}(h:Be o):c8 o.At:=h.ints _ aC
theorem Be.iDevice{o:Bo}(h:Be o):c8 o.Device:=h.ints _ aC
theorem Be.iOld{o:Bo}(h:Be o):c8 o.Old:=h.ints _ aC
theorem Be.iMember{o:Bo}(h:Be o):c8 o.Member:=h.ints _ aC
theorem Be.iRole{o:Bo}(h:Be o):c8 o.Role:=h.ints _ aC
theorem Be.iN{o:Bo}(h:Be o):c8 o.N:=h.ints _ aC
theorem Be.iNeed{o:Bo}(h:Be o):c8 o.Need:=h.ints _ aC
theorem Be.iWait{o:Bo}(h:Be o):c8 o.Wait:=h.ints _ aC
theorem Be.sPast{o:Bo}(h:Be o):il Ko o.Past:=⟨h.nPast,h.past⟩
theorem Be.sRefs{o:Bo}(h:Be o):il fS o.Refs:=⟨h.nRefs,h.refs⟩
theorem Be.sGuards{o:Bo}(h:Be o):il c8 o.Guards:=⟨h.nGuards,h.guards⟩
theorem Be.sBoxes{o:Bo}(h:Be o):il Fs o.Boxes:=⟨h.nBoxes,h.boxes⟩
theorem Be.sHist{o:Bo}(h:Be o):il Hr o.Hist:=⟨h.nHist,h.hist⟩
theorem Be.nopath{o:Bo}(h:Be o):Be {o with Path:=[]}:=by grind [Hg,iBy,iSeq,iKind,iAt,sPast,iDevice,iOld,iMember,iRole,ay,epoch,iN,nBody,sRefs,of_,sGuards,iNeed,iWait,sBoxes,pub,sHist]
theorem m7(h: -1000000<=n/\n<=1000000):c8 n:=by unfold c8;omega
theorem Fm.smid{g:Bc}(w:G9 g){ids:Ba}(h:Fm g ids){x:Ab}(hx:x∈ids):Ko x:=by grind [Fm,G9.name]
theorem Ir(w:G9 g)(h:Fm g ids)(so:Be o)(hn:0<=n/\n<=1000000):T (sc g ids o n) λr=>Be r:=by
 unfold sc;refine .bind ((zb w h 9).mono λv1 hv=>?_);have s1:Ko v1.1:=by
  rcases hv with⟨e,_⟩|⟨e,_⟩
  .rw[e];exact pM
  .exact h.smid w e
 have s2:Be v1.2:=by grind [Wd]
 rw[cL,aL,cL,aL];have e16:wI (n.tdiv 16)=n.tdiv 16:=by grind [bM]
 have e32:wI (n.tdiv 32)=n.tdiv 32:=by grind [bM]
 refine .dec (λh9=>?_) λh9=>?_
 ·
  refine .bind (T.mono (Q:=λx:Bn=>x.length<=4/\∀z∈x,c8 z) (T.loop (λs=>1<=s.2/\s.2<=5/\(s.1.length:Int)<=s.2-1/\∀z∈s.1,c8 z) (λs=>(5-s.2).toNat) (by grind) BU ?_) λm hx=>?_)
  .rintro⟨acc,i⟩ ⟨i1,p,q,f⟩
   simp only at i1 p q f
   have ei:wI (i+1)=i+1:=bM aa aa
   unfold vF
   dsimp only
   refine .dec (λh4=>?_) λh4=> .some ⟨aa,f⟩
   refine .bind (.quo aa (.dec (λ_=>?_) λ_=> .some ⟨⟨?_,?_,?_,f⟩,?_⟩))
   .refine .bind (.app cq (.some ⟨⟨?_,?_,?_,λz hz=>?_⟩,?_⟩))
    .show 1<=wI (i+1);omega
    all_goals grind [m7]
   all_goals grind
  .rw[cL,aL]
   have hj:∃j:Bn,(bif ah m=0 then([1,2]:Bn)else m)=j/\1<=j.length/\j.length<=4/\∀z∈j,c8 z:=by grind [ah,m7]
   obtain⟨j,ej,D,E,t⟩:=hj
   rw[ej,e16]
   have hm:0<iI 2 (ah j)/\iI 2 (ah j)<=2:=by unfold iI ah;split<;>omega
   refine .bind (.rem aa (.bind ((yg (n:=ah j) (by unfold ah;omega)).mono λbx c=> .some ?_)))
   exact Hg so.iBy so.iSeq (by grind [m7]) so.iAt so.sPast so.iDevice so.iOld so.iMember so.iRole ay so.epoch so.iN so.nBody so.sRefs so.of_ ⟨by show j.length<=1000;omega,t⟩ (Si _) (by grind [c8]) ⟨c.1,c.2.2⟩ (by show(5:Nat)<_;omega) so.sHist
 ·
  generalize hj5:(bif bif o.Kind≠9 then decide (v1.1=(⟨0,0,0⟩:Ab))else false then(9:Int)else o.Kind)=u at h9⊢
  have hk5:u=o.Kind/\v1.1≠⟨0,0,0⟩:=by grind
  obtain⟨rfl,k⟩:=hk5
  have hv2:Ga v1.2/\v1.2.Kind=9:=by
   rcases hv with⟨e,_⟩|⟨_,_,e,e'⟩
   .exact absurd e k
   .exact⟨e,e'⟩
  have hg:=l8 hv2.1.numbers hv2.2
  have hgl:0<ah v1.2.Guards/\ah v1.2.Guards<=1000:=by grind [Be.nGuards,ah]
  refine .bind ((zc w _).mono λl v=>?_)
  refine .bind (T.mono (Q:=λx:Int×List Hd=>c8 x.1/\il Fs x.2) (.ite (λ_=> .bind ((yg hgl.2).mono λb hb=> .some ⟨s1.a,hb.1,hb.2.2⟩)) λ_=> .some ⟨so.iBy,so.sBoxes⟩) λy d=>?_)
  rw[cL,aL]
  refine .bind (T.mono (Q:=λx:Int×Int=>c8 x.1/\c8 x.2) (.ite (λ_=> .bind (.rem aa (.bind (.ixl (Int.tmod_nonneg _ hn.1) (Int.tmod_lt_of_pos _ hgl.1) (by grind [T.some,Be.guards,Si]))))) λ_=> .some ⟨d.1,so.iDevice⟩) λA h36=>?_)
  refine .bind (T.mono (Q:=λx:List Hd=>il Fs x) (.ite (λ_=> .bind ((yg BU).mono λb hb=> .some ⟨hb.1,hb.2.2⟩)) λ_=> .some d.2) λB C=>?_)
  rw[cL,aL]
  have h40:c8 (bif o.Kind=13 then l else o.Old):=by grind [Be.iOld]
  grind [T.some,Hg,Be.iSeq,Be.iKind,Be.iAt,Be.sPast,Be.iMember,Be.iRole,ay,Be.epoch,Be.iN,Be.nBody,Be.sRefs,Be.iNeed,Be.iWait,Be.pub,Be.sHist]
theorem EE(h:0<=n):T (z7 n) λk=>c8 k:=by unfold z7;refine .bind (.ixl (Int.tmod_nonneg _ h) (by have:=Int.tmod_lt_of_pos n (show(0:Int)<20 by decide);simp;omega) λx _ hx=> .some ?_);have:x∈([6,4,3,2,5,7,8,3,6,9,11,11,13,12,10,4,3,2,6,13]:Bn):=hx;have key:∀y∈([6,4,3,2,5,7,8,3,6,9,11,11,13,12,10,4,3,2,6,13]:Bn),-1000000<=y/\y<=1000000:=BU;exact m7 (key x this)
theorem Mt:c8 1:=m7 aa
theorem Yt:c8 2:=m7 aa
theorem QJ:fS 0:=by unfold fS;omega
def Nx(g:Bc)(x:Bo×Ba):Prop:=Be x.1/\Fm g x.2
theorem Nx.np{g:Bc}{x:Bo×Ba}(h:Nx g x):Nx g ({x.1 with Path:=[]},x.2):=⟨h.1.nopath,h.2⟩
theorem N2(w:G9 g){m:Int}(hn:c8 n)(hm:c8 m):T (sd g n m) λr=>Be r:=by
 have nL:=w.nL;have nI:=w.nI;unfold sd;refine .bind ((eX hn BU).mono λv1 h1=> .bind ((eX hm BU).mono λv3 h3=> .bind ((EE h3.1).mono λv5 h5=>?_)));have hq:∀q:Int,0<q->wI (v1.tdiv q)=v1.tdiv q/\0<=v1.tdiv q/\v1.tdiv q<=1000000:=λq hq=>by have a:=Int.tdiv_nonneg h1.1 (show(0:Int)<=q by omega);have b:=Int.tdiv_le_self q h1.1;grind [bM]
 have hk:wI (v3.tdiv 20)=v3.tdiv 20/\0<=v3.tdiv 20/\v3.tdiv 20<=1000000:=by grind [bM]
 rw[hk.1];generalize hkk:v3.tdiv 20=k at hk⊢;obtain⟨_,v,k1⟩:=hk;have tm:∀(z q:Int),0<q->q<=1000000→-1000000<=z.tmod q/\z.tmod q<=1000000:=λz q h h'=>by have h3:=Int.tmod_lt_of_pos z h;have h4: -q<z.tmod q:=Int.lt_tmod_of_pos z h;omega
 refine .dec (λh0=> .some ?_) λh0=>?_
 .grind [Hg,ay,pM,m7,QJ]
 have hL:0<g.L.length:=by unfold ah at h0;omega
 rw[cL,aL];generalize hj8:(bif ah g.L<4 then(⟨1,0,2,0,[],wI ((ah g.L)+1),0,0,wI (3-(wI (Int.tdiv (Int.tmod v1 5) 4))),[],⟨0,0,0⟩,0,[],[],⟨0,0,0⟩,[],0,0,[],0,[],⟨0,0⟩⟩:Bo) else⟨wI (1+(Int.tmod v1 5)),0,v5,0,[],0,0,0,0,[],⟨0,0,0⟩,0,[],[],⟨0,0,0⟩,[],0,0,[],0,[],⟨0,0⟩⟩)=j;have s8:Be j:=by grind [Hg,Mt,dP,Yt,ay,Si,pM,QJ]
 clear hj8;obtain⟨A,l,o⟩:=hq 5 BU;rw[A];refine .bind ((ED w j.By ⟨l,o⟩).mono λB h10=>?_);refine .bind (T.mono (Q:=λx=>Fm g x) (.ite (λ_=> .bind ((Cz w).mono (by grind [T.some,Fm,List.Perm.length_eq]))) λ_=> .some h10) λj12 h12=>?_);refine .bind ((zb w h12 6).mono λp h14=>?_);have s14:Ko p.1:=by
  rcases h14 with⟨e,_⟩|⟨e,_⟩
  .rw[e];exact pM
  .exact h12.smid w e
 refine .bind (T.mono (Q:=λx:Int×Int×Nat=>Ko ⟨x.1,x.2.1,x.2.2⟩) (.ite (λ_=> .bind (.ixl BU (by rw[nI];omega) λy _ hy=> .some ?_)) λ_=> .some s14) λC D=>?_)
 .obtain⟨_,_,_,_,_,_,s,_⟩:=w.name hy;exact s
 refine .bind (T.mono (Q:=λx:Bo×Ba=>Nx g x) ?_ λE t=>?_)
 .refine .ite (λ_=>?_) λ_=>?_
  .refine .bind (T.mono (Q:=λx:Int×Int=>c8 x.1/\c8 x.2) (by grind [T.some,Si,Be.iDevice,Be.iRole]) λx hx=> .some ⟨?_,h12⟩);grind [Hg,Be.iBy,Be.iSeq,Be.iKind,Be.iAt,ay,Be.iOld,Be.iMember,Be.epoch,Be.iN,Be.of_,Be.iNeed,Be.iWait,Be.pub]
  refine .bind (T.mono (Q:=λx:Bo×Ba=>Nx g x) ?_ λx hx=> .some hx.np);refine .ite (λ_=>?_) λ_=>?_
  .refine .bind (T.mono (Q:=λx:Int×Int=>c8 x.1/\c8 x.2) (by grind [T.some,dP,Si,Be.iMember]) λx hx=> .some ⟨?_,h12⟩);grind [Hg,Be.iBy,Be.iSeq,Be.iKind,Be.iAt,ay,Be.iOld,Be.iRole,Be.epoch,Be.iN,Be.of_,Be.iNeed,Be.iWait,Be.pub]
  refine .bind (T.mono (Q:=λx:Bo×Ba=>Nx g x) ?_ λx hx=> .some hx.np);refine .ite (λ_=> .some ⟨?_,h12⟩) λ_=>?_
  .grind [Hg,Be.iBy,Be.iSeq,Be.iKind,Be.iAt,ay,Be.iDevice,Be.iOld,Si,Be.epoch,Be.iN,Be.of_,Be.iNeed,Be.iWait,Be.pub]
  refine .bind (T.mono (Q:=λx:Bo×Ba=>Nx g x) ?_ λx hx=> .some hx.np);refine .ite (λ_=>?_) λ_=>?_
  .have hm4:0<iI (ah g.IDs) 4/\iI (ah g.IDs) 4<=ah g.IDs:=by unfold iI ah;split<;>omega
   refine .bind (.rem aa (.bind (.ixl (Int.tmod_nonneg _ v) (by have:=Int.tmod_lt_of_pos k hm4.1;grind [ah]) λy _ hy=>?_)));obtain⟨_,_,_,_,_,_,sy,_⟩:=w.name hy;refine .bind (T.mono (Q:=λx:Br=>il fS x) (.ite (λ_=> .some ⟨aC,λz hz=>by simp at hz;rcases hz with rfl|rfl<;>exact Mp _⟩) λ_=> .some ay) λx hx=> .some ⟨?_,h12⟩);exact Hg s8.iBy s8.iSeq s8.iKind s8.iAt ay s8.iDevice s8.iOld s8.iMember s8.iRole ay sy (by grind [m7]) aC hx s8.of_ ay s8.iNeed s8.iWait ay s8.pub ay
  refine .bind (T.mono (Q:=λx:Bo×Ba=>Nx g x) ?_ λx hx=> .some hx.np);refine .ite (λ_=> .some ⟨?_,h12⟩) λ_=>?_
  .grind [Hg,Be.iBy,Be.iSeq,Be.iKind,Be.iAt,ay,Be.iDevice,Be.iOld,Be.iMember,Be.iRole,Be.epoch,Be.iN,Be.iNeed,Be.iWait,Be.pub]
  refine .bind (T.mono (Q:=λx:Bo×Ba=>Nx g x) ?_ λx hx=> .some hx.np);refine .ite (λ_=> .some ⟨?_,h12⟩) λ_=>?_
  .grind [Hg,Be.iBy,Be.iSeq,Be.iKind,Be.iAt,ay,Be.iDevice,Be.iOld,Be.iMember,Be.iRole,Be.epoch,Be.iN,Be.iNeed,Be.iWait,Be.pub]
  have s8':Be {j with Past:=[],Path:=[],Body:=[],Refs:=[],Guards:=[],Boxes:=[],Hist:=[]}:=by grind [Hg,Be.iBy,Be.iSeq,Be.iKind,Be.iAt,ay,Be.iDevice,Be.iOld,Be.iMember,Be.iRole,Be.epoch,Be.iN,Be.of_,Be.iNeed,Be.iWait,Be.pub]
  refine .bindc ?_ λb _=>?_
  .grind [T.some]
  refine .bind (T.mono (Q:=λx:Bo×Ba=>Nx g x) (.ite (λ_=>?_) λ_=> .some ⟨s8',h12⟩) λx hx=> .some hx.np);refine .bind ((Ir w h12 s8' ⟨v,k1⟩).mono λv70 u=>?_);refine .bind (T.mono (Q:=λx=>Fm g x) (by grind [ED,T.some]) λx hx=> .some ⟨u.nopath,hx⟩)
 .obtain⟨c,f⟩:=t;have F:=f.len;refine .bindc ?_ λb _=>?_
  .grind [T.some,kf]
  refine .bind (T.mono (Q:=λx=>Fm g x) (.ite (λ_=> .bind ((Cz w).mono (by grind [T.some,Fm,List.Perm.length_eq]))) λ_=> .some f) λH d=>?_);refine .bind ((KH w d.len).mono λI i=> .bind ((QH w d _).mono λJ K=> .bind ((N0 w d.len).mono λM N=> .some ?_)));exact Hg c.iBy (by grind [c8]) c.iKind (Si _) ⟨i.1.len,λx hx=>i.1.smid w hx⟩ c.iDevice c.iOld c.iMember c.iRole ay c.epoch c.iN c.nBody c.sRefs c.of_ c.sGuards c.iNeed c.iWait c.sBoxes c.pub c.sHist
theorem Hm{l:List α}{k:Nat}(h:k<l.length):∃y,l[k]?=some y/\y∈l:=by simp_all
def EF(g:Bc)(l:Bn):Prop:=∀x∈l,0<=x/\x<(g.L.length:Int)
theorem EF.nat{g:Bc}{l:Bn}(h:EF g l){x:Int}(hx:x∈l):∃i:Nat,x=(i:Int)/\i<g.L.length:=by obtain⟨h1,h2⟩:=h x hx;exact⟨x.toNat,aa,aa⟩
theorem EF.snoc{g:Bc}{l:Bn}(h:EF g l){i:Nat}(hi:i<g.L.length):EF g (l++[(i:Int)]):=λx hx=>by
 rcases JF.1 hx with h'|h'
 .exact h x h'
 grind
theorem EF.nil{g:Bc}:EF g []:=λx hx=>by cases hx
structure RkS (g:Bc) (n:Nat) (r:DE):Prop where
 cards:r.Cards=g.Cards
 nV:r.V.length<=n
theorem RkS.up{g:Bc}{n m:Nat}{r:DE}(h:RkS g n r)(hm:n<=m):RkS g m r:=by grind [RkS]
theorem G9.inrow{g:Bc}(w:G9 g){i:Nat}(h:i<g.L.length):∃r,g.In[i]?=some r/\r.length=g.L.length:=by obtain⟨r,hr,_⟩:=Hm (l:=g.In) (k:=i) (by rw[w.nN];exact h);grind [rows]
theorem G9.cell{g:Bc}(w:G9 g){i k:Nat}(h:i<g.L.length)(hk:k<g.L.length):∃r b,g.In[i]?=some r/\r[k]?=some b:=by obtain⟨r,hr,hl⟩:=w.inrow h;simp_all
theorem Mv(g:Bc):RkS g 0 ⟨g.Cards,[],[],[],0,[]⟩:=by grind [RkS]
theorem Oc{n:Nat}(h:2<=n)(hn:n<=1000000):T (zZ (n:Int)) λv=>∃k:Nat,v=(k:Int)/\1<=k/\k<n:=by
 unfold zZ;refine .bind (T.mono (Q:=λv:Int=>∃k:Nat,v=(k:Int)/\1<=k/\k<n) (T.loop (λs=>∃k:Nat,s=(k:Int)/\1<=k/\k<n) (λs=>n-s.toNat) ⟨1,rfl,aa,aa⟩ cq ?_) λv hv=> .some hv);rintro s ⟨k,rfl,h1,h2⟩;unfold AE;have e:wI (2*(k:Int))=((2*k:Nat):Int):=by grind [bM]
 rw[e];refine .dec (λhp=> .some ⟨⟨2*k,rfl,aa,aa⟩,?_⟩) λ_=> .some ⟨k,rfl,h1,h2⟩;simp;omega
theorem u6:∀(nn:Nat) (l:Bn),l.length<nn->l.length<=1000000->T (KZ nn l) λr=>r.length<=2*l.length-1/\∀y∈r,y.length<=l.length
 |0,_,h,_=>absurd h (Nat.not_lt_zero _)
 |nn+1,l,h,hl=>by
  unfold KZ;refine .dec (λ_=> .some ⟨aC,aC⟩) λh0=> .dec (λh1=>?_) λh1=>?_
  .grind [ah,T.some]
  .unfold ah at h0 h1⊢;refine .bind ((Oc (n:=l.length) aa hl).mono λv3 hv=>?_);obtain⟨k,rfl,k1,k2⟩:=hv;refine .bind (.pre aa aa ?_);rw[Fw];refine .bind ((u6 nn (l.take k) cq cq).mono λd h7=> .bind (.app (by simp at h7⊢;omega) (.bind (.suf aa aa ?_))));rw[Fw];refine .bind ((u6 nn (l.drop k) cq cq).mono λc h13=> .bind (.app (by simp at h7 h13⊢;omega) (.some ?_)));simp only[Lv,List.length_drop] at h7 h13;have e1:min k l.length=k:=aa;rw[e1] at h7;refine⟨?_,λy hy=>?_⟩
   .have a:=h7.1;have b:=h13.1;simp only[UQ,List.length_singleton];omega
   .simp only[JF,List.mem_singleton] at hy;rcases hy with(rfl|hy)|hy
    .exact Dk _
    .have:=h7.2 y hy;omega
    .have:=h13.2 y hy;omega
theorem Od{l:Bn}(hl:l.length<=100000)(d:Int):T (N6 l d) λr=>r.length<=200000:=by
 unfold N6 Vp;refine .bind ((u6 _ l aa aa).mono λv1 h1=>?_);have e:wI (ah v1-1)=ah v1-1:=by grind [bM,ah]
 rw[e];refine .bind (T.mono (Q:=λr:K4=>r.length<=200000) (T.loop (λs=> -1<=s.2/\s.2<(v1.length:Int)/\s.1.length+(s.2+1).toNat<=v1.length) (λs=>(s.2+1).toNat) (by grind [ah]) (by grind [ah]) ?_) λ_ h=> .some h);rintro⟨a,i⟩ ⟨i1,b,c⟩;simp only at i1 b c;unfold AF;refine .dec (λh0=>?_) λ_=> .some (by show a.length<=_;omega);replace h0:0<=i:=h0;refine .bind (.ixl h0 (by show i<_;omega) λy hy hm=>?_);have hw:wI (i-1)=i-1:=bM aa aa;rw[cX (by have:=h1.2 y hm;omega),aL];refine .ite (λ_=>?_) λ_=> .some ⟨⟨?_,?_,?_⟩,?_⟩
 .rw[show aS v1 (a,i).2=aS v1 i from rfl];refine .bind (.ixl h0 aa λz _ _=> .bind (.app (by show(a.length+1)*24<=_;omega) (.some ⟨⟨?_,?_,?_⟩,?_⟩)));all_goals grind
 all_goals grind
theorem zh(k:Int):T (Fa k) λ_=>True:=by grind [Fa,T.some]
inductive LC (g0:Bc):Bc->Prop
 |base:LC g0 g0
 |step {g:Bc} {o:Bo} {id:Ab} {up:Bn} {row:List Bool}:LC g0 g->G9 g->Be o->fS o.Sig.R->fS o.Sig.S->R8 g o up->pV o=some id->jA g up=some row->LC g0 (pL g o id up row)
def u7:Mi:=(ql [1,2,3,1,2,3]).getD []
theorem Oe:ql [1,2,3,1,2,3]=some u7:=aH
def KK(c:DR):Bool:=decide (1<=c.Device/\c.Device<=6/\1<=c.Member/\c.Member<=3/\c.Sign<18446744073709551616)
theorem Og:u7.all KK=true:=aH
theorem KL:u7.length=6:=aH
attribute [irreducible] u7
def g0:Bc:=⟨u7,[],[],[],[]⟩
theorem Yu:G9 g0 where
 nL:=by simp[g0]
 nI:=rfl
 nU:=rfl
 nN:=rfl
 nC:=by show u7.length<=1000;rw[KL];decide
 cards:=λc hc=>by have h:KK c=true:=GV.1 Og c hc;grind [KK,c8,fS]
 up:=by grind [g0]
 rows:=by grind [g0]
 inlt:=by grind [RU,g0]
 ops:=by grind [g0]
 ids:=by grind [g0]
 nd:=by simp[g0]
 one:=by grind [g0]
 tr:=by grind [g0]
 la:=by grind [RU,g0]
def We(c:Int):Bo:=⟨1,1,1,0,[],0,0,0,0,[],⟨0,0,0⟩,0,[],[],⟨0,0,0⟩,[],c,0,[],0,[],⟨0,0⟩⟩
theorem Yv{a b:Int}(ha:c8 a)(hb:c8 b):∃c∈([0,1,2,3]:Bn),sd g0 a b=some (We c):=by
 obtain⟨v1,e1,h1⟩:=eX ha (show(0:Int)<1000000 by decide);obtain⟨v3,e3,h3⟩:=eX hb (show(0:Int)<1000000 by decide);obtain⟨v5,e5,_⟩:=EE h3.1;refine⟨v1.tmod 4,?_,?_⟩
 .grind
 .unfold sd;rw[e1,aL,e3,aL,e5,aL];rfl
def Mw(c:Int)(b:Bool):Option (Bc×Int):=(jm g0 ({We c with Path:=[]})).bind λv25=>(bif b then(some (wI ((ah v25)+1)))else(some (ah v25))).bind λa=>(Fa (We c).Kind).bind λd=>(AH (lw (g0,0) a d) ([],0)).bind λe=>(nR ({We c with Path:=e})).bind λf=>AO g0 f
theorem QO:(([0,1,2,3]:Bn).all λc=>[true,false].all λb=>(Mw c b).map (λr=>(r.2,r.1.L.length))==some (0,1))=true:=aH
theorem Tm(hc:c∈([0,1,2,3]:Bn))(b:Bool):∃r,Mw c b=some r/\r.2=0/\r.1.L.length=1:=by have h:=GV.1 (GV.1 QO c hc) b (by cases b<;>simp);simp_all
theorem KM{l:Bn}(hi:∀x∈l,c8 x){most:Int}(h0:0<most){r:(Bc×Int)⊕Bc}(h:ly l most (g0,((0:Nat):Int))=some r):∃g,r= .inl (g,1)/\g.L.length=1:=by
 have at_:∀(n:Int),0<=n->∃v,c8 v/\(bif n<ah l then((aS l n).bind λj=>some j)else(some 0))=some v:=by grind [ah,aS,dP]
 have e2:wI (2*((0:Nat):Int))=0:=bM BU BU;have e3:wI ((0:Int)+1)=1:=bM BU BU;have e4:wI (((0:Nat):Int)+1)=1:=bM BU BU;obtain⟨a,ha,o⟩:=at_ 0 BU;obtain⟨b,hb,eb⟩:=at_ 1 BU;obtain⟨c,hc,p⟩:=Yv ha hb;obtain⟨d,k,_⟩:=eX hb (show(0:Int)<31 by decide);obtain⟨q,hq,q1,s⟩:=Tm hc (decide (d=30));unfold Mw at hq;unfold ly at h;simp only[e2,e3,e4] at h;rw[C6 (by grind),C6 (by grind),ax,ax,aL,ax,o,aL,eb,aL,p,aL] at h;cases hs:jm g0 ({We c with Path:=[]}) with
 |none=>rw[hs] at hq;cases hq
 |some v25=>
  rw[hs,aL] at hq;rw[hs,aL,k,aL] at h;cases hj:(bif d=30 then(some (wI ((ah v25)+1)))else(some (ah v25)):JQ) with
  |none=>rw[hj] at hq;cases hq
  |some e=>
   rw[hj,aL] at hq h;cases hk:Fa (We c).Kind with
   |none=>rw[hk] at hq;cases hq
   |some f=>
    rw[hk,aL] at hq h;cases hx:AH (lw (g0,0) e f) ([],0) with
    |none=>rw[hx] at hq;cases hq
    |some i=>
     rw[hx,aL] at hq;rw[show AH (lw (g0,((0:Nat):Int)) e f) ([],0)=some i from hx,aL] at h;cases hg:nR ({We c with Path:=i}) with
     |none=>rw[hg] at hq;cases hq
     |some m=>grind
theorem T6(m:Jb)(i:Ab)(n:Int)(x:Ab):(CW m i n).get x=match m.get x with|some v=>some v|none=>if i=x then some n else none:=by grind [CW,FM.get]
theorem EV{k x:Ab}:∀{l:Ba},bu k (l++[x])=match bu k l with|some n=>some n|none=>if x=k then some l.length else none
 |[]=>by grind [bu]
 |y::r=>by
  rw[List.cons_append,bu,bu];by_cases e:k=y
  .rw[BB e,BB e]
  .rw[BX e,BX e,EV (l:=r)];grind
theorem T7(hn:g.Cards.length<=1000000){c:DR}(h:mZ g d=(c,true)):hY ⟨g.Cards,m,N⟩ d=some (c,true):=by
 unfold mZ at h;unfold hY;refine T.eq (.bind (T.forA g.Cards.length (λk acc=>∀(j:Nat) (c:DR),j<k->g.Cards[j]?=some c->c.Device≠d) aa (by grind) (λk acc hk hj=>?_) λacc hj=>?_))
 .obtain⟨x,hx⟩:∃x,g.Cards[k]?=some x:=⟨_,EA hk⟩;unfold ij;dsimp only;rw[eA hk,ax,au,hx,aL];refine .dec (λe=> .some (.some ?_)) λe=> .some ⟨aq aa,λj c' hjk a=>?_⟩
  .grind [List.find?_eq_some_iff_getElem]
  grind
 grind [Gu]
theorem T8(w:G9 g)(pg:Ou g m N){up:Bn}{row:List Bool}(sm:Be o)(hs:fS o.Sig.S)(a:R8 g o up)(hid:pV o=some id)(hrow:jA g up=some row):
  ∃y:C5,y.o=o/\y.id=id/\Ou (pL g o id up row) (CW m id N.length) (N++[y])/\jg prog fI 54 [.ref 0 0,.agg (aJ o)] [(0,oG g.Cards N.length 2),(1,oM m),(2,zQ N)] 3 (iG 0) [(0,oG g.Cards (N++[y]).length 3),(1,oM (CW m id N.length)),(3,zQ (N++[y]))] 4:=by
 have nL:=w.nL
 have nI:=w.nI
 have pl:=pg.len
 have hro:=a.room
 have f:=T1 a.check.numbers
 have ul:up.length<=12:=by rw[a.upl];exact pK a.check.long
 obtain⟨s,d,r,t⟩:=yc w (up:=up) aa a.upb
 rw[hrow] at d
 cases d
 obtain⟨E,e,hfr⟩:=a.id
 rw[hid] at e
 cases e
 obtain⟨c,hc,i⟩:=a.card
 obtain⟨K,hr1,hr2⟩:=a.right
 rw[hrow] at hr1
 cases hr1
 obtain⟨v,hv,l⟩:=Xb w (o:=o) r
 rw[hr2] at hv
 cases hv
 have hR:=l rfl
 obtain⟨⟨p,b,F,lev⟩,h1,e1,e2,e3,e4,e5,e8⟩:=ZF w pg a sm
 dsimp only at e1 e2 e3 e4 e5 e8
 have hbeh:∀j:Nat,j<256->(gW (RX b p) j=true↔Hs g up j):=by grind [RP,Hs]
 obtain⟨⟨last,H⟩,h4,e6,e7⟩:=ZG (A:=RX b p) w pg f (by grind) hR
 dsimp only at e6 e7
 obtain⟨I,q,ho2⟩:=TU sm
 rw[hid] at ho2
 cases ho2
 have ap:Ad3 g.Cards m N o id c (pT o.Kind):={
  chk:=RL a.check sm
  sm:=sm
  cl:=RM sm
  id:=q
  fresh:=by rw[pg.get,hfr];rfl
  room:=aa
  card:=T7 (by have:=w.nC;omega) hc
  by_:=(yd hc).2.symm
  sig:=TW (by have:=yY sm;omega) i
  create:=by grind [R8.create]
  nPast:=by have:=sm.nPast;omega
  par:=λx hx=>by obtain⟨k,hk⟩:=Gu hx;obtain⟨n,hn,_⟩:=a.par k x hk;have hnl:n<g.IDs.length:=(cr (gb hn).1).1;grind [Ou.get]}
 have h2:ZA p b 4=z4:=by grind [RQ,R8.apart]
 refine⟨⟨o,id,RX b p,lev⟩,rfl,rfl,⟨?_,?_,?_,?_⟩,(by grind [W7])⟩
 .show(N++[_]).length=(g.L++[o]).length
  simp[pl]
 .intro k y hy
  have inx:=kU w (o:=o) (id:=id) (up:=up) r
  rcases je hy with⟨hk,h⟩|⟨hk,rfl⟩
  .obtain⟨z,B,J,C,D⟩:=pg.nd k y h
   refine⟨Ms z,Ms B,λj hj=>?_,C,D⟩
   grind
  .subst hk
   refine⟨by rw[pl];exact F8,by rw[show N.length=g.IDs.length by omega];exact F8,λj hj=>?_,e4,e5⟩
   have:=inx N.length j
   have hb:=hbeh j hj
   have hrj:row[j]?=some true↔Hs g up j:=by
    rcases JB j g.L.length with h|h
    .exact t j h
    .constructor
     .grind
     .rintro(h2|⟨n,h2,h3⟩)
      .have:=(a.upb _ h2).2;omega
      .have:=w.inlt n j h3;omega
   grind
 .intro x
  rw[T6,pg.get,show(pL g o id up row).IDs=g.IDs++[id] from rfl,EV]
  cases bu x g.IDs<;>grind
 .intro k y u hy hu
  have hUp:(pL g o id up row).Up=g.Up++[up]:=rfl
  have nU:=w.nU
  rw[hUp] at hu
  rcases je hy with⟨hk,h⟩|⟨hk,rfl⟩
  .rw[List.getElem?_append_left aa] at hu
   rw[pg.lv k y u h hu]
   refine(Adi λx hx=>?_).symm
   have:=(w.up k u hu).2 x hx
   omega
  .subst hk
   rw[List.getElem?_append_right aa,show N.length-g.Up.length=0 by omega] at hu
   obtain rfl:=Bp hu
   show lev=_
   rw[e8]
   refine(Adi λx hx=>?_).symm
   have:=a.upb x hx
   omega
theorem OL{b:Bc}(h:LC b g)(hb:b.L=[])(hi:b.IDs=[])(hs:xf b.Cards):∃(c:Nat->Jb) (N:I4),g.Cards=b.Cards/\g.L.length<=200/\Abe g c N/\Ou g (c g.L.length) N:=by
 induction h with
 |base=>refine⟨λ_=>⟨[],0⟩,[],rfl,by rw[hb];exact Nat.zero_le _,⟨hs,by rw[hb];exact Nat.zero_le _,by rw[hb];rfl,rfl,λk o ho=>by rw[hb] at ho;simp at ho⟩,⟨by rw[hb];rfl,λk y hy=>by simp at hy,(λx=>by rw[hi];rfl),(λk y u hy=>by simp at hy)⟩⟩
 | @step g o id up row gr w sm _ d a hid hrow ih=>
  obtain⟨c,N,hc,hl,hrun,pg⟩:=ih;have pl:=pg.len;have hro:=a.room;obtain⟨y,f,i,e,hm⟩:=T8 w pg sm d a hid hrow;have el:(pL g o id up row).L=g.L++[o]:=rfl;have ell:(pL g o id up row).L.length=g.L.length+1:=by rw[el];simp
  have eC:(pL g o id up row).Cards=g.Cards:=rfl;refine⟨λk=>if k<=g.L.length then c k else CW (c g.L.length) id N.length,N++[y],hc,aa,⟨by rw[eC];exact hrun.srt,aa,by rw[ell];simp[pl],by show(if 0<=g.L.length then c 0 else _)=_;rw[BB (Nat.zero_le _)];exact hrun.m0,λk p hp=>?_⟩,?_⟩
  .rw[eC];rcases je (l:=g.L) (x:=o) hp with⟨hk,h⟩|⟨hk,rfl⟩
   .grind [Abe.step]
   grind
  .rw[ell];dsimp only;rw[BX aa];exact e
structure Uv (gg:Az):Prop where
 pos:∀x n,gg.at_.get x=some n->∃(k:Nat) (y:C5),n=(k:Int)/\gg.nodes[k]?=some y/\k<256
 cl:∀y∈gg.nodes,pG y.o=some y.o
 nc:gg.cards.length<=1000
def M2(gg:Az)(x:Ab):Option C5:=(gg.at_.get x).bind λn=>aS gg.nodes n
def Agr(gg:Az)(x y:Ab):Bool:=match gg.at_.get x,M2 gg y with
 |some n,some b=>gW b.past n.toNat
 |_,_=>false
def R0(gg:Az):Gi:=⟨λx=>(M2 gg x).map (·.o),Agr gg,λx=>match M2 gg x with|some y=>y.level|none=>0,gg.cards,λd=>gg.cards.find? λc=>decide (c.Device=d)⟩
theorem Uw(h:Uv gg)(e:gg.at_.get x=some n):∃(k:Nat) (y:C5),n=(k:Int)/\aS gg.nodes n=some y/\M2 gg x=some y/\k<256/\y∈gg.nodes:=by
 obtain⟨k,y,rfl,hy,hk⟩:=h.pos x n e;have hz:aS gg.nodes (k:Int)=some y:=by rw[au];exact hy
 refine⟨k,y,rfl,hz,?_,hk,bO hy⟩;unfold M2;rw[e];exact hz
theorem X5(e:gg.at_.get x=none):M2 gg x=none:=by unfold M2;rw[e];rfl
def ZO(q:Ab->Bool)(l:Ba)(j:Nat):Nat:=((l.take j).filter q).length
def wK(q:Ab->Bool)(l:Ba)(j:Nat):Ba:=(l.take j).filter q++l.drop (ZO q l j)
theorem AmH{q:Ab->Bool}{l:Ba}{j:Nat}:ZO q l j<=j/\ZO q l j<=l.length:=by grind [ZO]
theorem AcJ{q:Ab->Bool}{l:Ba}{j:Nat}:(wK q l j).length=l.length:=by grind [wK,ZO]
theorem AmI{q:Ab->Bool}{l:Ba}:(wK q l j)[j]?=l[j]? :=by grind [wK,ZO]
theorem AmJ{q:Ab->Bool}{l:Ba}(hx:l[j]?=some x)(hq:q x=false):ZO q l (j+1)=ZO q l j/\wK q l (j+1)=wK q l j:=by grind [JD,ZO,wK]
theorem AoJ{q:Ab->Bool}{l:Ba}(hx:l[j]?=some x)(hq:q x=true):ZO q l (j+1)=ZO q l j+1/\ji (wK q l j) ((ZO q l j:Nat):Int) x=some (wK q l (j+1)):=by
 have e:(l.take (j+1)).filter q=(l.take j).filter q++[x]:=by grind [JD]
 have e2:ZO q l (j+1)=ZO q l j+1:=by grind [ZO]
 grind [ji,AcJ,wK,List.set_append_right,ZO,List.drop_eq_getElem_cons]
theorem AmK{q:Ab->Bool}{l:Ba}(h:l.findIdx? (λx=> !q x)=some i):i<l.length/\ZO q l (i+1)=i/\wK q l (i+1)=l:=by
 obtain⟨hi,h1,h2⟩:=List.findIdx?_eq_some_iff_getElem.1 h;have e:(l.take i).filter q=l.take i:=by grind [List.filter_eq_self,List.getElem_of_mem]
 have hx:l[i]?=some l[i]:=EA hi;grind [ZO,AmJ,wK,Pw]
theorem AmL{q:Ab->Bool}{l:Ba}(h:l.any (λx=> !q x)=false):l.filter q=l:=by grind [List.filter_eq_self]
theorem AcK{q:Ab->Bool}{l:Ba}:(wK q l l.length).take (l.filter q).length=l.filter q/\ZO q l l.length=(l.filter q).length:=by grind [wK,ZO]
theorem Aia{s:Ba}{f:Ab->Fo}{p:Ab->Bool}(hn:s.length<2305843009213693952)(hf:∀x∈s,f x=some (p x)):(Y4 s f=some (-1)/\s.any p=false)\/∃j:Nat,Y4 s f=some (j:Int)/\s.findIdx? p=some j:=by
 obtain⟨r,h1,h2⟩:=Ake (s:=s) p hn (step:=KS s f) (λk x hx=>by unfold KS;rw[CB hx,ax,Bt hx,aL,hf x (bO hx),aL];cases p x<;>simp) (by unfold KS;rw[DS];rfl)
 unfold Y4;rw[h1];rcases h2 with⟨rfl,h2⟩|⟨j,rfl,h2,h3⟩
 .exact .inl ⟨rfl,h2⟩
 .exact .inr ⟨j,rfl,h3⟩
def dfT(del:Ab->Bool)(s:Nat×Nat×Ba):Option ((Nat×Nat×Ba)⊕(Nat×Ba)):=
 bif s.2.2.length<=1000/\s.2.1<=s.1 then bif (s.1:Int)<ah s.2.2 then(aS s.2.2 (s.1:Int)).bind λx=>bif del x then some (.inl (s.1+1,s.2.1,s.2.2))else(ji s.2.2 (s.2.1:Int) x).bind λW=>some (.inl (s.1+1,s.2.1+1,W))else some (.inr s.2)else none
theorem AmM{del:Ab->Bool}{l:Ba}(hl:l.length<=1000)(h:l.findIdx? del=some i):AH (dfT del) (i+1,i,l)=some ((l.filter λx=> !del x).length,wK (λx=> !del x) l l.length):=by
 have h':l.findIdx? (λx=> !(!del x))=some i:=by simpa using h
 obtain⟨hi,k1,k2⟩:=AmK (q:=λx=> !del x) h';refine T.eq (T.loop (λs=>s.1<=l.length/\s.2.1=ZO (λx=> !del x) l s.1/\s.2.2=wK (λx=> !del x) l s.1) (λs=>l.length-s.1) (by grind) (by show l.length-(i+1)<_;omega) ?_);rintro⟨j,k,W⟩ ⟨hj,hk,a⟩;dsimp only at hj hk a;subst hk;subst a;unfold dfT;dsimp only;have hlen:=AcJ (q:=λx=> !del x) (l:=l) (j:=j);rw[C6 (by grind [AmH]),ax];refine .dec (λhh=>?_) λhh=> .some ?_
 .unfold ah at hh;have hlt:j<l.length:=aa;have hx:l[j]?=some l[j]:=EA hlt;refine .bind (.ix aa (x:=l[j]) (by rw[Fw,AmI];exact hx) ?_);refine .ite (λhd=>?_) λhd=>?_
  .obtain⟨a1,a2⟩:=AmJ (q:=λx=> !del x) hx (by simpa using hd);exact .some (by constructor<;>grind)
  .obtain⟨a1,a2⟩:=AoJ (q:=λx=> !del x) hx (by simpa using hd);rw[a2];exact .some (by constructor<;>grind)
 .unfold ah at hh;obtain rfl:j=l.length:=aa;rw[AcK.2];exact rfl
abbrev zR(W:Ba)(i:Nat):Bk:=(W.flatMap aj).take (0+(i:Int).toNat*3)++(bN zI ((W.length-(i:Int).toNat)*3)).map .lit++(W.flatMap aj).drop (0+(i:Int).toNat*3+(W.length-(i:Int).toNat)*3)
theorem Akq(W:Ba)(i:Nat):∀g∈zR W i,bB g:=by grind [AQ.imm,ac,mN]
theorem Aib(h:i<=W.length):(zR W i).take (i*3)=(W.take i).flatMap aj:=by grind [Fw,Pw,AQ.len,ac]
section
variable {gl:CC}
end
abbrev tMI:Bj:=288
abbrev oLi(al:Bb)(v f:Nat):Option Ob:=some ⟨290,[.ptr (Ag al.g) 0,aE aj al.row,.mref v,.mref f],none⟩
abbrev X7(m:FM Ab Bool):Option Ob:=some (M7 tMI ga bG m)
abbrev oBl(b:Nat):Option Ob:=some ⟨209,[.ref b 0],none⟩
abbrev σL(al:Bb):aQ:=[(1,oBl 2),(2,oLi al 3 4),(3,X7 al.void),(4,X7 al.fork)]
abbrev ρL:DH:=[(0,0),(1,1),(2,2),(3,3),(4,4)]
abbrev kdL:List (Nat×Rk):=[(0,.row),(999999,.clo)]
theorem AcL(m:FM Ab Bool):∀e∈UK ga bG m,bB e.2.1:=by grind [mN]
abbrev mLs(al:Bb):List HP:=[hc (AcL al.void),hc (AcL al.fork)]
theorem Aav(h1:ag st.σ b=oLi al v f)(h2:ag st.σ v=X7 al.void)(h3:ag st.σ f=X7 al.fork):ve P st (.ref b 0) (.ptr (B5 al) 0):=by
 refine Mb h1 (Dk _) (NN rfl λp hp=>?_);simp only[B5,List.zip_cons_cons,List.zip_nil_right,EG,K3,or_false] at hp;rcases hp with rfl|rfl|rfl|rfl
 .exact jB (Ah _ _)
 .exact jB (FC _ _)
 .exact Ow h2 λe _=>jB (mN _)
 .exact Ow h3 λe _=>jB (mN _)
theorem Agt(h0:ag st.σ a=oBl b)(h1:ag st.σ b=oLi al v f)(h2:ag st.σ v=X7 al.void)(h3:ag st.σ f=X7 al.fork):ve P st (.ref a 0) (.ptr [.ptr (B5 al) 0] 0):=by refine Mb h0 (Dk _) (NN rfl λp hp=>?_);grind [List.zip_cons_cons,List.zip_nil_right,Aav]
section
variable {gl:CC}
theorem Aks{al:Bb}{r:Bool}{c:Nat}(a:aK prog fi=true)(hF:ba prog gl fi [.agg (aj x),.ptr [.ptr (B5 al) 0] 0] (bG r)):oJ prog gl fi [.agg (aj x),.ref 1 0] (σL al) c (bG r) [] c:=
 PO a hF (lR _) rfl λst h i y z h1 h2=>by
  match i with
  |0=>cases h1;cases h2;exact jB (aG 20 (.agg (aj x)) aH)
  |1=>cases h1;cases h2;exact Agt (h 1 _ rfl) (h 2 _ rfl) (h 3 _ rfl) (h 4 _ rfl)
  |j+2=>cases h1
theorem Agu{f:Ab->Fo}(hv:Uk prog gl fi [] [.ptr [.ptr (B5 al) 0] 0] (λx:Ab=>[.agg (aj x)]) (λb:Bool=>bG b) f){l:Ba}{r:Int}(e:Y4 l f=some r):oJ prog gl 67 [.rsl 0 0 l.length,.clo (.func fi) [] [.ref 1 0]] ((0,BA l)::σL al) 5 (iG r) [] 5:=
 PO aH (gS gl hv e) (lR _) rfl λst h i x y h1 h2=>by
  match i with
  |0=>
   cases h1;cases h2;exact FD (s:=3) (h 0 _ rfl) aH (by show 0+l.length*3<=(l.flatMap aj).length;rw[ac.len];omega) (ac.len l) λj g c a b=>by rw[Nat.zero_add] at a;rw[show(l.flatMap aj)[j]?=some g from a] at b;cases b;exact jB (ac.imm l g (bO a))
  |1=>
   cases h1;cases h2;exact SX rfl rfl (λi g c a b=>by cases a) (λi g c a b=>by
    match i with
    |0=>cases a;cases b;exact Agt (h 1 _ rfl) (h 2 _ rfl) (h 3 _ rfl) (h 4 _ rfl)
    |j+1=>cases a)
  |j+2=>cases h1
theorem AoL{σ:aQ}{i:Nat}(h:i<W.length):rF prog ((0,BA W)::σ) 26 (.rsl 0 (0+(i:Int).toNat*3) (W.length-(i:Int).toNat))=some (0,⟨41,zR W i,none⟩):=by have e1:dp prog 26=some 41:=aH;have e2:jj prog 41=some zI:=aH;have e3:bw prog 41=some 3:=aH;have e4:ag ((0,BA W)::σ) 0=some ⟨41,W.flatMap aj,none⟩:=rfl;have e5:(i:Int).toNat=i:=Fw i;unfold rF;rw[e1];simp only[e2,e3,e4];rw[BB ⟨rfl,aa,BU,by rw[ac.len];omega,rfl⟩]
theorem AcM{del:Ab->Bool}(a:aK prog fi=true)(hF:∀x,ba prog gl fi [.agg (aj x),.ptr [.ptr (B5 al) 0] 0] (bG (del x))){l:Ba}(hl:l.length<=1000):SA prog gl 187 [.rsl 0 0 l.length,.clo (.func fi) [] [.ref 1 0]] ((0,BA l)::σL al) 5 5 (.rsl 0 0 (l.filter λx=> !del x).length) ((0,BA (l.filter λx=> !del x))::σL al):=by
 have hv:Uk prog gl fi [] [.ptr [.ptr (B5 al) 0] 0] (λx:Ab=>[.agg (aj x)]) (λb:Bool=>bG b) (λx=>some (del x)):=⟨a,bf,eB aH,λx r e=>by cases e;exact hF x⟩;refine dFP func187 ?_;rcases Aia (s:=l) (p:=del) aa (λx _=>rfl) with⟨e,h0⟩|⟨i,e,h0⟩
 .have hi:=Agu hv e;rw[AmL (by simpa using h0)];exact ZT [hz 10 [0,1,2,3,4] hi] (hc (el l)::hc (ac.imm l)::mLs al) ρL kdL
 .have hi:=Agu hv e;have hlt:=(List.findIdx?_eq_some_iff_getElem.1 h0).1;have hkn:(l.filter λx=> !del x).length<l.length:=by have:=AmK (q:=λx=> !del x) (by simpa using h0);have h2:=AcK (q:=λx=> !del x) (l:=l);refine Nat.lt_of_le_of_ne (Oa _ _) λhe=>?_;have h3:=List.length_filter_eq_length_iff.1 he _ (List.getElem_mem hlt);have h4:=(List.findIdx?_eq_some_iff_getElem.1 h0).2.1;simp[h4] at h3
  refine pN (λs:Nat×Nat×Ba=>(s0 42 gl [(0,.rsl 0 0 s.2.2.length),(1,.clo (.func fi) [] [.ref 1 0]),(5,iG (s.2.1:Int)),(6,iG (s.1:Int))] ((0,BA s.2.2)::σL al) 5 5)) 11110122 (AmM hl h0) [hz 10 [0,1,2,3,4] hi,hr 12 (show decide ((i:Int)= -1)=false from Dl aa),hbb 15 (Xl (q:=i) aa)] (hc (el l)::hc (ac.imm l)::mLs al) (λB s w hs k5 h=>?_) [] ρL kdL;obtain⟨j,k,W⟩:=s;unfold dfT at hs;dsimp only at hs;cases b0:decide (W.length<=1000/\k<=j) with
  |false=>rw[b0] at hs;cases hs
  |true=>
  rw[b0,ax] at hs;obtain⟨g1,g2⟩:=DV b0;rcases bC hs with⟨b1,hs⟩|⟨b1,hs⟩
  .have hjl:=DV b1;unfold ah at hjl;obtain⟨x,d,hs⟩:=bS hs;have hcl:=Aks (al:=al) (c:=6) a (hF x);have hjb:j<1000000:=aa;cases hd:del x with
   |true=>rw[hd] at hs hcl;obtain rfl:=Bp hs;exact jw [hr 19 b1,AB 24 (ac.ixrZ 0 d),AB 25 (ac.pt0Z aW d),hz 28 [1,2,3,4] hcl,hbb 21 (Xl (q:=j) aa)] (hc (el W)::hc (ac.imm W)::mLs al) (k5 _ rfl) [] ρL kdL
   |false=>rw[hd] at hs hcl;obtain⟨f,e2,hs⟩:=bS hs;obtain rfl:=Bp hs;have hkb:k<1000000:=aa;exact jw [hr 19 b1,AB 24 (ac.ixrZ 0 d),AB 25 (ac.pt0Z aW d),hz 28 [1,2,3,4] hcl,AB 33 (ac.ixsZ 0 e2),hw 33 (f.flatMap aj) (ac.putZ e2),hbb 35 (Xl (q:=k) aa),hbb 21 (Xl (q:=j) aa)] (hc (hZ e2)::hc (ac.imm f)::mLs al) (k5 _ rfl) [] ρL kdL
  .obtain rfl:=Bp hs;have ek:=h _ rfl;simp only[Ft] at ek;obtain⟨ek,g⟩:=ek;have hkW:k<W.length:=by rw[g,AcJ,ek];exact hkn
   have e:(zR W k).take (k*3)=(l.filter λx=> !del x).flatMap aj:=by rw[Aib (Nat.le_of_lt hkW),g,ek,AcK.1]
   rw[<-ek];generalize (l.filter λx=> !del x)=F at e⊢;refine pO 1111110 (J:=(s0 42 gl [(0,.rsl 0 0 W.length),(5,iG (k:Int))] ((ob 0 41 (zR W k))::σL al) 5 5)) [hr 19 b1,AB 38 (ac.sufZ 0 (l:=W) (i:=(k:Int)) (y:=W.drop k) (by unfold mc;rw[BB ⟨aa,by rw[Fw];omega⟩,Fw])),Go.Proofs.YtjbfcillbjiajaaGreatDoor.hcl 5 (AoL (σ:=σL al) hkW)] (hc (el W)::hc (Akq W k)::mLs al) ?_ [] ρL kdL;refine dSh 0 (k*3) ?_;show Gp _ _ _ _ _ _ (s0 42 gl [(0,.rsl 0 0 W.length),(5,iG (k:Int))] ((ob 0 41 ((zR W k).take (k*3)))::(ob 0 41 (zR W k))::σL al) 5 5);rw[e];exact ZT [AB 41 (ac.preZ 0 (l:=W) (i:=(k:Int)) (y:=W.take k) (by unfold tq;rw[BB ⟨aa,by rw[Fw];omega⟩,Fw]))] (hc (rfl:k=k)::hc (ac.imm F)::mLs al) ρL kdL
end
def JN(k:Int):Bool:=bif k=3 then true else bif k=13 then true else decide (k=12)
def NS(I:Gi)(R:Ad)(x:Ab):Ad:=Wq R (I.o x) x
def aaF(I:Gi)(cs:Ba):Ad:=cs.foldl (NS I) (Hf I.cards)
theorem X8{I:Gi}:∀{l:Ba} {R:Ad},Bi R->(∀x∈l,Wv (I.o x) x)->Bi (l.foldl (NS I) R)
 |[],R,h,_=>h
 |x::r,R,h,hx=>X8 (l:=r) (Sb h (hx x aC)) (by grind)
section
variable {gl:CC} {gg:Az} {I:Gi}
theorem Aeq(k:Int):ba prog gl 213 [iG k] (bG (JN k)):=Y5 gl (by unfold Xf JN;cases decide (k=3)<;>cases decide (k=13)<;>rfl)
theorem Aid{al:Bb}(h:Np gl al.g I)(x:Ab):ba prog gl 212 [.agg (aj x),.ptr [.ptr (B5 al) 0] 0] (bG (!JN (I.o x).Kind)):=by have h1:=h.op x;have h2:=Aeq (gl:=gl) (I.o x).Kind;refine Gh func212 ?_;exact Ar [hf 12 h1,hf 17 h2] []
theorem Aaw{al:Bb}(x:Ab):ba prog gl 214 [.agg (aj x),.ptr [.ptr (B5 al) 0] 0] (bG (A7 (al.void.get x))):=PE gl rfl
abbrev ρr0:DH:=[(0,0),(1,1),(2,2),(3,3),(4,4),(5,5),(6,6),(7,7),(8,8),(9,9),(10,10),(11,11),(12,12),(13,13)]
abbrev ρr2:DH:=[(0,0),(1,1),(2,2),(3,3),(4,4),(5,16),(6,17),(7,18),(8,19),(9,20),(10,21),(11,22),(12,23),(13,24)]
theorem Aie(h:Np gl gg I)(hc:Aej I.cards){ids cs:Ba}(c:ba prog gl 72 [.ptr (Ag gg) 0,aE aj ids] (aE aj cs))(hl:∀x∈cs,Wv (I.o x) x)(hn:cs.length<=1000):SA prog gl 36 [.ptr (Ag gg) 0,aE aj ids] [] 0 0 (.ref 0 0) (BW f0 (aaF I cs)):=by
 have hQ:∀k,Bi ((cs.take k).foldl (NS I) (Hf I.cards)):=λk=>X8 (LT hc.r) λx hx=>hl x (List.mem_of_mem_take hx);refine dFP func36 ?_;refine XU (l:=cs) aa (λk:Nat=>(s0 33 gl [(0,.ptr (Ag gg) 0),(5,.ref 0 0),(15,aE aj cs),(16,iG (ah cs)),(17,iG (k:Int))] (BW f0 ((cs.take k).foldl (NS I) (Hf I.cards))) 14 0)) 1110122 [hf 11 h.cards,hrn 12 0 [aE bv I.cards] (LT hc.r) (Agd gl hc),hf 15 c] (rlB ρr0 (Qt 0) (hQ 0)) (λB k x hx hz k5=>?_) (λB=>?_) [] ρr0 N5
 .have hlt:=(cr hx).1;have hq:=hQ k;have a:=hl x (bO hx);rw[JD,hx,Option.toList_some,Om,List.foldl_cons,List.foldl_nil] at k5;generalize (cs.take k).foldl (NS I) (Hf I.cards)=Q at hq k5⊢;unfold NS at k5;have b:=Sb hq a;exact jw [hr 18 (CB hx),AB 19 (ac.ixZ hz),AB 20 (ac.ptZ aW hz),hf 24 (h.op x),hrw 30 f0 16 [.agg (aJ (I.o x)),.agg (aj x)] hq b (Agc gl hq a),hbb 31 (Xl (q:=k) aa)] (rlB ρr2 (fW f0 16) b) k5 [] ρr2 N5
 .rw[EZ];exact ZT [hr 18 (DS (s:=cs))] (rlB ρr0 f0 (X8 (LT hc.r) hl)) ρr0 N5
end
section
variable {g:Bc} {m:Jb} {N:I4}
theorem AbC(w:G9 g)(p:Ou g m N)(h:bu x g.IDs=some k):∃y,N[k]?=some y/\k<256/\y.id=x:=by have h1:=(gb h).1;have hlt:=(cr h1).1;have n1:=w.nL;have n2:=w.nI;have a:=p.len;have hy:N[k]?=some (N[k]'aa):=EA _;have:=(p.nd k _ hy).2.1;rw[h1] at this;exact⟨_,hy,aa,(Bp this).symm⟩
theorem Sw(w:G9 g)(p:Ou g m N)(x:Ab):M2 ⟨g.Cards,m,N⟩ x=(bu x g.IDs).bind λk=>N[k]? :=by
 unfold M2;show(m.get x).bind _=_;rw[p.get];cases bu x g.IDs with
 |none=>rfl
 |some k=>exact au
theorem Agv(w:G9 g)(p:Ou g m N)(x:Ab):(R0 ⟨g.Cards,m,N⟩).op x=(bu x g.IDs).bind λk=>g.L[k]? :=by
 show(M2 _ x).map (·.o)=_;rw[Sw w p];cases hk:bu x g.IDs with
 |none=>rfl
 |some k=>obtain⟨y,h1,_,_⟩:=AbC w p hk;show(N[k]?).map _=g.L[k]?;rw[h1,(p.nd k y h1).1];rfl
theorem Agw(w:G9 g)(p:Ou g m N)(x y:Ab):(R0 ⟨g.Cards,m,N⟩).bef x y=match bu x g.IDs,bu y g.IDs with|some i,some j=>RU g j i|_,_=>false:=by
 show Agr _ x y=_;unfold Agr;show(match m.get x,M2 ⟨g.Cards,m,N⟩ y with|some n,some b=>gW b.past n.toNat|_,_=>false)=_;rw[Sw w p,p.get];cases hx:bu x g.IDs with
 |none=>rfl
 |some i=>
  cases hy:bu y g.IDs with
  |none=>rfl
  |some j=>obtain⟨b,h1,_,_⟩:=AbC w p hy;obtain⟨_,_,h2,_⟩:=AbC w p hx;show(match some (i:Int),N[j]? with|some n,some b=>gW b.past n.toNat|_,_=>false)=_;rw[h1];exact(p.nd j b h1).2.2.1 i h2
end
def GD(s:List Aj×Int):Option ((List Aj×Int)⊕(List Aj)):=
 bif 0<s.2 then(aS s.1 s.2).bind λa=>(aS s.1 (wI (s.2-1))).bind λb=>(wz a b).bind λr=>bif r<0 then(ji s.1 s.2 b).bind λc=>(ji c (wI (s.2-1)) a).bind λd=>some (.inl (d,wI (s.2-1)))else some (.inr s.1)else some (.inr s.1)
def Ln(n:Int)(s:List Aj×Int):Option ((List Aj×Int)⊕(List Aj)):=
 bif s.2<n then(AH GD (s.1,s.2)).bind λl=>some (.inl (l,wI (s.2+1)))else some (.inr s.1)
def So(l:List Aj):Option (List Aj):=AH (Ln (ah l)) (l,wI (0+1))
structure Aoj {K V:Type} (m:FM K V):Prop where
 nd:(m.es.map (·.2.2)).Nodup
 lt:∀e∈m.es,e.2.2<m.clk
structure Aok (m:FM Aj Nat) (srt:List Aj):Prop where
 ok:Aoj m
 n:m.es.length<=12
 sr:∀ks:List Aj,ks.Perm (m.es.map (·.1))->So ks=some srt
 len:srt.length=m.es.length
theorem Lt{l:Bn}{k:Nat}{v:Int}(hl:l.length<=3)(hv:v≠0)(hk:l[k]?=some v)(h:∀j,j<k->l[j]?=some 0):iy l=some v:=by
 unfold iy;refine T.eq (.bind ((T.search l (λy=>decide (y≠0)) (λ_ y=>y) aa (λk x hx hk=>?_) ?_).mono ?_))
 .grind [fm,eA,au,aq]
 .unfold fm;rw[eF,Bf]
 .rintro r (⟨rfl,h0⟩|⟨k',x,hx,hp,rfl,h0⟩)
  .have:=h0 v (bO hk);simp[hv] at this
  .refine .some ?_;grind
theorem Uj:iy [0,0,0]=some 0:=by
 unfold iy;refine T.eq (.bind ((T.search [0,0,0] (λy=>decide (y≠0)) (λ_ y=>y) BU (λk x hx hk=>?_) ?_).mono ?_))
 .grind [fm,eA,au,aq]
 .unfold fm;rw[eF,Bf]
 .rintro r (⟨rfl,h0⟩|⟨k',x,hx,hp,rfl,h0⟩)
  .exact .some rfl
  grind
theorem EW(a b:Ab):pE a b=some (dt a b):=by
 by_cases hl:dt a b=true
 .rw[hl];exact MW hl
 have hl:dt a b=false:=by simpa using hl
 rw[hl];unfold pE;rw[Ax,Ax,MV];simp only[aL];unfold dt at hl;by_cases h1:a.By=b.By
 .rw[BX (by simp[h1])] at hl;by_cases h2:a.Seq=b.Seq
  .rw[BX (by simp[h2])] at hl;have h3:=Ni hl;by_cases h4:b.Sum<a.Sum
   .rw[Lt (k:=2) (v:=1) aC BU (by simp[h3,h4]) (by grind)];rfl
   grind [Uj]
  .rw[BB h2] at hl;have h3:=Ni hl;rw[Lt (k:=1) (v:=1) aC BU (by simp[h3];omega) (by grind)];rfl
 .rw[BB h1] at hl;have h3:=Ni hl;rw[Lt (k:=0) (v:=1) aC BU (by simp[h3];omega) (by grind)];rfl
theorem R6{a b c:Ab}(h1:dt a b=true)(h2:dt b c=true):dt a c=true:=by grind [dt]
theorem EX{a b:Ab}(h1:dt a b=false)(h2:dt b a=false):a=b:=by obtain⟨x,y,z⟩:=a;obtain⟨c,d,e⟩:=b;grind [dt]
def AbD(x y:Int):Int:=bif x<y then-1 else bif y<x then 1 else 0
def GL(a b:Ab):Int:=bif dt a b then-1 else bif dt b a then 1 else 0
def M3(I:Gi)(a b:Ab):Int:=bif AbD (I.lev a) (I.lev b)≠0 then AbD (I.lev a) (I.lev b)else GL a b
theorem AdD(x y:Int):f8 x y=some (AbD x y):=by unfold f8 AbD FI;have h1:decide (x≠x)=false:=Dl aC;have h2:decide (y≠y)=false:=Dl aC;simp only[h1,h2,aL,Bf];cases decide (x<y)<;>cases decide (y<x)<;>rfl
theorem Aif(u v:Int):iy [u,v]=some (bif u≠0 then u else v):=by
 unfold iy;refine T.eq (.bind (T.forI 2 (λk=>0<k->u=0/\(1<k->v=0)) aa (λh=>absurd h (Nat.lt_irrefl _)) (λk hk a=>?_) λa=>?_))
 .unfold fm;rcases(by omega:k=0\/k=1) with rfl|rfl
  .show T ((bif u≠0 then _ else _)) _;refine .ite (λh=> .some (.some ?_)) λh=> .some ⟨rfl,λ_=>⟨by simpa using h,λh=>absurd h (Nat.lt_irrefl _)⟩⟩;rw[h];rfl
  .obtain⟨hu,_⟩:=a aa;show T ((bif v≠0 then _ else _)) _;refine .ite (λh=> .some (.some ?_)) λh=> .some ⟨rfl,λ_=>⟨hu,λ_=>by simpa using h⟩⟩;subst hu;rfl
 .obtain⟨hu,hv⟩:=a aa;have hv:=hv aa;subst hu;subst hv;exact .some (.some rfl)
theorem Akt(h:Uv gg)(x:Ab):Fj gg x=some ((R0 gg).lev x):=by
 unfold Fj FR;cases e:gg.at_.get x with
 |none=>show _=some (match M2 gg x with|some y=>y.level|none=>0);rw[X5 e];rfl
 |some n=>obtain⟨k,y,rfl,hz,hn,hk,hm⟩:=Uw h e;show _=some (match M2 gg x with|some y=>y.level|none=>0);rw[hn];simp only[Option.isSome_some,ax,Nt,hz,aL]
theorem Aig(h:Uv gg)(a b:Ab):Ly ⟨gg⟩ a b=some (M3 (R0 gg) a b):=by unfold Ly;rw[EW,EW];unfold M3 GL;cases h1:dt a b<;>cases h2:dt b a<;>(simp only[ax,Bf,aL,Akt h,AdD,Aif])
theorem Aih{gl:CC}(h:Uv gg)(a b:Ab):ba prog gl 57 [.agg (Nv ⟨gg⟩),.agg (aj a),.agg (aj b)] (iG (M3 (R0 gg) a b)):=Sg gl (Aig h a b)
theorem Aii{gl:CC}{s:Ba}(hn:s.length<=1000)(v:Ab):ba prog gl 204 [aE aj s,.agg (aj v)] (bG (s.any λy=>decide (v=y))):=Jq gl (Tk aa v)
abbrev dR(l:Ba)(i:Nat):Bk:=(l.flatMap aj).take (i*3)++(l.drop (i+1)).flatMap aj++(l.flatMap aj).drop (i*3+(l.length-(i+1))*3)
abbrev zD(L:Bk)(n:Nat):Bk:=L.take (n*3)++(bN zI (1*3)).map .lit++L.drop (n*3+1*3)
theorem AcN{l:Ba}(h:i<l.length):(dR l i).length=l.length*3:=by grind [AQ.len,ac]
theorem Aku(l:Ba)(i:Nat):∀g∈dR l i,bB g:=by grind [AQ.imm,ac]
theorem Akv{L:Bk}(h:∀g∈L,bB g)(n:Nat):∀g∈zD L n,bB g:=by grind [mN]
theorem Aij{l:Ba}{i:Nat}(h:i<l.length):(zD (dR l i) (l.length-1)).take ((l.length-1)*3)=(l.eraseIdx i).flatMap aj:=by
 have hl:=AcN h;have e1:(zD (dR l i) (l.length-1)).take ((l.length-1)*3)=(dR l i).take ((l.length-1)*3):=by grind
 have e2:(l.flatMap aj).take (i*3)=(l.take i).flatMap aj:=by grind [Pw,AQ.len,ac,Lv]
 grind [AQ.len,ac]
theorem cI:dp prog 26=some 41/\bw prog 41=some 3/\jj prog 41=some zI:=⟨aH,aH,aH⟩
def hai(d:Nat){P:Bu}{σ:aQ}{t:Bj}{gx gy:G}{i n:Nat}{ob:Ob}(h:R7 P σ t gx gy=some (i,ob,n)):HP:=⟨some (.i d i ob n),R7 P (US σ (fR gx++fR gy)) t gx gy=some (i,ob,n),(Adg Hh).symm.trans h⟩
theorem Akw{l:Ba}{i:Nat}(h:i<l.length):R7 prog [(0,BA l)] 26 (.rsr 0 i) (.rsl 0 (0+((i+1:Nat):Int).toNat*3) (l.length-((i+1:Nat):Int).toNat))=some (0,⟨41,dR l i,none⟩,l.length-1):=by
 have e4:ag [(0,BA l)] 0=some ⟨41,l.flatMap aj,none⟩:=rfl;have hlen:=ac.len l;have e5:fO [(0,BA l)] 3 (.rsl 0 ((i+1)*3) (l.length-(i+1)))=some ((l.drop (i+1)).flatMap aj,l.length-(i+1)):=by
  unfold fO;simp only[e4,aL];rw[BB (by rw[hlen];omega)];congr 2;have:(l.flatMap aj).drop ((i+1)*3)=(l.drop (i+1)).flatMap aj:=by
   conv=>lhs;rw[<-Pw (i+1) l,List.flatMap_append]
   grind [List.drop_left',AQ.len,ac]
  grind [AQ.len,ac]
 rw[Fw,Nat.zero_add];grind [R7,cI]
theorem Akx{l:Ba}{i:Nat}(h:i<l.length):sJ prog 26 (.rsl 0 0 l.length) (iG (i:Int)) (iG ((i+1:Nat):Int)) (iG (ah l))=some .junk:=by unfold sJ ah;grind [UM,cI]
theorem Aky{l:Ba}{i:Nat}(h:i<l.length):JJ prog [] 26 (.rsl 0 0 l.length) none (some (i:Int))=some (.rsr 0 i):=by unfold JJ;grind [cI]
theorem Akz{l:Ba}{i:Nat}(h:i<l.length):JJ prog [ob 0 41 (dR l i)] 26 (.rsr 0 (l.length-1)) (some ((l.length-1:Nat):Int)) (some (ah l))=some (.rsl 0 ((l.length-1)*3) 1):=by have e4:ag [ob 0 41 (dR l i)] 0=some (⟨41,dR l i,none⟩:Ob):=rfl;unfold JJ ah;simp only[cI.1,cI.2.1,e4];rw[BB (by grind [AcN]),Fw,Fw,show l.length-(l.length-1)=1 by omega]
theorem AkA{l:Ba}{i:Nat}(h:i<l.length):rF prog [ob 0 41 (dR l i),(1,some BC),(0,BA l)] 26 (.rsl 0 ((l.length-1)*3) 1)=some (0,⟨41,zD (dR l i) (l.length-1),none⟩):=by have e4:ag [ob 0 41 (dR l i),(1,some BC),(0,BA l)] 0=some (⟨41,dR l i,none⟩:Ob):=rfl;unfold rF;simp only[cI.1,cI.2.1,cI.2.2,e4];rw[BB ⟨rfl,aa,BU,by rw[AcN h];omega,rfl⟩]
theorem aaH{l:Ba}{i:Nat}(hl:l.length<=1000)(h:i<l.length):jg prog gl 216 [.rsl 0 0 l.length,iG (i:Int),iG ((i+1:Nat):Int)] [(0,BA l)] 1 (.rsl 0 0 (l.length-1)) [(0,BA (l.eraseIdx i))] 1:=by have hz:=Aij h;have hi:=Akv (Aku l i) (l.length-1);refine pP func216 ?_;refine pO 11111110 (J:=(s0 33 gl [(0,.rsl 0 0 (l.length-1))] [ob 0 41 (zD (dR l i) (l.length-1))] 1 1)) [hcv 13 (g:= .junk) (Akx h),hr 16 (show decide ((i:Int)=((i+1:Nat):Int))=false from Dl aa),hcv 22 (g:= .rsr 0 i) (Aky h),AB 25 (ac.sufZ 0 (l:=l) (i:=((i+1:Nat):Int)) (y:=l.drop (i+1)) (by unfold mc;rw[BB ⟨aa,by rw[Fw];omega⟩,Fw])),hai 26 (Akw h),hcv 31 (g:= .rsl 0 ((l.length-1)*3) 1) (Akz h),hcl 2 (AkA h)] [hc (rfl:l.length-1=l.length-1),hc hi] ?_;refine dSh 0 ((l.length-1)*3) ?_;show Gp _ _ _ _ _ _ (s0 33 gl [(0,.rsl 0 0 (l.length-1))] ((ob 0 41 ((zD (dR l i) (l.length-1)).take ((l.length-1)*3)))::[ob 0 41 (zD (dR l i) (l.length-1))]) 1 1);rw[hz];exact mt .ret (s0 33 gl [(6,.rsl 0 0 (l.length-1))] [(0,BA (l.eraseIdx i))] 1 1) [.rsl 0 0 (l.length-1)] [] [hc (rfl:l.length-1=l.length-1),hc (ac.imm (l.eraseIdx i))]
end Go.Proofs.YtjbfcillbjiajaaGreatDoor
