/- Texts. -/
import Derived.Test.YtlijnaneopediaaGreatDoorYK
namespace Go.Proofs.YtlijnaneopediaaGreatDoor
set_option linter.unusedSectionVars false
set_option linter.unusedVariables false
set_option linter.unusedSimpArgs false
open Go.RowKit Tryz
attribute [local irreducible] Tr dz Gp
variable (gl:Cd)
variable {α:Type}{g:A7}{r:List Bool}{o:Bi}{K c d n:Int}{a b f i j k v:Nat}{l:List α}{id x:Ab}{N:IH}{u:Bk}{m:IX}{W ids:A3}{gg:Aj}{P:Br}{st:St}{al:Bb}{fi:FuncId}{I:Gi}
theorem Fo.op{g:A7}(w:Fo g){i:Nat}(h:i<g.L.length):∃o,g.L[i]?=some o/\Be o/\FF o:=by obtain⟨o,ho⟩:∃o,g.L[i]?=some o:=⟨_,Ef h⟩;grind [ops]
theorem KC(w:Fo g){o:Bi}(hr:r.length=g.L.length):T (lA g o r) λ_=>True:=by
 have nL:=w.nL;unfold lA;refine .bind (T.forA g.L.length (λ_ _=>True) aa trivial (λk b hk _=>?_) λb _=>?_)
 .obtain⟨p,hp,_⟩:=w.op hk;obtain⟨x,hx⟩:∃x,r[k]?=some x:=⟨_,Ef aa⟩;unfold jK;dsimp only;rw[eA hk,ax,au,au,hx,hp];simp only[aL];refine .bindc ?_ λj _=> .ite (λ_=> .some ⟨aq aa,trivial⟩) λ_=>?_
  .grind [T.some]
  .refine .ite (λ_=> .some (.some trivial)) λ_=> .bindc ?_ λj _=> .some ⟨aq aa,trivial⟩;grind [T.some]
 .unfold jK;dsimp only;rw[eF,AQ];refine .some (.bindc ?_ λj _=> .some trivial);grind [T.some]
structure R0 (g:A7) (o:Bi) (up:Bk):Prop where
 check:FF o
 id:∃i,pV o=some i/\bu i g.IDs=none
 room:g.L.length<200
 card:∃c,mZ g o.By=(c,true)/\jJ c.Sign (O7 o) o.Sig=some true
 create:o.Kind=1->g.L=[]
 upl:up.length=o.Past.length
 par:∀(k:Nat) (i:Ab),o.Past[k]?=some i->∃n:Nat,bu i g.IDs=some n/\up[k]?=some (n:Int)
 upb:∀x∈up,0<=x/\x<(g.L.length:Int)
 apart:∀i k:Nat,(i:Int)∈up->(k:Int)∈up->O9 g i k=false
 late:∀(i:Nat) (p:Bi),(i:Int)∈up->g.L[i]?=some p->p.At<=o.At
 right:∃r,jA g up=some r/\lA g o r=some true
theorem pK(h:Ct o=false):o.Past.length<=12:=by grind [Ct]
theorem yd{c:DP}(h:mZ g d=(c,true)):c∈g.Cards/\c.Device=d:=by grind [mZ]
theorem wO(h:g.In[i]?=some r):O9 g i k=(r[k]?).getD false:=by unfold O9;rw[h];rfl
theorem KD(w:Fo g)(ho:Be o)(hs:fS o.Sig.S):T (vA g o) λr=>r.1=0->R0 g o r.2:=by
 have nL:=w.nL;have nI:=w.nI;have nC:=w.nC;have nP:=ho.nPast;unfold vA;refine .bind ((Cv ho).mono λe he=> .dec (by grind [T.some]) λh=>?_);have hc:FF o:=he (by simpa using h);obtain⟨i,ei,i1,B,C,D⟩:=wN ho;rw[ei,aL,dC aa,aL];refine .dec (by grind [T.some]) λhpl=>?_;have hk:bu i g.IDs=none:=by grind [gO]
 refine .dec (by grind [T.some]) λhroom=>?_;have hroom:g.L.length<200:=by unfold ah at hroom;omega
 rw[Cw aa,aL];refine .ite (by grind [T.some]) λf=>?_;obtain⟨c,hcd⟩:∃c,mZ g o.By=(c,true):=by grind
 rw[hcd];refine .then (uV ho) ?_;refine .bindc (by grind [Fo,KB,yd,yY]) λsg hsg=>?_;refine .ite (by grind [T.some]) λl=>?_;have hsg:jJ c.Sign (O7 o) o.Sig=some true:=by grind
 rw[cL,aL];refine .ite (by grind [T.some]) λhcr=>?_;have hcr:o.Kind=1->g.L=[]:=λh1=>by rw[CM h1,ax] at hcr;have:=Lq hcr;unfold ah at this;exact List.eq_nil_of_length_eq_zero aa
 refine .bind (T.forA o.Past.length (λk acc=>acc.length=k/\(∀(j:Nat) (x:Ab),j<k->o.Past[j]?=some x->∃n:Nat,bu x g.IDs=some n/\acc[j]?=some (n:Int))/\∀x∈acc,0<=x/\x<(g.L.length:Int)) aa (by grind) (λk acc hk hj=>?_) λacc hj=>?_)
 .obtain⟨x,hx⟩:∃x,o.Past[k]?=some x:=⟨_,Ef hk⟩;unfold qI;dsimp only;rw[eA hk,ax,au,hx,aL,dC aa,aL];refine .dec (λ_=> .some (.some (by grind))) λhp=>?_;have hkx:∃n,bu x g.IDs=some n:=by grind [gO]
  obtain⟨n,hn⟩:=hkx;have ep:gO g x=(n:Int):=by unfold gO;rw[hn]
  have hnl:n<g.L.length:=by have:=(cr (gb hn).1).1;omega
  rw[ep];refine .bind (.app cq (.some (by constructor<;>grind [aq])));all_goals grind
 unfold qI;dsimp only;rw[eF,AQ];refine .some ?_;obtain⟨a1,a2,a3⟩:=hj;have hup:∀(k:Nat) (x:Ab),o.Past[k]?=some x->∃n:Nat,bu x g.IDs=some n/\acc[k]?=some (n:Int):=by grind
 clear a2;refine .bind (T.forI acc.length (λk=>(∀(j:Nat) (x y:Nat),j<k->acc[j]?=some (x:Int)->(y:Int)∈acc->O9 g x y=false)/\∀(j:Nat) (x:Nat) (p:Bi),j<k->acc[j]?=some (x:Int)->g.L[x]?=some p->p.At<=o.At) aa (by grind) (λk hk hj=>?_) λhj=>?_)
 .obtain⟨x,hx⟩:∃x,acc[k]?=some x:=⟨_,Ef hk⟩;have s:=a3 x (bO hx);obtain⟨n,rfl⟩:∃n:Nat,x=(n:Int):=⟨x.toNat,aa⟩;have hnl:n<g.L.length:=aa;obtain⟨r,hr⟩:∃r,g.In[n]?=some r:=⟨_,Ef (by rw[w.nN];exact hnl)⟩;obtain⟨p,hp,_⟩:=w.op hnl;unfold qH;rw[eA hk,ax];refine .bind (T.forI acc.length (λm=>∀(j:Nat) (y:Nat),j<m->acc[j]?=some (y:Int)->O9 g n y=false) aa (by grind) (λm hm hjm=>?_) λhjm=>?_)
  .obtain⟨y,hy⟩:∃y,acc[m]?=some y:=⟨_,Ef hm⟩;have t:=a3 y (bO hy);obtain⟨q,rfl⟩:∃q:Nat,y=(q:Int):=⟨y.toNat,aa⟩;obtain⟨b,hb⟩:∃b,r[q]?=some b:=by grind [Fo.rows]
   unfold qG;rw[eA hm,ax,au,hx,aL,au,hr,aL,au,hy,aL,au,hb,aL];refine .ite (λ_=> .some (.some (.some (by grind)))) λhbf=> .some ⟨aq aa,λj z u hz=>?_⟩;rcases HU j m with hlt|hge
   .exact hjm j z hlt hz
   .obtain rfl:j=m:=aa;rw[hy] at hz;obtain rfl:q=z:=by grind
    grind [wO]
  .unfold qG;rw[eF,AQ];refine .some ?_;show T (ma _ _ _) _;dsimp only[ma];rw[au,hx,aL,au,hp,aL];refine .dec (λ_=> .some (.some (by grind))) λhat=> .some ⟨aq aa,λj a y d hx' hy=>?_,λj a A d hx' hp'=>?_⟩
   .rcases HU j k with hlt|hge
    .exact hj.1 j a y hlt hx' hy
    .obtain rfl:j=k:=aa;rw[hx] at hx';obtain rfl:n=a:=by grind
     obtain⟨m,hm⟩:=He hy;grind
   .rcases HU j k with hlt|hge
    .exact hj.2 j a A hlt hx' hp'
    .obtain rfl:j=k:=aa;rw[hx] at hx';obtain rfl:n=a:=by grind
     rw[hp] at hp';cases hp';omega
 unfold qH;rw[eF,AQ];refine .some ?_;obtain⟨b1,b2⟩:=hj;obtain⟨r,hr,v,E⟩:=yc w (up:=acc) aa a3;obtain⟨b,hb,_⟩:=KC w (o:=o) v;show T (ma _ _ _) _;dsimp only[ma];rw[hr,aL,hb,aL];refine .ite (by grind [T.some]) λhbt=> .some λ_=>⟨hc,⟨i,ei,hk⟩,hroom,⟨c,hcd,hsg⟩,hcr,a1,hup,a3,λx y hx hy=>?_,λx p hx hp=>?_,⟨r,hr,?_⟩⟩
 .obtain⟨j,hj⟩:=He hx;grind
 .obtain⟨j,hj⟩:=He hx;grind
 grind
def pL(g:A7)(o:Bi)(i:Ab)(up:Bk)(r:List Bool):A7:=⟨g.Cards,g.L++[o],g.IDs++[i],g.Up++[up],g.In.map (·++[false])++[r++[false]]⟩
theorem je{l:List α}{x y:α}(h:(l++[x])[i]?=some y):(i<l.length/\l[i]?=some y)\/(i=l.length/\y=x):=by grind
theorem Ms{x y:α}(h:l[i]?=some y):(l++[x])[i]?=some y:=by grind
theorem F8{x:α}:(l++[x])[l.length]?=some x:=aC
theorem kU(w:Fo g){o:Bi}{id:Ab}{up:Bk}(hr:r.length=g.L.length)(i k:Nat):O9 (pL g o id up r) i k=true↔(i<g.L.length/\O9 g i k=true)\/(i=g.L.length/\r[k]?=some true):=by
 have nN:=w.nN;have e:(pL g o id up r).In=g.In.map (·++[false])++[r++[false]]:=rfl;have lm:(g.In.map (·++[false])).length=g.L.length:=by rw[Hq,nN]
 have snoc:∀(l:List Bool),((l++[false])[k]?).getD false=true↔l[k]?=some true:=by grind
 rcases Nat.lt_trichotomy i g.L.length with h|h|h
 .obtain⟨row,hrow⟩:∃row,g.In[i]?=some row:=⟨_,Ef aa⟩;have h1:(pL g o id up r).In[i]?=some (row++[false]):=by grind
  rw[wO h1,snoc,wO hrow];constructor
  .grind
  .rintro(⟨_,h2⟩|⟨h2,_⟩);all_goals grind
 .grind [wO]
 .have h1:(pL g o id up r).In[i]?=none:=by grind
  grind [O9]
theorem Wc(w:Fo g){up:Bk}(ho:Be o)(hs:fS o.Sig.S)(a:R0 g o up)(hid:pV o=some id)(hr:r.length=g.L.length)(hb:∀k,k<g.L.length->(r[k]?=some true↔Hi g up k)):Fo (pL g o id up r):=by
 have nL:=w.nL;have nI:=w.nI;have nU:=w.nU;have nN:=w.nN;have inr:∀k,r[k]?=some true↔Hi g up k:=λk=>by
  rcases HU k g.L.length with h|h
  .exact hb k h
  .constructor
   .grind
   .rintro(h2|⟨j,h2,h3⟩)
    .have:=(a.upb _ h2).2;omega
    .have:=w.inlt j k h3;omega
 have upAt:∀(j:Nat) (v:Bk),j<g.L.length->((pL g o id up r).Up[j]?=some v↔g.Up[j]?=some v):=λj v hj=>by show(g.Up++[up])[j]?=some v↔_;rw[List.getElem?_append_left aa]
 obtain⟨c,e1,e2⟩:=a.id;rw[hid] at e1;cases e1;exact{
  nL:=by show(g.L++[o]).length<=200;have:=a.room;simp;omega
  nI:=by show(g.IDs++[id]).length=(g.L++[o]).length;simp;omega
  nU:=by show(g.Up++[up]).length=(g.L++[o]).length;simp;omega
  nN:=by show(g.In.map _++[_]).length=(g.L++[o]).length;simp;omega
  nC:=w.nC
  cards:=w.cards
  up:=λi u hu=>by
   rcases je hu with⟨_,h⟩|⟨h,rfl⟩
   .exact w.up i u h
   grind [R0,pK,FF.long]
  rows:=λi row hrow=>by
   show row.length=(g.L++[o]).length;rcases je hrow with⟨_,h⟩|⟨h,rfl⟩
   all_goals grind [Fo.rows]
  inlt:=λi k h=>by
   show k<i/\i<(g.L++[o]).length;rcases(kU w hr i k).1 h with⟨h1,h2⟩|⟨h1,h2⟩
   .have:=w.inlt i k h2;simp;omega
   grind
  ops:=λi p hp=>by
   rcases je hp with⟨_,h⟩|⟨h,rfl⟩
   all_goals grind [Fo.ops,R0.check]
  ids:=λi p q hp hq=>by
   rcases je hp with⟨h0,h⟩|⟨h,rfl⟩
   .rcases je hq with⟨_,h'⟩|⟨h',_⟩
    all_goals grind [Fo.ids]
   .rcases je hq with⟨h',_⟩|⟨_,rfl⟩
    .omega
    .exact hid
  nd:=by show(g.IDs++[id]).Nodup;grind [Fo.nd,jv]
  one:=λi k u hu hk=>by
   rw[kU w hr];rcases je hu with⟨h0,h⟩|⟨h,rfl⟩
   .grind [Fo.one]
   .exact .inr ⟨aa,(inr k).2 (.inl hk)⟩
  tr:=λi j k v hij hv hk=>by
   rw[kU w hr];rcases(kU w hr i j).1 hij with⟨h1,h2⟩|⟨h1,h2⟩
   .have:=w.inlt i j h2;grind [Fo.tr]
   .have hj:=(cr h2).1;have b:=(upAt j v aa).1 hv;refine .inr ⟨h1,(inr k).2 ?_⟩;rcases(inr j).1 h2 with h3|⟨m,h3,h4⟩
    .exact .inr ⟨j,h3,w.one j k v b hk⟩
    .exact .inr (by grind [Fo.tr])
  la:=λi k hik=>by
   rcases(kU w hr i k).1 hik with⟨h1,h2⟩|⟨h1,h2⟩
   .grind [Fo.la,kU]
   .refine⟨up,by show(g.Up++[up])[i]?=some up;rw[h1,<-nU];exact F8,?_⟩;rcases(inr k).1 h2 with h3|⟨j,h3,h4⟩
    .exact .inl h3
    .obtain⟨v,hv,h5⟩:=w.la j k h4;have hj:=w.inlt j k h4;rcases h5 with h5|⟨m,v',h6,h7,h8⟩
     .exact .inr ⟨j,v,(kU w hr i j).2 (.inr ⟨h1,(inr j).2 (.inl h3)⟩),(upAt j v hj.2).2 hv,h5⟩
     .have hm:=w.inlt j m h6;exact .inr ⟨m,v',(kU w hr i m).2 (.inr ⟨h1,(inr m).2 (.inr ⟨j,h3,h6⟩)⟩),(upAt m v' aa).2 h7,h8⟩}
def Yr(g:A7)(o:Bi)(r:A7×Int):Prop:=(r.2≠0/\r.1=g)\/∃id up row,r.2=0/\R0 g o up/\pV o=some id/\jA g up=some row/\r.1=pL g o id up row
theorem QG(w:Fo g)(ho:Be o)(hs:fS o.Sig.S):T (AO g o) λr=>Fo r.1/\Yr g o r:=by
 have nL:=w.nL;have nI:=w.nI;have nU:=w.nU;have nN:=w.nN;unfold AO;refine .bind ((KD w ho hs).mono λv hv=> .dec (λh=> .some ⟨w,.inl ⟨h,rfl⟩⟩) λh=>?_);have a:=hv (by simpa using h);have ul:v.2.length<=12:=by rw[a.upl];exact pK a.check.long
 obtain⟨row,hrow,b,c⟩:=yc w (up:=v.2) aa a.upb;obtain⟨id,hid,_⟩:=a.id;rw[hrow,aL];refine .bind (.app cq (.bind (.app cq (.bind (.app cq ?_)))));rw[hid,aL];refine .bind (.app cq (.bind (.app cq (.bind (.app cq ?_)))));refine .then (T.forE g.In [] (λx=>[x++[false]]) 1 aa (λx _=>aC) (λk acc x hx hm hk hl=>?_) λacc=>?_) ?_
 .have:=w.rows k x hx;unfold xr;dsimp only;rw[eA hk,ax,au,hx,aL];refine .bind (.app cq (.bind (.bind (.app cq (.bind (.app (by simp at hl⊢;omega) (.some (.some ⟨aq aa,?_⟩))))))));simp
 .grind [xr,eF]
 .have el:([]:List (List Bool))++g.In.flatMap (λx=>[x++[false]])=g.In.map (·++[false]):=by rw[Nk];induction g.In<;>grind
  rw[el];refine .bind (.bind (.app cq (.bind (.app cq (.some (.some ?_))))));have e:(⟨g.Cards,[]++g.L++[o],[]++g.IDs++[id],[]++g.Up++[v.2],g.In.map (·++[false])++[row++[false]]⟩:A7)=pL g o id v.2 row:=rfl;exact⟨e▸Wc w ho hs a hid b c,.inr (by grind)⟩
theorem oL{f:α->Fm}(hn:l.length<=1000000)(h:∀x∈l,f x=some false):AH (λs1:Int=>(bif s1<ah l then((aS l s1).bind λa=>(f a).bind λb=>bif b then(some (.inr (.inr s1)))else(some (.inl (wI (s1+1)))))else(some (.inr (.inl ()))):Option (Int⊕(Unit⊕Int)))) 0=some (.inl ()):=by
 refine T.eq (T.forI (Q:=λv:Unit⊕Int=>v= .inl ()) l.length (λ_=>True) aa trivial (λk hk _=>?_) λ_=>?_)
 .rw[eA hk,ax,au,Ef hk,aL,h _ (List.getElem_mem hk),aL,AQ];exact .some ⟨aq aa,trivial⟩
 .rw[eF,AQ];exact .some rfl
theorem SJ{may:α->Fm}(hn:l.length<=1000000)(h:∀x∈l,may x=some true):Oa l may=some true:=by unfold Oa Abf Vx;rw[show AH (Ko l (λz=>SD z may)) 0=some (.inl ()) from oL hn (by grind [SD])];rfl
structure JN (o:Bi):Prop where
 dev:o.Device≠0->o.Kind=2\/o.Kind=3\/o.Kind=11\/o.Kind=13
 old:o.Old≠0->o.Kind=13
 mem:o.Member≠0->o.Kind=3\/o.Kind=5
 role:o.Role≠0->o.Kind=2\/o.Kind=5
 path:0<ah o.Path->Gu o.Kind=some true
 ep:o.Epoch≠⟨0,0,0⟩->o.Kind=6
 n:o.N≠0->o.Kind=6
 refs:0<ah o.Refs->o.Kind=6
 body:0<ah o.Body->o.Kind=6\/o.Kind=7
 of_:o.Of≠⟨0,0,0⟩->o.Kind=7\/o.Kind=8\/o.Kind=12\/o.Kind=10\/o.Kind=11\/o.Kind=13
 gu:0<ah o.Guards->o.Kind=9
 wait:o.Wait≠0->o.Kind=9
 pub:o.Pub≠0->o.Kind=9
 need:o.Need≠0->o.Kind=9\/o.Kind=1
 box:0<ah o.Boxes->o.Kind=9\/o.Kind=10\/o.Kind=11
 hist:ah o.Hist≠0->o.Kind=2\/o.Kind=13
theorem ZD(h:Ac4 o=true):JN o:=by
 have h:mz o=some true:=by rw[Cu,h]
 unfold mz at h;obtain⟨s,e1,h⟩:=bS h;obtain⟨t,e3,h⟩:=bS h;rcases bC h with⟨b3,h⟩|⟨b3,h⟩;· cases h
 obtain⟨u,e6,h⟩:=bS h;rcases bC h with⟨f,h⟩|⟨f,h⟩;· cases h
 obtain⟨w,e,h⟩:=bS h;rcases bC h with⟨g,h⟩|⟨g,h⟩;· cases h
 obtain⟨j12,i,h⟩:=bS h;rcases bC h with⟨a,h⟩|⟨a,h⟩;· cases h
 obtain⟨j,k,h⟩:=bS h;rcases bC h with⟨b,h⟩|⟨b,h⟩;· cases h
 obtain⟨l,m,h⟩:=bS h;rcases bC h with⟨c,h⟩|⟨c,h⟩;· cases h
 obtain⟨n,p,h⟩:=bS h;rcases bC h with⟨d,h⟩|⟨d,h⟩;· cases h
 obtain⟨q,r,h⟩:=bS h;obtain rfl:=Bo h;subst b3 f g a b c d;refine⟨λhd=>?_,λhd=>?_,λhd=>?_,λhd=>?_,λhd=>?_,λhd=>?_,λhd=>?_,λhd=>?_,λhd=>?_,λhd=>?_,λhd=>?_,λhd=>?_,λhd=>?_,λhd=>?_,λhd=>?_,λhd=>?_⟩
 .grind
 .grind
 .refine Classical.byContradiction λhc=>?_;try simp only[not_or] at hc
  simp[hd,hc] at e6
 .refine Classical.byContradiction λhc=>?_;try simp only[not_or] at hc
  simp[hd,hc] at e6
 .rw[CM hd,ax] at e;obtain⟨v,ev,e⟩:=bS e;grind
 .grind
 .grind
 .grind
 .grind
 .grind
 .grind
 .grind
 .grind
 .grind
 all_goals grind
theorem MU{kk:Nat}:∀{l:List (Nat×Bool)},(∀q∈l,q.2=true->q.1&&&kk=q.1)->La l&&&kk=La l
 |[],_=>by simp[La]
 |q::r,h=>by unfold La;rw[Nat.and_or_distrib_right,MU (l:=r) (by grind)];grind
theorem IY(ha:a<1048576)(hb:b<1048576)(h:a&&&b=a):wH (a:Int) (b:Int)=0:=by
 unfold wH;have e:BitVec.ofInt IntKind.i64.bits (a:Int)&&&BitVec.ofInt IntKind.i64.bits (b:Int)=BitVec.ofInt IntKind.i64.bits (a:Int):=by grind
 have e2:BitVec.ofInt IntKind.i64.bits (a:Int)&&& ~~~BitVec.ofInt IntKind.i64.bits (b:Int)=0:=by grind
 rw[e2];rfl
theorem Hk{a b:Int}(h:a<=n/\n<=b):xj n a b=true:=by grind [xj]
theorem kW{i:Ab}(h:l7 i=true):Rz i=true:=by have h:=DS h;unfold Rz WV;grind [Hk]
theorem GC{n:Nat}(h:Cr n=true):Z5 n=true:=by have h:=DS h;grind [Z5]
theorem Vl{a:Bool}{x:Fm}:((bif a then x else some false)=some true)↔(a=true/\x=some true):=by cases a<;>simp
structure On (o:Bi):Prop where
 by_:1<=o.By/\o.By<=12
 seq:1<=o.Seq/\o.Seq<=2147483647
 at_:0<=o.At/\o.At<=2147483647
 k1:o.Kind=1->0<=o.Need/\o.Need<=20
 k2:o.Kind=2->(1<=o.Device/\o.Device<=12)/\1<=o.Role/\o.Role<=3
 k3:o.Kind=3->((1<=o.Device/\o.Device<=12)/\o.Member=0)\/(o.Device=0/\1<=o.Member/\o.Member<=8)
 k5:o.Kind=5->(1<=o.Member/\o.Member<=8)/\1<=o.Role/\o.Role<=3
 k6:o.Kind=6->l7 o.Epoch=true/\0<=o.N/\o.N<=2147483647
 k9:o.Kind=9->(1<=o.Need/\o.Need<=ah o.Guards)/\(0<=o.Wait/\o.Wait<=2147483647)/\Cr o.Pub=true
 k11:o.Kind=11->l7 o.Of=true/\1<=o.Device/\o.Device<=12
 k13:o.Kind=13->l7 o.Of=true/\(1<=o.Device/\o.Device<=12)/\1<=o.Old/\o.Old<=12
 kr:o.Kind=7\/o.Kind=8\/o.Kind=10\/o.Kind=12->l7 o.Of=true
theorem T1{o:Bi}(h:gU o=true):On o:=by
 have h:FI o=some true:=by rw[jF,h]
 unfold FI at h;obtain⟨a,e3,h⟩:=bS h;rcases bC h with⟨b3,h⟩|⟨b3,h⟩;· cases h
 subst b3;rw[gT,gT,gT,aL,aL,aL] at e3;simp only[gT,mY,show Jk o.Pub=some (Cr o.Pub) from kS o.Pub,aL] at h;have e1:1<=o.By/\o.By<=12:=by grind
 have e2:1<=o.Seq/\o.Seq<=2147483647:=by grind
 have e4:0<=o.At/\o.At<=2147483647:=by grind
 refine⟨e1,e2,e4,λhk=>?_,λhk=>?_,λhk=>?_,λhk=>?_,λhk=>?_,λhk=>?_,λhk=>?_,λhk=>?_,λhk=>?_⟩
 .simpa[hk,Vl] using h
 .simpa[hk,Vl] using h
 .grind
 .simpa[hk,Vl] using h
 .simpa[hk,Vl] using h
 .simpa[hk,Vl] using h
 .simpa[hk,Vl] using h
 .simpa[hk,Vl] using h
 .rcases hk with hk|hk|hk|hk<;>simpa[hk,Vl] using h
def pT(K:Int):Nat:=(nG.getD K.toNat 0).toNat
theorem vj:pT 1=2064:=B5
theorem kk2:pT 2=32793:=B5
theorem zS:pT 3=21:=B5
theorem yu:pT 4=16:=B5
theorem zT:pT 5=12:=B5
theorem zU:pT 6=480:=B5
theorem zt:pT 7=640:=B5
theorem zu:pT 8=512:=B5
theorem Aw:pT 9=31744:=B5
theorem ki:pT 10=8704:=B5
theorem kC:pT 11=8705:=B5
theorem km:pT 12=512:=B5
theorem kX:pT 13=33299:=B5
theorem ic(h:1<=K/\K<=13):K=1\/K=2\/K=3\/K=4\/K=5\/K=6\/K=7\/K=8\/K=9\/K=10\/K=11\/K=12\/K=13:=aa
theorem RK(h:Gu K=some true):K=1\/K=2\/K=3\/K=4\/K=13:=by grind [Gu]
theorem W9(b:JN o):∀q∈rU o,q.2=true->q.1&&&pT o.Kind=q.1:=by
 intro q hq hb;simp only[rU,EH,Lu,or_false] at hq;rcases hq with rfl|rfl|rfl|rfl|rfl|rfl|rfl|rfl|rfl|rfl|rfl|rfl|rfl|rfl|rfl|rfl
 .grind [JN.dev,kk2,zS,kC,kX]
 .grind [JN.old,kX]
 .grind [JN.mem,zS,zT]
 .grind [JN.role,kk2,zT]
 .grind [RK,JN.path,vj,kk2,zS,yu,kX]
 .grind [JN.ep,zU]
 .grind [JN.n,zU]
 .grind [JN.body,zU,zt]
 .grind [JN.refs,zU]
 .grind [JN.of_,zt,zu,ki,kC,km,kX]
 .grind [JN.gu,Aw]
 .grind [JN.need,vj,Aw]
 .grind [JN.wait,Aw]
 .grind [JN.box,Aw,ki,kC]
 all_goals grind [JN.pub,kk2,Aw,kX,JN.hist]
theorem ZE(f:On o)(a:1<=o.Kind/\o.Kind<=13):∀q∈OC o,pT o.Kind&&&q.1≠0->q.2=true:=by
 intro q hq hne;simp only[OC,EH,Lu,or_false] at hq;rcases hq with rfl|rfl|rfl|rfl|rfl|rfl|rfl|rfl|rfl|rfl
 .rcases ic a with hk|hk|hk|hk|hk|hk|hk|hk|hk|hk|hk|hk|hk
  .simp[hk,vj] at hne
  .grind [GH,Hk,On.k2]
  .grind [On,GH,Hk]
  .simp[hk,yu] at hne
  .simp[hk,zT] at hne
  .simp[hk,zU] at hne
  .simp[hk,zt] at hne
  .simp[hk,zu] at hne
  .simp[hk,Aw] at hne
  .simp[hk,ki] at hne
  all_goals grind [On,GH,Hk,km]
 .rcases ic a with hk|hk|hk|hk|hk|hk|hk|hk|hk|hk|hk|hk|hk
  .simp[hk,vj] at hne
  .simp[hk,kk2] at hne
  .simp[hk,zS] at hne
  .simp[hk,yu] at hne
  .simp[hk,zT] at hne
  .simp[hk,zU] at hne
  .simp[hk,zt] at hne
  .simp[hk,zu] at hne
  .simp[hk,Aw] at hne
  .simp[hk,ki] at hne
  all_goals grind [On,kC,km,Hk]
 .rcases ic a with hk|hk|hk|hk|hk|hk|hk|hk|hk|hk|hk|hk|hk
  .simp[hk,vj] at hne
  .simp[hk,kk2] at hne
  .grind [On,GB,Hk]
  .simp[hk,yu] at hne
  .grind [GB,Hk,On.k5]
  .simp[hk,zU] at hne
  .simp[hk,zt] at hne
  all_goals grind [zu,Aw,ki,kC,km,kX]
 .rcases ic a with hk|hk|hk|hk|hk|hk|hk|hk|hk|hk|hk|hk|hk
  .simp[hk,vj] at hne
  .exact Hk (f.k2 hk).2
  .simp[hk,zS] at hne
  .simp[hk,yu] at hne
  .exact Hk (f.k5 hk).2
  .simp[hk,zU] at hne
  .simp[hk,zt] at hne
  all_goals grind [zu,Aw,ki,kC,km,kX]
 .rcases ic a with hk|hk|hk|hk|hk|hk|hk|hk|hk|hk|hk|hk|hk
  .simp[hk,vj] at hne
  .simp[hk,kk2] at hne
  .simp[hk,zS] at hne
  .simp[hk,yu] at hne
  .simp[hk,zT] at hne
  .exact Hk (f.k6 hk).2
  .simp[hk,zt] at hne
  all_goals grind [zu,Aw,ki,kC,km,kX]
 .rcases ic a with hk|hk|hk|hk|hk|hk|hk|hk|hk|hk|hk|hk|hk
  .simp[hk,vj] at hne
  .simp[hk,kk2] at hne
  .simp[hk,zS] at hne
  .simp[hk,yu] at hne
  .simp[hk,zT] at hne
  .simp[hk,zU] at hne
  .simp[hk,zt] at hne
  .simp[hk,zu] at hne
  .exact Hk (f.k9 hk).2.1
  all_goals grind [ki,kC,km,kX]
 .rcases ic a with hk|hk|hk|hk|hk|hk|hk|hk|hk|hk|hk|hk|hk
  .grind [On,Sk,Sl,Hk]
  .simp[hk,kk2] at hne
  .simp[hk,zS] at hne
  .simp[hk,yu] at hne
  .simp[hk,zT] at hne
  .simp[hk,zU] at hne
  .simp[hk,zt] at hne
  .simp[hk,zu] at hne
  .grind [Sk,Sl,Hk,On.k9]
  all_goals grind [ki,kC,km,kX]
 .grind [On,vj,kk2,zS,yu,zT,kW,zt,zu,Aw,ki,kC,km,kX]
 .grind [vj,kk2,zS,yu,zT,zU,kW,On.kr,Aw,On.k11,On.k13]
 grind [On,vj,kk2,zS,yu,zT,zU,zt,zu,GC,ki,kC,km,kX]
theorem IZ{b:Hh}(h:yZ b=true):wB b=some true:=by unfold yZ at h;simp only[bA] at h;obtain⟨⟨⟨h1,h2⟩,h3⟩,h4⟩:=h;have e3:WV b.Body=true:=CM (by have:=DS h3;omega);have e4:WV b.Tag=true:=CM (by have:=DS h4;omega);grind [wB,rV,GA,GC]
theorem T2(sm:Be o)(h:Ct o=false):FX o=some false:=by
 have n2:=sm.nPath;have a:=sm.nHist;unfold Ct at h;simp only[Bool.or_eq_false_iff] at h;obtain⟨h1,h2,h3,h4⟩:=h;have h3:=Lq h3;have a1:Oa o.Path (λz=>wE z)=some true:=by grind [SJ,wE,ah]
 have a2:Oa o.Hist (λz=>wF z)=some true:=by grind [SJ,wF,ah]
 grind [Be,ah,FX,ib,Hk]
theorem Ax(x y:Int):f8 x y=some (if x<y then-1 else if y<x then 1 else 0):=by grind [f8,Fw]
theorem MV(x y:Nat):fQ x y=some (if x<y then-1 else if y<x then 1 else 0):=by grind [fQ,g9]
theorem CZ{l:Bk}{k:Nat}(hl:l.length<=3)(hk:l[k]?=some (-1))(h:∀j,j<k->l[j]?=some 0):iy l=some (-1):=by
 unfold iy;refine T.eq (.bind ((T.search l (λy=>decide (y≠0)) (λ_ y=>y) aa (λk x hx hk=>?_) ?_).mono ?_))
 .grind [fm,eA,au,aq]
 .unfold fm;rw[eF,AQ]
 .rintro r (⟨rfl,h0⟩|⟨k',x,hx,hp,rfl,h0⟩)
  .have:=h0 (-1) (bO hk);simp at this
  .refine .some ?_;grind
theorem MW{a b:Ab}(h:dt a b=true):pE a b=some true:=by
 unfold pE;rw[Ax,Ax,MV];simp only[aL];unfold dt at h;by_cases h1:a.By=b.By
 .rw[BU (by simp[h1])] at h;by_cases h2:a.Seq=b.Seq
  .rw[BU (by simp[h2])] at h;have h3:=DS h;rw[CZ (k:=2) aC (by simp[h3]) (by grind)];rfl
  .rw[Bz h2] at h;have h3:=DS h;rw[CZ (k:=1) aC (by simp[h3]) (by grind)];rfl
 .rw[Bz h1] at h;have h3:=DS h;rw[CZ (k:=0) aC (by simp[h3]) (by grind)];rfl
theorem RL(h:FF o)(sm:Be o):Abo o (pT o.Kind):=by
 have n1:=sm.nPast;have n2:=sm.nPath;have c:=sm.nRefs;have d:=sm.nGuards;have e:=sm.nHist;have g:=sm.nBoxes;have a:=h.kind;have kb:pT o.Kind<1048576:=by rcases ic a with hk|hk|hk|hk|hk|hk|hk|hk|hk|hk|hk|hk|hk<;>simp[hk,vj,kk2,zS,yu,zT,zU,zt,zu,Aw,ki,kC,km,kX]
 have b:=ZD h.bare;have f:=T1 h.numbers;have it:=h.items;unfold yb at it;simp only[bA,Hd] at it;obtain⟨i,t2,j,k,l,m⟩:=it;have hor:=MU (W9 b);exact{
  lo:=C5 aa
  hi:=C5 aa
  kind:=by rcases ic a with hk|hk|hk|hk|hk|hk|hk|hk|hk|hk|hk|hk|hk<;>(rw[hk];decide)
  kb:=kb
  bits:=by grind [IY,Nat.and_le_right]
  rg:={
   by_:=Hk f.by_
   seq:=Hk f.seq
   at_:=Hk f.at_
   ents:=ZE f a
   guards:=by grind [SJ,uR,ib,Hk]
   refs:=SJ aa λx hx=>by rw[GA];exact congrArg some (CM (by have:=DS (t2 x hx);omega))
   past:=by grind [SJ,pS,kW]
   path:=by grind [SJ,I9.n,Be.path,uP,rV,GC,SJ,IZ]
   boxes:=by grind [SJ,IZ]
   hist:=by grind [SJ,uQ,pS,kW]}
  long:=T2 sm h.long
  nPast:=aa
  nGuards:=aa
  past:=by grind [MW,FF.past]
  guards:=h.guards
  create:=decide_eq_decide.2 (by have:=h.create;unfold ah;simp_all)}
theorem kY(h:l.length*b<=140737488355328):aT b [] l=some l:=by grind [aT]
theorem I0{x:α}(h:l[k]?=some x):ji l (k:Int) x=some l:=by have hk:=(cr h).1;unfold ji;rw[Bz ⟨aa,aa⟩,E0];congr 1;apply List.ext_getElem?;grind
theorem RM(sm:Be o):pG o=some o:=by
 have n1:=sm.nPast;have n2:=sm.nPath;have b:=sm.nRefs;have c:=sm.nGuards;have d:=sm.nHist;have e:=sm.nBoxes;have f:=sm.nBody;unfold pG cU Fi dK fF dx gt fu;rw[kY aa,kY aa,kY aa,kY aa,kY aa,kY aa,kY aa];simp only[aL];have l0:AH (jD o.Path) (o.Path,0)=some o.Path:=by
  refine T.eq (T.forA o.Path.length (λ_ a=>a=o.Path) aa rfl (λk a hk ha=>?_) λa ha=>?_)
  .subst ha;unfold jD;dsimp only;have hx:=Ef hk;have hb:=(sm.path _ (List.getElem_mem hk)).n;rw[eA hk,ax,au,hx,aL];unfold dx;rw[kY aa,aL,aL,I0 hx];exact .some ⟨aq aa,rfl⟩
  .subst ha;unfold jD;dsimp only;rw[eF,AQ];exact .some rfl
 have l1:AH (jC o.Hist) (o.Hist,0)=some o.Hist:=by
  refine T.eq (T.forA o.Hist.length (λ_ a=>a=o.Hist) aa rfl (λk a hk ha=>?_) λa ha=>?_)
  .subst ha;unfold jC;dsimp only;have hx:=Ef hk;have hb:=(sm.hist _ (List.getElem_mem hk)).n;rw[eA hk,ax,au,hx,aL];unfold Fi;rw[kY aa,aL,aL,I0 hx];exact .some ⟨aq aa,rfl⟩
  .subst ha;unfold jC;dsimp only;rw[eF,AQ];exact .some rfl
 rw[l0,l1];rfl
def gW(s:OR)(j:Nat):Bool:=match j/64 with
 |0=>s.a0.testBit (j%64)
 |1=>s.a1.testBit (j%64)
 |2=>s.a2.testBit (j%64)
 |3=>s.a3.testBit (j%64)
 |_=>false
theorem xg(h:i<64):(gM a b).testBit i=(a.testBit i||b.testBit i):=by unfold gM;rw[Nat.testBit_or,show(18446744073709551616:Nat)=2^64 from rfl,Nat.testBit_mod_two_pow,Nat.testBit_mod_two_pow];simp[h]
theorem RN(h:i<64):(bD a b).testBit i=(a.testBit i&&b.testBit i):=by unfold bD;rw[Nat.testBit_and,show(18446744073709551616:Nat)=2^64 from rfl,Nat.testBit_mod_two_pow,Nat.testBit_mod_two_pow];simp[h]
theorem Ay(hk:k<64)(h:i<64):(IK 1 k).testBit i=decide (k=i):=by unfold IK;rw[Nat.min_eq_left aa,Nat.one_mul,show(18446744073709551616:Nat)=2^64 from rfl,Nat.testBit_mod_two_pow,Nat.testBit_two_pow];simp[h]
theorem RP(s t:OR)(j:Nat):gW (Rf s t) j=(gW s j||gW t j):=by have h:=Nat.mod_lt j (show 64>0 by decide);unfold gW Rf;split<;>first|exact xg h|rfl
theorem T3{s:OR}{n:Nat}(hn:n<256)(hj:j<256):gW (yt s n) j=(gW s j||decide (j=n)):=by
 have h:=Nat.mod_lt j (show 64>0 by decide);have h':=Nat.mod_lt n (show 64>0 by decide);have e:∀q:Nat,n/64=q->j/64=q->decide (n%64=j%64)=decide (j=n):=by grind
 have e':n/64≠j/64->decide (j=n)=false:=by grind
 have h4:n/64=0\/n/64=1\/n/64=2\/n/64=3:=aa;have h5:j/64=0\/j/64=1\/j/64=2\/j/64=3:=aa;unfold gW yt;rcases h4 with e1|e1|e1|e1
 .rcases h5 with e2|e2|e2|e2
  .grind [xg,Ay]
  .grind
  all_goals grind
 .rcases h5 with e2|e2|e2|e2
  .grind
  .grind [xg,Ay]
  all_goals grind
 .rcases h5 with e2|e2|e2|e2
  .grind
  .grind
  .grind [xg,Ay]
  grind
 .rcases h5 with e2|e2|e2|e2
  .grind
  .grind
  .grind
  grind [xg,Ay]
theorem OK(ha:a<18446744073709551616)(h:∀i,i<64->a.testBit i=false):a=0:=by
 apply Nat.eq_of_testBit_eq;intro i;rw[Nat.zero_testBit];rcases HU i 64 with hi|hi
 .exact h i hi
 .exact Nat.testBit_lt_two_pow (Nat.lt_of_lt_of_le ha (LV (by grind) (Nat.pow_le_pow_right B5 hi)))
theorem T4(a b:Nat):bD a b<18446744073709551616:=by grind [bD,Nat.and_le_left]
theorem RQ{p b:OR}(h:∀j,j<256->¬(gW p j=true/\gW b j=true)):ZA p b 4=z4:=by
 have w:∀(q:Nat) (x y:Nat),q<4->(∀i,i<64->gW p (64*q+i)=x.testBit i/\gW b (64*q+i)=y.testBit i)->bD x y=0:=by grind [OK,T4,RN]
 have d:∀(q i:Nat),i<64->(64*q+i)/64=q/\(64*q+i)%64=i:=λq i hi=>aa;show(⟨bD p.a0 b.a0,bD p.a1 b.a1,bD p.a2 b.a2,bD p.a3 b.a3⟩:OR)=⟨0,0,0,0⟩;rw[w 0 p.a0 b.a0 B5 λi hi=>by unfold gW;rw[(d 0 i hi).1,(d 0 i hi).2];exact⟨rfl,rfl⟩];rw[w 1 p.a1 b.a1 B5 λi hi=>by unfold gW;rw[(d 1 i hi).1,(d 1 i hi).2];exact⟨rfl,rfl⟩];rw[w 2 p.a2 b.a2 B5 λi hi=>by unfold gW;rw[(d 2 i hi).1,(d 2 i hi).2];exact⟨rfl,rfl⟩];rw[w 3 p.a3 b.a3 B5 λi hi=>by unfold gW;rw[(d 3 i hi).1,(d 3 i hi).2];exact⟨rfl,rfl⟩]
theorem Xa{s:OR}{n:Nat}(hn:n<256):iX s (n:Int)=some (gW s n):=by
 have hd:wI (Int.tdiv (n:Int) 64)=((n/64:Nat):Int):=by grind [bM]
 have ht:Int.tmod (n:Int) 64=((n%64:Nat):Int):=by rw[Int.tmod_eq_emod_of_nonneg aa];rfl
 have hcn:wJ ((n%64:Nat):Int)=some (n%64):=by grind [wJ]
 have h:=Nat.mod_lt n (show 64>0 by decide);have key:∀y:Nat,decide (((bD (Jq y (n%64)) 1:Nat):Int)=((1:Nat):Int))=y.testBit (n%64):=by grind [bD,Jq]
 unfold iX;rw[hd,ht,hcn,au];have h4:n/64=0\/n/64=1\/n/64=2\/n/64=3:=aa;unfold gW;grind
def lvN(N:IH)(j:Int):Int:=((N[j.toNat]?).map (·.level)).getD 0
def lvF(N:IH)(u:Bk):Int:=u.foldl (λa j=>EZ a (lvN N j+1)) 1
theorem Abp{j:Int}:lvF N (u++[j])=EZ (lvF N u) (lvN N j+1):=by unfold lvF;rw[LX];rfl
theorem Adc{y:CY}(h:∀x∈u,0<=x/\x<(N.length:Int)):lvF (N++[y]) u=lvF N u:=by
 have key:∀(l:Bk) (a:Int),(∀x∈l,0<=x/\x<(N.length:Int))->l.foldl (λa j=>EZ a (lvN (N++[y]) j+1)) a=l.foldl (λa j=>EZ a (lvN N j+1)) a:=by
  intro l;induction l with
  |nil=>exact λa _=>rfl
  |cons x r ih=>
   intro a hh;have e:lvN (N++[y]) x=lvN N x:=by have:=hh x aC;grind [lvN]
   grind
 exact key u 1 h
structure Oo (g:A7) (m:IX) (N:IH):Prop where
 len:N.length=g.L.length
 nd:∀(k:Nat) (y:CY),N[k]?=some y->g.L[k]?=some y.o/\g.IDs[k]?=some y.id/\(∀j,j<256->gW y.past j=O9 g k j)/\0<=y.level/\y.level<=(k:Int)+1
 get:∀x,m.get x=(bu x g.IDs).map (λn=>(n:Int))
 lv:∀(k:Nat) (y:CY) (u:Bk),N[k]?=some y->g.Up[k]?=some u->y.level=lvF N u
theorem MX{a b:Int}(h1:a<=c)(h2:b<=c):EZ a b<=c:=by unfold EZ;split<;>omega
theorem T5{a b:Int}(h1:c<=a):c<=EZ a b:=by unfold EZ;split<;>omega
theorem ZF{up:Bk}(w:Fo g)(pg:Oo g m N)(a:R0 g o up)(sm:Be o):T (AH (Z6 m N o.Past) (z4,z4,0,1,0)) λr=>(∀j:Nat,j<256->(gW r.1 j=true↔(j:Int)∈up))/\(∀j:Nat,j<256->(gW r.2.1 j=true↔∃n:Nat,(n:Int)∈up/\O9 g n j=true))/\r.2.2.1<=o.At/\0<=r.2.2.2/\r.2.2.2<=(N.length:Int)+1/\r.2.2.2=lvF N up:=by
 have f:=T1 a.check.numbers;have n1:=sm.nPast;have nL:=w.nL;have nI:=w.nI;have pl:=pg.len;refine T.loop (λs=>∃k:Nat,s.2.2.2.2=(k:Int)/\k<=o.Past.length/\(∀j:Nat,j<256->(gW s.1 j=true↔∃i,i<k/\up[i]?=some (j:Int)))/\(∀j:Nat,j<256->(gW s.2.1 j=true↔∃i n:Nat,i<k/\up[i]?=some (n:Int)/\O9 g n j=true))/\s.2.2.1<=o.At/\0<=s.2.2.2.1/\s.2.2.2.1<=(N.length:Int)+1/\s.2.2.2.1=lvF N (up.take k)) (λs=>o.Past.length-s.2.2.2.2.toNat) ⟨0,rfl,aa,λj hj=>?_,λj hj=>?_,f.at_.1,B5,by show(1:Int)<=_;omega,rfl⟩ (by show o.Past.length-_<_;omega) ?_
 .grind [gW]
 .grind [gW]
 rintro⟨p,b,z,lev,i⟩ ⟨k,rfl,hk,q1,h,c,d,e,t⟩;dsimp only at q1 h c d e t;unfold Z6;dsimp only;refine .dec (λhlt=>?_) λhge=>?_
 .unfold ah at hlt;have hk2:k<o.Past.length:=aa;have hx:=Ef hk2;obtain⟨n,hn,hu⟩:=a.par k _ hx;have eg:m.get o.Past[k]=some (n:Int):=by rw[pg.get,hn];rfl
  have hnl:n<g.IDs.length:=(cr (gb hn).1).1;have hy:N[n]?=some (N[n]'aa):=Ef _;obtain⟨l,u,q,v,x⟩:=pg.nd n _ hy;generalize N[n]'aa=y at hy l u q v x;have hmem:(n:Int)∈up:=bO hu;have hat:=a.late n _ hmem l;have ew:wI (y.level+1)=y.level+1:=bM aa aa;rw[au,hx,aL,eg];dsimp only[M1];rw[au,hy,aL,ew,aq aa];refine .some ⟨⟨k+1,rfl,aa,λj hj=>?_,λj hj=>?_,MX c hat,T5 d,MX e aa,?_⟩,?_⟩
  .dsimp only;rw[E0,T3 aa hj,Bool.or_eq_true,q1 j hj,decide_eq_true_eq];grind
  .dsimp only;rw[RP,Bool.or_eq_true,h j hj,q j hj];grind
  all_goals grind [Hr,lvN,Abp]
 .unfold ah at hge;obtain rfl:k=o.Past.length:=aa;have ul:=a.upl;refine .some ⟨λj hj=>?_,λj hj=>?_,c,d,e,by grind⟩;all_goals grind [He]
def RR(g:A7)(o:Bi)(r:List Bool):Prop:=(∀(k:Nat) (p:Bi),g.L[k]?=some p->r[k]?=some true->p.By=o.By->p.Seq<o.Seq)/\(o.Seq=1\/∃(k:Nat) (p:Bi),g.L[k]?=some p/\r[k]?=some true/\p.By=o.By/\p.Seq=wI (o.Seq-1))
theorem Xb(w:Fo g){o:Bi}(hr:r.length=g.L.length):T (lA g o r) λv=>v=true->RR g o r:=by
 have nL:=w.nL;unfold lA;refine .bind (T.forA g.L.length (λk b=>(∀(j:Nat) (p:Bi),j<k->g.L[j]?=some p->r[j]?=some true->p.By=o.By->p.Seq<o.Seq)/\(b=true->∃(j:Nat) (p:Bi),g.L[j]?=some p/\r[j]?=some true/\p.By=o.By/\p.Seq=wI (o.Seq-1))) aa (by grind) (λk b hk a=>?_) λb a=>?_)
 .have hp:=Ef hk;obtain⟨x,hx⟩:∃x,r[k]?=some x:=⟨_,Ef aa⟩;generalize g.L[k]=p at hp;have more:∀(c:Prop),(c->p.Seq<o.Seq)->((r[k]?=some true/\p.By=o.By)->c)->∀(j:Nat) (q:Bi),j<k+1->g.L[j]?=some q->r[j]?=some true->q.By=o.By->q.Seq<o.Seq:=by grind
  unfold jK;dsimp only;rw[eA hk,ax,au,au,hx,hp];simp only[aL];cases x with
  |false=>exact .some (by constructor<;>grind [aq])
  |true=>
   simp only[Bool.not_true,AQ,aL];by_cases hb:p.By=o.By
   .rw[C5 (by grind),AQ];refine .dec (λhs=> .some (.some λh=>by cases h)) λhs=>?_;have hm:=more True (λ_=>aa) λ_=>trivial;cases b with
    |true=>exact .some ⟨aq aa,hm,a.2⟩
    |false=>exact .some (by constructor<;>grind [aq])
   .rw[CM hb,ax];exact .some (by constructor<;>grind [aq])
 .unfold jK;dsimp only;rw[eF,AQ];refine .some ?_;show T (ma _ _ _) _;dsimp only[ma];have h1:∀(k:Nat) (p:Bi),g.L[k]?=some p->r[k]?=some true->p.By=o.By->p.Seq<o.Seq:=by grind
  by_cases hs:o.Seq=1
  .rw[CM hs];exact .some λ_=>⟨h1,.inl hs⟩
  .rw[C5 hs];exact .some λhb=>⟨h1,.inr (a.2 hb)⟩
theorem ZG{A:OR}(w:Fo g)(pg:Oo g m N)(f:On o)(hA:∀j:Nat,j<g.L.length->(gW A j=true↔r[j]?=some true))(hR:RR g o r):T (AH (Z7 N o A) (0,false,0)) λv=>v.1<o.Seq/\(1<o.Seq->v.2=true):=by
 have nL:=w.nL;have pl:=pg.len;have fs:=f.seq;refine T.loop (λs=>∃k:Nat,s.2.2=(k:Int)/\k<=N.length/\s.1<o.Seq/\∀(j:Nat) (p:Bi),j<k->g.L[j]?=some p->r[j]?=some true->p.By=o.By->p.Seq=wI (o.Seq-1)->s.2.1=true) (λs=>N.length-s.2.2.toNat) ⟨0,rfl,aa,by show(0:Int)<_;omega,λj p hj=>absurd hj (Nat.not_lt_zero _)⟩ (by show N.length-_<_;omega) ?_;rintro⟨la,b,i⟩ ⟨k,rfl,hk,q1,e⟩;dsimp only at q1 e;unfold Z7;dsimp only;refine .dec (λhlt=>?_) λhge=>?_
 .unfold ah at hlt;have hk2:k<N.length:=aa;have hy:=Ef hk2;obtain⟨c,_⟩:=pg.nd k _ hy;generalize N[k]=y at hy c;rw[au,hy,aL,aq aa];have dn:N.length-(((k+1:Nat):Int)).toNat<N.length-((k:Int)).toNat:=aa;have more:∀a:Bool,(b=true->a=true)->(r[k]?=some true->y.o.By=o.By->y.o.Seq=wI (o.Seq-1)->a=true)->∀(j:Nat) (p:Bi),j<k+1->g.L[j]?=some p->r[j]?=some true->p.By=o.By->p.Seq=wI (o.Seq-1)->a=true:=λa h1 h2 j p hj hp h3 h4 h5=>by
   rcases HU j k with hjk|hjk
   .exact h1 (e j p hjk hp h3 h4 h5)
   .obtain rfl:j=k:=aa;rw[c] at hp;cases hp;exact h2 h3 h4 h5
  refine .dec (λhb=>?_) λhb=> .some ⟨⟨k+1,rfl,aa,q1,more b id λ_ h=>absurd h hb⟩,dn⟩;rw[Xa aa,aL];refine .ite (λhh=>?_) λhh=> .some ⟨⟨k+1,rfl,aa,q1,more b id λh=>?_⟩,dn⟩
  .have d:=(hA k aa).1 hh;refine .some ⟨⟨k+1,rfl,aa,?_,more _ (λh=>by rw[h];rfl) λ_ _ h=>by rw[CM h];cases b<;>rfl⟩,dn⟩;have:=hR.1 k _ c d hb;grind [EZ]
  .rw[(hA k aa).2 h] at hh;cases hh
 .unfold ah at hge;refine .some ⟨q1,λh1=>?_⟩;rcases hR.2 with h|⟨j,p,h2,h3,h4,h5⟩
  all_goals grind
theorem ye{a b:Ab}:dt a b=true↔a.By<b.By\/(a.By=b.By/\(a.Seq<b.Seq\/(a.Seq=b.Seq/\a.Sum<b.Sum))):=by grind [dt]
def rN(a b:Ab):Prop:=dt b a=false
theorem KG{a b c:Ab}(h1:rN a b)(h2:rN b c):rN a c:=by grind [rN,ye]
theorem F9{a b:Ab}(h:dt a b=true):rN a b:=by grind [rN,ye]
theorem Cy{x:α}:(l.take k++[x]++l.drop k).Perm (l++[x]):=by grind [List.perm_append_comm,Pp]
theorem kg{l:A3}(hl:l.length<=1000000):T (iu l) λr=>r.Perm l/\r.Pairwise rN:=by
 unfold iu;refine .bind (T.forA l.length (λk acc=>acc.Perm (l.take k)/\acc.Pairwise rN) aa (by simp_all) (λk acc hk hj=>?_) λacc hj=>?_)
 .obtain⟨x,hx⟩:∃x,l[k]?=some x:=by simp_all
  have ha:acc.length<=1000000:=by have:=hj.1.length_eq;grind
  unfold oZ;dsimp only;rw[eA hk,ax];refine .bind (T.mono (Q:=λq:Int=>∃n:Nat,q=(n:Int)/\n<=acc.length/\(∀(j:Nat) (y:Ab),n<=j->acc[j]?=some y->dt x y=true)/\∀(y:Ab),0<n->acc[n-1]?=some y->dt x y=false) (T.loop (λq=>∃n:Nat,q=(n:Int)/\n<=acc.length/\∀(j:Nat) (y:Ab),n<=j->acc[j]?=some y->dt x y=true) (λq=>q.toNat) ⟨acc.length,rfl,Dx _,(by grind)⟩ (by unfold ah;omega) ?_) ?_)
  .rintro q ⟨n,rfl,hn,b⟩;unfold vB;dsimp only;refine .dec (λh0=>?_) λh0=> .some ⟨n,rfl,hn,b,(by grind)⟩;obtain⟨y,hy⟩:∃y,acc[n-1]?=some y:=by grind
   rw[au,hx,aL,F7 aa aa,au,hy,aL,pJ,aL];refine .ite (λhf=> .some ⟨n,rfl,hn,b,(by grind)⟩) λht=> .some (by constructor<;>grind);all_goals grind
  .rintro q ⟨n,rfl,hn,h1,h2⟩;refine .bind (.pre aa aa (.bind (.app cq ?_)));rw[au,hx,aL];refine .bind (.app cq (.bind (.suf aa aa (.bind (.app cq (.some ⟨aq aa,?_,?_⟩))))))
   .grind [Cy,Hr]
   .show([]++acc.take (n:Int).toNat++[x]++acc.drop (n:Int).toNat).Pairwise rN;rw[Nk,E0];have hp:=hj.2;rw[<-Pp n acc,List.pairwise_append] at hp;obtain⟨c,d,e⟩:=hp;have low:∀a∈acc.take n,rN a x:=by grind [rN,He,List.pairwise_iff_getElem,KG]
    grind [He,F9]
 .unfold oZ;dsimp only;rw[eF,AQ];refine .some (.some ?_);grind
theorem Cz(w:Fo g):T (xt g) λr=>r.Perm g.IDs/\r.Pairwise rN:= .bind (by grind [T.mono,kg,Fo.nI,Fo.nL,T.some])
def uX(g:A7)(ids:A3)(k:Nat):Prop:=∃x∈ids,∃n,bu x g.IDs=some n/\O9 g n k=true
theorem EB(w:Fo g){ids:A3}(hl:ids.length<=1000):T (r9 g ids) λr=>r.Nodup/\(∀x,x∈r↔∃k,g.IDs[k]?=some x/\uX g ids k)/\r.Pairwise rN/\r.length<=g.L.length:=by
 have nL:=w.nL;have nI:=w.nI;unfold r9;refine .bind (T.forA g.L.length (λk acc=>acc.length<=k/\acc.Nodup/\∀x,x∈acc↔∃j,j<k/\g.IDs[j]?=some x/\uX g ids j) aa ⟨aC,aC,λx=>aC⟩ (λk acc hk hj=>?_) λacc hj=>?_)
 .obtain⟨y,hy⟩:∃y,g.IDs[k]?=some y:=⟨_,Ef aa⟩;unfold t8;dsimp only;rw[eA hk,ax];refine .bind (T.mono (Q:=λb:Bool=>b=true↔uX g ids k) (T.forA ids.length (λm b=>b=true↔∃(j:Nat) (x:Ab) (n:Nat),j<m/\ids[j]?=some x/\bu x g.IDs=some n/\O9 g n k=true) aa aC (λm b hm hjm=>?_) λb hjm=>?_) λb hb=>?_)
  .obtain⟨x,hx⟩:∃x,ids[m]?=some x:=⟨_,Ef hm⟩;unfold t7;dsimp only;rw[eA hm,ax,au,hx,aL,dC aa,aL];refine .bind (T.mono (Q:=λc:Bool=>c=true↔(b=true\/∃n,bu x g.IDs=some n/\O9 g n k=true)) ?_ λc hc=> .some ⟨aq aa,?_⟩)
   .refine .ite (λhb=> .some (by simp[hb])) λhb=>?_;unfold gO;cases hkx:bu x g.IDs with
    |none=>grind [T.some]
    |some n=>
     have hn:n<g.L.length:=by have:=(cr (gb hkx).1).1;omega
     grind [Fo,EZ,au,T.some,wO]
   grind
  .unfold t7;dsimp only;rw[eF,AQ];refine .some ?_;show b=true↔_;rw[hjm];constructor
   .rintro⟨j,x,n,_,h2,h3,h4⟩;exact⟨x,bO h2,n,h3,h4⟩
   .rintro⟨x,hx,n,h3,h4⟩;grind [He]
  .refine .ite (λhbt=>?_) λhbf=> .some ⟨aq aa,by show acc.length<=k+1;have:=hj.1;omega,hj.2.1,λx=>?_⟩
   .have hin:=hb.1 hbt;rw[au,hy,aL];have hny:y∉acc:=λhm=>by obtain⟨j,h1,h2,_⟩:=(hj.2.2 y).1 hm;have:=(List.getElem?_inj (show j<g.IDs.length by omega) w.nd).1 (h2.trans hy.symm);omega
    refine .bind (.app (by grind) (.some ⟨aq aa,by simp;exact hj.1,?_,λx=>?_⟩));all_goals grind
   .show x∈acc↔_;rw[hj.2.2 x];constructor
    .rintro⟨j,h1,h2⟩;exact⟨j,aa,h2⟩
    .rintro⟨j,h1,h2,h3⟩;rcases HU j k with hlt|hge
     .exact⟨j,hlt,h2,h3⟩
     .obtain rfl:j=k:=aa;rw[hb.2 h3] at hbf;cases hbf
 .unfold t8;dsimp only;rw[eF,AQ];refine .some (.bind ((kg (by grind)).mono λr hr=> .some ⟨hr.1.nodup_iff.2 hj.2.1,λx=>?_,hr.2,by rw[hr.1.length_eq];exact hj.1⟩));rw[hr.1.mem_iff,hj.2.2 x];constructor
  .rintro⟨j,_,h2⟩;exact⟨j,h2⟩
  .rintro⟨j,h2,h3⟩;exact⟨j,by have:=(cr h2).1;omega,h2,h3⟩
structure DL (g:A7) (r:A3):Prop where
 sub:∀x∈r,x∈g.IDs
 len:r.length<=1000
theorem Sc(z:Int):c8 (wI z):=by grind [c8,wI,IntKind.wrap_i64]
theorem nD(h:gU o=true):(1<=o.By/\o.By<=12)/\(1<=o.Seq/\o.Seq<=2147483647)/\0<=o.At/\o.At<=2147483647:=by have e:=jF o;rw[h] at e;unfold FI at e;simp only[gT,aL] at e;grind
theorem l8(h:gU o=true)(hk:o.Kind=9):1<=o.Need/\o.Need<=(o.Guards.length:Int):=by obtain⟨h1,h2,h3⟩:=nD h;have e:=jF o;rw[h] at e;unfold FI at e;simp only[gT,aL,hk,CM h1,CM h2,CM h3] at e;grind [ah]
theorem Fo.name{g:A7}(w:Fo g){x:Ab}(h:x∈g.IDs):∃i o,g.IDs[i]?=some x/\g.L[i]?=some o/\bu x g.IDs=some i/\i<g.L.length/\JT x/\x.By=o.By/\x.Seq=o.Seq/\Be o/\FF o:=by have nI:=w.nI;obtain⟨i,hi⟩:=He h;have hlt:=(cr hi).1;obtain⟨o,ho,so,a⟩:=w.op (i:=i) aa;obtain⟨y,e,h1,h2,_,h4⟩:=wN so;grind [ids,y0,List.getElem?_inj,nd]
theorem Fo.place{g:A7}(w:Fo g){x:Ab}(h:0<=gO g x):∃i o,gO g x=(i:Nat)/\g.IDs[i]?=some x/\g.L[i]?=some o/\x∈g.IDs/\Be o/\FF o:=by
 have nI:=w.nI;unfold gO at h⊢;cases hk:bu x g.IDs with
 |none=>rw[hk] at h;simp at h
 |some i=>have hi:=(gb hk).1;grind [op]
theorem lj:0<=gO g x↔x∈g.IDs:=by grind [gO,jv]
theorem EC{α:Type}[DecidableEq α]:∀{l m:List α},l.Nodup->(∀x∈l,x∈m)->l.length<=m.length
 |[],_,_,_=>aC
 |x::r,m,h,hs=>by have hx:=hs x aC;have h2:=LE.1 h;have:=EC (l:=r) (m:=m.erase x) h2.2 (by grind);grind
theorem yf(w:Fo g){ids:A3}(hl:ids.length<=1000):T (Lm g ids) λr=>DL g r/\r.Nodup/\(∀x,x∈r↔(∃k,g.IDs[k]?=some x/\uX g ids k)\/x∈ids/\x∈g.IDs)/\r.Pairwise rN:=by
 have nL:=w.nL;have nI:=w.nI;unfold Lm;refine .bind ((EB w aa).mono λv1 h1=>?_);obtain⟨b,a,c,d⟩:=h1;refine .bind (T.forA ids.length (λk acc=>acc.length<=v1.length+k/\acc.Nodup/\∀x,x∈acc↔x∈v1\/∃j,j<k/\ids[j]?=some x/\x∈g.IDs) aa (by grind) (λk acc hk hj=>?_) λacc hj=>?_)
 .obtain⟨y,hy⟩:∃y,ids[k]?=some y:=⟨_,Ef hk⟩;unfold t9;dsimp only;rw[eA hk,ax,au,hy];simp only[aL];rw[dC aa,aL,kf aa];simp only[aL];rw[cL,aL];refine .ite (λhb=>?_) λhb=> .some ⟨aq aa,by grind,hj.2.1,λx=>?_⟩
  .by_cases hp:0<=gO g y
   .rw[CM hp,ax] at hb;have hny:y∉acc:=by grind [nA]
    refine .bind (.app cq (.some ⟨aq aa,by grind,?_,λx=>?_⟩))
    .grind
    grind [lj]
   grind
  grind [lj,nA]
 .unfold t9;dsimp only;rw[eF,AQ];refine .some (.bind ((kg aa).mono λr hr=>?_));have key:∀x,x∈r↔(∃k,g.IDs[k]?=some x/\uX g ids k)\/x∈ids/\x∈g.IDs:=λx=>by rw[hr.1.mem_iff,hj.2.2 x,a x];grind [He]
  have hsub:∀x∈r,x∈g.IDs:=by grind
  have hnd:r.Nodup:=hr.1.nodup_iff.2 hj.2.1;exact .some ⟨⟨hsub,by have:=EC hnd hsub;omega⟩,hnd,key,hr.2⟩
theorem KH(w:Fo g)(hl:ids.length<=1000):T (qL g ids) λr=>DL g r/\r.Nodup/\(∀x,x∈r↔x∈ids/\x∈g.IDs/\¬∃k,g.IDs[k]?=some x/\uX g ids k)/\r.Pairwise rN:=by
 have nL:=w.nL;have nI:=w.nI;unfold qL;refine .bind ((EB w aa).mono λv1 h1=>?_);obtain⟨c,a,d,f⟩:=h1;refine .bind (T.forA ids.length (λk acc=>acc.length<=k/\acc.Nodup/\∀x,x∈acc↔∃j,j<k/\ids[j]?=some x/\x∈g.IDs/\x∉v1) aa ⟨aC,aC,λx=>aC⟩ (λk acc hk hj=>?_) λacc hj=>?_)
 .obtain⟨y,hy⟩:∃y,ids[k]?=some y:=⟨_,Ef hk⟩;unfold qK;dsimp only;rw[eA hk,ax,au,hy];simp only[aL];rw[dC aa,aL,kf aa,kf aa];simp only[aL];rw[cL,cL,aL];have m1:nA v1 y=true↔y∈v1:=by
   constructor
   .intro h;obtain⟨z,hz,e⟩:=List.any_eq_true.1 h;rw[DS e] at hz;exact hz
   .intro h;exact List.any_eq_true.2 ⟨y,h,aC⟩
  have m2:nA acc y=true↔y∈acc:=by
   constructor
   .intro h;obtain⟨z,hz,e⟩:=List.any_eq_true.1 h;rw[DS e] at hz;exact hz
   .intro h;exact List.any_eq_true.2 ⟨y,h,aC⟩
  have hc:∀b:Bool,(bif 0<=gO g y then bif !nA v1 y then !nA acc y else false else false)=b->(b=true↔y∈g.IDs/\y∉v1/\y∉acc):=λb hb=>by rw[<-hb,<-lj,<-m1,<-m2];by_cases q1:0<=gO g y<;>cases nA v1 y<;>cases nA acc y<;>simp[q1]
  refine .ite (λhb=>?_) λhb=> .some ⟨aq aa,by show acc.length<=k+1;omega,hj.2.1,λx=>?_⟩
  .obtain⟨q1,i,l⟩:=(hc true hb).1 rfl;refine .bind (.app cq (.some ⟨aq aa,by grind,?_,λx=>?_⟩));all_goals grind
  .have q:=hc false hb;show x∈acc↔_;rw[hj.2.2 x];constructor
   .rintro⟨j,h1,h2⟩;exact⟨j,aa,h2⟩
   .rintro⟨j,h1,h2,h3,h4⟩;rcases HU j k with hlt|hge
    .exact⟨j,hlt,h2,h3,h4⟩
    .obtain rfl:j=k:=aa;rw[hy] at h2;cases h2;by_cases hm:y∈acc
     .exact(hj.2.2 y).1 hm
     .have:=q.2 ⟨h3,h4,hm⟩;cases this
 .unfold qK;dsimp only;rw[eF,AQ];refine .some (.bind ((kg aa).mono λr hr=>?_));have key:∀x,x∈r↔x∈ids/\x∈g.IDs/\¬∃k,g.IDs[k]?=some x/\uX g ids k:=λx=>by rw[hr.1.mem_iff,hj.2.2 x,<-a x];grind [He]
  grind [T.some,DL,List.Perm.length_eq]
theorem QH(w:Fo g)(h:DL g ids)(d:Int):T (Fc g ids d) λn=>1<=n/\n<=2147483648:=by
 have hl:=h.len;unfold Fc;refine .bind (T.forA ids.length (λ_ n=>0<=n/\n<=2147483647) aa ⟨B5,B5⟩ (λk n hk hj=>?_) λn hj=>?_)
 .obtain⟨y,hy⟩:∃y,ids[k]?=some y:=⟨_,Ef hk⟩;obtain⟨i,o,_,_,_,_,_,_,e,_,a⟩:=w.name (h.sub y (bO hy));have:=(nD a.numbers).2.1;unfold xu;dsimp only;rw[eA hk,ax,au,hy];simp only[aL];refine .dec (λ_=> .some ⟨aq aa,?_⟩) λ_=> .some ⟨aq aa,hj⟩;grind [EZ]
 .unfold xu;dsimp only;rw[eF,AQ];refine .some (.some ?_);grind [bM]
theorem N0(w:Fo g)(hl:ids.length<=1000):T (z8 g ids) λn=>0<=n/\n<=2147483647:=by
 have nL:=w.nL;have nI:=w.nI;unfold z8;refine .bind (T.forA ids.length (λ_ n=>0<=n/\n<=2147483647) aa ⟨B5,B5⟩ (λk n hk hj=>?_) λn hj=>?_)
 .obtain⟨y,hy⟩:∃y,ids[k]?=some y:=⟨_,Ef hk⟩;unfold ue;dsimp only;rw[eA hk,ax,au,hy,aL,dC aa,aL];refine .dec (λhp=>?_) λ_=> .some ⟨aq aa,hj⟩;obtain⟨i,o,e,_,ho,_,_,a⟩:=w.place hp;have:=(nD a.numbers).2.2;rw[e,au,ho,aL];refine .some ⟨aq aa,?_⟩;grind [EZ]
 .unfold ue;dsimp only;rw[eF,AQ];exact .some (.some hj)
theorem eX{m:Int}(h:c8 n)(hm:0<m):T (iq n m) λv=>0<=v/\v<m:=by obtain⟨h1,h2⟩:=h;grind [iq,T.rem,bM,Int.tmod_nonneg,Int.tmod_lt_of_pos]
def zId:Ab:=⟨0,0,0⟩
def Ys:Bi:=⟨0,0,0,0,[],0,0,0,0,[],⟨0,0,0⟩,0,[],[],⟨0,0,0⟩,[],0,0,[],0,[],⟨0,0⟩⟩
theorem dP:c8 0:=by unfold c8;omega
theorem pM:JT ⟨0,0,0⟩:=⟨dP,dP,by show(0:Nat)<_;omega⟩
theorem Wd:Be Ys:=by constructor<;>first|exact pM|(unfold Ys;simp;done)|(intro z hz;simp[Ys] at hz;subst hz;exact dP)|(show fS 0;unfold fS;omega)
theorem zb(w:Fo g)(h:DL g ids)(kd:Int):T (nS g ids kd) λr=>(r.1=zId/\r.2=Ys)\/(r.1∈ids/\Be r.2/\FF r.2/\r.2.Kind=kd):=by
 have nL:=w.nL;have nI:=w.nI;have hl:=h.len;have e0:wI (ah g.L-1)=(g.L.length:Int)-1:=by grind [bM,ah]
 unfold nS;rw[e0];refine .bind (T.loop (λs=>s.1=zId/\s.2.1=Ys∧-1<=s.2.2/\s.2.2<g.L.length) (λs=>(s.2.2+1).toNat) ⟨rfl,rfl,by simp only;omega,by simp only;omega⟩ (by simp only;omega) ?_);rintro⟨a,b,i⟩ ⟨rfl,rfl,c,i1⟩;simp only at c i1;unfold vC;dsimp only;refine .dec (λhi=>?_) λhi=> .some (.some (.inl ⟨rfl,rfl⟩));obtain⟨n,rfl⟩:∃n:Nat,i=(n:Int):=⟨i.toNat,aa⟩;obtain⟨o,ho,so,d⟩:=w.op (i:=n) aa;obtain⟨x,hx⟩:∃x,g.IDs[n]?=some x:=⟨_,Ef aa⟩;have ew:wI ((n:Int)-1)=(n:Int)-1:=bM aa aa;rw[au,ho,aL,au,hx];simp only[aL];rw[kf aa];simp only[aL];rw[cL,aL];refine .ite (λhb=> .some (.some (.inr ?_))) λhb=> .some ⟨⟨rfl,rfl,?_,?_⟩,?_⟩
 .by_cases hk:o.Kind=kd
  .rw[CM hk,ax] at hb;obtain⟨z,hz,e⟩:=List.any_eq_true.1 hb;grind
  grind
 all_goals grind
theorem yg{n:Int}(h1:n<=1000):T (o4 n) λr=>r.length<=1000/\(r.length:Int)=(if n<0 then 0 else n)/\∀x∈r,Fq x:=by
 unfold o4;refine .bind (T.forA n.toNat (λk acc=>acc.length=k/\∀x∈acc,Fq x) aa ⟨rfl,aC⟩ (λk acc hk hj=>?_) λacc hj=>?_)
 .unfold uc;dsimp only;rw[CM (show(k:Int)<n by omega),ax];refine .bind (.app cq (.some ⟨aq aa,by simp;exact hj.1,λx hx=>?_⟩));grind [Fq,fS,Mp]
 .unfold uc;dsimp only;rw[C5 (by grind),AQ];refine .some (.some ⟨aa,?_,hj.2⟩);split<;>omega
theorem zc(w:Fo g)(d:Int):T (nT g d) λm=>c8 m:=by grind [Fo.nC,nT,Cw,T.some,dP,mZ,Fo.cards]
theorem ED(w:Fo g)(d:Int)(h:0<=n/\n<=1000000):T (Ss g d n) λr=>DL g r:=by
 have nL:=w.nL;have nI:=w.nI;unfold Ss;refine .bind ((Cz w).mono λv1 hv1=>?_);have i1:DL g v1:=by grind [DL,List.Perm.length_eq]
 refine .bind (T.mono (Q:=λx:Int=> -1<=x/\x<g.L.length) (T.forA g.L.length (λ_ x=> -1<=x/\x<g.L.length) aa ⟨B5,aa⟩ (λk x hk hj=>?_) λx hj=>?_) λa h4=>?_)
 .obtain⟨o,ho,_⟩:=w.op hk;unfold ub;dsimp only;rw[eA hk,ax,au,ho,aL];exact .dec (λ_=> .some (by constructor<;>grind [aq])) λ_=> .some ⟨aq aa,hj⟩
 .unfold ub;dsimp only;rw[eF,AQ];exact .some hj
 .rw[cL,aL];refine .ite (λhb=>?_) λhb=>?_
  .have hx:0<a:=by grind
   obtain⟨k,rfl⟩:∃k:Nat,a=(k:Int):=⟨a.toNat,aa⟩;obtain⟨o,ho,so,b⟩:=w.op (i:=k) aa;rw[au,ho,aL];exact .bind (by grind [T.mono,yf,pK,FF.long,T.some])
  .rw[cL,aL];refine .ite (λ_=> .some i1) λhb2=>?_;have hx:0<=a:=by grind
   obtain⟨k,rfl⟩:∃k:Nat,a=(k:Int):=⟨a.toNat,aa⟩;obtain⟨y,hy⟩:∃y,g.IDs[k]?=some y:=⟨_,Ef aa⟩;rw[au,hy,aL];have e3:wI (n.tdiv 3)=n.tdiv 3:=by grind [bM]
   rw[e3];refine .bind (.rem (by unfold ah;omega) ?_);have q0:0<=(n.tdiv 3).tmod (ah g.IDs):=Int.tmod_nonneg _ (Int.tdiv_nonneg h.1 B5);have q1:(n.tdiv 3).tmod (ah g.IDs)<ah g.IDs:=Int.tmod_lt_of_pos _ (by unfold ah;omega);refine .bind (.ixl q0 (by unfold ah at q1;exact q1) λz _ _=>?_);exact .bind (by grind [T.mono,yf,T.some])
def il{α:Type}(p:α->Prop)(l:List α):Prop:=l.length<=1000/\∀x∈l,p x
theorem ay{p:α->Prop}:il p []:=⟨aC,aC⟩
theorem Hm(h1:c8 o.By)(h2:c8 o.Seq)(h3:c8 o.Kind)(h4:c8 o.At)(h5:il JT o.Past)(h6:c8 o.Device)(h7:c8 o.Old)(h8:c8 o.Member)(h9:c8 o.Role)(h10:il I9 o.Path)(h11:JT o.Epoch)(h12:c8 o.N)(h13:o.Body.length<=1000)(a:il fS o.Refs)(e:JT o.Of)(b:il c8 o.Guards)(g:c8 o.Need)(h:c8 o.Wait)(c:il Fq o.Boxes)(f:fS o.Pub)(d:il Hv o.Hist):Be o:=by refine⟨λz hz=>?_,h5.1,h5.2,h10.1,h10.2,h11,h13,a.1,a.2,e,b.1,b.2,c.1,c.2,f,d.1,d.2⟩;simp only[EH,Lu,or_false] at hz;rcases hz with rfl|rfl|rfl|rfl|rfl|rfl|rfl|rfl|rfl|rfl|rfl<;>assumption
theorem Be.iBy{o:Bi}(h:Be o):c8 o.By:=h.ints _ aC
theorem Be.iSeq{o:Bi}(h:Be o):c8 o.Seq:=h.ints _ aC
theorem Be.iKind{o:Bi}(h:Be o):c8 o.Kind:=h.ints _ aC
theorem Be.iAt{o:Bi}(h:Be o):c8 o.At:=h.ints _ aC
theorem Be.iDevice{o:Bi}(h:Be o):c8 o.Device:=h.ints _ aC
theorem Be.iOld{o:Bi}(h:Be o):c8 o.Old:=h.ints _ aC
theorem Be.iMember{o:Bi}(h:Be o):c8 o.Member:=h.ints _ aC
theorem Be.iRole{o:Bi}(h:Be o):c8 o.Role:=h.ints _ aC
theorem Be.iN{o:Bi}(h:Be o):c8 o.N:=h.ints _ aC
theorem Be.iNeed{o:Bi}(h:Be o):c8 o.Need:=h.ints _ aC
theorem Be.iWait{o:Bi}(h:Be o):c8 o.Wait:=h.ints _ aC
theorem Be.sPast{o:Bi}(h:Be o):il JT o.Past:=⟨h.nPast,h.past⟩
theorem Be.sRefs{o:Bi}(h:Be o):il fS o.Refs:=⟨h.nRefs,h.refs⟩
theorem Be.sGuards{o:Bi}(h:Be o):il c8 o.Guards:=⟨h.nGuards,h.guards⟩
theorem Be.sBoxes{o:Bi}(h:Be o):il Fq o.Boxes:=⟨h.nBoxes,h.boxes⟩
theorem Be.sHist{o:Bi}(h:Be o):il Hv o.Hist:=⟨h.nHist,h.hist⟩
theorem Be.nopath{o:Bi}(h:Be o):Be {o with Path:=[]}:=by grind [Hm,iBy,iSeq,iKind,iAt,sPast,iDevice,iOld,iMember,iRole,ay,epoch,iN,nBody,sRefs,of_,sGuards,iNeed,iWait,sBoxes,pub,sHist]
theorem m7(h: -1000000<=n/\n<=1000000):c8 n:=by unfold c8;omega
theorem DL.smid{g:A7}(w:Fo g){ids:A3}(h:DL g ids){x:Ab}(hx:x∈ids):JT x:=by grind [DL,Fo.name]
theorem Ir(w:Fo g)(h:DL g ids)(so:Be o)(hn:0<=n/\n<=1000000):T (sc g ids o n) λr=>Be r:=by
 unfold sc;refine .bind ((zb w h 9).mono λv1 hv=>?_);have s1:JT v1.1:=by
  rcases hv with⟨e,_⟩|⟨e,_⟩
  .rw[e];exact pM
  .exact h.smid w e
 have s2:Be v1.2:=by grind [Wd]
 rw[cL,aL,cL,aL];have e16:wI (n.tdiv 16)=n.tdiv 16:=by grind [bM]
 have e32:wI (n.tdiv 32)=n.tdiv 32:=by grind [bM]
 refine .dec (λh9=>?_) λh9=>?_
 ·
  refine .bind (T.mono (Q:=λx:Bk=>x.length<=4/\∀z∈x,c8 z) (T.loop (λs=>1<=s.2/\s.2<=5/\(s.1.length:Int)<=s.2-1/\∀z∈s.1,c8 z) (λs=>(5-s.2).toNat) (by grind) B5 ?_) λm hx=>?_)
  .rintro⟨acc,i⟩ ⟨i1,p,q,f⟩
   simp only at i1 p q f
   have ei:wI (i+1)=i+1:=bM aa aa
   unfold vF
   dsimp only
   refine .dec (λh4=>?_) λh4=> .some ⟨aa,f⟩
   refine .bind (.quo aa (.dec (λ_=>?_) λ_=> .some ⟨⟨?_,?_,?_,f⟩,?_⟩))
   .refine .bind (.app cq (.some ⟨⟨?_,?_,?_,λz hz=>?_⟩,?_⟩))
    .show 1<=wI (i+1);omega
    all_goals grind [m7]
   all_goals grind
  .rw[cL,aL]
   have hj:∃j:Bk,(bif ah m=0 then([1,2]:Bk)else m)=j/\1<=j.length/\j.length<=4/\∀z∈j,c8 z:=by grind [ah,m7]
   obtain⟨j,ej,D,E,t⟩:=hj
   rw[ej,e16]
   have hm:0<iI 2 (ah j)/\iI 2 (ah j)<=2:=by unfold iI ah;split<;>omega
   refine .bind (.rem aa (.bind ((yg (n:=ah j) (by unfold ah;omega)).mono λbx c=> .some ?_)))
   exact Hm so.iBy so.iSeq (by grind [m7]) so.iAt so.sPast so.iDevice so.iOld so.iMember so.iRole ay so.epoch so.iN so.nBody so.sRefs so.of_ ⟨by show j.length<=1000;omega,t⟩ (Sc _) (by grind [c8]) ⟨c.1,c.2.2⟩ (by show(5:Nat)<_;omega) so.sHist
 ·
  generalize hj5:(bif bif o.Kind≠9 then decide (v1.1=(⟨0,0,0⟩:Ab))else false then(9:Int)else o.Kind)=u at h9⊢
  have hk5:u=o.Kind/\v1.1≠⟨0,0,0⟩:=by grind
  obtain⟨rfl,k⟩:=hk5
  have hv2:FF v1.2/\v1.2.Kind=9:=by
   rcases hv with⟨e,_⟩|⟨_,_,e,e'⟩
   .exact absurd e k
   .exact⟨e,e'⟩
  have hg:=l8 hv2.1.numbers hv2.2
  have hgl:0<ah v1.2.Guards/\ah v1.2.Guards<=1000:=by grind [Be.nGuards,ah]
  refine .bind ((zc w _).mono λl v=>?_)
  refine .bind (T.mono (Q:=λx:Int×List Hh=>c8 x.1/\il Fq x.2) (.ite (λ_=> .bind ((yg hgl.2).mono λb hb=> .some ⟨s1.a,hb.1,hb.2.2⟩)) λ_=> .some ⟨so.iBy,so.sBoxes⟩) λy d=>?_)
  rw[cL,aL]
  refine .bind (T.mono (Q:=λx:Int×Int=>c8 x.1/\c8 x.2) (.ite (λ_=> .bind (.rem aa (.bind (.ixl (Int.tmod_nonneg _ hn.1) (Int.tmod_lt_of_pos _ hgl.1) (by grind [T.some,Be.guards,Sc]))))) λ_=> .some ⟨d.1,so.iDevice⟩) λA h36=>?_)
  refine .bind (T.mono (Q:=λx:List Hh=>il Fq x) (.ite (λ_=> .bind ((yg B5).mono λb hb=> .some ⟨hb.1,hb.2.2⟩)) λ_=> .some d.2) λB C=>?_)
  rw[cL,aL]
  have h40:c8 (bif o.Kind=13 then l else o.Old):=by grind [Be.iOld]
  grind [T.some,Hm,Be.iSeq,Be.iKind,Be.iAt,Be.sPast,Be.iMember,Be.iRole,ay,Be.epoch,Be.iN,Be.nBody,Be.sRefs,Be.iNeed,Be.iWait,Be.pub,Be.sHist]
theorem EE(h:0<=n):T (z7 n) λk=>c8 k:=by unfold z7;refine .bind (.ixl (Int.tmod_nonneg _ h) (by have:=Int.tmod_lt_of_pos n (show(0:Int)<20 by decide);simp;omega) λx _ hx=> .some ?_);have:x∈([6,4,3,2,5,7,8,3,6,9,11,11,13,12,10,4,3,2,6,13]:Bk):=hx;have key:∀y∈([6,4,3,2,5,7,8,3,6,9,11,11,13,12,10,4,3,2,6,13]:Bk),-1000000<=y/\y<=1000000:=B5;exact m7 (key x this)
theorem Mt:c8 1:=m7 aa
theorem Yt:c8 2:=m7 aa
theorem QJ:fS 0:=by unfold fS;omega
def Nx(g:A7)(x:Bi×A3):Prop:=Be x.1/\DL g x.2
theorem Nx.np{g:A7}{x:Bi×A3}(h:Nx g x):Nx g ({x.1 with Path:=[]},x.2):=⟨h.1.nopath,h.2⟩
theorem N2(w:Fo g){m:Int}(hn:c8 n)(hm:c8 m):T (sd g n m) λr=>Be r:=by
 have nL:=w.nL;have nI:=w.nI;unfold sd;refine .bind ((eX hn B5).mono λv1 h1=> .bind ((eX hm B5).mono λf h3=> .bind ((EE h3.1).mono λC h5=>?_)));have hq:∀q:Int,0<q->wI (v1.tdiv q)=v1.tdiv q/\0<=v1.tdiv q/\v1.tdiv q<=1000000:=λq hq=>by have a:=Int.tdiv_nonneg h1.1 (show(0:Int)<=q by omega);have b:=Int.tdiv_le_self q h1.1;grind [bM]
 have hk:wI (f.tdiv 20)=f.tdiv 20/\0<=f.tdiv 20/\f.tdiv 20<=1000000:=by grind [bM]
 rw[hk.1];generalize hkk:f.tdiv 20=k at hk⊢;obtain⟨_,B,k1⟩:=hk;have tm:∀(z q:Int),0<q->q<=1000000→-1000000<=z.tmod q/\z.tmod q<=1000000:=λz q h h'=>by have h3:=Int.tmod_lt_of_pos z h;have h4: -q<z.tmod q:=Int.lt_tmod_of_pos z h;omega
 refine .dec (λh0=> .some ?_) λh0=>?_
 .grind [Hm,ay,pM,m7,QJ]
 have hL:0<g.L.length:=by unfold ah at h0;omega
 rw[cL,aL];generalize hj8:(bif ah g.L<4 then(⟨1,0,2,0,[],wI ((ah g.L)+1),0,0,wI (3-(wI (Int.tdiv (Int.tmod v1 5) 4))),[],⟨0,0,0⟩,0,[],[],⟨0,0,0⟩,[],0,0,[],0,[],⟨0,0⟩⟩:Bi) else⟨wI (1+(Int.tmod v1 5)),0,C,0,[],0,0,0,0,[],⟨0,0,0⟩,0,[],[],⟨0,0,0⟩,[],0,0,[],0,[],⟨0,0⟩⟩)=l;have s8:Be l:=by grind [Hm,Mt,dP,Yt,ay,Sc,pM,QJ]
 clear hj8;obtain⟨D,o,p⟩:=hq 5 B5;rw[D];refine .bind ((ED w l.By ⟨o,p⟩).mono λE h10=>?_);refine .bind (T.mono (Q:=λx=>DL g x) (.ite (λ_=> .bind ((Cz w).mono (by grind [T.some,DL,List.Perm.length_eq]))) λ_=> .some h10) λj12 h12=>?_);refine .bind ((zb w h12 6).mono λt u=>?_);have s14:JT t.1:=by
  rcases u with⟨e,_⟩|⟨e,_⟩
  .rw[e];exact pM
  .exact h12.smid w e
 refine .bind (T.mono (Q:=λx:Int×Int×Nat=>JT ⟨x.1,x.2.1,x.2.2⟩) (.ite (λ_=> .bind (.ixl B5 (by rw[nI];omega) λy _ hy=> .some ?_)) λ_=> .some s14) λF H=>?_)
 .obtain⟨_,_,_,_,_,_,s,_⟩:=w.name hy;exact s
 refine .bind (T.mono (Q:=λx:Bi×A3=>Nx g x) ?_ λI v=>?_)
 .refine .ite (λ_=>?_) λ_=>?_
  .refine .bind (T.mono (Q:=λx:Int×Int=>c8 x.1/\c8 x.2) (by grind [T.some,Sc,Be.iDevice,Be.iRole]) λx hx=> .some ⟨?_,h12⟩);grind [Hm,Be.iBy,Be.iSeq,Be.iKind,Be.iAt,ay,Be.iOld,Be.iMember,Be.epoch,Be.iN,Be.of_,Be.iNeed,Be.iWait,Be.pub]
  refine .bind (T.mono (Q:=λx:Bi×A3=>Nx g x) ?_ λx hx=> .some hx.np);refine .ite (λ_=>?_) λ_=>?_
  .refine .bind (T.mono (Q:=λx:Int×Int=>c8 x.1/\c8 x.2) (by grind [T.some,dP,Sc,Be.iMember]) λx hx=> .some ⟨?_,h12⟩);grind [Hm,Be.iBy,Be.iSeq,Be.iKind,Be.iAt,ay,Be.iOld,Be.iRole,Be.epoch,Be.iN,Be.of_,Be.iNeed,Be.iWait,Be.pub]
  refine .bind (T.mono (Q:=λx:Bi×A3=>Nx g x) ?_ λx hx=> .some hx.np);refine .ite (λ_=> .some ⟨?_,h12⟩) λ_=>?_
  .grind [Hm,Be.iBy,Be.iSeq,Be.iKind,Be.iAt,ay,Be.iDevice,Be.iOld,Sc,Be.epoch,Be.iN,Be.of_,Be.iNeed,Be.iWait,Be.pub]
  refine .bind (T.mono (Q:=λx:Bi×A3=>Nx g x) ?_ λx hx=> .some hx.np);refine .ite (λ_=>?_) λ_=>?_
  .have hm4:0<iI (ah g.IDs) 4/\iI (ah g.IDs) 4<=ah g.IDs:=by unfold iI ah;split<;>omega
   refine .bind (.rem aa (.bind (.ixl (Int.tmod_nonneg _ B) (by have:=Int.tmod_lt_of_pos k hm4.1;grind [ah]) λy _ hy=>?_)));obtain⟨_,_,_,_,_,_,sy,_⟩:=w.name hy;refine .bind (T.mono (Q:=λx:Bq=>il fS x) (.ite (λ_=> .some ⟨aC,λz hz=>by simp at hz;rcases hz with rfl|rfl<;>exact Mp _⟩) λ_=> .some ay) λx hx=> .some ⟨?_,h12⟩);exact Hm s8.iBy s8.iSeq s8.iKind s8.iAt ay s8.iDevice s8.iOld s8.iMember s8.iRole ay sy (by grind [m7]) aC hx s8.of_ ay s8.iNeed s8.iWait ay s8.pub ay
  refine .bind (T.mono (Q:=λx:Bi×A3=>Nx g x) ?_ λx hx=> .some hx.np);refine .ite (λ_=> .some ⟨?_,h12⟩) λ_=>?_
  .grind [Hm,Be.iBy,Be.iSeq,Be.iKind,Be.iAt,ay,Be.iDevice,Be.iOld,Be.iMember,Be.iRole,Be.epoch,Be.iN,Be.iNeed,Be.iWait,Be.pub]
  refine .bind (T.mono (Q:=λx:Bi×A3=>Nx g x) ?_ λx hx=> .some hx.np);refine .ite (λ_=> .some ⟨?_,h12⟩) λ_=>?_
  .grind [Hm,Be.iBy,Be.iSeq,Be.iKind,Be.iAt,ay,Be.iDevice,Be.iOld,Be.iMember,Be.iRole,Be.epoch,Be.iN,Be.iNeed,Be.iWait,Be.pub]
  have s8':Be {l with Past:=[],Path:=[],Body:=[],Refs:=[],Guards:=[],Boxes:=[],Hist:=[]}:=by grind [Hm,Be.iBy,Be.iSeq,Be.iKind,Be.iAt,ay,Be.iDevice,Be.iOld,Be.iMember,Be.iRole,Be.epoch,Be.iN,Be.of_,Be.iNeed,Be.iWait,Be.pub]
  refine .bindc ?_ λb _=>?_
  .grind [T.some]
  refine .bind (T.mono (Q:=λx:Bi×A3=>Nx g x) (.ite (λ_=>?_) λ_=> .some ⟨s8',h12⟩) λx hx=> .some hx.np);refine .bind ((Ir w h12 s8' ⟨B,k1⟩).mono λJ A=>?_);refine .bind (T.mono (Q:=λx=>DL g x) (by grind [ED,T.some]) λx hx=> .some ⟨A.nopath,hx⟩)
 .obtain⟨c,i⟩:=v;have K:=i.len;refine .bindc ?_ λb _=>?_
  .grind [T.some,kf]
  refine .bind (T.mono (Q:=λx=>DL g x) (.ite (λ_=> .bind ((Cz w).mono (by grind [T.some,DL,List.Perm.length_eq]))) λ_=> .some i) λM d=>?_);refine .bind ((KH w d.len).mono λN j=> .bind ((QH w d _).mono λO P=> .bind ((N0 w d.len).mono λR S=> .some ?_)));exact Hm c.iBy (by grind [c8]) c.iKind (Sc _) ⟨j.1.len,λx hx=>j.1.smid w hx⟩ c.iDevice c.iOld c.iMember c.iRole ay c.epoch c.iN c.nBody c.sRefs c.of_ c.sGuards c.iNeed c.iWait c.sBoxes c.pub c.sHist
theorem dk{l:List α}{k:Nat}(h:k<l.length):∃y,l[k]?=some y/\y∈l:=by simp_all
def EF(g:A7)(l:Bk):Prop:=∀x∈l,0<=x/\x<(g.L.length:Int)
theorem EF.nat{g:A7}{l:Bk}(h:EF g l){x:Int}(hx:x∈l):∃i:Nat,x=(i:Int)/\i<g.L.length:=by obtain⟨h1,h2⟩:=h x hx;exact⟨x.toNat,aa,aa⟩
theorem EF.snoc{g:A7}{l:Bk}(h:EF g l){i:Nat}(hi:i<g.L.length):EF g (l++[(i:Int)]):=λx hx=>by
 rcases Jo.1 hx with h'|h'
 .exact h x h'
 grind
theorem EF.nil{g:A7}:EF g []:=λx hx=>by cases hx
structure Ja (g:A7) (n:Nat) (r:C7):Prop where
 cards:r.Cards=g.Cards
 dev:r.In.length+r.Gone.length<=n
 nL:r.L.length<=n
 nV:r.V.length<=n
 mem:∀m∈r.L,m.Guards.length<=1000
def Nd(r:C7):Prop:=∀m∈r.L,m.Is=true->1<=m.Need
theorem Ja.up{g:A7}{n m:Nat}{r:C7}(h:Ja g n r)(hm:n<=m):Ja g m r:=by grind [Ja]
section
variable {g:A7} {n:Nat} {r:C7}
theorem dM(w:Fo g)(h:Ja g n r)(d:Int):T (gE r d) λ_=>True:=by
 have nC:=w.nC;have hc:r.Cards.length<=1000:=by rw[h.cards];exact nC
 unfold gE;refine .bind (T.mono (Q:=λ_=>True) (T.forI r.Cards.length (λ_=>True) aa trivial (λk hk _=>?_) λ_=>?_) λx _=>?_)
 .obtain⟨y,hy,_⟩:=dk hk;unfold AR;simp only[eA hk,ax,au,hy,aL];exact .ite (λ_=> .some trivial) λ_=> .some ⟨aq aa,trivial⟩
 .unfold AR;rw[eF,AQ];exact .some trivial
 .cases x<;>exact .some trivial
theorem d9(h:Ja g n r)(hn:n<=100001)(d:Int):T (dS r d) λv=>v<0\/∃k:Nat,v=(k:Int)/\k<r.L.length:=by
 have nL:=h.nL;unfold dS;refine .bind (T.mono (Q:=λx:Unit⊕Int=>∀q,x= .inr q->∃k:Nat,q=(k:Int)/\k<r.L.length) (T.forI r.L.length (λ_=>True) aa trivial (λk hk _=>?_) λ_=>?_) λx hx=>?_)
 .obtain⟨y,hy,_⟩:=dk hk;unfold o5;simp only[eA hk,ax,au,hy,aL];refine .ite (λ_=> .some ?_) λ_=> .some ⟨aq aa,trivial⟩;intro q e;grind
 .unfold o5;rw[eF,AQ];refine .some ?_;intro q e;cases e
 .cases x with
  |inl u=>exact .some (.inl B5)
  |inr q=>exact .some (.inr (hx q rfl))
theorem yh(hn:n<=100000)(h:Ja g n r)(d:Int):T (se r d) λ_=>True:=by grind [se,T.bind,T.mono,d9,T.some,au]
theorem QK(hn:n<=100000)(h:Ja g n r)(d:Int):T (Fd r d) λ_=>True:=by grind [Ja,Fd,cX,T.some]
theorem uY(w:Fo g)(hn:n<=100000)(h:Ja g n r)(d:Int):T (nW r d) λ_=>True:=by grind [nW,T.bindc,QK,dM,T.some]
theorem uZ(w:Fo g)(hn:n<=100000)(h:Ja g n r)(d role:Int):T (nX r d role) λr'=>Ja g (n+1) r'/\(Nd r->Nd r'):=by
 have h1:=h.dev;have h2:=h.nL;unfold nX;refine .bindc (uY w hn h d) λv _=> .ite (λ_=> .some ⟨h.up aa,id⟩) λ_=>?_;refine .bind (.app cq (.bind (.app cq ?_)));rw[Nk];have h':Ja g (n+1) {r with In:=r.In++[d]}:=⟨h.cards,by simp;omega,by show r.L.length<=_;omega,by have:=h.nV;show r.V.length<=_;omega,h.mem⟩;refine .bindc (dM w h' d) λa _=> .bind ((d9 h' (show n+1<=100001 by omega) a).mono λb _=> .dec (λ_=>?_) λ_=> .some ⟨h',id⟩);refine .bind (.bind (.app cq (.bind (.app cq (.some ?_)))));rw[Nk];refine .some ⟨⟨h'.cards,h'.dev,by simp;omega,h'.nV,λm hm=>?_⟩,λnd m hm=>?_⟩
 .rcases Jo.1 hm with hm|hm
  .exact h.mem m hm
  .simp at hm;subst hm;simp
 .rcases Jo.1 hm with hm|hm
  .exact nd m hm
  .simp at hm;subst hm;simp
theorem zd(h:Ja g n r)(hn:n<=100001)(i:Ab):T (jN r i) λv=>v<0\/∃(k:Nat) (m:D5),v=(k:Int)/\r.L[k]?=some m/\m.Is=true:=by
 have nL:=h.nL;unfold jN;refine .bind (T.mono (Q:=λx:Unit⊕Int=>∀q,x= .inr q->∃(k:Nat) (m:D5),q=(k:Int)/\r.L[k]?=some m/\m.Is=true) (T.forI r.L.length (λ_=>True) aa trivial (λk hk _=>?_) λ_=>?_) λx hx=>?_)
 .obtain⟨y,hy,_⟩:=dk hk;unfold qQ;simp only[eA hk,ax,au,hy,aL];refine .bind (T.mono (Q:=λb:Bool=>b=true->y.Is=true) (by grind [T.some]) λb hb=> .ite (λe=> .some ?_) λ_=> .some ⟨aq aa,trivial⟩);intro q e';grind
 .unfold qQ;rw[eF,AQ];refine .some ?_;intro q e;cases e
 .cases x with
  |inl u=>exact .some (.inl B5)
  |inr q=>exact .some (.inr (hx q rfl))
theorem u4(hn:n<=100000)(h:Ja g n r)(i:Ab):T (jN r i) λv=>v<0\/∃(k:Nat) (m:D5),v=(k:Int)/\r.L[k]?=some m/\m.Is=true:=zd h (Nat.le_succ_of_le hn) i
theorem CC(w:Fo g)(h:Ja g n r)(hn:n<=100001)(d:Int):T (sh r d) λr'=>Ja g n r'/\(Nd r->Nd r'):=by
 have h1:=h.dev;have h2:=h.nL;have h3:=h.nV;unfold sh;rw[cX aa,aL];refine .ite (λ_=> .some ⟨h,id⟩) λhh=>?_;have hd:d∈r.In:=by grind [QF]
 have hlt:(r.In.filter λx=>decide (x≠d)).length<r.In.length:=by simp_all
 refine .bindc (dM w h d) λq _=> .bind (T.mono (Q:=λx:Bk×Bool=>x.1=r.In.filter λx=>decide (x≠d)) ?_ λp h7=>?_)
 .refine T.mono (T.loop (Q:=λx:Bk×Bool=>x.1=r.In.filter λx=>decide (x≠d)) (λs=>∃k:Nat,k<=r.In.length/\s.2.2=(k:Int)/\s.1=(r.In.take k).filter λx=>decide (x≠d)) (λs=>r.In.length-s.2.2.toNat) (by grind) cq ?_) λ_ hx=>hx;rintro⟨a,b,i⟩ ⟨k,hk,rfl,ha⟩;simp only at ha;rcases HU k r.In.length with hl|hg
  .obtain⟨y,hy,_⟩:=dk hl;have ht:(r.In.take (k+1)).filter (λx=>decide (x≠d))=a++[y].filter (λx=>decide (x≠d)):=by grind [Hr]
   have hal:a.length<=k:=by grind
   have hm:wI ((k:Int)+1)=((k+1:Nat):Int):=aq aa;unfold uj;simp only[eA hl,ax,au,hy,aL];refine .dec (λhp=> .bind (.app cq (.bindc (by grind [T.some,T.bindc,dM]) λj _=> .some ⟨⟨k+1,aa,hm,?_⟩,?_⟩))) λhp=> .some ⟨⟨k+1,aa,hm,?_⟩,?_⟩
   .grind
   .grind
   .grind
   .show r.In.length-(wI ((k:Int)+1)).toNat<_;rw[hm];simp;omega
  .obtain rfl:k=r.In.length:=aa;unfold uj;dsimp only;rw[eF,AQ];exact .some (by show a=_;rw[ha,DZ])
 .obtain⟨t,u⟩:=p;simp only at h7;subst h7;refine .bind (.app cq (.bind (.app cq ?_)));rw[Nk];have hk:∀(L:List D5) (V:List Hb),L.length<=n->V.length<=n->(∀m∈L,m∈r.L)->Ja g n {r with In:=r.In.filter λx=>decide (x≠d),Gone:=r.Gone++[d],L:=L,V:=V}:=by grind [Ja]
  refine .ite (λ_=> .some ⟨(by grind),id⟩) λ_=>?_;refine .bind (T.mono (Q:=λx:List D5×List Hb=>x.1.length<=n/\(∀m∈x.1,m∈r.L)/\x.2=[]) ?_ λc e=>?_)
  .refine T.mono (T.loop (Q:=λx:List D5×List Hb=>x.1.length<=n/\(∀m∈x.1,m∈r.L)/\x.2=[]) (λs=>∃k:Nat,k<=r.L.length/\s.2.2=(k:Int)/\s.1.length<=k/\(∀m∈s.1,m∈r.L)/\s.2.1=[]) (λs=>r.L.length-s.2.2.toNat) (by grind) cq ?_) λ_ hx=>hx;rintro⟨a,b,i⟩ ⟨k,hk,rfl,ha,hs,hb⟩;simp only at ha hs hb;rcases HU k r.L.length with hl|hg
   .obtain⟨y,hy,f⟩:=dk hl;have hm:wI ((k:Int)+1)=((k+1:Nat):Int):=aq aa;unfold ui;simp only[eA hl,ax,au,hy,aL];refine .dec (λhp=> .bind (.app cq (.some ⟨⟨k+1,aa,hm,by simp;omega,λm hmm=>?_,hb⟩,?_⟩))) λhp=> .some ⟨⟨k+1,aa,hm,Nat.le_succ_of_le ha,hs,hb⟩,?_⟩;all_goals grind
   .obtain rfl:k=r.L.length:=aa;unfold ui;dsimp only;rw[eF,AQ];exact .some ⟨LV ha h2,hs,hb⟩
  .obtain⟨L,V⟩:=c;obtain⟨hL,hs,hV⟩:=e;simp only at hL hs hV;subst hV;have hx:=hk L r.V hL h3 hs;refine .bind (T.mono (Q:=λv:List Hb=>v.length<=n) (T.forA r.V.length (λk acc=>acc.length<=k) aa aC (λk acc hkl hj=>?_) λacc hj=>?_) λl o=> .some ⟨hk L l hL o hs,λnd m hm=>nd m (hs m hm)⟩)
   .obtain⟨y,hy,f⟩:=dk hkl;unfold uh;simp only[eA hkl,ax,au,hy,aL];refine .bind ((zd hx hn y.Of).mono λv _=> .dec (λ_=> .bind (.app cq (.some ⟨aq aa,by simp;omega⟩))) λ_=> .some ⟨aq aa,Nat.le_succ_of_le hj⟩)
   .unfold uh;dsimp only;rw[eF,AQ];exact .some (LV hj h3)
theorem N5(w:Fo g)(hn:n<=100000)(h:Ja g n r)(d:Int):T (sh r d) λr'=>Ja g n r'/\(Nd r->Nd r'):=CC w h (Nat.le_succ_of_le hn) d
end
theorem yi{l:List D5}(hl:l.length<=1000000){k:Nat}(hk:k<l.length)(m:D5):T (o6 l (k:Int) m) λr=>r=l.set k m:=by grind [o6,T.bind,T.app,T.set]
theorem Mu{l:List D5}{m x:D5}(h:x∈l.set k m):x∈l\/x=m:=by grind
section
variable {g:A7} {n:Nat} {r:C7}
theorem Ja.setL(h:Ja g n r){k:Nat}{m:D5}(hm:m.Guards.length<=1000):Ja g n {r with L:=r.L.set k m}:=by grind [Ja]
theorem Nd.setL(h:Nd r){k:Nat}{m:D5}(hm:m.Is=true->1<=m.Need):Nd {r with L:=r.L.set k m}:=λx hx=>by
 rcases Mu hx with hx|rfl
 .exact h x hx
 .exact hm
theorem Ja.setV(h:Ja g n r){V:List Hb}(hV:V.length<=n):Ja g n {r with V:=V}:=by grind [Ja]
theorem Ga(w:Fo g)(hn:n<=100000)(h:Ja g n r)(so:Be o)(a:Ab):T (o7 r o a) λr'=>Ja g n r'/\((o.Kind=9->1<=o.Need)->o.Kind=9->Nd r->Nd r'):=by
 have h2:=h.nL;have h3:=h.nV;unfold o7;refine .bindc (dM w h _) λv1 _=> .bind ((d9 h aa v1).mono λj hv=> .dec (by grind [T.some]) λhp=>?_);rcases hv with hv|⟨k,rfl,hk⟩
 .omega
 obtain⟨y,hy,hm⟩:=dk hk;simp only[au,hy,aL];refine .bind ((yi aa hk _).mono λd e=>?_);subst e;have hx:=h.setL (k:=k) (m:=⟨y.N,y.Role,true,a,o.Guards,o.Need,o.Wait,false,0⟩) so.sGuards.1;refine .bind (T.mono (Q:=λv:List Hb=>v.length<=n) (T.forA r.V.length (λk acc=>acc.length<=k) aa aC (λk acc hkl hj=>?_) λacc hj=>?_) λf b=> .some ⟨hx.setV b,λhd c nd=>?_⟩)
 .obtain⟨y,hy,i⟩:=dk hkl;unfold ni;simp only[eA hkl,ax,au,hy,aL];refine .bind ((u4 hn hx y.Of).mono λv _=> .dec (λ_=> .bind (.app cq (.some ⟨aq aa,by simp;omega⟩))) λ_=> .some ⟨aq aa,Nat.le_succ_of_le hj⟩)
 .unfold ni;dsimp only;rw[eF,AQ];exact .some (LV hj h3)
 .exact nd.setL (k:=k) λ_=>hd c
theorem ze(w:Fo g)(hn:n<=100000)(h:Ja g n r)(o:Bi):T (nY r o) λv=>v.2≠0\/∃(k:Nat) (m:D5),v.1=(k:Int)/\r.L[k]?=some m/\m.Is=true:=by unfold nY;refine .bind ((u4 hn h o.Of).mono λv hv=> .dec (by grind [T.some]) λhp=>?_);grind [au,cX,Ja.mem,T.some]
theorem Gb(w:Fo g)(hn:n<=100000)(h:Ja g n r)(o:Bi):T (o8 r o) λr'=>Ja g (n+1) r'/\(Nd r->Nd r'):=by
 have h3:=h.nV;unfold o8;refine .bind ((ze w hn h o).mono λv1 _=> .dec (by grind [T.some,Ja.up]) λ_=>?_);refine .bind (T.mono (Q:=λx:Int×List Hb=>x.2.length<=n) ?_ λd h5=> .bind (.app cq (.some ⟨(by grind [Ja.setV,Ja.up]),λnd=>nd⟩)));refine T.mono (T.loop (Q:=λx:Int×List Hb=>x.2.length<=n) (λs=>∃k:Nat,k<=r.V.length/\s.2.2=(k:Int)/\s.2.1.length<=k) (λs=>r.V.length-s.2.2.toNat) (by grind) cq ?_) λ_ hx=>hx;rintro⟨a,b,i⟩ ⟨k,hk,rfl,ha⟩;simp only at ha;rcases HU k r.V.length with hl|hg
 .obtain⟨y,hy,c⟩:=dk hl;have hm:wI ((k:Int)+1)=((k+1:Nat):Int):=aq aa;have hμ:r.V.length-(wI ((k:Int)+1)).toNat<r.V.length-((k:Int)).toNat:=by rw[hm];simp;omega
  unfold nj;simp only[eA hl,ax,au,hy,aL];refine .bindc ?_ λj _=> .ite (λ_=> .some (by constructor<;>grind)) λ_=> .bind (.app cq (.some (by constructor<;>grind)));grind [T.some]
 .obtain rfl:k=r.V.length:=aa;unfold nj;dsimp only;rw[eF,AQ];exact .some (LV ha h3)
theorem N6(w:Fo g)(hn:n<=100000)(h:Ja g n r){o:Bi}{step:Bk×Int->Option ((Bk×Int)⊕Bk)}(he:step=λs=>bif s.2<ah r.In then((aS r.In s.2).bind λa=>(gE r a).bind λb=>bif b=o.Member then((aS r.In s.2).bind λc=>(aT 8 s.1 ([c]:Bk)).bind λd=>some (.inl (d,wI (s.2+1))))else(some (.inl (s.1,wI (s.2+1)))))else(some (.inr s.1))):T (AH step ([],0)) λl=>l.length<=n:=by
 have h1:=h.dev;subst he;refine T.forA r.In.length (λk acc=>acc.length<=k) aa aC (λk acc hk hj=>?_) λacc hj=>?_
 .obtain⟨y,hy,e⟩:=dk hk;simp only[eA hk,ax,au,hy,aL];refine .bindc (dM w h y) λv _=> .dec (λ_=> .bind (.app cq (.some ⟨aq aa,by simp;omega⟩))) λ_=> .some ⟨aq aa,Nat.le_succ_of_le hj⟩
 .dsimp only;rw[eF,AQ];exact .some (by show acc.length<=n;omega)
theorem Gc(w:Fo g)(hn:n<=100000)(h:Ja g n r)(so:Be o)(c:Ab):T (DM r o c) λr'=>Ja g (n+1) r'/\((o.Kind=9->1<=o.Need)->Nd r->Nd r'):=by
 have h1:=h.dev;have h2:=h.nL;have up:=h.up (Nat.le_succ n);unfold DM;refine .bindc (dM w h _) λv1 _=> .bind ((d9 h aa v1).mono λd hv=> .dec (λ_=>?_) λ_=>?_)
 .refine .bindc (by grind [T.some]) λj _=> .ite (by grind [T.some]) λ_=> .bind ((uZ w hn h _ _).mono λt h9=> .some ⟨(by grind [Ja]),λ_ nd=>h9.2 nd⟩)
 refine .dec (λ_=> .bind (by grind [T.mono,uZ,T.some])) λ_=>?_;refine .dec (λ_=>?_) λ_=>?_
 .refine .bind (T.mono (Q:=λx:Bk⊕C7=>∃l,x= .inl l/\l.length<=n+1) (.dec (λ_=> .bind ((N6 w hn h (o:=o) rfl).mono (by grind [T.some]))) (by grind [T.some])) λx hx=>?_);obtain⟨l,rfl,hl⟩:=hx;refine .bind (T.mono (Q:=λr':C7=>Ja g n r'/\(Nd r->Nd r')) (T.forA l.length (λ_ r'=>Ja g n r'/\(Nd r->Nd r')) aa ⟨h,λnd=>nd⟩ (λk acc hk hj=>?_) λacc hj=>?_) (by grind [T.some,Ja.up]))
  .obtain⟨y,hy,f⟩:=dk hk;unfold AT;simp only[eA hk,ax,au,hy,aL];exact .bind ((N5 w hn hj.1 y).mono λv hv=> .some (by constructor<;>grind [aq]))
  .unfold AT;dsimp only;rw[eF,AQ];exact .some hj
 refine .dec (λ_=>?_) λ_=>?_
 .refine .bind ((d9 h aa o.Member).mono λv hv=> .dec (λhp=>?_) (by grind [T.some]));rcases hv with hv|⟨k,rfl,hk⟩
  .omega
  obtain⟨y,hy,hm⟩:=dk hk;rw[au,hy,aL];refine .bind ((yi aa hk _).mono λa e=> .some ?_);subst e;exact⟨up.setL (h.mem y hm),λ_ nd=>nd.setL λe=>nd y hm e⟩
 refine .dec (λhk=> .bind (by grind [T.mono,Ga,T.some,Ja.up])) λ_=>?_;refine .dec (λ_=> .bind (by grind [T.mono,Gb,T.some])) λ_=>?_;refine .dec (λ_=>?_) λ_=>?_
 .refine .bind (T.mono (Q:=λb:Bool=>b=true->0<=d) (.dec (λh0=>?_) (by grind [T.some])) λb hb=> .ite (λe=>?_) (by grind [T.some]))
  .grind [EZ,au,T.some]
  .have h0:=hb e;rcases hv with hv|⟨k,rfl,hk⟩
   .omega
   obtain⟨y,hy,hm⟩:=dk hk;rw[au,hy,aL];refine .bind ((yi aa hk _).mono λa e=> .some ?_);subst e;exact⟨up.setL (h.mem y hm),λ_ nd=>nd.setL λe=>nd y hm e⟩
 refine .dec (λ_=>?_) (by grind [T.some]);refine .bind ((u4 hn h o.Of).mono λi hv=> .bindc (.dec (λh0=>?_) λ_=> .some trivial) λj _=> .ite (λ_=>?_) (by grind [T.some]))
 .grind [EZ,cX,au,T.bindc,dM,T.some]
 .exact .bindc (dM w h _) λm _=> .bindc (yh hn h _) λp _=> .bind ((uZ w hn h _ _).mono λq s=> .bind (by grind [T.mono,CC,T.some]))
end
theorem Fo.inrow{g:A7}(w:Fo g){i:Nat}(h:i<g.L.length):∃r,g.In[i]?=some r/\r.length=g.L.length:=by obtain⟨r,hr,_⟩:=dk (l:=g.In) (k:=i) (by rw[w.nN];exact h);grind [rows]
theorem Fo.cell{g:A7}(w:Fo g){i k:Nat}(h:i<g.L.length)(hk:k<g.L.length):∃r b,g.In[i]?=some r/\r[k]?=some b:=by obtain⟨r,hr,hl⟩:=w.inrow h;simp_all
theorem Mv(g:A7):Ja g 0 ⟨g.Cards,[],[],[],0,[]⟩:=by grind [Ja]
theorem Oc{n:Nat}(h:2<=n)(hn:n<=1000000):T (zZ (n:Int)) λv=>∃k:Nat,v=(k:Int)/\1<=k/\k<n:=by
 unfold zZ;refine .bind (T.mono (Q:=λv:Int=>∃k:Nat,v=(k:Int)/\1<=k/\k<n) (T.loop (λs=>∃k:Nat,s=(k:Int)/\1<=k/\k<n) (λs=>n-s.toNat) ⟨1,rfl,aa,aa⟩ cq ?_) λv hv=> .some hv);rintro s ⟨k,rfl,h1,h2⟩;unfold AE;have e:wI (2*(k:Int))=((2*k:Nat):Int):=by grind [bM]
 rw[e];refine .dec (λhp=> .some ⟨⟨2*k,rfl,aa,aa⟩,?_⟩) λ_=> .some ⟨k,rfl,h1,h2⟩;simp;omega
theorem u6:∀(nn:Nat) (l:Bk),l.length<nn->l.length<=1000000->T (KF nn l) λr=>r.length<=2*l.length-1/\∀y∈r,y.length<=l.length
 |0,_,h,_=>absurd h (Nat.not_lt_zero _)
 |nn+1,l,h,hl=>by
  unfold KF;refine .dec (λ_=> .some ⟨aC,aC⟩) λh0=> .dec (λh1=>?_) λh1=>?_
  .grind [ah,T.some]
  .unfold ah at h0 h1⊢;refine .bind ((Oc (n:=l.length) aa hl).mono λd hv=>?_);obtain⟨k,rfl,k1,k2⟩:=hv;refine .bind (.pre aa aa ?_);rw[E0];refine .bind ((u6 nn (l.take k) cq cq).mono λe h7=> .bind (.app (by simp at h7⊢;omega) (.bind (.suf aa aa ?_))));rw[E0];refine .bind ((u6 nn (l.drop k) cq cq).mono λc h13=> .bind (.app (by simp at h7 h13⊢;omega) (.some ?_)));simp only[LW,List.length_drop] at h7 h13;have e1:min k l.length=k:=aa;rw[e1] at h7;refine⟨?_,λy hy=>?_⟩
   .have a:=h7.1;have b:=h13.1;simp only[Sv,List.length_singleton];omega
   .simp only[Jo,List.mem_singleton] at hy;rcases hy with(rfl|hy)|hy
    .exact Dx _
    .have:=h7.2 y hy;omega
    .have:=h13.2 y hy;omega
theorem Od{l:Bk}(hl:l.length<=100000)(d:Int):T (N4 l d) λr=>r.length<=200000:=by
 unfold N4 z0;refine .bind ((u6 _ l aa aa).mono λv1 h1=>?_);have e:wI (ah v1-1)=ah v1-1:=by grind [bM,ah]
 rw[e];refine .bind (T.mono (Q:=λr:M2=>r.length<=200000) (T.loop (λs=> -1<=s.2/\s.2<(v1.length:Int)/\s.1.length+(s.2+1).toNat<=v1.length) (λs=>(s.2+1).toNat) (by grind [ah]) (by grind [ah]) ?_) λ_ h=> .some h);rintro⟨a,i⟩ ⟨i1,b,c⟩;simp only at i1 b c;unfold AF;refine .dec (λh0=>?_) λ_=> .some (by show a.length<=_;omega);replace h0:0<=i:=h0;refine .bind (.ixl h0 (by show i<_;omega) λy hy hm=>?_);have hw:wI (i-1)=i-1:=bM aa aa;rw[cX (by have:=h1.2 y hm;omega),aL];refine .ite (λ_=>?_) λ_=> .some ⟨⟨?_,?_,?_⟩,?_⟩
 .rw[show aS v1 (a,i).2=aS v1 i from rfl];refine .bind (.ixl h0 aa λz _ _=> .bind (.app (by show(a.length+1)*24<=_;omega) (.some ⟨⟨?_,?_,?_⟩,?_⟩)));all_goals grind
 all_goals grind
theorem zh(k:Int):T (Gu k) λ_=>True:=by grind [Gu,T.some]
inductive MG (g0:A7):A7->Prop
 |base:MG g0 g0
 |step {g:A7} {o:Bi} {id:Ab} {up:Bk} {row:List Bool}:MG g0 g->Fo g->Be o->fS o.Sig.R->fS o.Sig.S->R0 g o up->pV o=some id->jA g up=some row->MG g0 (pL g o id up row)
def u7:Mj:=(ql [1,2,3,1,2,3]).getD []
theorem Oe:ql [1,2,3,1,2,3]=some u7:=aH
def KK(c:DP):Bool:=decide (1<=c.Device/\c.Device<=6/\1<=c.Member/\c.Member<=3/\c.Sign<18446744073709551616)
theorem Og:u7.all KK=true:=aH
theorem KL:u7.length=6:=aH
attribute [irreducible] u7
def g0:A7:=⟨u7,[],[],[],[]⟩
theorem Yu:Fo g0 where
 nL:=by simp[g0]
 nI:=rfl
 nU:=rfl
 nN:=rfl
 nC:=by show u7.length<=1000;rw[KL];decide
 cards:=λc hc=>by have h:KK c=true:=Hd.1 Og c hc;grind [KK,c8,fS]
 up:=by grind [g0]
 rows:=by grind [g0]
 inlt:=by grind [O9,g0]
 ops:=by grind [g0]
 ids:=by grind [g0]
 nd:=by simp[g0]
 one:=by grind [g0]
 tr:=by grind [g0]
 la:=by grind [O9,g0]
def We(c:Int):Bi:=⟨1,1,1,0,[],0,0,0,0,[],⟨0,0,0⟩,0,[],[],⟨0,0,0⟩,[],c,0,[],0,[],⟨0,0⟩⟩
theorem Yv{a b:Int}(ha:c8 a)(hb:c8 b):∃c∈([0,1,2,3]:Bk),sd g0 a b=some (We c):=by
 obtain⟨v1,e1,h1⟩:=eX ha (show(0:Int)<1000000 by decide);obtain⟨d,e3,h3⟩:=eX hb (show(0:Int)<1000000 by decide);obtain⟨e,e5,_⟩:=EE h3.1;refine⟨v1.tmod 4,?_,?_⟩
 .grind
 .unfold sd;rw[e1,aL,e3,aL,e5,aL];rfl
theorem T6(m:IX)(i:Ab)(n:Int)(x:Ab):(CW m i n).get x=match m.get x with|some v=>some v|none=>if i=x then some n else none:=by grind [CW,FM.get]
theorem EV{k x:Ab}:∀{l:A3},bu k (l++[x])=match bu k l with|some n=>some n|none=>if x=k then some l.length else none
 |[]=>by grind [bu]
 |y::r=>by
  rw[List.cons_append,bu,bu];by_cases e:k=y
  .rw[Bz e,Bz e]
  .rw[BU e,BU e,EV (l:=r)];grind
theorem T7(hn:g.Cards.length<=1000000){c:DP}(h:mZ g d=(c,true)):hY ⟨g.Cards,m,N⟩ d=some (c,true):=by
 unfold mZ at h;unfold hY;refine T.eq (.bind (T.forA g.Cards.length (λk acc=>∀(j:Nat) (c:DP),j<k->g.Cards[j]?=some c->c.Device≠d) aa (by grind) (λk acc hk hj=>?_) λacc hj=>?_))
 .obtain⟨x,hx⟩:∃x,g.Cards[k]?=some x:=⟨_,Ef hk⟩;unfold ij;dsimp only;rw[eA hk,ax,au,hx,aL];refine .dec (λe=> .some (.some ?_)) λe=> .some ⟨aq aa,λj c' a b=>?_⟩
  .grind [List.find?_eq_some_iff_getElem]
  grind
 grind [He]
theorem T8(w:Fo g)(pg:Oo g m N){up:Bk}{row:List Bool}(sm:Be o)(hs:fS o.Sig.S)(a:R0 g o up)(hid:pV o=some id)(hrow:jA g up=some row):
  ∃y:CY,y.o=o/\y.id=id/\Oo (pL g o id up row) (CW m id N.length) (N++[y])/\jg prog fI 34 [.ref 0 0,.agg (aJ o)] [(0,oG g.Cards N.length 2),(1,oM m),(2,zQ N)] 3 (iG 0) [(0,oG g.Cards (N++[y]).length 3),(1,oM (CW m id N.length)),(3,zQ (N++[y]))] 4:=by
 have nL:=w.nL
 have nI:=w.nI
 have pl:=pg.len
 have hro:=a.room
 have f:=T1 a.check.numbers
 have ul:up.length<=12:=by rw[a.upl];exact pK a.check.long
 obtain⟨r,hrow',q,s⟩:=yc w (up:=up) aa a.upb
 rw[hrow] at hrow'
 cases hrow'
 obtain⟨D,d,hfr⟩:=a.id
 rw[hid] at d
 cases d
 obtain⟨c,hc,e⟩:=a.card
 obtain⟨J,hr1,hr2⟩:=a.right
 rw[hrow] at hr1
 cases hr1
 obtain⟨v,hv,i⟩:=Xb w (o:=o) q
 rw[hr2] at hv
 cases hv
 have hR:=i rfl
 obtain⟨⟨p,b,E,lev⟩,h1,e1,e2,e3,e4,e5,e8⟩:=ZF w pg a sm
 dsimp only at e1 e2 e3 e4 e5 e8
 have hbeh:∀j:Nat,j<256->(gW (Rf b p) j=true↔Hi g up j):=by grind [RP,Hi]
 obtain⟨⟨last,F⟩,h4,e6,e7⟩:=ZG (A:=Rf b p) w pg f (by grind) hR
 dsimp only at e6 e7
 obtain⟨H,l,ho2⟩:=TU sm
 rw[hid] at ho2
 cases ho2
 have ap:AdX g.Cards m N o id c (pT o.Kind):={
  chk:=RL a.check sm
  sm:=sm
  cl:=RM sm
  id:=l
  fresh:=by rw[pg.get,hfr];rfl
  room:=aa
  card:=T7 (by have:=w.nC;omega) hc
  by_:=(yd hc).2.symm
  sig:=TW (by have:=yY sm;omega) e
  create:=by grind [R0.create]
  nPast:=by have:=sm.nPast;omega
  par:=λx hx=>by obtain⟨k,hk⟩:=He hx;obtain⟨n,hn,_⟩:=a.par k x hk;have hnl:n<g.IDs.length:=(cr (gb hn).1).1;grind [Oo.get]}
 have h2:ZA p b 4=z4:=by grind [RQ,R0.apart]
 refine⟨⟨o,id,Rf b p,lev⟩,rfl,rfl,⟨?_,?_,?_,?_⟩,(by grind [W7])⟩
 .show(N++[_]).length=(g.L++[o]).length
  simp[pl]
 .intro k y hy
  have inx:=kU w (o:=o) (id:=id) (up:=up) q
  rcases je hy with⟨hk,h⟩|⟨hk,rfl⟩
  .obtain⟨t,z,I,B,C⟩:=pg.nd k y h
   refine⟨Ms t,Ms z,λj hj=>?_,B,C⟩
   grind
  .subst hk
   refine⟨by rw[pl];exact F8,by rw[show N.length=g.IDs.length by omega];exact F8,λj hj=>?_,e4,e5⟩
   have:=inx N.length j
   have hb:=hbeh j hj
   have hrj:row[j]?=some true↔Hi g up j:=by
    rcases HU j g.L.length with h|h
    .exact s j h
    .constructor
     .grind
     .rintro(h2|⟨n,h2,h3⟩)
      .have:=(a.upb _ h2).2;omega
      .have:=w.inlt n j h3;omega
   grind
 .intro x
  rw[T6,pg.get,show(pL g o id up row).IDs=g.IDs++[id] from rfl,EV]
  cases bu x g.IDs<;>grind
 .intro k y u hy hu
  have hUp:(pL g o id up row).Up=g.Up++[up]:=rfl
  have nU:=w.nU
  rw[hUp] at hu
  rcases je hy with⟨hk,h⟩|⟨hk,rfl⟩
  .rw[List.getElem?_append_left aa] at hu
   rw[pg.lv k y u h hu]
   refine(Adc λx hx=>?_).symm
   have:=(w.up k u hu).2 x hx
   omega
  .subst hk
   rw[List.getElem?_append_right aa,show N.length-g.Up.length=0 by omega] at hu
   obtain rfl:=Bo hu
   show lev=_
   rw[e8]
   refine(Adc λx hx=>?_).symm
   have:=a.upb x hx
   omega
theorem OL{b:A7}(h:MG b g)(hb:b.L=[])(hi:b.IDs=[])(hs:xf b.Cards):∃(c:Nat->IX) (N:IH),g.Cards=b.Cards/\g.L.length<=200/\Adb g c N/\Oo g (c g.L.length) N:=by
 induction h with
 |base=>refine⟨λ_=>⟨[],0⟩,[],rfl,by rw[hb];exact Nat.zero_le _,⟨hs,by rw[hb];exact Nat.zero_le _,by rw[hb];rfl,rfl,λk o ho=>by rw[hb] at ho;simp at ho⟩,⟨by rw[hb];rfl,λk y hy=>by simp at hy,(λx=>by rw[hi];rfl),(λk y u hy=>by simp at hy)⟩⟩
 | @step g o id up row gr w sm _ d a hid hrow ih=>
  obtain⟨c,N,hc,hl,hrun,pg⟩:=ih;have pl:=pg.len;have hro:=a.room;obtain⟨y,f,i,e,hm⟩:=T8 w pg sm d a hid hrow;have el:(pL g o id up row).L=g.L++[o]:=rfl;have ell:(pL g o id up row).L.length=g.L.length+1:=by rw[el];simp
  have eC:(pL g o id up row).Cards=g.Cards:=rfl;refine⟨λk=>if k<=g.L.length then c k else CW (c g.L.length) id N.length,N++[y],hc,aa,⟨by rw[eC];exact hrun.srt,aa,by rw[ell];simp[pl],by show(if 0<=g.L.length then c 0 else _)=_;rw[Bz (Nat.zero_le _)];exact hrun.m0,λk p hp=>?_⟩,?_⟩
  .rw[eC];rcases je (l:=g.L) (x:=o) hp with⟨hk,h⟩|⟨hk,rfl⟩
   .grind [Adb.step]
   grind
  .rw[ell];dsimp only;rw[BU aa];exact e
structure Uc (gg:Aj):Prop where
 pos:∀x n,gg.at_.get x=some n->∃(k:Nat) (y:CY),n=(k:Int)/\gg.nodes[k]?=some y/\k<256
 cl:∀y∈gg.nodes,pG y.o=some y.o
 nc:gg.cards.length<=1000
def M7(gg:Aj)(x:Ab):Option CY:=(gg.at_.get x).bind λn=>aS gg.nodes n
def Agj(gg:Aj)(x y:Ab):Bool:=match gg.at_.get x,M7 gg y with
 |some n,some b=>gW b.past n.toNat
 |_,_=>false
def PP(gg:Aj):Gi:=⟨λx=>(M7 gg x).map (·.o),Agj gg,λx=>match M7 gg x with|some y=>y.level|none=>0,gg.cards,λd=>gg.cards.find? λc=>decide (c.Device=d)⟩
theorem Ud(h:Uc gg)(e:gg.at_.get x=some n):∃(k:Nat) (y:CY),n=(k:Int)/\aS gg.nodes n=some y/\M7 gg x=some y/\k<256/\y∈gg.nodes:=by
 obtain⟨k,y,rfl,hy,hk⟩:=h.pos x n e;have hz:aS gg.nodes (k:Int)=some y:=by rw[au];exact hy
 refine⟨k,y,rfl,hz,?_,hk,bO hy⟩;unfold M7;rw[e];exact hz
theorem WE(e:gg.at_.get x=none):M7 gg x=none:=by unfold M7;rw[e];rfl
def Ya(q:Ab->Bool)(l:A3)(j:Nat):Nat:=((l.take j).filter q).length
def wK(q:Ab->Bool)(l:A3)(j:Nat):A3:=(l.take j).filter q++l.drop (Ya q l j)
theorem AlS{q:Ab->Bool}{l:A3}{j:Nat}:Ya q l j<=j/\Ya q l j<=l.length:=by grind [Ya]
theorem AaA{q:Ab->Bool}{l:A3}{j:Nat}:(wK q l j).length=l.length:=by grind [wK,Ya]
theorem AlT{q:Ab->Bool}{l:A3}:(wK q l j)[j]?=l[j]? :=by grind [wK,Ya]
theorem AlU{q:Ab->Bool}{l:A3}(hx:l[j]?=some x)(hq:q x=false):Ya q l (j+1)=Ya q l j/\wK q l (j+1)=wK q l j:=by grind [Hr,Ya,wK]
theorem Anx{q:Ab->Bool}{l:A3}(hx:l[j]?=some x)(hq:q x=true):Ya q l (j+1)=Ya q l j+1/\ji (wK q l j) ((Ya q l j:Nat):Int) x=some (wK q l (j+1)):=by
 have e:(l.take (j+1)).filter q=(l.take j).filter q++[x]:=by grind [Hr]
 have e2:Ya q l (j+1)=Ya q l j+1:=by grind [Ya]
 grind [ji,AaA,wK,List.set_append_right,Ya,List.drop_eq_getElem_cons]
theorem AjY{q:Ab->Bool}{l:A3}(h:l.findIdx? (λx=> !q x)=some i):i<l.length/\Ya q l (i+1)=i/\wK q l (i+1)=l:=by
 obtain⟨hi,h1,h2⟩:=List.findIdx?_eq_some_iff_getElem.1 h;have e:(l.take i).filter q=l.take i:=by grind [List.filter_eq_self,List.getElem_of_mem]
 have hx:l[i]?=some l[i]:=Ef hi;grind [Ya,AlU,wK,Pp]
theorem AiJ{q:Ab->Bool}{l:A3}(h:l.any (λx=> !q x)=false):l.filter q=l:=by grind [List.filter_eq_self]
theorem WF{q:Ab->Bool}{l:A3}:(wK q l l.length).take (l.filter q).length=l.filter q/\Ya q l l.length=(l.filter q).length:=by grind [wK,Ya]
theorem Adz{s:A3}{f:Ab->Fm}{p:Ab->Bool}(hn:s.length<2305843009213693952)(hf:∀x∈s,f x=some (p x)):(Vx s f=some (-1)/\s.any p=false)\/∃j:Nat,Vx s f=some (j:Int)/\s.findIdx? p=some j:=by
 obtain⟨r,h1,h2⟩:=AjO (s:=s) p hn (step:=Ko s f) (λk x hx=>by unfold Ko;rw[C3 hx,ax,Bp hx,aL,hf x (bO hx),aL];cases p x<;>simp) (by unfold Ko;rw[D4];rfl)
 unfold Vx;rw[h1];rcases h2 with⟨rfl,h2⟩|⟨j,rfl,h2,h3⟩
 .exact .inl ⟨rfl,h2⟩
 .exact .inr ⟨j,rfl,h3⟩
def dfT(del:Ab->Bool)(s:Nat×Nat×A3):Option ((Nat×Nat×A3)⊕(Nat×A3)):=
 bif s.2.2.length<=1000/\s.2.1<=s.1 then bif (s.1:Int)<ah s.2.2 then(aS s.2.2 (s.1:Int)).bind λx=>bif del x then some (.inl (s.1+1,s.2.1,s.2.2))else(ji s.2.2 (s.2.1:Int) x).bind λW=>some (.inl (s.1+1,s.2.1+1,W))else some (.inr s.2)else none
theorem AiK{del:Ab->Bool}{l:A3}(hl:l.length<=1000)(h:l.findIdx? del=some i):AH (dfT del) (i+1,i,l)=some ((l.filter λx=> !del x).length,wK (λx=> !del x) l l.length):=by
 have h':l.findIdx? (λx=> !(!del x))=some i:=by simpa using h
 obtain⟨hi,k1,k2⟩:=AjY (q:=λx=> !del x) h';refine T.eq (T.loop (λs=>s.1<=l.length/\s.2.1=Ya (λx=> !del x) l s.1/\s.2.2=wK (λx=> !del x) l s.1) (λs=>l.length-s.1) (by grind) (by show l.length-(i+1)<_;omega) ?_);rintro⟨j,k,W⟩ ⟨hj,hk,a⟩;dsimp only at hj hk a;subst hk;subst a;unfold dfT;dsimp only;have hlen:=AaA (q:=λx=> !del x) (l:=l) (j:=j);rw[CM (by grind [AlS]),ax];refine .dec (λhh=>?_) λhh=> .some ?_
 .unfold ah at hh;have hlt:j<l.length:=aa;have hx:l[j]?=some l[j]:=Ef hlt;refine .bind (.ix aa (x:=l[j]) (by rw[E0,AlT];exact hx) ?_);refine .ite (λhd=>?_) λhd=>?_
  .obtain⟨a1,a2⟩:=AlU (q:=λx=> !del x) hx (by simpa using hd);exact .some (by constructor<;>grind)
  .obtain⟨a1,a2⟩:=Anx (q:=λx=> !del x) hx (by simpa using hd);rw[a2];exact .some (by constructor<;>grind)
 .unfold ah at hh;obtain rfl:j=l.length:=aa;rw[WF.2];exact rfl
abbrev zR(W:A3)(i:Nat):Bj:=(W.flatMap aj).take (0+(i:Int).toNat*3)++(bN zI ((W.length-(i:Int).toNat)*3)).map .lit++(W.flatMap aj).drop (0+(i:Int).toNat*3+(W.length-(i:Int).toNat)*3)
theorem Agk(W:A3)(i:Nat):∀g∈zR W i,bB g:=by grind [A9.imm,ac,mN]
theorem AdA(h:i<=W.length):(zR W i).take (i*3)=(W.take i).flatMap aj:=by grind [E0,Pp,A9.len,ac]
section
variable {gl:Cd}
end
abbrev tMI:Bn:=231
abbrev oLi(al:Bb)(v f:Nat):Option Ob:=some ⟨233,[.ptr (Ag al.g) 0,aE aj al.row,.mref v,.mref f],none⟩
abbrev WG(m:FM Ab Bool):Option Ob:=some (Nh tMI ga bG m)
abbrev oBl(b:Nat):Option Ob:=some ⟨181,[.ref b 0],none⟩
abbrev σL(al:Bb):aQ:=[(1,oBl 2),(2,oLi al 3 4),(3,WG al.void),(4,WG al.fork)]
abbrev ρL:DD:=[(0,0),(1,1),(2,2),(3,3),(4,4)]
abbrev kdL:List (Nat×Rk):=[(0,.row),(999999,.clo)]
theorem WY(m:FM Ab Bool):∀e∈XI ga bG m,bB e.2.1:=by grind [mN]
abbrev mLs(al:Bb):List HP:=[hc (WY al.void),hc (WY al.fork)]
theorem AaB(h1:ag st.σ b=oLi al v f)(h2:ag st.σ v=WG al.void)(h3:ag st.σ f=WG al.fork):ve P st (.ref b 0) (.ptr (BB al) 0):=by
 refine Mb h1 (Dx _) (Nw rfl λp hp=>?_);simp only[BB,List.zip_cons_cons,List.zip_nil_right,EH,Lu,or_false] at hp;rcases hp with rfl|rfl|rfl|rfl
 .exact jB (Ah _ _)
 .exact jB (FC _ _)
 .exact Ot h2 λe _=>jB (mN _)
 .exact Ot h3 λe _=>jB (mN _)
theorem Agm(h0:ag st.σ a=oBl b)(h1:ag st.σ b=oLi al v f)(h2:ag st.σ v=WG al.void)(h3:ag st.σ f=WG al.fork):ve P st (.ref a 0) (.ptr [.ptr (BB al) 0] 0):=by refine Mb h0 (Dx _) (Nw rfl λp hp=>?_);grind [List.zip_cons_cons,List.zip_nil_right,AaB]
section
variable {gl:Cd}
theorem Aj0{al:Bb}{r:Bool}{c:Nat}(a:aK prog fi=true)(hF:ba prog gl fi [.agg (aj x),.ptr [.ptr (BB al) 0] 0] (bG r)):oJ prog gl fi [.agg (aj x),.ref 1 0] (σL al) c (bG r) [] c:=
 Ou a hF (lR _) rfl λst h i y z h1 h2=>by
  match i with
  |0=>cases h1;cases h2;exact jB (aG 20 (.agg (aj x)) aH)
  |1=>cases h1;cases h2;exact Agm (h 1 _ rfl) (h 2 _ rfl) (h 3 _ rfl) (h 4 _ rfl)
  |j+2=>cases h1
theorem Agn{f:Ab->Fm}(hv:R1 prog gl fi [] [.ptr [.ptr (BB al) 0] 0] (λx:Ab=>[.agg (aj x)]) (λb:Bool=>bG b) f){l:A3}{r:Int}(e:Vx l f=some r):oJ prog gl 112 [.rsl 0 0 l.length,.clo (.func fi) [] [.ref 1 0]] ((0,Bt l)::σL al) 5 (iG r) [] 5:=
 Ou aH (gS gl hv e) (lR _) rfl λst h i x y h1 h2=>by
  match i with
  |0=>
   cases h1;cases h2;exact FD (s:=3) (h 0 _ rfl) aH (by show 0+l.length*3<=(l.flatMap aj).length;rw[ac.len];omega) (ac.len l) λj g c a b=>by rw[Nat.zero_add] at a;rw[show(l.flatMap aj)[j]?=some g from a] at b;cases b;exact jB (ac.imm l g (bO a))
  |1=>
   cases h1;cases h2;exact SX rfl rfl (λi g c a b=>by cases a) (λi g c a b=>by
    match i with
    |0=>cases a;cases b;exact Agm (h 1 _ rfl) (h 2 _ rfl) (h 3 _ rfl) (h 4 _ rfl)
    |j+1=>cases a)
  |j+2=>cases h1
theorem AlV{σ:aQ}{i:Nat}(h:i<W.length):rF prog ((0,Bt W)::σ) 26 (.rsl 0 (0+(i:Int).toNat*3) (W.length-(i:Int).toNat))=some (0,⟨36,zR W i,none⟩):=by have e1:dp prog 26=some 36:=aH;have e2:jj prog 36=some zI:=aH;have e3:bw prog 36=some 3:=aH;have e4:ag ((0,Bt W)::σ) 0=some ⟨36,W.flatMap aj,none⟩:=rfl;have e5:(i:Int).toNat=i:=E0 i;unfold rF;rw[e1];simp only[e2,e3,e4];rw[Bz ⟨rfl,aa,B5,by rw[ac.len];omega,rfl⟩]
theorem AcK{del:Ab->Bool}(a:aK prog fi=true)(hF:∀x,ba prog gl fi [.agg (aj x),.ptr [.ptr (BB al) 0] 0] (bG (del x))){l:A3}(hl:l.length<=1000):SE prog gl 50 [.rsl 0 0 l.length,.clo (.func fi) [] [.ref 1 0]] ((0,Bt l)::σL al) 5 5 (.rsl 0 0 (l.filter λx=> !del x).length) ((0,Bt (l.filter λx=> !del x))::σL al):=by
 have hv:R1 prog gl fi [] [.ptr [.ptr (BB al) 0] 0] (λx:Ab=>[.agg (aj x)]) (λb:Bool=>bG b) (λx=>some (del x)):=⟨a,bf,eB aH,λx r e=>by cases e;exact hF x⟩;refine dFP func50 ?_;rcases Adz (s:=l) (p:=del) aa (λx _=>rfl) with⟨e,h0⟩|⟨i,e,h0⟩
 .have hi:=Agn hv e;rw[AiJ (by simpa using h0)];exact ZT [hz 10 [0,1,2,3,4] hi] (hc (el l)::hc (ac.imm l)::mLs al) ρL kdL
 .have hi:=Agn hv e;have hlt:=(List.findIdx?_eq_some_iff_getElem.1 h0).1;have hkn:(l.filter λx=> !del x).length<l.length:=by have:=AjY (q:=λx=> !del x) (by simpa using h0);have h2:=WF (q:=λx=> !del x) (l:=l);refine Nat.lt_of_le_of_ne (M0 _ _) λhe=>?_;have h3:=List.length_filter_eq_length_iff.1 he _ (List.getElem_mem hlt);have h4:=(List.findIdx?_eq_some_iff_getElem.1 h0).2.1;simp[h4] at h3
  refine pN (λs:Nat×Nat×A3=>(s0 42 gl [(0,.rsl 0 0 s.2.2.length),(1,.clo (.func fi) [] [.ref 1 0]),(5,iG (s.2.1:Int)),(6,iG (s.1:Int))] ((0,Bt s.2.2)::σL al) 5 5)) 11110122 (AiK hl h0) [hz 10 [0,1,2,3,4] hi,hr 12 (show decide ((i:Int)= -1)=false from C5 aa),hbb 15 (Xl (q:=i) aa)] (hc (el l)::hc (ac.imm l)::mLs al) (λB s w hs k5 h=>?_) [] ρL kdL;obtain⟨j,k,W⟩:=s;unfold dfT at hs;dsimp only at hs;cases b0:decide (W.length<=1000/\k<=j) with
  |false=>rw[b0] at hs;cases hs
  |true=>
  rw[b0,ax] at hs;obtain⟨g1,g2⟩:=DS b0;rcases bC hs with⟨b1,hs⟩|⟨b1,hs⟩
  .have hjl:=DS b1;unfold ah at hjl;obtain⟨x,d,hs⟩:=bS hs;have hcl:=Aj0 (al:=al) (c:=6) a (hF x);have hjb:j<1000000:=aa;cases hd:del x with
   |true=>rw[hd] at hs hcl;obtain rfl:=Bo hs;exact jw [hr 19 b1,Az 24 (ac.ixrZ 0 d),Az 25 (ac.pt0Z aW d),hz 28 [1,2,3,4] hcl,hbb 21 (Xl (q:=j) aa)] (hc (el W)::hc (ac.imm W)::mLs al) (k5 _ rfl) [] ρL kdL
   |false=>rw[hd] at hs hcl;obtain⟨f,e2,hs⟩:=bS hs;obtain rfl:=Bo hs;have hkb:k<1000000:=aa;exact jw [hr 19 b1,Az 24 (ac.ixrZ 0 d),Az 25 (ac.pt0Z aW d),hz 28 [1,2,3,4] hcl,Az 33 (ac.ixsZ 0 e2),hw 33 (f.flatMap aj) (ac.putZ e2),hbb 35 (Xl (q:=k) aa),hbb 21 (Xl (q:=j) aa)] (hc (hZ e2)::hc (ac.imm f)::mLs al) (k5 _ rfl) [] ρL kdL
  .obtain rfl:=Bo hs;have ek:=h _ rfl;simp only[Fu] at ek;obtain⟨ek,g⟩:=ek;have hkW:k<W.length:=by rw[g,AaA,ek];exact hkn
   have e:(zR W k).take (k*3)=(l.filter λx=> !del x).flatMap aj:=by rw[AdA (Nat.le_of_lt hkW),g,ek,WF.1]
   rw[<-ek];generalize (l.filter λx=> !del x)=F at e⊢;refine pO 1111110 (J:=(s0 42 gl [(0,.rsl 0 0 W.length),(5,iG (k:Int))] ((ob 0 36 (zR W k))::σL al) 5 5)) [hr 19 b1,Az 38 (ac.sufZ 0 (l:=W) (i:=(k:Int)) (y:=W.drop k) (by unfold mc;rw[Bz ⟨aa,by rw[E0];omega⟩,E0])),Go.Proofs.YtlijnaneopediaaGreatDoor.hcl 5 (AlV (σ:=σL al) hkW)] (hc (el W)::hc (Agk W k)::mLs al) ?_ [] ρL kdL;refine dSh 0 (k*3) ?_;show Gp _ _ _ _ _ _ (s0 42 gl [(0,.rsl 0 0 W.length),(5,iG (k:Int))] ((ob 0 36 ((zR W k).take (k*3)))::(ob 0 36 (zR W k))::σL al) 5 5);rw[e];exact ZT [Az 41 (ac.preZ 0 (l:=W) (i:=(k:Int)) (y:=W.take k) (by unfold tq;rw[Bz ⟨aa,by rw[E0];omega⟩,E0]))] (hc (rfl:k=k)::hc (ac.imm F)::mLs al) ρL kdL
end
def Gq(k:Int):Bool:=bif k=3 then true else bif k=13 then true else decide (k=12)
def MT(I:Gi)(R:Ad)(x:Ab):Ad:=U0 R (I.o x) x
def Te(I:Gi)(cs:A3):Ad:=cs.foldl (MT I) (Hl I.cards)
theorem W6{I:Gi}:∀{l:A3} {R:Ad},Bh R->(∀x∈l,UE (I.o x) x)->Bh (l.foldl (MT I) R)
 |[],R,h,_=>h
 |x::r,R,h,hx=>W6 (l:=r) (R4 h (hx x aC)) (by grind)
section
variable {gl:Cd} {gg:Aj} {I:Gi}
theorem Aek(k:Int):ba prog gl 229 [iG k] (bG (Gq k)):=XS gl (by unfold VB Gq;cases decide (k=3)<;>cases decide (k=13)<;>rfl)
theorem Ah0{al:Bb}(h:O8 gl al.g I)(x:Ab):ba prog gl 228 [.agg (aj x),.ptr [.ptr (BB al) 0] 0] (bG (!Gq (I.o x).Kind)):=by have h1:=h.op x;have h2:=Aek (gl:=gl) (I.o x).Kind;refine Gh func228 ?_;exact Ar [hf 12 h1,hf 17 h2] []
theorem AaC{al:Bb}(x:Ab):ba prog gl 230 [.agg (aj x),.ptr [.ptr (BB al) 0] 0] (bG (AB (al.void.get x))):=PA gl rfl
abbrev ρr0:DD:=[(0,0),(1,1),(2,2),(3,3),(4,4),(5,5),(6,6),(7,7),(8,8),(9,9),(10,10),(11,11),(12,12),(13,13)]
abbrev ρr2:DD:=[(0,0),(1,1),(2,2),(3,3),(4,4),(5,16),(6,17),(7,18),(8,19),(9,20),(10,21),(11,22),(12,23),(13,24)]
theorem Ah1(h:O8 gl gg I)(hc:Aee I.cards){ids cs:A3}(hC:ba prog gl 68 [.ptr (Ag gg) 0,aE aj ids] (aE aj cs))(hl:∀x∈cs,UE (I.o x) x)(hn:cs.length<=1000):SE prog gl 24 [.ptr (Ag gg) 0,aE aj ids] [] 0 0 (.ref 0 0) (BG f0 (Te I cs)):=by
 have hQ:∀k,Bh ((cs.take k).foldl (MT I) (Hl I.cards)):=λk=>W6 (Lw hc.r) λx hx=>hl x (List.mem_of_mem_take hx);refine dFP func24 ?_;refine Za (l:=cs) aa (λk:Nat=>(s0 33 gl [(0,.ptr (Ag gg) 0),(5,.ref 0 0),(15,aE aj cs),(16,iG (ah cs)),(17,iG (k:Int))] (BG f0 ((cs.take k).foldl (MT I) (Hl I.cards))) 14 0)) 1110122 [hf 11 h.cards,hrn 12 0 [aE bv I.cards] (Lw hc.r) (Af9 gl hc),hf 15 hC] (rlB ρr0 (O6 0) (hQ 0)) (λB k x hx hz k5=>?_) (λB=>?_) [] ρr0 N3
 .have hlt:=(cr hx).1;have hq:=hQ k;have a:=hl x (bO hx);rw[Hr,hx,Option.toList_some,LX,List.foldl_cons,List.foldl_nil] at k5;generalize (cs.take k).foldl (MT I) (Hl I.cards)=Q at hq k5⊢;unfold MT at k5;have b:=R4 hq a;exact jw [hr 18 (C3 hx),Az 19 (ac.ixZ hz),Az 20 (ac.ptZ aW hz),hf 24 (h.op x),hrw 30 f0 16 [.agg (aJ (I.o x)),.agg (aj x)] hq b (Af8 gl hq a),hbb 31 (Xl (q:=k) aa)] (rlB ρr2 (fW f0 16) b) k5 [] ρr2 N3
 .rw[DZ];exact ZT [hr 18 (D4 (s:=cs))] (rlB ρr0 f0 (W6 (Lw hc.r) hl)) ρr0 N3
end
section
variable {g:A7} {m:IX} {N:IH}
theorem AbJ(w:Fo g)(p:Oo g m N)(h:bu x g.IDs=some k):∃y,N[k]?=some y/\k<256/\y.id=x:=by have h1:=(gb h).1;have hlt:=(cr h1).1;have n1:=w.nL;have n2:=w.nI;have a:=p.len;have hy:N[k]?=some (N[k]'aa):=Ef _;have:=(p.nd k _ hy).2.1;rw[h1] at this;exact⟨_,hy,aa,(Bo this).symm⟩
theorem Ue(w:Fo g)(p:Oo g m N)(x:Ab):M7 ⟨g.Cards,m,N⟩ x=(bu x g.IDs).bind λk=>N[k]? :=by
 unfold M7;show(m.get x).bind _=_;rw[p.get];cases bu x g.IDs with
 |none=>rfl
 |some k=>exact au
theorem AiL(w:Fo g)(p:Oo g m N)(x:Ab):(PP ⟨g.Cards,m,N⟩).op x=(bu x g.IDs).bind λk=>g.L[k]? :=by
 show(M7 _ x).map (·.o)=_;rw[Ue w p];cases hk:bu x g.IDs with
 |none=>rfl
 |some k=>obtain⟨y,h1,_,_⟩:=AbJ w p hk;show(N[k]?).map _=g.L[k]?;rw[h1,(p.nd k y h1).1];rfl
theorem Uf(w:Fo g)(p:Oo g m N)(x y:Ab):(PP ⟨g.Cards,m,N⟩).bef x y=match bu x g.IDs,bu y g.IDs with|some i,some j=>O9 g j i|_,_=>false:=by
 show Agj _ x y=_;unfold Agj;show(match m.get x,M7 ⟨g.Cards,m,N⟩ y with|some n,some b=>gW b.past n.toNat|_,_=>false)=_;rw[Ue w p,p.get];cases hx:bu x g.IDs with
 |none=>rfl
 |some i=>
  cases hy:bu y g.IDs with
  |none=>rfl
  |some j=>obtain⟨b,h1,_,_⟩:=AbJ w p hy;obtain⟨_,_,h2,_⟩:=AbJ w p hx;show(match some (i:Int),N[j]? with|some n,some b=>gW b.past n.toNat|_,_=>false)=_;rw[h1];exact(p.nd j b h1).2.2.1 i h2
end
def GD(s:List EQ×Int):Option ((List EQ×Int)⊕(List EQ)):=
 bif 0<s.2 then(aS s.1 s.2).bind λa=>(aS s.1 (wI (s.2-1))).bind λb=>(wz a b).bind λr=>bif r<0 then(ji s.1 s.2 b).bind λw1=>(ji w1 (wI (s.2-1)) a).bind λw2=>some (.inl (w2,wI (s.2-1)))else some (.inr s.1)else some (.inr s.1)
def Ln(n:Int)(s:List EQ×Int):Option ((List EQ×Int)⊕(List EQ)):=
 bif s.2<n then(AH GD (s.1,s.2)).bind λl=>some (.inl (l,wI (s.2+1)))else some (.inr s.1)
def So(l:List EQ):Option (List EQ):=AH (Ln (ah l)) (l,wI (0+1))
structure Am8 {K V:Type} (m:FM K V):Prop where
 nd:(m.es.map (·.2.2)).Nodup
 lt:∀e∈m.es,e.2.2<m.clk
structure Am9 (m:FM EQ Nat) (srt:List EQ):Prop where
 ok:Am8 m
 n:m.es.length<=12
 sr:∀ks:List EQ,ks.Perm (m.es.map (·.1))->So ks=some srt
 len:srt.length=m.es.length
theorem Lt{l:Bk}{k:Nat}{v:Int}(hl:l.length<=3)(hv:v≠0)(hk:l[k]?=some v)(h:∀j,j<k->l[j]?=some 0):iy l=some v:=by
 unfold iy;refine T.eq (.bind ((T.search l (λy=>decide (y≠0)) (λ_ y=>y) aa (λk x hx hk=>?_) ?_).mono ?_))
 .grind [fm,eA,au,aq]
 .unfold fm;rw[eF,AQ]
 .rintro r (⟨rfl,h0⟩|⟨k',x,hx,hp,rfl,h0⟩)
  .have:=h0 v (bO hk);simp[hv] at this
  .refine .some ?_;grind
theorem Uj:iy [0,0,0]=some 0:=by
 unfold iy;refine T.eq (.bind ((T.search [0,0,0] (λy=>decide (y≠0)) (λ_ y=>y) B5 (λk x hx hk=>?_) ?_).mono ?_))
 .grind [fm,eA,au,aq]
 .unfold fm;rw[eF,AQ]
 .rintro r (⟨rfl,h0⟩|⟨k',x,hx,hp,rfl,h0⟩)
  .exact .some rfl
  grind
theorem EW(a b:Ab):pE a b=some (dt a b):=by
 by_cases hl:dt a b=true
 .rw[hl];exact MW hl
 have hl:dt a b=false:=by simpa using hl
 rw[hl];unfold pE;rw[Ax,Ax,MV];simp only[aL];unfold dt at hl;by_cases h1:a.By=b.By
 .rw[BU (by simp[h1])] at hl;by_cases h2:a.Seq=b.Seq
  .rw[BU (by simp[h2])] at hl;have h3:=Lq hl;by_cases h4:b.Sum<a.Sum
   .rw[Lt (k:=2) (v:=1) aC B5 (by simp[h3,h4]) (by grind)];rfl
   grind [Uj]
  .rw[Bz h2] at hl;have h3:=Lq hl;rw[Lt (k:=1) (v:=1) aC B5 (by simp[h3];omega) (by grind)];rfl
 .rw[Bz h1] at hl;have h3:=Lq hl;rw[Lt (k:=0) (v:=1) aC B5 (by simp[h3];omega) (by grind)];rfl
theorem EX{a b:Ab}(h1:dt a b=false)(h2:dt b a=false):a=b:=by obtain⟨x,y,z⟩:=a;obtain⟨c,d,e⟩:=b;grind [dt]
def AbK(x y:Int):Int:=bif x<y then-1 else bif y<x then 1 else 0
def Hg(a b:Ab):Int:=bif dt a b then-1 else bif dt b a then 1 else 0
def Nf(I:Gi)(a b:Ab):Int:=bif AbK (I.lev a) (I.lev b)≠0 then AbK (I.lev a) (I.lev b)else Hg a b
theorem AdB(x y:Int):f8 x y=some (AbK x y):=by unfold f8 AbK Fw;have h1:decide (x≠x)=false:=C5 aC;have h2:decide (y≠y)=false:=C5 aC;simp only[h1,h2,aL,AQ];cases decide (x<y)<;>cases decide (y<x)<;>rfl
theorem Ah2(u v:Int):iy [u,v]=some (bif u≠0 then u else v):=by
 unfold iy;refine T.eq (.bind (T.forI 2 (λk=>0<k->u=0/\(1<k->v=0)) aa (λh=>absurd h (Nat.lt_irrefl _)) (λk hk a=>?_) λa=>?_))
 .unfold fm;rcases(by omega:k=0\/k=1) with rfl|rfl
  .show T ((bif u≠0 then _ else _)) _;refine .ite (λh=> .some (.some ?_)) λh=> .some ⟨rfl,λ_=>⟨by simpa using h,λh=>absurd h (Nat.lt_irrefl _)⟩⟩;rw[h];rfl
  .obtain⟨hu,_⟩:=a aa;show T ((bif v≠0 then _ else _)) _;refine .ite (λh=> .some (.some ?_)) λh=> .some ⟨rfl,λ_=>⟨hu,λ_=>by simpa using h⟩⟩;subst hu;rfl
 .obtain⟨hu,hv⟩:=a aa;have hv:=hv aa;subst hu;subst hv;exact .some (.some rfl)
theorem Aj1(h:Uc gg)(x:Ab):Fe gg x=some ((PP gg).lev x):=by
 unfold Fe FR;cases e:gg.at_.get x with
 |none=>show _=some (match M7 gg x with|some y=>y.level|none=>0);rw[WE e];rfl
 |some n=>obtain⟨k,y,rfl,hz,hn,hk,hm⟩:=Ud h e;show _=some (match M7 gg x with|some y=>y.level|none=>0);rw[hn];simp only[Option.isSome_some,ax,M1,hz,aL]
theorem Ah3(h:Uc gg)(a b:Ab):KY ⟨gg⟩ a b=some (Nf (PP gg) a b):=by unfold KY;rw[EW,EW];unfold Nf Hg;cases h1:dt a b<;>cases h2:dt b a<;>(simp only[ax,AQ,aL,Aj1 h,AdB,Ah2])
theorem Ah4{gl:Cd}(h:Uc gg)(a b:Ab):ba prog gl 129 [.agg (Np ⟨gg⟩),.agg (aj a),.agg (aj b)] (iG (Nf (PP gg) a b)):=R9 gl (Ah3 h a b)
theorem AaD{gl:Cd}{s:A3}(hn:s.length<=1000)(v:Ab):ba prog gl 180 [aE aj s,.agg (aj v)] (bG (s.any λy=>decide (v=y))):=Jm gl (Uw aa v)
abbrev dR(l:A3)(i:Nat):Bj:=(l.flatMap aj).take (i*3)++(l.drop (i+1)).flatMap aj++(l.flatMap aj).drop (i*3+(l.length-(i+1))*3)
abbrev zD(L:Bj)(n:Nat):Bj:=L.take (n*3)++(bN zI (1*3)).map .lit++L.drop (n*3+1*3)
theorem AcL{l:A3}(h:i<l.length):(dR l i).length=l.length*3:=by grind [A9.len,ac]
theorem Aj2(l:A3)(i:Nat):∀g∈dR l i,bB g:=by grind [A9.imm,ac]
theorem Aj3{L:Bj}(h:∀g∈L,bB g)(n:Nat):∀g∈zD L n,bB g:=by grind [mN]
theorem Ah5{l:A3}{i:Nat}(h:i<l.length):(zD (dR l i) (l.length-1)).take ((l.length-1)*3)=(l.eraseIdx i).flatMap aj:=by
 have hl:=AcL h;have e1:(zD (dR l i) (l.length-1)).take ((l.length-1)*3)=(dR l i).take ((l.length-1)*3):=by grind
 have e2:(l.flatMap aj).take (i*3)=(l.take i).flatMap aj:=by grind [Pp,A9.len,ac,LW]
 grind [A9.len,ac]
theorem cI:dp prog 26=some 36/\bw prog 36=some 3/\jj prog 36=some zI:=⟨aH,aH,aH⟩
def hai(d:Nat){P:Br}{σ:aQ}{t:Bn}{gx gy:G}{i n:Nat}{ob:Ob}(h:RZ P σ t gx gy=some (i,ob,n)):HP:=⟨some (.i d i ob n),RZ P (Uz σ (fR gx++fR gy)) t gx gy=some (i,ob,n),(Ac8 Ho).symm.trans h⟩
theorem Aj4{l:A3}{i:Nat}(h:i<l.length):RZ prog [(0,Bt l)] 26 (.rsr 0 i) (.rsl 0 (0+((i+1:Nat):Int).toNat*3) (l.length-((i+1:Nat):Int).toNat))=some (0,⟨36,dR l i,none⟩,l.length-1):=by
 have e4:ag [(0,Bt l)] 0=some ⟨36,l.flatMap aj,none⟩:=rfl;have hlen:=ac.len l;have e5:fO [(0,Bt l)] 3 (.rsl 0 ((i+1)*3) (l.length-(i+1)))=some ((l.drop (i+1)).flatMap aj,l.length-(i+1)):=by
  unfold fO;simp only[e4,aL];rw[Bz (by rw[hlen];omega)];congr 2;have:(l.flatMap aj).drop ((i+1)*3)=(l.drop (i+1)).flatMap aj:=by
   conv=>lhs;rw[<-Pp (i+1) l,List.flatMap_append]
   grind [List.drop_left',A9.len,ac]
  grind [A9.len,ac]
 rw[E0,Nat.zero_add];grind [RZ,cI]
theorem Aj5{l:A3}{i:Nat}(h:i<l.length):sJ prog 26 (.rsl 0 0 l.length) (iG (i:Int)) (iG ((i+1:Nat):Int)) (iG (ah l))=some .junk:=by unfold sJ ah;grind [xL,cI]
theorem Aj6{l:A3}{i:Nat}(h:i<l.length):Jt prog [] 26 (.rsl 0 0 l.length) none (some (i:Int))=some (.rsr 0 i):=by unfold Jt;grind [cI]
theorem Aj7{l:A3}{i:Nat}(h:i<l.length):Jt prog [ob 0 36 (dR l i)] 26 (.rsr 0 (l.length-1)) (some ((l.length-1:Nat):Int)) (some (ah l))=some (.rsl 0 ((l.length-1)*3) 1):=by have e4:ag [ob 0 36 (dR l i)] 0=some (⟨36,dR l i,none⟩:Ob):=rfl;unfold Jt ah;simp only[cI.1,cI.2.1,e4];rw[Bz (by grind [AcL]),E0,E0,show l.length-(l.length-1)=1 by omega]
theorem Aj8{l:A3}{i:Nat}(h:i<l.length):rF prog [ob 0 36 (dR l i),(1,some BC),(0,Bt l)] 26 (.rsl 0 ((l.length-1)*3) 1)=some (0,⟨36,zD (dR l i) (l.length-1),none⟩):=by have e4:ag [ob 0 36 (dR l i),(1,some BC),(0,Bt l)] 0=some (⟨36,dR l i,none⟩:Ob):=rfl;unfold rF;simp only[cI.1,cI.2.1,cI.2.2,e4];rw[Bz ⟨rfl,aa,B5,by rw[AcL h];omega,rfl⟩]
theorem Zu{l:A3}{i:Nat}(hl:l.length<=1000)(h:i<l.length):jg prog gl 232 [.rsl 0 0 l.length,iG (i:Int),iG ((i+1:Nat):Int)] [(0,Bt l)] 1 (.rsl 0 0 (l.length-1)) [(0,Bt (l.eraseIdx i))] 1:=by have hz:=Ah5 h;have hi:=Aj3 (Aj2 l i) (l.length-1);refine pP func232 ?_;refine pO 11111110 (J:=(s0 33 gl [(0,.rsl 0 0 (l.length-1))] [ob 0 36 (zD (dR l i) (l.length-1))] 1 1)) [hcv 13 (g:= .junk) (Aj5 h),hr 16 (show decide ((i:Int)=((i+1:Nat):Int))=false from C5 aa),hcv 22 (g:= .rsr 0 i) (Aj6 h),Az 25 (ac.sufZ 0 (l:=l) (i:=((i+1:Nat):Int)) (y:=l.drop (i+1)) (by unfold mc;rw[Bz ⟨aa,by rw[E0];omega⟩,E0])),hai 26 (Aj4 h),hcv 31 (g:= .rsl 0 ((l.length-1)*3) 1) (Aj7 h),hcl 2 (Aj8 h)] [hc (rfl:l.length-1=l.length-1),hc hi] ?_;refine dSh 0 ((l.length-1)*3) ?_;show Gp _ _ _ _ _ _ (s0 33 gl [(0,.rsl 0 0 (l.length-1))] ((ob 0 36 ((zD (dR l i) (l.length-1)).take ((l.length-1)*3)))::[ob 0 36 (zD (dR l i) (l.length-1))]) 1 1);rw[hz];exact mt .ret (s0 33 gl [(6,.rsl 0 0 (l.length-1))] [(0,Bt (l.eraseIdx i))] 1 1) [.rsl 0 0 (l.length-1)] [] [hc (rfl:l.length-1=l.length-1),hc (ac.imm (l.eraseIdx i))]
theorem AdC{gl:Cd}{fid:FuncId}{gs gs':Bj}{σR:aQ}{t:Bn}{m:Nat}{l:Bj}{c:Nat}(hc:aK P fid=true)(hF:iV P gl fid gs' t m l)(hr:∀g∈l,∃v,g= .lit v)(hl:gs'.length=gs.length)(hz:∀st:St,(∀i o,ag σR i=some o->ag st.σ i=some o)->∀(i:Nat) (x y:G),gs[i]?=some x->gs'[i]?=some y->ve P st x y):oJ P gl fid gs σR c (.rsl c 0 m) [(c,some ⟨t,l,none⟩)] (c+1):=λo st y xs ats fst cap ho hd hx hgs hgl b a=>by grind [H4,VG]
abbrev tSe:Bn:=265
abbrev oSe(m:FM Int Int):Option Ob:=some (Nh tSe JM iG m)
theorem AiM{σ:aQ}(m:FM Int Int)(h:ag σ 4=oSe m)(k v:Int):dZ prog σ tSe (.mref 4) (iG k) (iG v)=some (4,Nh tSe JM iG (C6 m k v)):=Af1 (P:=prog) (et:=3) PC Adn aH (k:=k) (gk:=iG k) rfl (m:=m) h v
theorem AiN(k:Ab):Instr.sameBits 10000 (ga k) (ga k)=true:=by(unfold ga Pe;simp[Instr.sameBits])
theorem Aj9{σ:aQ}{i:Nat}(m:FM Ab Bool)(h:ag σ i=WG m)(k:Ab):dZ prog σ tMI (.mref i) (.agg (aj k)) (bG true)=some (i,Nh tMI ga bG (C6 m k true)):=Af1 (P:=prog) (et:=4) jt AiN aH (k:=k) (gk:= .agg (aj k)) rfl (m:=m) h true
def Tk(cs:Mj):FM Int Int:=cs.foldl (λm c=>C6 m c.Device 12) ⟨[],0⟩
def UF(m:FM Int Int)(s:Bk):Nat->FM Int Int
 |0=>m
 |k+1=>match s[k]? with
  |some d=>C6 (UF m s k) d (k:Int)
  |none=>UF m s k
def NR(cs:Mj)(s:Bk):FM Int Int:=UF (Tk cs) s s.length
abbrev wV(al:Bb)(v:FM Ab Bool):Bb:={al with void:=v}
def vFu(I:Gi)(row a:A3)(x:Ab)(v:FM Ab Bool)(y:Ab):FM Ab Bool:=bif DG I x y then C6 v y true else bif a.any (λz=>decide (y=z))&&DQ I row x y then C6 v y true else v
def vAl(I:Gi)(row a:A3)(x:Ab)(v:FM Ab Bool):FM Ab Bool:=row.foldl (vFu I row a x) v
def Aem(I:Gi)(al:Bb)(sen:FM Int Int)(s:A3×FM Ab Bool):Option ((A3×FM Ab Bool)⊕FM Ab Bool):=
 bif s.1.length<=1000 then
 (λl1:A3=>bif ah l1=0 then some (.inr s.2)else(AH (X9 I al.row l1 sen) (0,-1)).bind λi=>(aS l1 i).bind λx=>
   bif(EA I (wV al s.2)).any (λz=>decide (x=z))then some (.inl (l1.eraseIdx i.toNat,vAl I al.row (l1.eraseIdx i.toNat) x s.2))else some (.inl (l1.eraseIdx i.toNat,C6 s.2 x true)))
 (s.1.filter λx=> !AB (s.2.get x))
 else none
def Yb(I:Gi)(al:Bb)(sen:FM Int Int):Option (FM Ab Bool):=AH (Aem I al sen) (al.row.filter (λx=> !!Gq (I.o x).Kind),al.void)
abbrev σ3(al:Bb):aQ:=[(0,oLi al 1 2),(1,WG al.void),(2,WG al.fork)]
abbrev σ5(al:Bb)(sen:FM Int Int):aQ:=σ3 al++[(3,oBl 0),(4,oSe sen)]
abbrev σ6(al:Bb)(sen:FM Int Int)(l:A3):aQ:=σ5 al sen++[(5,Bt l)]
theorem Akb(m:FM Int Int):∀e∈XI JM iG m,bB e.2.1:=by grind [mN]
theorem Ago{κ:Nat->Fs}{b b':Nat}(h:κ b=some b'):∀ob,oBl b'=some ob->∃o,oBl b=some o/\MB κ o ob:=λob e=>by cases e;refine⟨_,rfl,rfl,.inl ?_⟩;grind [qg]
theorem AaE{κ:Nat->Fs}{al:Bb}{v v' f f':Nat}(h:κ v=some v')(h2:κ f=some f'):∀ob,oLi al v' f'=some ob->∃o,oLi al v f=some o/\MB κ o ob:=λob e=>by cases e;refine⟨_,rfl,rfl,.inl ?_⟩;grind [qg]
theorem PR{κ:Nat->Fs}{m:FM Ab Bool}:∀ob,WG m=some ob->∃o,WG m=some o/\MB κ o ob:=λob e=>by cases e;exact⟨_,rfl,rfl,rfl,rfl,rfl,.inr ⟨rfl,WY m⟩⟩
theorem AdD{κ:Nat->Fs}{l:A3}:∀ob,Bt l=some ob->∃o,Bt l=some o/\MB κ o ob:=λob e=>by cases e;exact⟨_,rfl,rfl,.inr ⟨rfl,ac.imm l⟩⟩
theorem AlW(al:Bb)(l:A3):InP (vi [5,3,0,1,2]) [5,3,0,1,2] [(5,Bt l),(3,oBl 0),(0,oLi al 1 2),(1,WG al.void),(2,WG al.fork)] ((0,Bt l)::σL al):=λk o0 h=>by
 match k with
 |0=>obtain⟨o,h1,h2⟩:=AdD (κ:=vi [5,3,0,1,2]) o0 h;exact⟨5,o,rfl,h1,h2⟩
 |1=>obtain⟨o,h1,h2⟩:=Ago (κ:=vi [5,3,0,1,2]) (b:=0) (b':=2) rfl o0 h;exact⟨3,o,rfl,h1,h2⟩
 |2=>obtain⟨o,h1,h2⟩:=AaE (κ:=vi [5,3,0,1,2]) (al:=al) (v:=1) (v':=3) (f:=2) (f':=4) rfl rfl o0 h;exact⟨0,o,rfl,h1,h2⟩
 |3=>obtain⟨o,h1,h2⟩:=PR (κ:=vi [5,3,0,1,2]) (m:=al.void) o0 h;exact⟨1,o,rfl,h1,h2⟩
 |4=>obtain⟨o,h1,h2⟩:=PR (κ:=vi [5,3,0,1,2]) (m:=al.fork) o0 h;exact⟨2,o,rfl,h1,h2⟩
 |j+5=>cases h
theorem Akc(al:Bb)(l d:A3)(c:Nat):Abi (kO ((0,Bt l)::σL al) [5,3,0,1,2] 5 0 c) ((0,Bt d)::σL al) [(5,Bt d),(3,oBl 0),(0,oLi al 1 2),(1,WG al.void),(2,WG al.fork)]:=λi o h0=>by
 generalize hκ:kO ((0,Bt l)::σL al) [5,3,0,1,2] 5 0 c=κ;have h0':κ 0=some 5:=by rw[<-hκ];rfl
 have h1':κ 1=some 3:=by rw[<-hκ];rfl
 have h2':κ 2=some 0:=by rw[<-hκ];rfl
 have h3':κ 3=some 1:=by rw[<-hκ];rfl
 have h4':κ 4=some 2:=by rw[<-hκ];rfl
 match i with
 |5=>obtain⟨a,h1,h2⟩:=AdD (κ:=κ) o h0;exact⟨0,a,h0',h1,h2⟩
 |3=>obtain⟨a,h1,h2⟩:=Ago (κ:=κ) (b:=2) (b':=0) h2' o h0;exact⟨1,a,h1',h1,h2⟩
 |0=>obtain⟨a,h1,h2⟩:=AaE (κ:=κ) (al:=al) (v:=3) (v':=1) (f:=4) (f':=2) h3' h4' o h0;exact⟨2,a,h2',h1,h2⟩
 |1=>obtain⟨a,h1,h2⟩:=PR (κ:=κ) (m:=al.void) o h0;exact⟨3,a,h3',h1,h2⟩
 |2=>obtain⟨a,h1,h2⟩:=PR (κ:=κ) (m:=al.fork) o h0;exact⟨4,a,h4',h1,h2⟩
 |4=>cases h0
 |j+6=>cases h0
theorem AlX:aK prog 50=true:=aH
abbrev hdl(d c:Nat){fi:FuncId}{al:Bb}{del:Ab->Bool}{gl:Cd}(a:aK prog fi=true)(hF:∀x,ba prog gl fi [.agg (aj x),.ptr [.ptr (BB al) 0] 0] (bG (del x))){l l':A3}(hl:l.length<=1000)(e:(l.filter λx=> !del x)=l')(hlt:[5,3,0,1,2].all (λi=>Nat.blt i c)=true:=by kernel_rfl):HP:=
 hfm d [5,3,0,1,2] 5 0 c [(5,Bt l),(3,oBl 0),(0,oLi al 1 2),(1,WG al.void),(2,WG al.fork)] [.rsl 5 0 l.length,.clo (.func fi) [] [.ref 3 0]] [(5,Bt l'),(3,oBl 0),(0,oLi al 1 2),(1,WG al.void),(2,WG al.fork)] (e▸AcK a hF hl) (AlW al l) (Akc al l l' c) AlX hlt
section
variable {gl:Cd} {P:Br}
theorem AaF{l:A3}(h:ag st.σ i=Bt l):ve prog st (.rsl i 0 l.length) (aE aj l):=FD (s:=3) h aH (by grind [A9.len,ac]) (ac.len l) (by grind [jB,A9.imm,ac])
theorem AbL{al:Bb}{l:A3}{sen:FM Int Int}{r:Int}{c:Nat}(hF:ba prog gl 231 [.ptr (BB al) 0,aE aj l,FM.g JM iG sen] (iG r)):oJ prog gl 231 [.ref 0 0,.rsl 5 0 l.length,.mref 4] (σ6 al sen l) c (iG r) [] c:=
 Ou aH hF (lR _) rfl λst h i x y h1 h2=>by
  match i with
  |0=>grind [AaB]
  |1=>cases h1;cases h2;exact AaF (h 5 _ rfl)
  |2=>cases h1;cases h2;exact Ot (h 4 _ rfl) λe _=>jB (mN _)
  |j+3=>cases h1
theorem U1{al:Bb}{c:Nat}(hF:iV prog gl 134 [.ptr (BB al) 0] 36 (EA I al).length ((EA I al).flatMap aj)):oJ prog gl 134 [.ref 0 0] (σ3 al) c (.rsl c 0 (EA I al).length) [(c,Bt (EA I al))] (c+1):=
 AdC aH hF (Zy _) rfl (by grind [AaB])
theorem AaG{l:A3}{x:Ab}{i c:Nat}(hn:l.length<=1000):oJ prog gl 180 [.rsl i 0 l.length,.agg (aj x)] [(i,Bt l)] c (bG (l.any λy=>decide (x=y))) [] c:=
 Ou aH (AaD hn x) (lR _) rfl λst h j y z h1 h2=>by
  match j with
  |0=>grind [AaF]
  |1=>cases h1;cases h2;exact jB (aG 20 (.agg (aj x)) aH)
  |j+2=>cases h1
theorem Agp{al:Bb}(h:O8 gl al.g I)(hn:al.row.length<=1000)(x y:Ab){c:Nat}:oJ prog gl 233 [.ref 0 0,.agg (aj x),.agg (aj y)] (σ3 al) c (bG (DQ I al.row x y)) [] c:=
 Ou aH (AbI h hn x y) (lR _) rfl λst h i p q h1 h2=>by
  match i with
  |0=>grind [AaB]
  |1=>cases h1;cases h2;exact jB (aG 20 (.agg (aj x)) aH)
  |2=>cases h1;cases h2;exact jB (aG 20 (.agg (aj y)) aH)
  |j+3=>cases h1
end
end Go.Proofs.YtlijnaneopediaaGreatDoor
