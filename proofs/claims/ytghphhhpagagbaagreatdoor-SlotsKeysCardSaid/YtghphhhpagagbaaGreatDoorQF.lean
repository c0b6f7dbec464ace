/- Texts. -/
import Derived.Test.YtghphhhpagagbaaGreatDoorW1
namespace Go.Proofs.YtghphhhpagagbaaGreatDoor
set_option linter.unusedSectionVars false
set_option linter.unusedVariables false
set_option linter.unusedSimpArgs false
open Go.RowKit Tryz
attribute [local irreducible] Tr dz Gp
variable (gl:CD)
variable {α:Type}{a b f i j k v:Nat}{l:List α}{id x:Ab}{g:A7}{r:List Bool}{o:Bp}{K c d n:Int}{N:JD}{u:Be}{m:JJ}{W ids:Bc}{gg:Aj}{P:Br}{st:St}{al:AQ}{fi:FuncId}{I:Gi}
def pL(g:A7)(o:Bp)(i:Ab)(up:Be)(r:List Bool):A7:=⟨g.Cards,g.L++[o],g.IDs++[i],g.Up++[up],g.In.map (·++[false])++[r++[false]]⟩
theorem je{l:List α}{x y:α}(h:(l++[x])[i]?=some y):(i<l.length/\l[i]?=some y)\/(i=l.length/\y=x):=by grind
theorem Ms{x y:α}(h:l[i]?=some y):(l++[x])[i]?=some y:=by grind
theorem F8{x:α}:(l++[x])[l.length]?=some x:=aC
theorem kU(w:Fq g){o:Bp}{id:Ab}{up:Be}(hr:r.length=g.L.length)(i k:Nat):Q2 (pL g o id up r) i k=true↔(i<g.L.length/\Q2 g i k=true)\/(i=g.L.length/\r[k]?=some true):=by
 have nN:=w.nN;have e:(pL g o id up r).In=g.In.map (·++[false])++[r++[false]]:=rfl;have lm:(g.In.map (·++[false])).length=g.L.length:=by rw[Hi,nN]
 have snoc:∀(l:List Bool),((l++[false])[k]?).getD false=true↔l[k]?=some true:=by grind
 rcases Nat.lt_trichotomy i g.L.length with h|h|h
 .obtain⟨row,hrow⟩:∃row,g.In[i]?=some row:=⟨_,DR aa⟩;have h1:(pL g o id up r).In[i]?=some (row++[false]):=by grind
  rw[wO h1,snoc,wO hrow];constructor
  .grind
  .rintro(⟨_,h2⟩|⟨h2,_⟩);all_goals grind
 .grind [wO]
 .have h1:(pL g o id up r).In[i]?=none:=by grind
  grind [Q2]
theorem Wc(w:Fq g){up:Be}(ho:Bf o)(hs:fS o.Sig.S)(a:RG g o up)(hid:pV o=some id)(hr:r.length=g.L.length)(hb:∀k,k<g.L.length->(r[k]?=some true↔HB g up k)):Fq (pL g o id up r):=by
 have nL:=w.nL;have nI:=w.nI;have nU:=w.nU;have nN:=w.nN;have inr:∀k,r[k]?=some true↔HB g up k:=λk=>by
  rcases Hx k g.L.length with h|h
  .exact hb k h
  .constructor
   .grind
   .rintro(h2|⟨j,h2,h3⟩)
    .have:=(a.upb _ h2).2;omega
    .have:=w.inlt j k h3;omega
 have upAt:∀(j:Nat) (v:Be),j<g.L.length->((pL g o id up r).Up[j]?=some v↔g.Up[j]?=some v):=λj v hj=>by show(g.Up++[up])[j]?=some v↔_;rw[List.getElem?_append_left aa]
 obtain⟨c,e1,e2⟩:=a.id;rw[hid] at e1;cases e1;exact{
  nL:=by show(g.L++[o]).length<=200;have:=a.room;simp;omega
  nI:=by show(g.IDs++[id]).length=(g.L++[o]).length;simp;omega
  nU:=by show(g.Up++[up]).length=(g.L++[o]).length;simp;omega
  nN:=by show(g.In.map _++[_]).length=(g.L++[o]).length;simp;omega
  nC:=w.nC
  cards:=w.cards
  up:=λi u hu=>by
   rcases je hu with⟨_,h⟩|⟨h,rfl⟩
   .exact w.up i u h
   grind [RG,pK,Fp.long]
  rows:=λi row hrow=>by
   show row.length=(g.L++[o]).length;rcases je hrow with⟨_,h⟩|⟨h,rfl⟩
   all_goals grind [Fq.rows]
  inlt:=λi k h=>by
   show k<i/\i<(g.L++[o]).length;rcases(kU w hr i k).1 h with⟨h1,h2⟩|⟨h1,h2⟩
   .have:=w.inlt i k h2;simp;omega
   grind
  ops:=λi p hp=>by
   rcases je hp with⟨_,h⟩|⟨h,rfl⟩
   all_goals grind [Fq.ops,RG.check]
  ids:=λi p q hp hq=>by
   rcases je hp with⟨h0,h⟩|⟨h,rfl⟩
   .rcases je hq with⟨_,h'⟩|⟨h',_⟩
    all_goals grind [Fq.ids]
   .rcases je hq with⟨h',_⟩|⟨_,rfl⟩
    .omega
    .exact hid
  nd:=by show(g.IDs++[id]).Nodup;grind [Fq.nd,jv]
  one:=λi k u hu hk=>by
   rw[kU w hr];rcases je hu with⟨h0,h⟩|⟨h,rfl⟩
   .grind [Fq.one]
   .exact .inr ⟨aa,(inr k).2 (.inl hk)⟩
  tr:=λi j k v hij hv hk=>by
   rw[kU w hr];rcases(kU w hr i j).1 hij with⟨h1,h2⟩|⟨h1,h2⟩
   .have:=w.inlt i j h2;grind [Fq.tr]
   .have hj:=(cr h2).1;have b:=(upAt j v aa).1 hv;refine .inr ⟨h1,(inr k).2 ?_⟩;rcases(inr j).1 h2 with h3|⟨m,h3,h4⟩
    .exact .inr ⟨j,h3,w.one j k v b hk⟩
    .exact .inr (by grind [Fq.tr])
  la:=λi k hik=>by
   rcases(kU w hr i k).1 hik with⟨h1,h2⟩|⟨h1,h2⟩
   .grind [Fq.la,kU]
   .refine⟨up,by show(g.Up++[up])[i]?=some up;rw[h1,<-nU];exact F8,?_⟩;rcases(inr k).1 h2 with h3|⟨j,h3,h4⟩
    .exact .inl h3
    .obtain⟨v,hv,h5⟩:=w.la j k h4;have hj:=w.inlt j k h4;rcases h5 with h5|⟨m,v',h6,h7,h8⟩
     .exact .inr ⟨j,v,(kU w hr i j).2 (.inr ⟨h1,(inr j).2 (.inl h3)⟩),(upAt j v hj.2).2 hv,h5⟩
     .have hm:=w.inlt j m h6;exact .inr ⟨m,v',(kU w hr i m).2 (.inr ⟨h1,(inr m).2 (.inr ⟨j,h3,h6⟩)⟩),(upAt m v' aa).2 h7,h8⟩}
def Yr(g:A7)(o:Bp)(r:A7×Int):Prop:=(r.2≠0/\r.1=g)\/∃id up row,r.2=0/\RG g o up/\pV o=some id/\jA g up=some row/\r.1=pL g o id up row
theorem QG(w:Fq g)(ho:Bf o)(hs:fS o.Sig.S):T (AO g o) λr=>Fq r.1/\Yr g o r:=by
 have nL:=w.nL;have nI:=w.nI;have nU:=w.nU;have nN:=w.nN;unfold AO;refine .bind ((KD w ho hs).mono λv hv=> .dec (λh=> .some ⟨w,.inl ⟨h,rfl⟩⟩) λh=>?_);have a:=hv (by simpa using h);have ul:v.2.length<=12:=by rw[a.upl];exact pK a.check.long
 obtain⟨row,hrow,b,c⟩:=yc w (up:=v.2) aa a.upb;obtain⟨id,hid,_⟩:=a.id;rw[hrow,aL];refine .bind (.app cq (.bind (.app cq (.bind (.app cq ?_)))));rw[hid,aL];refine .bind (.app cq (.bind (.app cq (.bind (.app cq ?_)))));refine .then (T.forE g.In [] (λx=>[x++[false]]) 1 aa (λx _=>aC) (λk acc x hx hm hk hl=>?_) λacc=>?_) ?_
 .have:=w.rows k x hx;unfold xr;dsimp only;rw[eA hk,ax,au,hx,aL];refine .bind (.app cq (.bind (.bind (.app cq (.bind (.app (by simp at hl⊢;omega) (.some (.some ⟨aq aa,?_⟩))))))));simp
 .grind [xr,eF]
 .have el:([]:List (List Bool))++g.In.flatMap (λx=>[x++[false]])=g.In.map (·++[false]):=by rw[M7];induction g.In<;>grind
  rw[el];refine .bind (.bind (.app cq (.bind (.app cq (.some (.some ?_))))));have e:(⟨g.Cards,[]++g.L++[o],[]++g.IDs++[id],[]++g.Up++[v.2],g.In.map (·++[false])++[row++[false]]⟩:A7)=pL g o id v.2 row:=rfl;exact⟨e▸Wc w ho hs a hid b c,.inr (by grind)⟩
theorem AeV{f:α->Fo}(hn:l.length<=1000000)(h:∀x∈l,f x=some false):AB (λs1:Int=>(bif decide (s1<ah l) then((aS l s1).bind λa=>(f a).bind λb=>bif b then(some (.inr (.inr s1))) else(some (.inl (wI (s1+1))))) else(some (.inr (.inl ()))):Option (Int⊕(Unit⊕Int)))) 0=some (.inl ()):=by
 refine T.eq (T.forI (Q:=λv:Unit⊕Int=>v= .inl ()) l.length (λ_=>True) aa trivial (λk hk _=>?_) λ_=>?_)
 .rw[eA hk,ax,au,DR hk,aL,h _ (List.getElem_mem hk),aL,A9];exact .some ⟨aq aa,trivial⟩
 .rw[eF,A9];exact .some rfl
theorem SK{may:α->Fo}(hn:l.length<=1000000)(h:∀x∈l,may x=some true):N4 l may=some true:=by unfold N4 Aa1 UD;rw[show AB (Hv l (λz=>SB z may)) 0=some (.inl ()) from AeV hn (by grind [SB])];rfl
structure JP (o:Bp):Prop where
 dev:o.Device≠0->o.Kind=2\/o.Kind=3\/o.Kind=11\/o.Kind=13
 old:o.Old≠0->o.Kind=13
 mem:o.Member≠0->o.Kind=3\/o.Kind=5
 role:o.Role≠0->o.Kind=2\/o.Kind=5
 path:0<ah o.Path->E7 o.Kind=some true
 ep:o.Epoch≠⟨0,0,0⟩->o.Kind=6
 n:o.N≠0->o.Kind=6
 refs:0<ah o.Refs->o.Kind=6
 body:0<ah o.Body->o.Kind=6\/o.Kind=7
 of_:o.Of≠⟨0,0,0⟩->o.Kind=7\/o.Kind=8\/o.Kind=12\/o.Kind=10\/o.Kind=11\/o.Kind=13
 gu:0<ah o.Guards->o.Kind=9
 wait:o.Wait≠0->o.Kind=9
 pub:o.Pub≠0->o.Kind=9
 need:o.Need≠0->o.Kind=9\/o.Kind=1
 box:0<ah o.Boxes->o.Kind=9\/o.Kind=10\/o.Kind=11
 hist:ah o.Hist≠0->o.Kind=2\/o.Kind=13
theorem ZD(h:AcQ o=true):JP o:=by
 have h:mz o=some true:=by rw[Cu,h]
 unfold mz at h;obtain⟨s,e1,h⟩:=bS h;obtain⟨t,e3,h⟩:=bS h;rcases bC h with⟨b3,h⟩|⟨b3,h⟩;· cases h
 obtain⟨u,e6,h⟩:=bS h;rcases bC h with⟨f,h⟩|⟨f,h⟩;· cases h
 obtain⟨w,e,h⟩:=bS h;rcases bC h with⟨g,h⟩|⟨g,h⟩;· cases h
 obtain⟨j12,i,h⟩:=bS h;rcases bC h with⟨a,h⟩|⟨a,h⟩;· cases h
 obtain⟨j,k,h⟩:=bS h;rcases bC h with⟨b,h⟩|⟨b,h⟩;· cases h
 obtain⟨l,m,h⟩:=bS h;rcases bC h with⟨c,h⟩|⟨c,h⟩;· cases h
 obtain⟨n,p,h⟩:=bS h;rcases bC h with⟨d,h⟩|⟨d,h⟩;· cases h
 obtain⟨q,r,h⟩:=bS h;obtain rfl:=Bj h;subst b3 f g a b c d;refine⟨λhd=>?_,λhd=>?_,λhd=>?_,λhd=>?_,λhd=>?_,λhd=>?_,λhd=>?_,λhd=>?_,λhd=>?_,λhd=>?_,λhd=>?_,λhd=>?_,λhd=>?_,λhd=>?_,λhd=>?_,λhd=>?_⟩
 .grind
 .grind
 .refine Classical.byContradiction λhc=>?_;try simp only[not_or] at hc
  simp[hd,hc] at e6
 .refine Classical.byContradiction λhc=>?_;try simp only[not_or] at hc
  simp[hd,hc] at e6
 .rw[C3 hd,ax] at e;obtain⟨v,ev,e⟩:=bS e;grind
 .grind
 .grind
 .grind
 .grind
 .grind
 .grind
 .grind
 .grind
 .grind
 all_goals grind
theorem MU{kk:Nat}:∀{l:List (Nat×Bool)},(∀q∈l,q.2=true->q.1&&&kk=q.1)->La l&&&kk=La l
 |[],_=>by simp[La]
 |q::r,h=>by unfold La;rw[Nat.and_or_distrib_right,MU (l:=r) (by grind)];grind
theorem IY(ha:a<1048576)(hb:b<1048576)(h:a&&&b=a):wH (a:Int) (b:Int)=0:=by
 unfold wH;have e:BitVec.ofInt IntKind.i64.bits (a:Int)&&&BitVec.ofInt IntKind.i64.bits (b:Int)=BitVec.ofInt IntKind.i64.bits (a:Int):=by grind
 have e2:BitVec.ofInt IntKind.i64.bits (a:Int)&&& ~~~BitVec.ofInt IntKind.i64.bits (b:Int)=0:=by grind
 rw[e2];rfl
theorem Hd{a b:Int}(h:a<=n/\n<=b):xj n a b=true:=by grind [xj]
theorem kW{i:Ab}(h:l7 i=true):Rz i=true:=by have h:=DP h;unfold Rz WV;grind [Hd]
theorem GC{n:Nat}(h:Cr n=true):Z5 n=true:=by have h:=DP h;grind [Z5]
theorem Vl{a:Bool}{x:Fo}:((bif a then x else some false)=some true)↔(a=true/\x=some true):=by cases a<;>simp
structure N9 (o:Bp):Prop where
 by_:1<=o.By/\o.By<=12
 seq:1<=o.Seq/\o.Seq<=2147483647
 at_:0<=o.At/\o.At<=2147483647
 k1:o.Kind=1->0<=o.Need/\o.Need<=20
 k2:o.Kind=2->(1<=o.Device/\o.Device<=12)/\1<=o.Role/\o.Role<=3
 k3:o.Kind=3->((1<=o.Device/\o.Device<=12)/\o.Member=0)\/(o.Device=0/\1<=o.Member/\o.Member<=8)
 k5:o.Kind=5->(1<=o.Member/\o.Member<=8)/\1<=o.Role/\o.Role<=3
 k6:o.Kind=6->l7 o.Epoch=true/\0<=o.N/\o.N<=2147483647
 k9:o.Kind=9->(1<=o.Need/\o.Need<=ah o.Guards)/\(0<=o.Wait/\o.Wait<=2147483647)/\Cr o.Pub=true
 k11:o.Kind=11->l7 o.Of=true/\1<=o.Device/\o.Device<=12
 k13:o.Kind=13->l7 o.Of=true/\(1<=o.Device/\o.Device<=12)/\1<=o.Old/\o.Old<=12
 kr:o.Kind=7\/o.Kind=8\/o.Kind=10\/o.Kind=12->l7 o.Of=true
theorem T1(h:gU o=true):N9 o:=by
 have h:Gd o=some true:=by rw[jF,h]
 unfold Gd at h;obtain⟨a,e3,h⟩:=bS h;rcases bC h with⟨b3,h⟩|⟨b3,h⟩;· cases h
 subst b3;rw[gT,gT,gT,aL,aL,aL] at e3;simp only[gT,mY,show Jd o.Pub=some (Cr o.Pub) from kS o.Pub,aL] at h;have e1:1<=o.By/\o.By<=12:=by grind
 have e2:1<=o.Seq/\o.Seq<=2147483647:=by grind
 have e4:0<=o.At/\o.At<=2147483647:=by grind
 refine⟨e1,e2,e4,λhk=>?_,λhk=>?_,λhk=>?_,λhk=>?_,λhk=>?_,λhk=>?_,λhk=>?_,λhk=>?_,λhk=>?_⟩
 .simpa[hk,Vl] using h
 .simpa[hk,Vl] using h
 .grind
 .simpa[hk,Vl] using h
 .simpa[hk,Vl] using h
 .simpa[hk,Vl] using h
 .simpa[hk,Vl] using h
 .simpa[hk,Vl] using h
 .rcases hk with hk|hk|hk|hk<;>simpa[hk,Vl] using h
def pT(K:Int):Nat:=(nG.getD K.toNat 0).toNat
theorem vj:pT 1=2064:=B5
theorem kk2:pT 2=32793:=B5
theorem zS:pT 3=21:=B5
theorem yu:pT 4=16:=B5
theorem zT:pT 5=12:=B5
theorem zU:pT 6=480:=B5
theorem zt:pT 7=640:=B5
theorem zu:pT 8=512:=B5
theorem Aw:pT 9=31744:=B5
theorem ki:pT 10=8704:=B5
theorem kC:pT 11=8705:=B5
theorem km:pT 12=512:=B5
theorem kX:pT 13=33299:=B5
theorem ic(h:1<=K/\K<=13):K=1\/K=2\/K=3\/K=4\/K=5\/K=6\/K=7\/K=8\/K=9\/K=10\/K=11\/K=12\/K=13:=aa
theorem RK(h:E7 K=some true):K=1\/K=2\/K=3\/K=4\/K=13:=by grind [E7]
theorem W9(b:JP o):∀q∈rU o,q.2=true->q.1&&&pT o.Kind=q.1:=by
 intro q hq hb;simp only[rU,EO,KZ,or_false] at hq;rcases hq with rfl|rfl|rfl|rfl|rfl|rfl|rfl|rfl|rfl|rfl|rfl|rfl|rfl|rfl|rfl|rfl
 .grind [JP.dev,kk2,zS,kC,kX]
 .grind [JP.old,kX]
 .grind [JP.mem,zS,zT]
 .grind [JP.role,kk2,zT]
 .grind [RK,JP.path,vj,kk2,zS,yu,kX]
 .grind [JP.ep,zU]
 .grind [JP.n,zU]
 .grind [JP.body,zU,zt]
 .grind [JP.refs,zU]
 .grind [JP.of_,zt,zu,ki,kC,km,kX]
 .grind [JP.gu,Aw]
 .grind [JP.need,vj,Aw]
 .grind [JP.wait,Aw]
 .grind [JP.box,Aw,ki,kC]
 all_goals grind [JP.pub,kk2,Aw,kX,JP.hist]
theorem ZE(f:N9 o)(hK:1<=o.Kind/\o.Kind<=13):∀q∈OC o,pT o.Kind&&&q.1≠0->q.2=true:=by
 intro q hq hne;simp only[OC,EO,KZ,or_false] at hq;rcases hq with rfl|rfl|rfl|rfl|rfl|rfl|rfl|rfl|rfl|rfl
 .rcases ic hK with hk|hk|hk|hk|hk|hk|hk|hk|hk|hk|hk|hk|hk
  .simp[hk,vj] at hne
  .grind [GH,Hd,N9.k2]
  .grind [N9,GH,Hd]
  .simp[hk,yu] at hne
  .simp[hk,zT] at hne
  .simp[hk,zU] at hne
  .simp[hk,zt] at hne
  .simp[hk,zu] at hne
  .simp[hk,Aw] at hne
  .simp[hk,ki] at hne
  all_goals grind [N9,GH,Hd,km]
 .rcases ic hK with hk|hk|hk|hk|hk|hk|hk|hk|hk|hk|hk|hk|hk
  .simp[hk,vj] at hne
  .simp[hk,kk2] at hne
  .simp[hk,zS] at hne
  .simp[hk,yu] at hne
  .simp[hk,zT] at hne
  .simp[hk,zU] at hne
  .simp[hk,zt] at hne
  .simp[hk,zu] at hne
  .simp[hk,Aw] at hne
  .simp[hk,ki] at hne
  all_goals grind [N9,kC,km,Hd]
 .rcases ic hK with hk|hk|hk|hk|hk|hk|hk|hk|hk|hk|hk|hk|hk
  .simp[hk,vj] at hne
  .simp[hk,kk2] at hne
  .grind [N9,GB,Hd]
  .simp[hk,yu] at hne
  .grind [GB,Hd,N9.k5]
  .simp[hk,zU] at hne
  .simp[hk,zt] at hne
  all_goals grind [zu,Aw,ki,kC,km,kX]
 .rcases ic hK with hk|hk|hk|hk|hk|hk|hk|hk|hk|hk|hk|hk|hk
  .simp[hk,vj] at hne
  .exact Hd (f.k2 hk).2
  .simp[hk,zS] at hne
  .simp[hk,yu] at hne
  .exact Hd (f.k5 hk).2
  .simp[hk,zU] at hne
  .simp[hk,zt] at hne
  all_goals grind [zu,Aw,ki,kC,km,kX]
 .rcases ic hK with hk|hk|hk|hk|hk|hk|hk|hk|hk|hk|hk|hk|hk
  .simp[hk,vj] at hne
  .simp[hk,kk2] at hne
  .simp[hk,zS] at hne
  .simp[hk,yu] at hne
  .simp[hk,zT] at hne
  .exact Hd (f.k6 hk).2
  .simp[hk,zt] at hne
  all_goals grind [zu,Aw,ki,kC,km,kX]
 .rcases ic hK with hk|hk|hk|hk|hk|hk|hk|hk|hk|hk|hk|hk|hk
  .simp[hk,vj] at hne
  .simp[hk,kk2] at hne
  .simp[hk,zS] at hne
  .simp[hk,yu] at hne
  .simp[hk,zT] at hne
  .simp[hk,zU] at hne
  .simp[hk,zt] at hne
  .simp[hk,zu] at hne
  .exact Hd (f.k9 hk).2.1
  all_goals grind [ki,kC,km,kX]
 .rcases ic hK with hk|hk|hk|hk|hk|hk|hk|hk|hk|hk|hk|hk|hk
  .grind [N9,Sk,Sl,Hd]
  .simp[hk,kk2] at hne
  .simp[hk,zS] at hne
  .simp[hk,yu] at hne
  .simp[hk,zT] at hne
  .simp[hk,zU] at hne
  .simp[hk,zt] at hne
  .simp[hk,zu] at hne
  .grind [Sk,Sl,Hd,N9.k9]
  all_goals grind [ki,kC,km,kX]
 .grind [N9,vj,kk2,zS,yu,zT,kW,zt,zu,Aw,ki,kC,km,kX]
 .grind [vj,kk2,zS,yu,zT,zU,kW,N9.kr,Aw,N9.k11,N9.k13]
 grind [N9,vj,kk2,zS,yu,zT,zU,zt,zu,GC,ki,kC,km,kX]
theorem IZ{b:Hb}(h:yZ b=true):wB b=some true:=by unfold yZ at h;simp only[bA] at h;obtain⟨⟨⟨h1,h2⟩,h3⟩,h4⟩:=h;have e3:WV b.Body=true:=C3 (by have:=DP h3;omega);have e4:WV b.Tag=true:=C3 (by have:=DP h4;omega);grind [wB,rV,GA,GC]
theorem T2(sm:Bf o)(h:Ct o=false):FX o=some false:=by
 have n2:=sm.nPath;have a:=sm.nHist;unfold Ct at h;simp only[Bool.or_eq_false_iff] at h;obtain⟨h1,h2,h3,h4⟩:=h;have h3:=LU h3;have a1:N4 o.Path (λz=>wE z)=some true:=by grind [SK,wE,ah]
 have a2:N4 o.Hist (λz=>wF z)=some true:=by grind [SK,wF,ah]
 grind [Bf,ah,FX,ib,Hd]
theorem Ax(x y:Int):f8 x y=some (if x<y then-1 else if y<x then 1 else 0):=by grind [f8,FF]
theorem MV(x y:Nat):fQ x y=some (if x<y then-1 else if y<x then 1 else 0):=by grind [fQ,g9]
theorem CZ{l:Be}{k:Nat}(hl:l.length<=3)(hk:l[k]?=some (-1))(h:∀j,j<k->l[j]?=some 0):iy l=some (-1):=by
 unfold iy;refine T.eq (.bind ((T.search l (λy=>decide (y≠0)) (λ_ y=>y) aa (λk x hx hk=>?_) ?_).mono ?_))
 .grind [fm,eA,au,aq]
 .unfold fm;rw[eF,A9]
 .rintro r (⟨rfl,h0⟩|⟨k',x,hx,hp,rfl,h0⟩)
  .have:=h0 (-1) (bO hk);simp at this
  .refine .some ?_;grind
theorem MW{a b:Ab}(h:dt a b=true):pE a b=some true:=by
 unfold pE;rw[Ax,Ax,MV];simp only[aL];unfold dt at h;by_cases h1:a.By=b.By
 .rw[BA (by simp[h1])] at h;by_cases h2:a.Seq=b.Seq
  .rw[BA (by simp[h2])] at h;have h3:=DP h;rw[CZ (k:=2) aC (by simp[h3]) (by grind)];rfl
  .rw[Bx h2] at h;have h3:=DP h;rw[CZ (k:=1) aC (by simp[h3]) (by grind)];rfl
 .rw[Bx h1] at h;have h3:=DP h;rw[CZ (k:=0) aC (by simp[h3]) (by grind)];rfl
theorem RL(h:Fp o)(sm:Bf o):Abc o (pT o.Kind):=by
 have n1:=sm.nPast;have n2:=sm.nPath;have c:=sm.nRefs;have d:=sm.nGuards;have e:=sm.nHist;have g:=sm.nBoxes;have hK:=h.kind;have kb:pT o.Kind<1048576:=by rcases ic hK with hk|hk|hk|hk|hk|hk|hk|hk|hk|hk|hk|hk|hk<;>simp[hk,vj,kk2,zS,yu,zT,zU,zt,zu,Aw,ki,kC,km,kX]
 have b:=ZD h.bare;have f:=T1 h.numbers;have it:=h.items;unfold yb at it;simp only[bA,GL] at it;obtain⟨i,t2,j,k,l,m⟩:=it;have a:=MU (W9 b);exact{
  lo:=C6 aa
  hi:=C6 aa
  kind:=by rcases ic hK with hk|hk|hk|hk|hk|hk|hk|hk|hk|hk|hk|hk|hk<;>(rw[hk];decide)
  kb:=kb
  bits:=by grind [IY,Nat.and_le_right]
  rg:={
   by_:=Hd f.by_
   seq:=Hd f.seq
   at_:=Hd f.at_
   ents:=ZE f hK
   guards:=by grind [SK,uR,ib,Hd]
   refs:=SK aa λx hx=>by rw[GA];exact congrArg some (C3 (by have:=DP (t2 x hx);omega))
   past:=by grind [SK,pS,kW]
   path:=by grind [SK,I6.n,Bf.path,uP,rV,GC,SK,IZ]
   boxes:=by grind [SK,IZ]
   hist:=by grind [SK,uQ,pS,kW]}
  long:=T2 sm h.long
  nPast:=aa
  nGuards:=aa
  past:=by grind [MW,Fp.past]
  guards:=h.guards
  create:=decide_eq_decide.2 (by have:=h.create;unfold ah;simp_all)}
theorem kY(h:l.length*b<=140737488355328):aT b [] l=some l:=by grind [aT]
theorem I0{x:α}(h:l[k]?=some x):ji l (k:Int) x=some l:=by have hk:=(cr h).1;unfold ji;rw[Bx ⟨aa,aa⟩,Fv];congr 1;apply List.ext_getElem?;grind
theorem RM(sm:Bf o):pG o=some o:=by
 have n1:=sm.nPast;have n2:=sm.nPath;have b:=sm.nRefs;have c:=sm.nGuards;have d:=sm.nHist;have e:=sm.nBoxes;have f:=sm.nBody;unfold pG cU Fj dK fF dx gt fu;rw[kY aa,kY aa,kY aa,kY aa,kY aa,kY aa,kY aa];simp only[aL];have l0:AB (jD o.Path) (o.Path,0)=some o.Path:=by
  refine T.eq (T.forA o.Path.length (λ_ a=>a=o.Path) aa rfl (λk a hk ha=>?_) λa ha=>?_)
  .subst ha;unfold jD;dsimp only;have hx:=DR hk;have hb:=(sm.path _ (List.getElem_mem hk)).n;rw[eA hk,ax,au,hx,aL];unfold dx;rw[kY aa,aL,aL,I0 hx];exact .some ⟨aq aa,rfl⟩
  .subst ha;unfold jD;dsimp only;rw[eF,A9];exact .some rfl
 have l1:AB (jC o.Hist) (o.Hist,0)=some o.Hist:=by
  refine T.eq (T.forA o.Hist.length (λ_ a=>a=o.Hist) aa rfl (λk a hk ha=>?_) λa ha=>?_)
  .subst ha;unfold jC;dsimp only;have hx:=DR hk;have hb:=(sm.hist _ (List.getElem_mem hk)).n;rw[eA hk,ax,au,hx,aL];unfold Fj;rw[kY aa,aL,aL,I0 hx];exact .some ⟨aq aa,rfl⟩
  .subst ha;unfold jC;dsimp only;rw[eF,A9];exact .some rfl
 rw[l0,l1];rfl
def gW(s:Ow)(j:Nat):Bool:=match j/64 with
 |0=>s.a0.testBit (j%64)
 |1=>s.a1.testBit (j%64)
 |2=>s.a2.testBit (j%64)
 |3=>s.a3.testBit (j%64)
 |_=>false
theorem xg(h:i<64):(gM a b).testBit i=(a.testBit i||b.testBit i):=by unfold gM;rw[Nat.testBit_or,show(18446744073709551616:Nat)=2^64 from rfl,Nat.testBit_mod_two_pow,Nat.testBit_mod_two_pow];simp[h]
theorem RN(h:i<64):(bD a b).testBit i=(a.testBit i&&b.testBit i):=by unfold bD;rw[Nat.testBit_and,show(18446744073709551616:Nat)=2^64 from rfl,Nat.testBit_mod_two_pow,Nat.testBit_mod_two_pow];simp[h]
theorem Ay(hk:k<64)(h:i<64):(It 1 k).testBit i=decide (k=i):=by unfold It;rw[Nat.min_eq_left aa,Nat.one_mul,show(18446744073709551616:Nat)=2^64 from rfl,Nat.testBit_mod_two_pow,Nat.testBit_two_pow];simp[h]
theorem RP(s t:Ow)(j:Nat):gW (Q4 s t) j=(gW s j||gW t j):=by have h:=Nat.mod_lt j (show 64>0 by decide);unfold gW Q4;split<;>first|exact xg h|rfl
theorem T3{s:Ow}{n:Nat}(hn:n<256)(hj:j<256):gW (yt s n) j=(gW s j||decide (j=n)):=by
 have h:=Nat.mod_lt j (show 64>0 by decide);have h':=Nat.mod_lt n (show 64>0 by decide);have e:∀q:Nat,n/64=q->j/64=q->decide (n%64=j%64)=decide (j=n):=by grind
 have e':n/64≠j/64->decide (j=n)=false:=by grind
 have h4:n/64=0\/n/64=1\/n/64=2\/n/64=3:=aa;have h5:j/64=0\/j/64=1\/j/64=2\/j/64=3:=aa;unfold gW yt;rcases h4 with e1|e1|e1|e1
 .rcases h5 with e2|e2|e2|e2
  .grind [xg,Ay]
  .grind
  all_goals grind
 .rcases h5 with e2|e2|e2|e2
  .grind
  .grind [xg,Ay]
  all_goals grind
 .rcases h5 with e2|e2|e2|e2
  .grind
  .grind
  .grind [xg,Ay]
  grind
 .rcases h5 with e2|e2|e2|e2
  .grind
  .grind
  .grind
  grind [xg,Ay]
theorem OK(ha:a<18446744073709551616)(h:∀i,i<64->a.testBit i=false):a=0:=by
 apply Nat.eq_of_testBit_eq;intro i;rw[Nat.zero_testBit];rcases Hx i 64 with hi|hi
 .exact h i hi
 .exact Nat.testBit_lt_two_pow (Nat.lt_of_lt_of_le ha (MI (by grind) (Nat.pow_le_pow_right B5 hi)))
theorem T4(a b:Nat):bD a b<18446744073709551616:=by grind [bD,Nat.and_le_left]
theorem RQ{p b:Ow}(h:∀j,j<256->¬(gW p j=true/\gW b j=true)):ZA p b 4=z4:=by
 have w:∀(q:Nat) (x y:Nat),q<4->(∀i,i<64->gW p (64*q+i)=x.testBit i/\gW b (64*q+i)=y.testBit i)->bD x y=0:=by grind [OK,T4,RN]
 have d:∀(q i:Nat),i<64->(64*q+i)/64=q/\(64*q+i)%64=i:=λq i hi=>aa;show(⟨bD p.a0 b.a0,bD p.a1 b.a1,bD p.a2 b.a2,bD p.a3 b.a3⟩:Ow)=⟨0,0,0,0⟩;rw[w 0 p.a0 b.a0 B5 λi hi=>by unfold gW;rw[(d 0 i hi).1,(d 0 i hi).2];exact⟨rfl,rfl⟩];rw[w 1 p.a1 b.a1 B5 λi hi=>by unfold gW;rw[(d 1 i hi).1,(d 1 i hi).2];exact⟨rfl,rfl⟩];rw[w 2 p.a2 b.a2 B5 λi hi=>by unfold gW;rw[(d 2 i hi).1,(d 2 i hi).2];exact⟨rfl,rfl⟩];rw[w 3 p.a3 b.a3 B5 λi hi=>by unfold gW;rw[(d 3 i hi).1,(d 3 i hi).2];exact⟨rfl,rfl⟩]
theorem Xa{s:Ow}{n:Nat}(hn:n<256):iX s (n:Int)=some (gW s n):=by
 have hd:wI (Int.tdiv (n:Int) 64)=((n/64:Nat):Int):=by grind [bM]
 have ht:Int.tmod (n:Int) 64=((n%64:Nat):Int):=by rw[Int.tmod_eq_emod_of_nonneg aa];rfl
 have hcn:wJ ((n%64:Nat):Int)=some (n%64):=by grind [wJ]
 have h:=Nat.mod_lt n (show 64>0 by decide);have key:∀y:Nat,decide (((bD (Jo y (n%64)) 1:Nat):Int)=((1:Nat):Int))=y.testBit (n%64):=by grind [bD,Jo]
 unfold iX;rw[hd,ht,hcn,au];have h4:n/64=0\/n/64=1\/n/64=2\/n/64=3:=aa;unfold gW;grind
def lvN(N:JD)(j:Int):Int:=((N[j.toNat]?).map (·.level)).getD 0
def lvF(N:JD)(u:Be):Int:=u.foldl (λa j=>EY a (lvN N j+1)) 1
theorem Abe{j:Int}:lvF N (u++[j])=EY (lvF N u) (lvN N j+1):=by unfold lvF;rw[OP];rfl
theorem AcV{y:CO}(h:∀x∈u,0<=x/\x<(N.length:Int)):lvF (N++[y]) u=lvF N u:=by
 have key:∀(l:Be) (a:Int),(∀x∈l,0<=x/\x<(N.length:Int))->l.foldl (λa j=>EY a (lvN (N++[y]) j+1)) a=l.foldl (λa j=>EY a (lvN N j+1)) a:=by
  intro l;induction l with
  |nil=>exact λa _=>rfl
  |cons x r ih=>
   intro a hh;have e:lvN (N++[y]) x=lvN N x:=by have:=hh x aC;grind [lvN]
   grind
 exact key u 1 h
structure Oa (g:A7) (m:JJ) (N:JD):Prop where
 len:N.length=g.L.length
 nd:∀(k:Nat) (y:CO),N[k]?=some y->g.L[k]?=some y.o/\g.IDs[k]?=some y.id/\(∀j,j<256->gW y.past j=Q2 g k j)/\0<=y.level/\y.level<=(k:Int)+1
 get:∀x,m.get x=(bu x g.IDs).map (λn=>(n:Int))
 lv:∀(k:Nat) (y:CO) (u:Be),N[k]?=some y->g.Up[k]?=some u->y.level=lvF N u
theorem MX{a b:Int}(h1:a<=c)(h2:b<=c):EY a b<=c:=by unfold EY;split<;>omega
theorem T5{a b:Int}(h1:c<=a):c<=EY a b:=by unfold EY;split<;>omega
theorem ZF{up:Be}(w:Fq g)(pg:Oa g m N)(a:RG g o up)(sm:Bf o):T (AB (Z6 m N o.Past) (z4,z4,0,1,0)) λr=>(∀j:Nat,j<256->(gW r.1 j=true↔(j:Int)∈up))/\(∀j:Nat,j<256->(gW r.2.1 j=true↔∃n:Nat,(n:Int)∈up/\Q2 g n j=true))/\r.2.2.1<=o.At/\0<=r.2.2.2/\r.2.2.2<=(N.length:Int)+1/\r.2.2.2=lvF N up:=by
 have f:=T1 a.check.numbers;have n1:=sm.nPast;have nL:=w.nL;have nI:=w.nI;have pl:=pg.len;refine T.loop (λs=>∃k:Nat,s.2.2.2.2=(k:Int)/\k<=o.Past.length/\(∀j:Nat,j<256->(gW s.1 j=true↔∃i,i<k/\up[i]?=some (j:Int)))/\(∀j:Nat,j<256->(gW s.2.1 j=true↔∃i n:Nat,i<k/\up[i]?=some (n:Int)/\Q2 g n j=true))/\s.2.2.1<=o.At/\0<=s.2.2.2.1/\s.2.2.2.1<=(N.length:Int)+1/\s.2.2.2.1=lvF N (up.take k)) (λs=>o.Past.length-s.2.2.2.2.toNat) ⟨0,rfl,aa,λj hj=>?_,λj hj=>?_,f.at_.1,B5,by show(1:Int)<=_;omega,rfl⟩ (by show o.Past.length-_<_;omega) ?_
 .grind [gW]
 .grind [gW]
 rintro⟨p,b,z,lev,i⟩ ⟨k,rfl,hk,q1,h,c,d,e,t⟩;dsimp only at q1 h c d e t;unfold Z6;dsimp only;refine .dec (λhlt=>?_) λhge=>?_
 .unfold ah at hlt;have hk2:k<o.Past.length:=aa;have hx:=DR hk2;obtain⟨n,hn,hu⟩:=a.par k _ hx;have eg:m.get o.Past[k]=some (n:Int):=by rw[pg.get,hn];rfl
  have hnl:n<g.IDs.length:=(cr (gb hn).1).1;have hy:N[n]?=some (N[n]'aa):=DR _;obtain⟨l,u,q,v,x⟩:=pg.nd n _ hy;generalize N[n]'aa=y at hy l u q v x;have hmem:(n:Int)∈up:=bO hu;have hat:=a.late n _ hmem l;have ew:wI (y.level+1)=y.level+1:=bM aa aa;rw[au,hx,aL,eg];dsimp only[Nf];rw[au,hy,aL,ew,aq aa];refine .some ⟨⟨k+1,rfl,aa,λj hj=>?_,λj hj=>?_,MX c hat,T5 d,MX e aa,?_⟩,?_⟩
  .dsimp only;rw[Fv,T3 aa hj,Bool.or_eq_true,q1 j hj,decide_eq_true_eq];grind
  .dsimp only;rw[RP,Bool.or_eq_true,h j hj,q j hj];grind
  all_goals grind [Jn,lvN,Abe]
 .unfold ah at hge;obtain rfl:k=o.Past.length:=aa;have ul:=a.upl;refine .some ⟨λj hj=>?_,λj hj=>?_,c,d,e,by grind⟩;all_goals grind [G9]
def RR(g:A7)(o:Bp)(r:List Bool):Prop:=(∀(k:Nat) (p:Bp),g.L[k]?=some p->r[k]?=some true->p.By=o.By->p.Seq<o.Seq)/\(o.Seq=1\/∃(k:Nat) (p:Bp),g.L[k]?=some p/\r[k]?=some true/\p.By=o.By/\p.Seq=wI (o.Seq-1))
theorem Xb(w:Fq g){o:Bp}(hr:r.length=g.L.length):T (lA g o r) λv=>v=true->RR g o r:=by
 have nL:=w.nL;unfold lA;refine .bind (T.forA g.L.length (λk b=>(∀(j:Nat) (p:Bp),j<k->g.L[j]?=some p->r[j]?=some true->p.By=o.By->p.Seq<o.Seq)/\(b=true->∃(j:Nat) (p:Bp),g.L[j]?=some p/\r[j]?=some true/\p.By=o.By/\p.Seq=wI (o.Seq-1))) aa (by grind) (λk b hk a=>?_) λb a=>?_)
 .have hp:=DR hk;obtain⟨x,hx⟩:∃x,r[k]?=some x:=⟨_,DR aa⟩;generalize g.L[k]=p at hp;have more:∀(c:Prop),(c->p.Seq<o.Seq)->((r[k]?=some true/\p.By=o.By)->c)->∀(j:Nat) (q:Bp),j<k+1->g.L[j]?=some q->r[j]?=some true->q.By=o.By->q.Seq<o.Seq:=by grind
  unfold jK;dsimp only;rw[eA hk,ax,au,au,hx,hp];simp only[aL];cases x with
  |false=>exact .some (by constructor<;>grind [aq])
  |true=>
   simp only[Bool.not_true,A9,aL];by_cases hb:p.By=o.By
   .rw[C6 (by grind),A9];refine .dec (λhs=> .some (.some λh=>by cases h)) λhs=>?_;have hm:=more True (λ_=>aa) λ_=>trivial;cases b with
    |true=>exact .some ⟨aq aa,hm,a.2⟩
    |false=>exact .some (by constructor<;>grind [aq])
   .rw[C3 hb,ax];exact .some (by constructor<;>grind [aq])
 .unfold jK;dsimp only;rw[eF,A9];refine .some ?_;show T (ma _ _ _) _;dsimp only[ma];have h1:∀(k:Nat) (p:Bp),g.L[k]?=some p->r[k]?=some true->p.By=o.By->p.Seq<o.Seq:=by grind
  by_cases hs:o.Seq=1
  .rw[C3 hs];exact .some λ_=>⟨h1,.inl hs⟩
  .rw[C6 hs];exact .some λhb=>⟨h1,.inr (a.2 hb)⟩
theorem ZG{A:Ow}(w:Fq g)(pg:Oa g m N)(f:N9 o)(hA:∀j:Nat,j<g.L.length->(gW A j=true↔r[j]?=some true))(hR:RR g o r):T (AB (Z7 N o A) (0,false,0)) λv=>v.1<o.Seq/\(1<o.Seq->v.2=true):=by
 have nL:=w.nL;have pl:=pg.len;have fs:=f.seq;refine T.loop (λs=>∃k:Nat,s.2.2=(k:Int)/\k<=N.length/\s.1<o.Seq/\∀(j:Nat) (p:Bp),j<k->g.L[j]?=some p->r[j]?=some true->p.By=o.By->p.Seq=wI (o.Seq-1)->s.2.1=true) (λs=>N.length-s.2.2.toNat) ⟨0,rfl,aa,by show(0:Int)<_;omega,λj p hj=>absurd hj (Nat.not_lt_zero _)⟩ (by show N.length-_<_;omega) ?_;rintro⟨la,b,i⟩ ⟨k,rfl,hk,q1,e⟩;dsimp only at q1 e;unfold Z7;dsimp only;refine .dec (λhlt=>?_) λhge=>?_
 .unfold ah at hlt;have hk2:k<N.length:=aa;have hy:=DR hk2;obtain⟨c,_⟩:=pg.nd k _ hy;generalize N[k]=y at hy c;rw[au,hy,aL,aq aa];have dn:N.length-(((k+1:Nat):Int)).toNat<N.length-((k:Int)).toNat:=aa;have more:∀a:Bool,(b=true->a=true)->(r[k]?=some true->y.o.By=o.By->y.o.Seq=wI (o.Seq-1)->a=true)->∀(j:Nat) (p:Bp),j<k+1->g.L[j]?=some p->r[j]?=some true->p.By=o.By->p.Seq=wI (o.Seq-1)->a=true:=λa h1 h2 j p hj hp h3 h4 h5=>by
   rcases Hx j k with hjk|hjk
   .exact h1 (e j p hjk hp h3 h4 h5)
   .obtain rfl:j=k:=aa;rw[c] at hp;cases hp;exact h2 h3 h4 h5
  refine .dec (λhb=>?_) λhb=> .some ⟨⟨k+1,rfl,aa,q1,more b id λ_ h=>absurd h hb⟩,dn⟩;rw[Xa aa,aL];refine .ite (λhh=>?_) λhh=> .some ⟨⟨k+1,rfl,aa,q1,more b id λh=>?_⟩,dn⟩
  .have d:=(hA k aa).1 hh;refine .some ⟨⟨k+1,rfl,aa,?_,more _ (λh=>by rw[h];rfl) λ_ _ h=>by rw[C3 h];cases b<;>rfl⟩,dn⟩;have:=hR.1 k _ c d hb;grind [EY]
  .rw[(hA k aa).2 h] at hh;cases hh
 .unfold ah at hge;refine .some ⟨q1,λh1=>?_⟩;rcases hR.2 with h|⟨j,p,h2,h3,h4,h5⟩
  all_goals grind
theorem ye{a b:Ab}:dt a b=true↔a.By<b.By\/(a.By=b.By/\(a.Seq<b.Seq\/(a.Seq=b.Seq/\a.Sum<b.Sum))):=by grind [dt]
def rN(a b:Ab):Prop:=dt b a=false
theorem KG{a b c:Ab}(h1:rN a b)(h2:rN b c):rN a c:=by grind [rN,ye]
theorem F9{a b:Ab}(h:dt a b=true):rN a b:=by grind [rN,ye]
theorem Cy{x:α}:(l.take k++[x]++l.drop k).Perm (l++[x]):=by grind [List.perm_append_comm,O6]
theorem kg{l:Bc}(hl:l.length<=1000000):T (iu l) λr=>r.Perm l/\r.Pairwise rN:=by
 unfold iu;refine .bind (T.forA l.length (λk acc=>acc.Perm (l.take k)/\acc.Pairwise rN) aa (by simp_all) (λk acc hk hj=>?_) λacc hj=>?_)
 .obtain⟨x,hx⟩:∃x,l[k]?=some x:=by simp_all
  have ha:acc.length<=1000000:=by have:=hj.1.length_eq;grind
  unfold oZ;dsimp only;rw[eA hk,ax];refine .bind (T.mono (Q:=λq:Int=>∃n:Nat,q=(n:Int)/\n<=acc.length/\(∀(j:Nat) (y:Ab),n<=j->acc[j]?=some y->dt x y=true)/\∀(y:Ab),0<n->acc[n-1]?=some y->dt x y=false) (T.loop (λq=>∃n:Nat,q=(n:Int)/\n<=acc.length/\∀(j:Nat) (y:Ab),n<=j->acc[j]?=some y->dt x y=true) (λq=>q.toNat) ⟨acc.length,rfl,Dx _,(by grind)⟩ (by unfold ah;omega) ?_) ?_)
  .rintro q ⟨n,rfl,hn,b⟩;unfold vB;dsimp only;refine .dec (λh0=>?_) λh0=> .some ⟨n,rfl,hn,b,(by grind)⟩;obtain⟨y,hy⟩:∃y,acc[n-1]?=some y:=by grind
   rw[au,hx,aL,F7 aa aa,au,hy,aL,pJ,aL];refine .ite (λhf=> .some ⟨n,rfl,hn,b,(by grind)⟩) λht=> .some (by constructor<;>grind);all_goals grind
  .rintro q ⟨n,rfl,hn,h1,h2⟩;refine .bind (.pre aa aa (.bind (.app cq ?_)));rw[au,hx,aL];refine .bind (.app cq (.bind (.suf aa aa (.bind (.app cq (.some ⟨aq aa,?_,?_⟩))))))
   .grind [Cy,Jn]
   .show([]++acc.take (n:Int).toNat++[x]++acc.drop (n:Int).toNat).Pairwise rN;rw[M7,Fv];have hp:=hj.2;rw[<-O6 n acc,List.pairwise_append] at hp;obtain⟨c,d,e⟩:=hp;have low:∀a∈acc.take n,rN a x:=by grind [rN,G9,List.pairwise_iff_getElem,KG]
    grind [G9,F9]
 .unfold oZ;dsimp only;rw[eF,A9];refine .some (.some ?_);grind
theorem Cz(w:Fq g):T (xt g) λr=>r.Perm g.IDs/\r.Pairwise rN:= .bind (by grind [T.mono,kg,Fq.nI,Fq.nL,T.some])
def uX(g:A7)(ids:Bc)(k:Nat):Prop:=∃x∈ids,∃n,bu x g.IDs=some n/\Q2 g n k=true
theorem EB(w:Fq g)(hl:ids.length<=1000):T (r9 g ids) λr=>r.Nodup/\(∀x,x∈r↔∃k,g.IDs[k]?=some x/\uX g ids k)/\r.Pairwise rN/\r.length<=g.L.length:=by
 have nL:=w.nL;have nI:=w.nI;unfold r9;refine .bind (T.forA g.L.length (λk acc=>acc.length<=k/\acc.Nodup/\∀x,x∈acc↔∃j,j<k/\g.IDs[j]?=some x/\uX g ids j) aa ⟨aC,aC,λx=>aC⟩ (λk acc hk hj=>?_) λacc hj=>?_)
 .obtain⟨y,hy⟩:∃y,g.IDs[k]?=some y:=⟨_,DR aa⟩;unfold t8;dsimp only;rw[eA hk,ax];refine .bind (T.mono (Q:=λb:Bool=>b=true↔uX g ids k) (T.forA ids.length (λm b=>b=true↔∃(j:Nat) (x:Ab) (n:Nat),j<m/\ids[j]?=some x/\bu x g.IDs=some n/\Q2 g n k=true) aa aC (λm b hm hjm=>?_) λb hjm=>?_) λb hb=>?_)
  .obtain⟨x,hx⟩:∃x,ids[m]?=some x:=⟨_,DR hm⟩;unfold t7;dsimp only;rw[eA hm,ax,au,hx,aL,dC aa,aL];refine .bind (T.mono (Q:=λc:Bool=>c=true↔(b=true\/∃n,bu x g.IDs=some n/\Q2 g n k=true)) ?_ λc hc=> .some ⟨aq aa,?_⟩)
   .refine .ite (λhb=> .some (by simp[hb])) λhb=>?_;unfold gO;cases hkx:bu x g.IDs with
    |none=>grind [T.some]
    |some n=>
     have hn:n<g.L.length:=by have:=(cr (gb hkx).1).1;omega
     grind [Fq,EY,au,T.some,wO]
   grind
  .unfold t7;dsimp only;rw[eF,A9];refine .some ?_;show b=true↔_;rw[hjm];constructor
   .rintro⟨j,x,n,_,h2,h3,h4⟩;exact⟨x,bO h2,n,h3,h4⟩
   .rintro⟨x,hx,n,h3,h4⟩;grind [G9]
  .refine .ite (λhbt=>?_) λhbf=> .some ⟨aq aa,by show acc.length<=k+1;have:=hj.1;omega,hj.2.1,λx=>?_⟩
   .have hin:=hb.1 hbt;rw[au,hy,aL];have hny:y∉acc:=λhm=>by obtain⟨j,h1,h2,_⟩:=(hj.2.2 y).1 hm;have:=(List.getElem?_inj (show j<g.IDs.length by omega) w.nd).1 (h2.trans hy.symm);omega
    refine .bind (.app (by grind) (.some ⟨aq aa,by simp;exact hj.1,?_,λx=>?_⟩));all_goals grind
   .show x∈acc↔_;rw[hj.2.2 x];constructor
    .rintro⟨j,h1,h2⟩;exact⟨j,aa,h2⟩
    .rintro⟨j,h1,h2,h3⟩;rcases Hx j k with hlt|hge
     .exact⟨j,hlt,h2,h3⟩
     .obtain rfl:j=k:=aa;rw[hb.2 h3] at hbf;cases hbf
 .unfold t8;dsimp only;rw[eF,A9];refine .some (.bind ((kg (by grind)).mono λr hr=> .some ⟨hr.1.nodup_iff.2 hj.2.1,λx=>?_,hr.2,by rw[hr.1.length_eq];exact hj.1⟩));rw[hr.1.mem_iff,hj.2.2 x];constructor
  .rintro⟨j,_,h2⟩;exact⟨j,h2⟩
  .rintro⟨j,h2,h3⟩;exact⟨j,by have:=(cr h2).1;omega,h2,h3⟩
structure GJ (g:A7) (r:Bc):Prop where
 sub:∀x∈r,x∈g.IDs
 len:r.length<=1000
theorem R0(z:Int):c8 (wI z):=by grind [c8,wI,IntKind.wrap_i64]
theorem nD(h:gU o=true):(1<=o.By/\o.By<=12)/\(1<=o.Seq/\o.Seq<=2147483647)/\0<=o.At/\o.At<=2147483647:=by have e:=jF o;rw[h] at e;unfold Gd at e;simp only[gT,aL] at e;grind
theorem l8(h:gU o=true)(hk:o.Kind=9):1<=o.Need/\o.Need<=(o.Guards.length:Int):=by obtain⟨h1,h2,h3⟩:=nD h;have e:=jF o;rw[h] at e;unfold Gd at e;simp only[gT,aL,hk,C3 h1,C3 h2,C3 h3] at e;grind [ah]
theorem Fq.name{g:A7}(w:Fq g){x:Ab}(h:x∈g.IDs):∃i o,g.IDs[i]?=some x/\g.L[i]?=some o/\bu x g.IDs=some i/\i<g.L.length/\JV x/\x.By=o.By/\x.Seq=o.Seq/\Bf o/\Fp o:=by have nI:=w.nI;obtain⟨i,hi⟩:=G9 h;have hlt:=(cr hi).1;obtain⟨o,ho,so,a⟩:=w.op (i:=i) aa;obtain⟨y,e,h1,h2,_,h4⟩:=wN so;grind [ids,y0,List.getElem?_inj,nd]
theorem Fq.place{g:A7}(w:Fq g){x:Ab}(h:0<=gO g x):∃i o,gO g x=(i:Nat)/\g.IDs[i]?=some x/\g.L[i]?=some o/\x∈g.IDs/\Bf o/\Fp o:=by
 have nI:=w.nI;unfold gO at h⊢;cases hk:bu x g.IDs with
 |none=>rw[hk] at h;simp at h
 |some i=>have hi:=(gb hk).1;grind [op]
theorem lj:0<=gO g x↔x∈g.IDs:=by grind [gO,jv]
theorem EC{α:Type}[DecidableEq α]:∀{l m:List α},l.Nodup->(∀x∈l,x∈m)->l.length<=m.length
 |[],_,_,_=>aC
 |x::r,m,h,hs=>by have hx:=hs x aC;have h2:=LV.1 h;have:=EC (l:=r) (m:=m.erase x) h2.2 (by grind);grind
theorem yf(w:Fq g){ids:Bc}(hl:ids.length<=1000):T (LX g ids) λr=>GJ g r/\r.Nodup/\(∀x,x∈r↔(∃k,g.IDs[k]?=some x/\uX g ids k)\/x∈ids/\x∈g.IDs)/\r.Pairwise rN:=by
 have nL:=w.nL;have nI:=w.nI;unfold LX;refine .bind ((EB w aa).mono λa h1=>?_);obtain⟨c,b,d,e⟩:=h1;refine .bind (T.forA ids.length (λk acc=>acc.length<=a.length+k/\acc.Nodup/\∀x,x∈acc↔x∈a\/∃j,j<k/\ids[j]?=some x/\x∈g.IDs) aa (by grind) (λk acc hk hj=>?_) λacc hj=>?_)
 .obtain⟨y,hy⟩:∃y,ids[k]?=some y:=⟨_,DR hk⟩;unfold t9;dsimp only;rw[eA hk,ax,au,hy];simp only[aL];rw[dC aa,aL,kf aa];simp only[aL];rw[cL,aL];refine .ite (λhb=>?_) λhb=> .some ⟨aq aa,by grind,hj.2.1,λx=>?_⟩
  .by_cases hp:0<=gO g y
   .rw[C3 hp,ax] at hb;have hny:y∉acc:=by grind [nA]
    refine .bind (.app cq (.some ⟨aq aa,by grind,?_,λx=>?_⟩))
    .grind
    grind [lj]
   grind
  grind [lj,nA]
 .unfold t9;dsimp only;rw[eF,A9];refine .some (.bind ((kg aa).mono λr hr=>?_));have key:∀x,x∈r↔(∃k,g.IDs[k]?=some x/\uX g ids k)\/x∈ids/\x∈g.IDs:=λx=>by rw[hr.1.mem_iff,hj.2.2 x,b x];grind [G9]
  have hsub:∀x∈r,x∈g.IDs:=by grind
  have hnd:r.Nodup:=hr.1.nodup_iff.2 hj.2.1;exact .some ⟨⟨hsub,by have:=EC hnd hsub;omega⟩,hnd,key,hr.2⟩
theorem KH(w:Fq g)(hl:ids.length<=1000):T (qL g ids) λr=>GJ g r/\r.Nodup/\(∀x,x∈r↔x∈ids/\x∈g.IDs/\¬∃k,g.IDs[k]?=some x/\uX g ids k)/\r.Pairwise rN:=by
 have nL:=w.nL;have nI:=w.nI;unfold qL;refine .bind ((EB w aa).mono λa h1=>?_);obtain⟨d,c,f,i⟩:=h1;refine .bind (T.forA ids.length (λk acc=>acc.length<=k/\acc.Nodup/\∀x,x∈acc↔∃j,j<k/\ids[j]?=some x/\x∈g.IDs/\x∉a) aa ⟨aC,aC,λx=>aC⟩ (λk acc hk hj=>?_) λacc hj=>?_)
 .obtain⟨y,hy⟩:∃y,ids[k]?=some y:=⟨_,DR hk⟩;unfold qK;dsimp only;rw[eA hk,ax,au,hy];simp only[aL];rw[dC aa,aL,kf aa,kf aa];simp only[aL];rw[cL,cL,aL];have m1:nA a y=true↔y∈a:=by
   constructor
   .intro h;obtain⟨z,hz,e⟩:=List.any_eq_true.1 h;rw[DP e] at hz;exact hz
   .intro h;exact List.any_eq_true.2 ⟨y,h,aC⟩
  have m2:nA acc y=true↔y∈acc:=by
   constructor
   .intro h;obtain⟨z,hz,e⟩:=List.any_eq_true.1 h;rw[DP e] at hz;exact hz
   .intro h;exact List.any_eq_true.2 ⟨y,h,aC⟩
  have hc:∀b:Bool,(bif decide (0<=gO g y) then bif !nA a y then !nA acc y else false else false)=b->(b=true↔y∈g.IDs/\y∉a/\y∉acc):=λb hb=>by rw[<-hb,<-lj,<-m1,<-m2];by_cases q1:0<=gO g y<;>cases nA a y<;>cases nA acc y<;>simp[q1]
  refine .ite (λhb=>?_) λhb=> .some ⟨aq aa,by show acc.length<=k+1;omega,hj.2.1,λx=>?_⟩
  .obtain⟨q1,l,m⟩:=(hc true hb).1 rfl;refine .bind (.app cq (.some ⟨aq aa,by grind,?_,λx=>?_⟩));all_goals grind
  .have q:=hc false hb;show x∈acc↔_;rw[hj.2.2 x];constructor
   .rintro⟨j,h1,h2⟩;exact⟨j,aa,h2⟩
   .rintro⟨j,h1,h2,h3,h4⟩;rcases Hx j k with hlt|hge
    .exact⟨j,hlt,h2,h3,h4⟩
    .obtain rfl:j=k:=aa;rw[hy] at h2;cases h2;by_cases hm:y∈acc
     .exact(hj.2.2 y).1 hm
     .have:=q.2 ⟨h3,h4,hm⟩;cases this
 .unfold qK;dsimp only;rw[eF,A9];refine .some (.bind ((kg aa).mono λr hr=>?_));have key:∀x,x∈r↔x∈ids/\x∈g.IDs/\¬∃k,g.IDs[k]?=some x/\uX g ids k:=λx=>by rw[hr.1.mem_iff,hj.2.2 x,<-c x];grind [G9]
  grind [T.some,GJ,List.Perm.length_eq]
theorem QH(w:Fq g)(h:GJ g ids)(d:Int):T (Fc g ids d) λn=>1<=n/\n<=2147483648:=by
 have hl:=h.len;unfold Fc;refine .bind (T.forA ids.length (λ_ n=>0<=n/\n<=2147483647) aa ⟨B5,B5⟩ (λk n hk hj=>?_) λn hj=>?_)
 .obtain⟨y,hy⟩:∃y,ids[k]?=some y:=⟨_,DR hk⟩;obtain⟨i,o,_,_,_,_,_,_,e,_,a⟩:=w.name (h.sub y (bO hy));have:=(nD a.numbers).2.1;unfold xu;dsimp only;rw[eA hk,ax,au,hy];simp only[aL];refine .dec (λ_=> .some ⟨aq aa,?_⟩) λ_=> .some ⟨aq aa,hj⟩;grind [EY]
 .unfold xu;dsimp only;rw[eF,A9];refine .some (.some ?_);grind [bM]
theorem N0(w:Fq g)(hl:ids.length<=1000):T (z8 g ids) λn=>0<=n/\n<=2147483647:=by
 have nL:=w.nL;have nI:=w.nI;unfold z8;refine .bind (T.forA ids.length (λ_ n=>0<=n/\n<=2147483647) aa ⟨B5,B5⟩ (λk n hk hj=>?_) λn hj=>?_)
 .obtain⟨y,hy⟩:∃y,ids[k]?=some y:=⟨_,DR hk⟩;unfold ue;dsimp only;rw[eA hk,ax,au,hy,aL,dC aa,aL];refine .dec (λhp=>?_) λ_=> .some ⟨aq aa,hj⟩;obtain⟨i,o,e,_,ho,_,_,a⟩:=w.place hp;have:=(nD a.numbers).2.2;rw[e,au,ho,aL];refine .some ⟨aq aa,?_⟩;grind [EY]
 .unfold ue;dsimp only;rw[eF,A9];exact .some (.some hj)
theorem eX{m:Int}(h:c8 n)(hm:0<m):T (iq n m) λv=>0<=v/\v<m:=by obtain⟨h1,h2⟩:=h;grind [iq,T.rem,bM,Int.tmod_nonneg,Int.tmod_lt_of_pos]
def zId:Ab:=⟨0,0,0⟩
def Ys:Bp:=⟨0,0,0,0,[],0,0,0,0,[],⟨0,0,0⟩,0,[],[],⟨0,0,0⟩,[],0,0,[],0,[],⟨0,0⟩⟩
theorem dP:c8 0:=by unfold c8;omega
theorem pM:JV ⟨0,0,0⟩:=⟨dP,dP,by show(0:Nat)<_;omega⟩
theorem Wd:Bf Ys:=by constructor<;>first|exact pM|(unfold Ys;simp;done)|(intro z hz;simp[Ys] at hz;subst hz;exact dP)|(show fS 0;unfold fS;omega)
theorem zb(w:Fq g)(h:GJ g ids)(kd:Int):T (nS g ids kd) λr=>(r.1=zId/\r.2=Ys)\/(r.1∈ids/\Bf r.2/\Fp r.2/\r.2.Kind=kd):=by
 have nL:=w.nL;have nI:=w.nI;have hl:=h.len;have e0:wI (ah g.L-1)=(g.L.length:Int)-1:=by grind [bM,ah]
 unfold nS;rw[e0];refine .bind (T.loop (λs=>s.1=zId/\s.2.1=Ys∧-1<=s.2.2/\s.2.2<g.L.length) (λs=>(s.2.2+1).toNat) ⟨rfl,rfl,by simp only;omega,by simp only;omega⟩ (by simp only;omega) ?_);rintro⟨a,b,i⟩ ⟨rfl,rfl,c,i1⟩;simp only at c i1;unfold vC;dsimp only;refine .dec (λhi=>?_) λhi=> .some (.some (.inl ⟨rfl,rfl⟩));obtain⟨n,rfl⟩:∃n:Nat,i=(n:Int):=⟨i.toNat,aa⟩;obtain⟨o,ho,so,d⟩:=w.op (i:=n) aa;obtain⟨x,hx⟩:∃x,g.IDs[n]?=some x:=⟨_,DR aa⟩;have ew:wI ((n:Int)-1)=(n:Int)-1:=bM aa aa;rw[au,ho,aL,au,hx];simp only[aL];rw[kf aa];simp only[aL];rw[cL,aL];refine .ite (λhb=> .some (.some (.inr ?_))) λhb=> .some ⟨⟨rfl,rfl,?_,?_⟩,?_⟩
 .by_cases hk:o.Kind=kd
  .rw[C3 hk,ax] at hb;obtain⟨z,hz,e⟩:=List.any_eq_true.1 hb;grind
  grind
 all_goals grind
theorem yg{n:Int}(h1:n<=1000):T (o4 n) λr=>r.length<=1000/\(r.length:Int)=(if n<0 then 0 else n)/\∀x∈r,Fs x:=by
 unfold o4;refine .bind (T.forA n.toNat (λk acc=>acc.length=k/\∀x∈acc,Fs x) aa ⟨rfl,aC⟩ (λk acc hk hj=>?_) λacc hj=>?_)
 .unfold uc;dsimp only;rw[C3 (show(k:Int)<n by omega),ax];refine .bind (.app cq (.some ⟨aq aa,by simp;exact hj.1,λx hx=>?_⟩));grind [Fs,fS,Mp]
 .unfold uc;dsimp only;rw[C6 (by grind),A9];refine .some (.some ⟨aa,?_,hj.2⟩);split<;>omega
theorem zc(w:Fq g)(d:Int):T (nT g d) λm=>c8 m:=by grind [Fq.nC,nT,Cw,T.some,dP,mZ,Fq.cards]
theorem ED(w:Fq g)(d:Int)(h:0<=n/\n<=1000000):T (Si g d n) λr=>GJ g r:=by
 have nL:=w.nL;have nI:=w.nI;unfold Si;refine .bind ((Cz w).mono λb hv1=>?_);have i1:GJ g b:=by grind [GJ,List.Perm.length_eq]
 refine .bind (T.mono (Q:=λx:Int=> -1<=x/\x<g.L.length) (T.forA g.L.length (λ_ x=> -1<=x/\x<g.L.length) aa ⟨B5,aa⟩ (λk x hk hj=>?_) λx hj=>?_) λa h4=>?_)
 .obtain⟨o,ho,_⟩:=w.op hk;unfold ub;dsimp only;rw[eA hk,ax,au,ho,aL];exact .dec (λ_=> .some (by constructor<;>grind [aq])) λ_=> .some ⟨aq aa,hj⟩
 .unfold ub;dsimp only;rw[eF,A9];exact .some hj
 .rw[cL,aL];refine .ite (λhb=>?_) λhb=>?_
  .have hx:0<a:=by grind
   obtain⟨k,rfl⟩:∃k:Nat,a=(k:Int):=⟨a.toNat,aa⟩;obtain⟨o,ho,so,c⟩:=w.op (i:=k) aa;rw[au,ho,aL];exact .bind (by grind [T.mono,yf,pK,Fp.long,T.some])
  .rw[cL,aL];refine .ite (λ_=> .some i1) λhb2=>?_;have hx:0<=a:=by grind
   obtain⟨k,rfl⟩:∃k:Nat,a=(k:Int):=⟨a.toNat,aa⟩;obtain⟨y,hy⟩:∃y,g.IDs[k]?=some y:=⟨_,DR aa⟩;rw[au,hy,aL];have e3:wI (n.tdiv 3)=n.tdiv 3:=by grind [bM]
   rw[e3];refine .bind (.rem (by unfold ah;omega) ?_);have q0:0<=(n.tdiv 3).tmod (ah g.IDs):=Int.tmod_nonneg _ (Int.tdiv_nonneg h.1 B5);have q1:(n.tdiv 3).tmod (ah g.IDs)<ah g.IDs:=Int.tmod_lt_of_pos _ (by unfold ah;omega);refine .bind (.ixl q0 (by unfold ah at q1;exact q1) λz _ _=>?_);exact .bind (by grind [T.mono,yf,T.some])
def il{α:Type}(p:α->Prop)(l:List α):Prop:=l.length<=1000/\∀x∈l,p x
theorem ay{p:α->Prop}:il p []:=⟨aC,aC⟩
theorem Hf(h1:c8 o.By)(h2:c8 o.Seq)(h3:c8 o.Kind)(h4:c8 o.At)(h5:il JV o.Past)(h6:c8 o.Device)(h7:c8 o.Old)(h8:c8 o.Member)(h9:c8 o.Role)(h10:il I6 o.Path)(h11:JV o.Epoch)(h12:c8 o.N)(h13:o.Body.length<=1000)(h14:il fS o.Refs)(d:JV o.Of)(a:il c8 o.Guards)(f:c8 o.Need)(g:c8 o.Wait)(b:il Fs o.Boxes)(e:fS o.Pub)(c:il Hl o.Hist):Bf o:=by refine⟨λz hz=>?_,h5.1,h5.2,h10.1,h10.2,h11,h13,h14.1,h14.2,d,a.1,a.2,b.1,b.2,e,c.1,c.2⟩;simp only[EO,KZ,or_false] at hz;rcases hz with rfl|rfl|rfl|rfl|rfl|rfl|rfl|rfl|rfl|rfl|rfl<;>assumption
theorem Bf.iBy{o:Bp}(h:Bf o):c8 o.By:=h.ints _ aC
theorem Bf.iSeq{o:Bp}(h:Bf o):c8 o.Seq:=h.ints _ aC
theorem Bf.iKind{o:Bp}(h:Bf o):c8 o.Kind:=h.ints _ aC
theorem Bf.iAt{o:Bp}(h:Bf o):c8 o.At:=h.ints _ aC
theorem Bf.iDevice{o:Bp}(h:Bf o):c8 o.Device:=h.ints _ aC
theorem Bf.iOld{o:Bp}(h:Bf o):c8 o.Old:=h.ints _ aC
theorem Bf.iMember{o:Bp}(h:Bf o):c8 o.Member:=h.ints _ aC
theorem Bf.iRole{o:Bp}(h:Bf o):c8 o.Role:=h.ints _ aC
theorem Bf.iN{o:Bp}(h:Bf o):c8 o.N:=h.ints _ aC
theorem Bf.iNeed{o:Bp}(h:Bf o):c8 o.Need:=h.ints _ aC
theorem Bf.iWait{o:Bp}(h:Bf o):c8 o.Wait:=h.ints _ aC
theorem Bf.sPast{o:Bp}(h:Bf o):il JV o.Past:=⟨h.nPast,h.past⟩
theorem Bf.sRefs{o:Bp}(h:Bf o):il fS o.Refs:=⟨h.nRefs,h.refs⟩
theorem Bf.sGuards{o:Bp}(h:Bf o):il c8 o.Guards:=⟨h.nGuards,h.guards⟩
theorem Bf.sBoxes{o:Bp}(h:Bf o):il Fs o.Boxes:=⟨h.nBoxes,h.boxes⟩
theorem Bf.sHist{o:Bp}(h:Bf o):il Hl o.Hist:=⟨h.nHist,h.hist⟩
theorem Bf.nopath{o:Bp}(h:Bf o):Bf {o with Path:=[]}:=by grind [Hf,iBy,iSeq,iKind,iAt,sPast,iDevice,iOld,iMember,iRole,ay,epoch,iN,nBody,sRefs,of_,sGuards,iNeed,iWait,sBoxes,pub,sHist]
theorem m7(h: -1000000<=n/\n<=1000000):c8 n:=by unfold c8;omega
theorem GJ.smid{g:A7}(w:Fq g){ids:Bc}(h:GJ g ids){x:Ab}(hx:x∈ids):JV x:=by grind [GJ,Fq.name]
theorem Ir(w:Fq g)(h:GJ g ids)(so:Bf o)(hn:0<=n/\n<=1000000):T (sc g ids o n) λr=>Bf r:=by
 unfold sc;refine .bind ((zb w h 9).mono λc hv=>?_);have s1:JV c.1:=by
  rcases hv with⟨e,_⟩|⟨e,_⟩
  .rw[e];exact pM
  .exact h.smid w e
 have s2:Bf c.2:=by grind [Wd]
 rw[cL,aL,cL,aL];have e16:wI (n.tdiv 16)=n.tdiv 16:=by grind [bM]
 have e32:wI (n.tdiv 32)=n.tdiv 32:=by grind [bM]
 refine .dec (λh9=>?_) λh9=>?_
 ·
  refine .bind (T.mono (Q:=λx:Be=>x.length<=4/\∀z∈x,c8 z) (T.loop (λs=>1<=s.2/\s.2<=5/\(s.1.length:Int)<=s.2-1/\∀z∈s.1,c8 z) (λs=>(5-s.2).toNat) (by grind) B5 ?_) λp hx=>?_)
  .rintro⟨acc,i⟩ ⟨i1,q,t,k⟩
   simp only at i1 q t k
   have ei:wI (i+1)=i+1:=bM aa aa
   unfold vF
   dsimp only
   refine .dec (λh4=>?_) λh4=> .some ⟨aa,k⟩
   refine .bind (.quo aa (.dec (λ_=>?_) λ_=> .some ⟨⟨?_,?_,?_,k⟩,?_⟩))
   .refine .bind (.app cq (.some ⟨⟨?_,?_,?_,λz hz=>?_⟩,?_⟩))
    .show 1<=wI (i+1);omega
    all_goals grind [m7]
   all_goals grind
  .rw[cL,aL]
   have hj:∃j:Be,(bif decide (ah p=0) then([1,2]:Be) else p)=j/\1<=j.length/\j.length<=4/\∀z∈j,c8 z:=by grind [ah,m7]
   obtain⟨j,ej,D,E,u⟩:=hj
   rw[ej,e16]
   have hm:0<iI 2 (ah j)/\iI 2 (ah j)<=2:=by unfold iI ah;split<;>omega
   refine .bind (.rem aa (.bind ((yg (n:=ah j) (by unfold ah;omega)).mono λbx d=> .some ?_)))
   exact Hf so.iBy so.iSeq (by grind [m7]) so.iAt so.sPast so.iDevice so.iOld so.iMember so.iRole ay so.epoch so.iN so.nBody so.sRefs so.of_ ⟨by show j.length<=1000;omega,u⟩ (R0 _) (by grind [c8]) ⟨d.1,d.2.2⟩ (by show(5:Nat)<_;omega) so.sHist
 ·
  generalize hj5:(bif bif decide (o.Kind≠9) then decide (c.1=(⟨0,0,0⟩:Ab)) else false then(9:Int) else o.Kind)=v at h9⊢
  have hk5:v=o.Kind/\c.1≠⟨0,0,0⟩:=by grind
  obtain⟨rfl,l⟩:=hk5
  have hv2:Fp c.2/\c.2.Kind=9:=by
   rcases hv with⟨e,_⟩|⟨_,_,e,e'⟩
   .exact absurd e l
   .exact⟨e,e'⟩
  have hg:=l8 hv2.1.numbers hv2.2
  have hgl:0<ah c.2.Guards/\ah c.2.Guards<=1000:=by grind [Bf.nGuards,ah]
  refine .bind ((zc w _).mono λm h30=>?_)
  refine .bind (T.mono (Q:=λx:Int×List Hb=>c8 x.1/\il Fs x.2) (.ite (λ_=> .bind ((yg hgl.2).mono λb hb=> .some ⟨s1.a,hb.1,hb.2.2⟩)) λ_=> .some ⟨so.iBy,so.sBoxes⟩) λy f=>?_)
  rw[cL,aL]
  refine .bind (T.mono (Q:=λx:Int×Int=>c8 x.1/\c8 x.2) (.ite (λ_=> .bind (.rem aa (.bind (.ixl (Int.tmod_nonneg _ hn.1) (Int.tmod_lt_of_pos _ hgl.1) (by grind [T.some,Bf.guards,R0]))))) λ_=> .some ⟨f.1,so.iDevice⟩) λA h36=>?_)
  refine .bind (T.mono (Q:=λx:List Hb=>il Fs x) (.ite (λ_=> .bind ((yg B5).mono λb hb=> .some ⟨hb.1,hb.2.2⟩)) λ_=> .some f.2) λB C=>?_)
  rw[cL,aL]
  have h40:c8 (bif decide (o.Kind=13) then m else o.Old):=by grind [Bf.iOld]
  grind [T.some,Hf,Bf.iSeq,Bf.iKind,Bf.iAt,Bf.sPast,Bf.iMember,Bf.iRole,ay,Bf.epoch,Bf.iN,Bf.nBody,Bf.sRefs,Bf.iNeed,Bf.iWait,Bf.pub,Bf.sHist]
theorem EE(h:0<=n):T (z7 n) λk=>c8 k:=by unfold z7;refine .bind (.ixl (Int.tmod_nonneg _ h) (by have:=Int.tmod_lt_of_pos n (show(0:Int)<20 by decide);simp;omega) λx _ hx=> .some ?_);have:x∈([6,4,3,2,5,7,8,3,6,9,11,11,13,12,10,4,3,2,6,13]:Be):=hx;have key:∀y∈([6,4,3,2,5,7,8,3,6,9,11,11,13,12,10,4,3,2,6,13]:Be),-1000000<=y/\y<=1000000:=B5;exact m7 (key x this)
theorem Mt:c8 1:=m7 aa
theorem Yt:c8 2:=m7 aa
theorem QJ:fS 0:=by unfold fS;omega
def Nx(g:A7)(x:Bp×Bc):Prop:=Bf x.1/\GJ g x.2
theorem Nx.np{g:A7}{x:Bp×Bc}(h:Nx g x):Nx g ({x.1 with Path:=[]},x.2):=⟨h.1.nopath,h.2⟩
theorem N2(w:Fq g){m:Int}(hn:c8 n)(hm:c8 m):T (sd g n m) λr=>Bf r:=by
 have nL:=w.nL;have nI:=w.nI;unfold sd;refine .bind ((eX hn B5).mono λf h1=> .bind ((eX hm B5).mono λi h3=> .bind ((EE h3.1).mono λC h5=>?_)));have hq:∀q:Int,0<q->wI (f.tdiv q)=f.tdiv q/\0<=f.tdiv q/\f.tdiv q<=1000000:=λq hq=>by have a:=Int.tdiv_nonneg h1.1 (show(0:Int)<=q by omega);have b:=Int.tdiv_le_self q h1.1;grind [bM]
 have hk:wI (i.tdiv 20)=i.tdiv 20/\0<=i.tdiv 20/\i.tdiv 20<=1000000:=by grind [bM]
 rw[hk.1];generalize hkk:i.tdiv 20=k at hk⊢;obtain⟨_,B,k1⟩:=hk;have tm:∀(z q:Int),0<q->q<=1000000→-1000000<=z.tmod q/\z.tmod q<=1000000:=λz q h h'=>by have h3:=Int.tmod_lt_of_pos z h;have h4: -q<z.tmod q:=Int.lt_tmod_of_pos z h;omega
 refine .dec (λh0=> .some ?_) λh0=>?_
 .grind [Hf,ay,pM,m7,QJ]
 have hL:0<g.L.length:=by unfold ah at h0;omega
 rw[cL,aL];generalize hj8:(bif decide (ah g.L<4) then(⟨1,0,2,0,[],wI ((ah g.L)+1),0,0,wI (3-(wI (Int.tdiv (Int.tmod f 5) 4))),[],⟨0,0,0⟩,0,[],[],⟨0,0,0⟩,[],0,0,[],0,[],⟨0,0⟩⟩:Bp) else⟨wI (1+(Int.tmod f 5)),0,C,0,[],0,0,0,0,[],⟨0,0,0⟩,0,[],[],⟨0,0,0⟩,[],0,0,[],0,[],⟨0,0⟩⟩)=o;have s8:Bf o:=by grind [Hf,Mt,dP,Yt,ay,R0,pM,QJ]
 clear hj8;obtain⟨D,p,t⟩:=hq 5 B5;rw[D];refine .bind ((ED w o.By ⟨p,t⟩).mono λE h10=>?_);refine .bind (T.mono (Q:=λx=>GJ g x) (.ite (λ_=> .bind ((Cz w).mono (by grind [T.some,GJ,List.Perm.length_eq]))) λ_=> .some h10) λj12 h12=>?_);refine .bind ((zb w h12 6).mono λu h14=>?_);have s14:JV u.1:=by
  rcases h14 with⟨e,_⟩|⟨e,_⟩
  .rw[e];exact pM
  .exact h12.smid w e
 refine .bind (T.mono (Q:=λx:Int×Int×Nat=>JV ⟨x.1,x.2.1,x.2.2⟩) (.ite (λ_=> .bind (.ixl B5 (by rw[nI];omega) λy _ hy=> .some ?_)) λ_=> .some s14) λF H=>?_)
 .obtain⟨_,_,_,_,_,_,s,_⟩:=w.name hy;exact s
 refine .bind (T.mono (Q:=λx:Bp×Bc=>Nx g x) ?_ λI v=>?_)
 .refine .ite (λ_=>?_) λ_=>?_
  .refine .bind (T.mono (Q:=λx:Int×Int=>c8 x.1/\c8 x.2) (by grind [T.some,R0,Bf.iDevice,Bf.iRole]) λx hx=> .some ⟨?_,h12⟩);grind [Hf,Bf.iBy,Bf.iSeq,Bf.iKind,Bf.iAt,ay,Bf.iOld,Bf.iMember,Bf.epoch,Bf.iN,Bf.of_,Bf.iNeed,Bf.iWait,Bf.pub]
  refine .bind (T.mono (Q:=λx:Bp×Bc=>Nx g x) ?_ λx hx=> .some hx.np);refine .ite (λ_=>?_) λ_=>?_
  .refine .bind (T.mono (Q:=λx:Int×Int=>c8 x.1/\c8 x.2) (by grind [T.some,dP,R0,Bf.iMember]) λx hx=> .some ⟨?_,h12⟩);grind [Hf,Bf.iBy,Bf.iSeq,Bf.iKind,Bf.iAt,ay,Bf.iOld,Bf.iRole,Bf.epoch,Bf.iN,Bf.of_,Bf.iNeed,Bf.iWait,Bf.pub]
  refine .bind (T.mono (Q:=λx:Bp×Bc=>Nx g x) ?_ λx hx=> .some hx.np);refine .ite (λ_=> .some ⟨?_,h12⟩) λ_=>?_
  .grind [Hf,Bf.iBy,Bf.iSeq,Bf.iKind,Bf.iAt,ay,Bf.iDevice,Bf.iOld,R0,Bf.epoch,Bf.iN,Bf.of_,Bf.iNeed,Bf.iWait,Bf.pub]
  refine .bind (T.mono (Q:=λx:Bp×Bc=>Nx g x) ?_ λx hx=> .some hx.np);refine .ite (λ_=>?_) λ_=>?_
  .have hm4:0<iI (ah g.IDs) 4/\iI (ah g.IDs) 4<=ah g.IDs:=by unfold iI ah;split<;>omega
   refine .bind (.rem aa (.bind (.ixl (Int.tmod_nonneg _ B) (by have:=Int.tmod_lt_of_pos k hm4.1;grind [ah]) λy _ hy=>?_)));obtain⟨_,_,_,_,_,_,sy,_⟩:=w.name hy;refine .bind (T.mono (Q:=λx:Bq=>il fS x) (.ite (λ_=> .some ⟨aC,λz hz=>by simp at hz;rcases hz with rfl|rfl<;>exact Mp _⟩) λ_=> .some ay) λx hx=> .some ⟨?_,h12⟩);exact Hf s8.iBy s8.iSeq s8.iKind s8.iAt ay s8.iDevice s8.iOld s8.iMember s8.iRole ay sy (by grind [m7]) aC hx s8.of_ ay s8.iNeed s8.iWait ay s8.pub ay
  refine .bind (T.mono (Q:=λx:Bp×Bc=>Nx g x) ?_ λx hx=> .some hx.np);refine .ite (λ_=> .some ⟨?_,h12⟩) λ_=>?_
  .grind [Hf,Bf.iBy,Bf.iSeq,Bf.iKind,Bf.iAt,ay,Bf.iDevice,Bf.iOld,Bf.iMember,Bf.iRole,Bf.epoch,Bf.iN,Bf.iNeed,Bf.iWait,Bf.pub]
  refine .bind (T.mono (Q:=λx:Bp×Bc=>Nx g x) ?_ λx hx=> .some hx.np);refine .ite (λ_=> .some ⟨?_,h12⟩) λ_=>?_
  .grind [Hf,Bf.iBy,Bf.iSeq,Bf.iKind,Bf.iAt,ay,Bf.iDevice,Bf.iOld,Bf.iMember,Bf.iRole,Bf.epoch,Bf.iN,Bf.iNeed,Bf.iWait,Bf.pub]
  have s8':Bf {o with Past:=[],Path:=[],Body:=[],Refs:=[],Guards:=[],Boxes:=[],Hist:=[]}:=by grind [Hf,Bf.iBy,Bf.iSeq,Bf.iKind,Bf.iAt,ay,Bf.iDevice,Bf.iOld,Bf.iMember,Bf.iRole,Bf.epoch,Bf.iN,Bf.of_,Bf.iNeed,Bf.iWait,Bf.pub]
  refine .bindc ?_ λb _=>?_
  .grind [T.some]
  refine .bind (T.mono (Q:=λx:Bp×Bc=>Nx g x) (.ite (λ_=>?_) λ_=> .some ⟨s8',h12⟩) λx hx=> .some hx.np);refine .bind ((Ir w h12 s8' ⟨B,k1⟩).mono λJ A=>?_);refine .bind (T.mono (Q:=λx=>GJ g x) (by grind [ED,T.some]) λx hx=> .some ⟨A.nopath,hx⟩)
 .obtain⟨c,j⟩:=v;have K:=j.len;refine .bindc ?_ λb _=>?_
  .grind [T.some,kf]
  refine .bind (T.mono (Q:=λx=>GJ g x) (.ite (λ_=> .bind ((Cz w).mono (by grind [T.some,GJ,List.Perm.length_eq]))) λ_=> .some j) λM d=>?_);refine .bind ((KH w d.len).mono λN l=> .bind ((QH w d _).mono λO P=> .bind ((N0 w d.len).mono λR S=> .some ?_)));exact Hf c.iBy (by grind [c8]) c.iKind (R0 _) ⟨l.1.len,λx hx=>l.1.smid w hx⟩ c.iDevice c.iOld c.iMember c.iRole ay c.epoch c.iN c.nBody c.sRefs c.of_ c.sGuards c.iNeed c.iWait c.sBoxes c.pub c.sHist
theorem dk{l:List α}{k:Nat}(h:k<l.length):∃y,l[k]?=some y/\y∈l:=by simp_all
def EF(g:A7)(l:Be):Prop:=∀x∈l,0<=x/\x<(g.L.length:Int)
theorem EF.nat{g:A7}{l:Be}(h:EF g l){x:Int}(hx:x∈l):∃i:Nat,x=(i:Int)/\i<g.L.length:=by obtain⟨h1,h2⟩:=h x hx;exact⟨x.toNat,aa,aa⟩
theorem EF.snoc{g:A7}{l:Be}(h:EF g l){i:Nat}(hi:i<g.L.length):EF g (l++[(i:Int)]):=λx hx=>by
 rcases I5.1 hx with h'|h'
 .exact h x h'
 grind
theorem EF.nil{g:A7}:EF g []:=λx hx=>by cases hx
structure Jq (g:A7) (n:Nat) (r:Dl):Prop where
 cards:r.Cards=g.Cards
 dev:r.In.length+r.Gone.length<=n
 nL:r.L.length<=n
 nV:r.V.length<=n
 mem:∀m∈r.L,m.Guards.length<=1000
def Nd(r:Dl):Prop:=∀m∈r.L,m.Is=true->1<=m.Need
theorem Jq.up{g:A7}{n m:Nat}{r:Dl}(h:Jq g n r)(hm:n<=m):Jq g m r:=by grind [Jq]
section
variable {g:A7} {n:Nat} {r:Dl}
theorem dM(w:Fq g)(h:Jq g n r)(d:Int):T (gE r d) λ_=>True:=by
 have nC:=w.nC;have hc:r.Cards.length<=1000:=by rw[h.cards];exact nC
 unfold gE;refine .bind (T.mono (Q:=λ_=>True) (T.forI r.Cards.length (λ_=>True) aa trivial (λk hk _=>?_) λ_=>?_) λx _=>?_)
 .obtain⟨y,hy,_⟩:=dk hk;unfold AR;simp only[eA hk,ax,au,hy,aL];exact .ite (λ_=> .some trivial) λ_=> .some ⟨aq aa,trivial⟩
 .unfold AR;rw[eF,A9];exact .some trivial
 .cases x<;>exact .some trivial
theorem d9(h:Jq g n r)(hn:n<=100001)(d:Int):T (dS r d) λv=>v<0\/∃k:Nat,v=(k:Int)/\k<r.L.length:=by
 have nL:=h.nL;unfold dS;refine .bind (T.mono (Q:=λx:Unit⊕Int=>∀q,x= .inr q->∃k:Nat,q=(k:Int)/\k<r.L.length) (T.forI r.L.length (λ_=>True) aa trivial (λk hk _=>?_) λ_=>?_) λx hx=>?_)
 .obtain⟨y,hy,_⟩:=dk hk;unfold o5;simp only[eA hk,ax,au,hy,aL];refine .ite (λ_=> .some ?_) λ_=> .some ⟨aq aa,trivial⟩;intro q e;grind
 .unfold o5;rw[eF,A9];refine .some ?_;intro q e;cases e
 .cases x with
  |inl u=>exact .some (.inl B5)
  |inr q=>exact .some (.inr (hx q rfl))
theorem yh(hn:n<=100000)(h:Jq g n r)(d:Int):T (se r d) λ_=>True:=by grind [se,T.bind,T.mono,d9,T.some,au]
theorem QK(hn:n<=100000)(h:Jq g n r)(d:Int):T (Fd r d) λ_=>True:=by grind [Jq,Fd,cX,T.some]
theorem uY(w:Fq g)(hn:n<=100000)(h:Jq g n r)(d:Int):T (nW r d) λ_=>True:=by grind [nW,T.bindc,QK,dM,T.some]
theorem uZ(w:Fq g)(hn:n<=100000)(h:Jq g n r)(d role:Int):T (nX r d role) λr'=>Jq g (n+1) r'/\(Nd r->Nd r'):=by
 have h1:=h.dev;have h2:=h.nL;unfold nX;refine .bindc (uY w hn h d) λv _=> .ite (λ_=> .some ⟨h.up aa,id⟩) λ_=>?_;refine .bind (.app cq (.bind (.app cq ?_)));rw[M7];have h':Jq g (n+1) {r with In:=r.In++[d]}:=⟨h.cards,by simp;omega,by show r.L.length<=_;omega,by have:=h.nV;show r.V.length<=_;omega,h.mem⟩;refine .bindc (dM w h' d) λa _=> .bind ((d9 h' (show n+1<=100001 by omega) a).mono λb _=> .dec (λ_=>?_) λ_=> .some ⟨h',id⟩);refine .bind (.bind (.app cq (.bind (.app cq (.some ?_)))));rw[M7];refine .some ⟨⟨h'.cards,h'.dev,by simp;omega,h'.nV,λm hm=>?_⟩,λnd m hm=>?_⟩
 .rcases I5.1 hm with hm|hm
  .exact h.mem m hm
  .simp at hm;subst hm;simp
 .rcases I5.1 hm with hm|hm
  .exact nd m hm
  .simp at hm;subst hm;simp
theorem zd(h:Jq g n r)(hn:n<=100001)(i:Ab):T (jN r i) λv=>v<0\/∃(k:Nat) (m:D5),v=(k:Int)/\r.L[k]?=some m/\m.Is=true:=by
 have nL:=h.nL;unfold jN;refine .bind (T.mono (Q:=λx:Unit⊕Int=>∀q,x= .inr q->∃(k:Nat) (m:D5),q=(k:Int)/\r.L[k]?=some m/\m.Is=true) (T.forI r.L.length (λ_=>True) aa trivial (λk hk _=>?_) λ_=>?_) λx hx=>?_)
 .obtain⟨y,hy,_⟩:=dk hk;unfold qQ;simp only[eA hk,ax,au,hy,aL];refine .bind (T.mono (Q:=λb:Bool=>b=true->y.Is=true) (by grind [T.some]) λb hb=> .ite (λe=> .some ?_) λ_=> .some ⟨aq aa,trivial⟩);intro q e';grind
 .unfold qQ;rw[eF,A9];refine .some ?_;intro q e;cases e
 .cases x with
  |inl u=>exact .some (.inl B5)
  |inr q=>exact .some (.inr (hx q rfl))
theorem u4(hn:n<=100000)(h:Jq g n r)(i:Ab):T (jN r i) λv=>v<0\/∃(k:Nat) (m:D5),v=(k:Int)/\r.L[k]?=some m/\m.Is=true:=zd h (Nat.le_succ_of_le hn) i
theorem CC(w:Fq g)(h:Jq g n r)(hn:n<=100001)(d:Int):T (sh r d) λr'=>Jq g n r'/\(Nd r->Nd r'):=by
 have h1:=h.dev;have h2:=h.nL;have h3:=h.nV;unfold sh;rw[cX aa,aL];refine .ite (λ_=> .some ⟨h,id⟩) λhh=>?_;have hd:d∈r.In:=by grind [QF]
 have hlt:(r.In.filter λx=>decide (x≠d)).length<r.In.length:=by simp_all
 refine .bindc (dM w h d) λp _=> .bind (T.mono (Q:=λx:Be×Bool=>x.1=r.In.filter λx=>decide (x≠d)) ?_ λo h7=>?_)
 .refine T.mono (T.loop (Q:=λx:Be×Bool=>x.1=r.In.filter λx=>decide (x≠d)) (λs=>∃k:Nat,k<=r.In.length/\s.2.2=(k:Int)/\s.1=(r.In.take k).filter λx=>decide (x≠d)) (λs=>r.In.length-s.2.2.toNat) (by grind) cq ?_) λ_ hx=>hx;rintro⟨a,b,i⟩ ⟨k,hk,rfl,ha⟩;simp only at ha;rcases Hx k r.In.length with hl|hg
  .obtain⟨y,hy,_⟩:=dk hl;have ht:(r.In.take (k+1)).filter (λx=>decide (x≠d))=a++[y].filter (λx=>decide (x≠d)):=by grind [Jn]
   have hal:a.length<=k:=by grind
   have hm:wI ((k:Int)+1)=((k+1:Nat):Int):=aq aa;unfold uj;simp only[eA hl,ax,au,hy,aL];refine .dec (λhp=> .bind (.app cq (.bindc (by grind [T.some,T.bindc,dM]) λj _=> .some ⟨⟨k+1,aa,hm,?_⟩,?_⟩))) λhp=> .some ⟨⟨k+1,aa,hm,?_⟩,?_⟩
   .grind
   .grind
   .grind
   .show r.In.length-(wI ((k:Int)+1)).toNat<_;rw[hm];simp;omega
  .obtain rfl:k=r.In.length:=aa;unfold uj;dsimp only;rw[eF,A9];exact .some (by show a=_;rw[ha,EQ])
 .obtain⟨q,t⟩:=o;simp only at h7;subst h7;refine .bind (.app cq (.bind (.app cq ?_)));rw[M7];have hk:∀(L:List D5) (V:List G8),L.length<=n->V.length<=n->(∀m∈L,m∈r.L)->Jq g n {r with In:=r.In.filter λx=>decide (x≠d),Gone:=r.Gone++[d],L:=L,V:=V}:=by grind [Jq]
  refine .ite (λ_=> .some ⟨(by grind),id⟩) λ_=>?_;refine .bind (T.mono (Q:=λx:List D5×List G8=>x.1.length<=n/\(∀m∈x.1,m∈r.L)/\x.2=[]) ?_ λc e=>?_)
  .refine T.mono (T.loop (Q:=λx:List D5×List G8=>x.1.length<=n/\(∀m∈x.1,m∈r.L)/\x.2=[]) (λs=>∃k:Nat,k<=r.L.length/\s.2.2=(k:Int)/\s.1.length<=k/\(∀m∈s.1,m∈r.L)/\s.2.1=[]) (λs=>r.L.length-s.2.2.toNat) (by grind) cq ?_) λ_ hx=>hx;rintro⟨a,b,i⟩ ⟨k,hk,rfl,ha,hs,hb⟩;simp only at ha hs hb;rcases Hx k r.L.length with hl|hg
   .obtain⟨y,hy,f⟩:=dk hl;have hm:wI ((k:Int)+1)=((k+1:Nat):Int):=aq aa;unfold ui;simp only[eA hl,ax,au,hy,aL];refine .dec (λhp=> .bind (.app cq (.some ⟨⟨k+1,aa,hm,by simp;omega,λm hmm=>?_,hb⟩,?_⟩))) λhp=> .some ⟨⟨k+1,aa,hm,Nat.le_succ_of_le ha,hs,hb⟩,?_⟩;all_goals grind
   .obtain rfl:k=r.L.length:=aa;unfold ui;dsimp only;rw[eF,A9];exact .some ⟨MI ha h2,hs,hb⟩
  .obtain⟨L,V⟩:=c;obtain⟨hL,hs,hV⟩:=e;simp only at hL hs hV;subst hV;have hx:=hk L r.V hL h3 hs;refine .bind (T.mono (Q:=λv:List G8=>v.length<=n) (T.forA r.V.length (λk acc=>acc.length<=k) aa aC (λk acc hkl hj=>?_) λacc hj=>?_) λl h30=> .some ⟨hk L l hL h30 hs,λnd m hm=>nd m (hs m hm)⟩)
   .obtain⟨y,hy,f⟩:=dk hkl;unfold uh;simp only[eA hkl,ax,au,hy,aL];refine .bind ((zd hx hn y.Of).mono λv _=> .dec (λ_=> .bind (.app cq (.some ⟨aq aa,by simp;omega⟩))) λ_=> .some ⟨aq aa,Nat.le_succ_of_le hj⟩)
   .unfold uh;dsimp only;rw[eF,A9];exact .some (MI hj h3)
theorem N5(w:Fq g)(hn:n<=100000)(h:Jq g n r)(d:Int):T (sh r d) λr'=>Jq g n r'/\(Nd r->Nd r'):=CC w h (Nat.le_succ_of_le hn) d
end
theorem yi{l:List D5}(hl:l.length<=1000000){k:Nat}(hk:k<l.length)(m:D5):T (o6 l (k:Int) m) λr=>r=l.set k m:=by grind [o6,T.bind,T.app,T.set]
theorem Mu{l:List D5}{m x:D5}(h:x∈l.set k m):x∈l\/x=m:=by grind
section
variable {g:A7} {n:Nat} {r:Dl}
theorem Jq.setL(h:Jq g n r){k:Nat}{m:D5}(hm:m.Guards.length<=1000):Jq g n {r with L:=r.L.set k m}:=by grind [Jq]
theorem Nd.setL(h:Nd r){k:Nat}{m:D5}(hm:m.Is=true->1<=m.Need):Nd {r with L:=r.L.set k m}:=λx hx=>by
 rcases Mu hx with hx|rfl
 .exact h x hx
 .exact hm
theorem Jq.setV(h:Jq g n r){V:List G8}(hV:V.length<=n):Jq g n {r with V:=V}:=by grind [Jq]
theorem Ga(w:Fq g)(hn:n<=100000)(h:Jq g n r)(so:Bf o)(a:Ab):T (o7 r o a) λr'=>Jq g n r'/\((o.Kind=9->1<=o.Need)->o.Kind=9->Nd r->Nd r'):=by
 have h2:=h.nL;have h3:=h.nV;unfold o7;refine .bindc (dM w h _) λc _=> .bind ((d9 h aa c).mono λj hv=> .dec (by grind [T.some]) λhp=>?_);rcases hv with hv|⟨k,rfl,hk⟩
 .omega
 obtain⟨y,hy,hm⟩:=dk hk;simp only[au,hy,aL];refine .bind ((yi aa hk _).mono λd e=>?_);subst e;have hx:=h.setL (k:=k) (m:=⟨y.N,y.Role,true,a,o.Guards,o.Need,o.Wait,false,0⟩) so.sGuards.1;refine .bind (T.mono (Q:=λv:List G8=>v.length<=n) (T.forA r.V.length (λk acc=>acc.length<=k) aa aC (λk acc hkl hj=>?_) λacc hj=>?_) λf h30=> .some ⟨hx.setV h30,λhd b nd=>?_⟩)
 .obtain⟨y,hy,i⟩:=dk hkl;unfold ni;simp only[eA hkl,ax,au,hy,aL];refine .bind ((u4 hn hx y.Of).mono λv _=> .dec (λ_=> .bind (.app cq (.some ⟨aq aa,by simp;omega⟩))) λ_=> .some ⟨aq aa,Nat.le_succ_of_le hj⟩)
 .unfold ni;dsimp only;rw[eF,A9];exact .some (MI hj h3)
 .exact nd.setL (k:=k) λ_=>hd b
theorem ze(w:Fq g)(hn:n<=100000)(h:Jq g n r)(o:Bp):T (nY r o) λv=>v.2≠0\/∃(k:Nat) (m:D5),v.1=(k:Int)/\r.L[k]?=some m/\m.Is=true:=by unfold nY;refine .bind ((u4 hn h o.Of).mono λv hv=> .dec (by grind [T.some]) λhp=>?_);grind [au,cX,Jq.mem,T.some]
theorem Gb(w:Fq g)(hn:n<=100000)(h:Jq g n r)(o:Bp):T (o8 r o) λr'=>Jq g (n+1) r'/\(Nd r->Nd r'):=by
 have h3:=h.nV;unfold o8;refine .bind ((ze w hn h o).mono λd _=> .dec (by grind [T.some,Jq.up]) λ_=>?_);refine .bind (T.mono (Q:=λx:Int×List G8=>x.2.length<=n) ?_ λe h5=> .bind (.app cq (.some ⟨(by grind [Jq.setV,Jq.up]),λnd=>nd⟩)));refine T.mono (T.loop (Q:=λx:Int×List G8=>x.2.length<=n) (λs=>∃k:Nat,k<=r.V.length/\s.2.2=(k:Int)/\s.2.1.length<=k) (λs=>r.V.length-s.2.2.toNat) (by grind) cq ?_) λ_ hx=>hx;rintro⟨a,b,i⟩ ⟨k,hk,rfl,ha⟩;simp only at ha;rcases Hx k r.V.length with hl|hg
 .obtain⟨y,hy,c⟩:=dk hl;have hm:wI ((k:Int)+1)=((k+1:Nat):Int):=aq aa;have hμ:r.V.length-(wI ((k:Int)+1)).toNat<r.V.length-((k:Int)).toNat:=by rw[hm];simp;omega
  unfold nj;simp only[eA hl,ax,au,hy,aL];refine .bindc ?_ λj _=> .ite (λ_=> .some (by constructor<;>grind)) λ_=> .bind (.app cq (.some (by constructor<;>grind)));grind [T.some]
 .obtain rfl:k=r.V.length:=aa;unfold nj;dsimp only;rw[eF,A9];exact .some (MI ha h3)
theorem N6(w:Fq g)(hn:n<=100000)(h:Jq g n r){o:Bp}{step:Be×Int->Option ((Be×Int)⊕Be)}(he:step=λs=>bif decide (s.2<ah r.In) then((aS r.In s.2).bind λa=>(gE r a).bind λb=>bif decide (b=o.Member) then((aS r.In s.2).bind λc=>(aT 8 s.1 ([c]:Be)).bind λd=>some (.inl (d,wI (s.2+1)))) else(some (.inl (s.1,wI (s.2+1))))) else(some (.inr s.1))):T (AB step ([],0)) λl=>l.length<=n:=by
 have h1:=h.dev;subst he;refine T.forA r.In.length (λk acc=>acc.length<=k) aa aC (λk acc hk hj=>?_) λacc hj=>?_
 .obtain⟨y,hy,e⟩:=dk hk;simp only[eA hk,ax,au,hy,aL];refine .bindc (dM w h y) λv _=> .dec (λ_=> .bind (.app cq (.some ⟨aq aa,by simp;omega⟩))) λ_=> .some ⟨aq aa,Nat.le_succ_of_le hj⟩
 .dsimp only;rw[eF,A9];exact .some (by show acc.length<=n;omega)
theorem Gc(w:Fq g)(hn:n<=100000)(h:Jq g n r)(so:Bf o)(c:Ab):T (DM r o c) λr'=>Jq g (n+1) r'/\((o.Kind=9->1<=o.Need)->Nd r->Nd r'):=by
 have h1:=h.dev;have h2:=h.nL;have up:=h.up (Nat.le_succ n);unfold DM;refine .bindc (dM w h _) λd _=> .bind ((d9 h aa d).mono λf hv=> .dec (λ_=>?_) λ_=>?_)
 .refine .bindc (by grind [T.some]) λj _=> .ite (by grind [T.some]) λ_=> .bind ((uZ w hn h _ _).mono λu h9=> .some ⟨(by grind [Jq]),λ_ nd=>h9.2 nd⟩)
 refine .dec (λ_=> .bind (by grind [T.mono,uZ,T.some])) λ_=>?_;refine .dec (λ_=>?_) λ_=>?_
 .refine .bind (T.mono (Q:=λx:Be⊕Dl=>∃l,x= .inl l/\l.length<=n+1) (.dec (λ_=> .bind ((N6 w hn h (o:=o) rfl).mono (by grind [T.some]))) (by grind [T.some])) λx hx=>?_);obtain⟨l,rfl,hl⟩:=hx;refine .bind (T.mono (Q:=λr':Dl=>Jq g n r'/\(Nd r->Nd r')) (T.forA l.length (λ_ r'=>Jq g n r'/\(Nd r->Nd r')) aa ⟨h,λnd=>nd⟩ (λk acc hk hj=>?_) λacc hj=>?_) (by grind [T.some,Jq.up]))
  .obtain⟨y,hy,i⟩:=dk hk;unfold AT;simp only[eA hk,ax,au,hy,aL];exact .bind ((N5 w hn hj.1 y).mono λv hv=> .some (by constructor<;>grind [aq]))
  .unfold AT;dsimp only;rw[eF,A9];exact .some hj
 refine .dec (λ_=>?_) λ_=>?_
 .refine .bind ((d9 h aa o.Member).mono λv hv=> .dec (λhp=>?_) (by grind [T.some]));rcases hv with hv|⟨k,rfl,hk⟩
  .omega
  obtain⟨y,hy,hm⟩:=dk hk;rw[au,hy,aL];refine .bind ((yi aa hk _).mono λa e=> .some ?_);subst e;exact⟨up.setL (h.mem y hm),λ_ nd=>nd.setL λe=>nd y hm e⟩
 refine .dec (λhk=> .bind (by grind [T.mono,Ga,T.some,Jq.up])) λ_=>?_;refine .dec (λ_=> .bind (by grind [T.mono,Gb,T.some])) λ_=>?_;refine .dec (λ_=>?_) λ_=>?_
 .refine .bind (T.mono (Q:=λb:Bool=>b=true->0<=f) (.dec (λh0=>?_) (by grind [T.some])) λb hb=> .ite (λe=>?_) (by grind [T.some]))
  .grind [EY,au,T.some]
  .have h0:=hb e;rcases hv with hv|⟨k,rfl,hk⟩
   .omega
   obtain⟨y,hy,hm⟩:=dk hk;rw[au,hy,aL];refine .bind ((yi aa hk _).mono λa e=> .some ?_);subst e;exact⟨up.setL (h.mem y hm),λ_ nd=>nd.setL λe=>nd y hm e⟩
 refine .dec (λ_=>?_) (by grind [T.some]);refine .bind ((u4 hn h o.Of).mono λm hv=> .bindc (.dec (λh0=>?_) λ_=> .some trivial) λj _=> .ite (λ_=>?_) (by grind [T.some]))
 .grind [EY,cX,au,T.bindc,dM,T.some]
 .exact .bindc (dM w h _) λp _=> .bindc (yh hn h _) λq _=> .bind ((uZ w hn h _ _).mono λs t=> .bind (by grind [T.mono,CC,T.some]))
end
theorem Fq.inrow{g:A7}(w:Fq g){i:Nat}(h:i<g.L.length):∃r,g.In[i]?=some r/\r.length=g.L.length:=by obtain⟨r,hr,_⟩:=dk (l:=g.In) (k:=i) (by rw[w.nN];exact h);grind [rows]
theorem Fq.cell{g:A7}(w:Fq g){i k:Nat}(h:i<g.L.length)(hk:k<g.L.length):∃r b,g.In[i]?=some r/\r[k]?=some b:=by obtain⟨r,hr,hl⟩:=w.inrow h;simp_all
theorem Mv(g:A7):Jq g 0 ⟨g.Cards,[],[],[],0,[]⟩:=by grind [Jq]
theorem Oc{n:Nat}(h:2<=n)(hn:n<=1000000):T (zZ (n:Int)) λv=>∃k:Nat,v=(k:Int)/\1<=k/\k<n:=by
 unfold zZ;refine .bind (T.mono (Q:=λv:Int=>∃k:Nat,v=(k:Int)/\1<=k/\k<n) (T.loop (λs=>∃k:Nat,s=(k:Int)/\1<=k/\k<n) (λs=>n-s.toNat) ⟨1,rfl,aa,aa⟩ cq ?_) λv hv=> .some hv);rintro s ⟨k,rfl,h1,h2⟩;unfold AE;have e:wI (2*(k:Int))=((2*k:Nat):Int):=by grind [bM]
 rw[e];refine .dec (λhp=> .some ⟨⟨2*k,rfl,aa,aa⟩,?_⟩) λ_=> .some ⟨k,rfl,h1,h2⟩;simp;omega
theorem u6:∀(nn:Nat) (l:Be),l.length<nn->l.length<=1000000->T (KF nn l) λr=>r.length<=2*l.length-1/\∀y∈r,y.length<=l.length
 |0,_,h,_=>absurd h (Nat.not_lt_zero _)
 |nn+1,l,h,hl=>by
  unfold KF;refine .dec (λ_=> .some ⟨aC,aC⟩) λh0=> .dec (λh1=>?_) λh1=>?_
  .grind [ah,T.some]
  .unfold ah at h0 h1⊢;refine .bind ((Oc (n:=l.length) aa hl).mono λd hv=>?_);obtain⟨k,rfl,k1,k2⟩:=hv;refine .bind (.pre aa aa ?_);rw[Fv];refine .bind ((u6 nn (l.take k) cq cq).mono λe h7=> .bind (.app (by simp at h7⊢;omega) (.bind (.suf aa aa ?_))));rw[Fv];refine .bind ((u6 nn (l.drop k) cq cq).mono λc h13=> .bind (.app (by simp at h7 h13⊢;omega) (.some ?_)));simp only[N3,List.length_drop] at h7 h13;have e1:min k l.length=k:=aa;rw[e1] at h7;refine⟨?_,λy hy=>?_⟩
   .have a:=h7.1;have b:=h13.1;simp only[Sq,List.length_singleton];omega
   .simp only[I5,List.mem_singleton] at hy;rcases hy with(rfl|hy)|hy
    .exact Dx _
    .have:=h7.2 y hy;omega
    .have:=h13.2 y hy;omega
theorem Od{l:Be}(hl:l.length<=100000)(d:Int):T (NN l d) λr=>r.length<=200000:=by
 unfold NN z0;refine .bind ((u6 _ l aa aa).mono λb h1=>?_);have e:wI (ah b-1)=ah b-1:=by grind [bM,ah]
 rw[e];refine .bind (T.mono (Q:=λr:Ly=>r.length<=200000) (T.loop (λs=> -1<=s.2/\s.2<(b.length:Int)/\s.1.length+(s.2+1).toNat<=b.length) (λs=>(s.2+1).toNat) (by grind [ah]) (by grind [ah]) ?_) λ_ h=> .some h);rintro⟨a,i⟩ ⟨i1,c,f⟩;simp only at i1 c f;unfold AF;refine .dec (λh0=>?_) λ_=> .some (by show a.length<=_;omega);replace h0:0<=i:=h0;refine .bind (.ixl h0 (by show i<_;omega) λy hy hm=>?_);have hw:wI (i-1)=i-1:=bM aa aa;rw[cX (by have:=h1.2 y hm;omega),aL];refine .ite (λ_=>?_) λ_=> .some ⟨⟨?_,?_,?_⟩,?_⟩
 .rw[show aS b (a,i).2=aS b i from rfl];refine .bind (.ixl h0 aa λz _ _=> .bind (.app (by show(a.length+1)*24<=_;omega) (.some ⟨⟨?_,?_,?_⟩,?_⟩)));all_goals grind
 all_goals grind
theorem zh(k:Int):T (E7 k) λ_=>True:=by grind [E7,T.some]
inductive Lu (g0:A7):A7->Prop
 |base:Lu g0 g0
 |step {g:A7} {o:Bp} {id:Ab} {up:Be} {row:List Bool}:Lu g0 g->Fq g->Bf o->fS o.Sig.R->fS o.Sig.S->RG g o up->pV o=some id->jA g up=some row->Lu g0 (pL g o id up row)
def u7:LT:=(ql [1,2,3,1,2,3]).getD []
theorem Oe:ql [1,2,3,1,2,3]=some u7:=aH
def KK(c:DL):Bool:=decide (1<=c.Device/\c.Device<=6/\1<=c.Member/\c.Member<=3/\c.Sign<18446744073709551616)
theorem Og:u7.all KK=true:=aH
theorem KL:u7.length=6:=aH
attribute [irreducible] u7
def g0:A7:=⟨u7,[],[],[],[]⟩
theorem Yu:Fq g0 where
 nL:=by simp[g0]
 nI:=rfl
 nU:=rfl
 nN:=rfl
 nC:=by show u7.length<=1000;rw[KL];decide
 cards:=λc hc=>by have h:KK c=true:=GL.1 Og c hc;grind [KK,c8,fS]
 up:=by grind [g0]
 rows:=by grind [g0]
 inlt:=by grind [Q2,g0]
 ops:=by grind [g0]
 ids:=by grind [g0]
 nd:=by simp[g0]
 one:=by grind [g0]
 tr:=by grind [g0]
 la:=by grind [Q2,g0]
def We(c:Int):Bp:=⟨1,1,1,0,[],0,0,0,0,[],⟨0,0,0⟩,0,[],[],⟨0,0,0⟩,[],c,0,[],0,[],⟨0,0⟩⟩
theorem Yv{a b:Int}(ha:c8 a)(hb:c8 b):∃c∈([0,1,2,3]:Be),sd g0 a b=some (We c):=by
 obtain⟨d,e1,h1⟩:=eX ha (show(0:Int)<1000000 by decide);obtain⟨e,e3,h3⟩:=eX hb (show(0:Int)<1000000 by decide);obtain⟨f,e5,_⟩:=EE h3.1;refine⟨d.tmod 4,?_,?_⟩
 .grind
 .unfold sd;rw[e1,aL,e3,aL,e5,aL];rfl
def Mw(c:Int)(b:Bool):Option (A7×Int):=(jm g0 ({We c with Path:=[]})).bind λa=>(bif b then(some (wI ((ah a)+1))) else(some (ah a))).bind λd=>(E7 (We c).Kind).bind λe=>(AB (lw (g0,0) d e) ([],0)).bind λf=>(nR ({We c with Path:=f})).bind λg=>AO g0 g
theorem QO:(([0,1,2,3]:Be).all λc=>[true,false].all λb=>(Mw c b).map (λr=>(r.2,r.1.L.length))==some (0,1))=true:=aH
theorem Tm(hc:c∈([0,1,2,3]:Be))(b:Bool):∃r,Mw c b=some r/\r.2=0/\r.1.L.length=1:=by have h:=GL.1 (GL.1 QO c hc) b (by cases b<;>simp);simp_all
theorem KM{l:Be}(hi:∀x∈l,c8 x){most:Int}(h0:0<most){r:(A7×Int)⊕A7}(h:ly l most (g0,((0:Nat):Int))=some r):∃g,r= .inl (g,1)/\g.L.length=1:=by
 have at_:∀(n:Int),0<=n->∃v,c8 v/\(bif decide (n<ah l) then((aS l n).bind λk=>some k) else(some 0))=some v:=by grind [ah,aS,dP]
 have e2:wI (2*((0:Nat):Int))=0:=bM B5 B5;have e3:wI ((0:Int)+1)=1:=bM B5 B5;have e4:wI (((0:Nat):Int)+1)=1:=bM B5 B5;obtain⟨a,ha,p⟩:=at_ 0 B5;obtain⟨b,hb,eb⟩:=at_ 1 B5;obtain⟨c,hc,s⟩:=Yv ha hb;obtain⟨d,m,_⟩:=eX hb (show(0:Int)<31 by decide);obtain⟨q,hq,q1,t⟩:=Tm hc (decide (d=30));unfold Mw at hq;unfold ly at h;simp only[e2,e3,e4] at h;rw[C3 (by grind),C3 (by grind),ax,ax,aL,ax,p,aL,eb,aL,s,aL] at h;cases hs:jm g0 ({We c with Path:=[]}) with
 |none=>rw[hs] at hq;cases hq
 |some e=>
  rw[hs,aL] at hq;rw[hs,aL,m,aL] at h;cases hj:(bif decide (d=30) then(some (wI ((ah e)+1))) else(some (ah e)):JM) with
  |none=>rw[hj] at hq;cases hq
  |some f=>
   rw[hj,aL] at hq h;cases hk:E7 (We c).Kind with
   |none=>rw[hk] at hq;cases hq
   |some i=>
    rw[hk,aL] at hq h;cases hx:AB (lw (g0,0) f i) ([],0) with
    |none=>rw[hx] at hq;cases hq
    |some j=>
     rw[hx,aL] at hq;rw[show AB (lw (g0,((0:Nat):Int)) f i) ([],0)=some j from hx,aL] at h;cases hg:nR ({We c with Path:=j}) with
     |none=>rw[hg] at hq;cases hq
     |some o=>grind
theorem T6(m:JJ)(i:Ab)(n:Int)(x:Ab):(CW m i n).get x=match m.get x with|some v=>some v|none=>if i=x then some n else none:=by grind [CW,FM.get]
theorem EV{k x:Ab}:∀{l:Bc},bu k (l++[x])=match bu k l with|some n=>some n|none=>if x=k then some l.length else none
 |[]=>by grind [bu]
 |y::r=>by
  rw[List.cons_append,bu,bu];by_cases e:k=y
  .rw[Bx e,Bx e]
  .rw[BA e,BA e,EV (l:=r)];grind
theorem T7(hn:g.Cards.length<=1000000){c:DL}(h:mZ g d=(c,true)):hY ⟨g.Cards,m,N⟩ d=some (c,true):=by
 unfold mZ at h;unfold hY;refine T.eq (.bind (T.forA g.Cards.length (λk acc=>∀(j:Nat) (c:DL),j<k->g.Cards[j]?=some c->c.Device≠d) aa (by grind) (λk acc hk hj=>?_) λacc hj=>?_))
 .obtain⟨x,hx⟩:∃x,g.Cards[k]?=some x:=⟨_,DR hk⟩;unfold ij;dsimp only;rw[eA hk,ax,au,hx,aL];refine .dec (λe=> .some (.some ?_)) λe=> .some ⟨aq aa,λj c' a b=>?_⟩
  .grind [List.find?_eq_some_iff_getElem]
  grind
 grind [G9]
theorem T8(w:Fq g)(pg:Oa g m N){up:Be}{row:List Bool}(sm:Bf o)(hs:fS o.Sig.S)(a:RG g o up)(hid:pV o=some id)(hrow:jA g up=some row):
  ∃y:CO,y.o=o/\y.id=id/\Oa (pL g o id up row) (CW m id N.length) (N++[y])/\jg prog fI 101 [.ref 0 0,.agg (aJ o)] [(0,oG g.Cards N.length 2),(1,oM m),(2,zQ N)] 3 (iG 0) [(0,oG g.Cards (N++[y]).length 3),(1,oM (CW m id N.length)),(3,zQ (N++[y]))] 4:=by
 have nL:=w.nL
 have nI:=w.nI
 have pl:=pg.len
 have hro:=a.room
 have f:=T1 a.check.numbers
 have ul:up.length<=12:=by rw[a.upl];exact pK a.check.long
 obtain⟨s,d,r,t⟩:=yc w (up:=up) aa a.upb
 rw[hrow] at d
 cases d
 obtain⟨E,e,hfr⟩:=a.id
 rw[hid] at e
 cases e
 obtain⟨c,hc,i⟩:=a.card
 obtain⟨K,hr1,hr2⟩:=a.right
 rw[hrow] at hr1
 cases hr1
 obtain⟨v,hv,l⟩:=Xb w (o:=o) r
 rw[hr2] at hv
 cases hv
 have hR:=l rfl
 obtain⟨⟨p,b,F,lev⟩,h1,e1,e2,e3,e4,e5,e8⟩:=ZF w pg a sm
 dsimp only at e1 e2 e3 e4 e5 e8
 have hbeh:∀j:Nat,j<256->(gW (Q4 b p) j=true↔HB g up j):=by grind [RP,HB]
 obtain⟨⟨last,H⟩,h4,e6,e7⟩:=ZG (A:=Q4 b p) w pg f (by grind) hR
 dsimp only at e6 e7
 obtain⟨I,q,ho2⟩:=TU sm
 rw[hid] at ho2
 cases ho2
 have ap:AdE g.Cards m N o id c (pT o.Kind):={
  chk:=RL a.check sm
  sm:=sm
  cl:=RM sm
  id:=q
  fresh:=by rw[pg.get,hfr];rfl
  room:=aa
  card:=T7 (by have:=w.nC;omega) hc
  by_:=(yd hc).2.symm
  sig:=TW (by have:=yY sm;omega) i
  create:=by grind [RG.create]
  nPast:=by have:=sm.nPast;omega
  par:=λx hx=>by obtain⟨k,hk⟩:=G9 hx;obtain⟨n,hn,_⟩:=a.par k x hk;have hnl:n<g.IDs.length:=(cr (gb hn).1).1;grind [Oa.get]}
 have h2:ZA p b 4=z4:=by grind [RQ,RG.apart]
 refine⟨⟨o,id,Q4 b p,lev⟩,rfl,rfl,⟨?_,?_,?_,?_⟩,(by grind [W7])⟩
 .show(N++[_]).length=(g.L++[o]).length
  simp[pl]
 .intro k y hy
  have inx:=kU w (o:=o) (id:=id) (up:=up) r
  rcases je hy with⟨hk,h⟩|⟨hk,rfl⟩
  .obtain⟨z,B,J,C,D⟩:=pg.nd k y h
   refine⟨Ms z,Ms B,λj hj=>?_,C,D⟩
   grind
  .subst hk
   refine⟨by rw[pl];exact F8,by rw[show N.length=g.IDs.length by omega];exact F8,λj hj=>?_,e4,e5⟩
   have:=inx N.length j
   have hb:=hbeh j hj
   have hrj:row[j]?=some true↔HB g up j:=by
    rcases Hx j g.L.length with h|h
    .exact t j h
    .constructor
     .grind
     .rintro(h2|⟨n,h2,h3⟩)
      .have:=(a.upb _ h2).2;omega
      .have:=w.inlt n j h3;omega
   grind
 .intro x
  rw[T6,pg.get,show(pL g o id up row).IDs=g.IDs++[id] from rfl,EV]
  cases bu x g.IDs<;>grind
 .intro k y u hy hu
  have hUp:(pL g o id up row).Up=g.Up++[up]:=rfl
  have nU:=w.nU
  rw[hUp] at hu
  rcases je hy with⟨hk,h⟩|⟨hk,rfl⟩
  .rw[List.getElem?_append_left aa] at hu
   rw[pg.lv k y u h hu]
   refine(AcV λx hx=>?_).symm
   have:=(w.up k u hu).2 x hx
   omega
  .subst hk
   rw[List.getElem?_append_right aa,show N.length-g.Up.length=0 by omega] at hu
   obtain rfl:=Bj hu
   show lev=_
   rw[e8]
   refine(AcV λx hx=>?_).symm
   have:=a.upb x hx
   omega
theorem OL{b:A7}(h:Lu b g)(hb:b.L=[])(hi:b.IDs=[])(hs:xf b.Cards):∃(c:Nat->JJ) (N:JD),g.Cards=b.Cards/\g.L.length<=200/\Abd g c N/\Oa g (c g.L.length) N:=by
 induction h with
 |base=>refine⟨λ_=>⟨[],0⟩,[],rfl,by rw[hb];exact Nat.zero_le _,⟨hs,by rw[hb];exact Nat.zero_le _,by rw[hb];rfl,rfl,λk o ho=>by rw[hb] at ho;simp at ho⟩,⟨by rw[hb];rfl,λk y hy=>by simp at hy,(λx=>by rw[hi];rfl),(λk y u hy=>by simp at hy)⟩⟩
 | @step g o id up row gr w sm _ d a hid hrow ih=>
  obtain⟨c,N,hc,hl,hrun,pg⟩:=ih;have pl:=pg.len;have hro:=a.room;obtain⟨y,f,i,e,hm⟩:=T8 w pg sm d a hid hrow;have el:(pL g o id up row).L=g.L++[o]:=rfl;have ell:(pL g o id up row).L.length=g.L.length+1:=by rw[el];simp
  have eC:(pL g o id up row).Cards=g.Cards:=rfl;refine⟨λk=>if k<=g.L.length then c k else CW (c g.L.length) id N.length,N++[y],hc,aa,⟨by rw[eC];exact hrun.srt,aa,by rw[ell];simp[pl],by show(if 0<=g.L.length then c 0 else _)=_;rw[Bx (Nat.zero_le _)];exact hrun.m0,λk p hp=>?_⟩,?_⟩
  .rw[eC];rcases je (l:=g.L) (x:=o) hp with⟨hk,h⟩|⟨hk,rfl⟩
   .grind [Abd.step]
   grind
  .rw[ell];dsimp only;rw[BA aa];exact e
structure Uk (gg:Aj):Prop where
 pos:∀x n,gg.at_.get x=some n->∃(k:Nat) (y:CO),n=(k:Int)/\gg.nodes[k]?=some y/\k<256
 cl:∀y∈gg.nodes,pG y.o=some y.o
 nc:gg.cards.length<=1000
def M3(gg:Aj)(x:Ab):Option CO:=(gg.at_.get x).bind λn=>aS gg.nodes n
def AfW(gg:Aj)(x y:Ab):Bool:=match gg.at_.get x,M3 gg y with
 |some n,some b=>gW b.past n.toNat
 |_,_=>false
def Re(gg:Aj):Gi:=⟨λx=>(M3 gg x).map (·.o),AfW gg,λx=>match M3 gg x with|some y=>y.level|none=>0,gg.cards,λd=>gg.cards.find? λc=>decide (c.Device=d)⟩
theorem Ul(h:Uk gg)(e:gg.at_.get x=some n):∃(k:Nat) (y:CO),n=(k:Int)/\aS gg.nodes n=some y/\M3 gg x=some y/\k<256/\y∈gg.nodes:=by
 obtain⟨k,y,rfl,hy,hk⟩:=h.pos x n e;have hz:aS gg.nodes (k:Int)=some y:=by rw[au];exact hy
 refine⟨k,y,rfl,hz,?_,hk,bO hy⟩;unfold M3;rw[e];exact hz
theorem WG(e:gg.at_.get x=none):M3 gg x=none:=by unfold M3;rw[e];rfl
def X9(q:Ab->Bool)(l:Bc)(j:Nat):Nat:=((l.take j).filter q).length
def wK(q:Ab->Bool)(l:Bc)(j:Nat):Bc:=(l.take j).filter q++l.drop (X9 q l j)
theorem Alv{q:Ab->Bool}{l:Bc}{j:Nat}:X9 q l j<=j/\X9 q l j<=l.length:=by grind [X9]
theorem Acu{q:Ab->Bool}{l:Bc}{j:Nat}:(wK q l j).length=l.length:=by grind [wK,X9]
theorem Alw{q:Ab->Bool}{l:Bc}:(wK q l j)[j]?=l[j]? :=by grind [wK,X9]
theorem Alx{q:Ab->Bool}{l:Bc}(hx:l[j]?=some x)(hq:q x=false):X9 q l (j+1)=X9 q l j/\wK q l (j+1)=wK q l j:=by grind [Jn,X9,wK]
theorem Anp{q:Ab->Bool}{l:Bc}(hx:l[j]?=some x)(hq:q x=true):X9 q l (j+1)=X9 q l j+1/\ji (wK q l j) ((X9 q l j:Nat):Int) x=some (wK q l (j+1)):=by
 have e:(l.take (j+1)).filter q=(l.take j).filter q++[x]:=by grind [Jn]
 have e2:X9 q l (j+1)=X9 q l j+1:=by grind [X9]
 grind [ji,Acu,wK,List.set_append_right,X9,List.drop_eq_getElem_cons]
theorem Aly{q:Ab->Bool}{l:Bc}(h:l.findIdx? (λx=> !q x)=some i):i<l.length/\X9 q l (i+1)=i/\wK q l (i+1)=l:=by
 obtain⟨hi,h1,h2⟩:=List.findIdx?_eq_some_iff_getElem.1 h;have e:(l.take i).filter q=l.take i:=by grind [List.filter_eq_self,List.getElem_of_mem]
 have hx:l[i]?=some l[i]:=DR hi;grind [X9,Alx,wK,O6]
theorem Alz{q:Ab->Bool}{l:Bc}(h:l.any (λx=> !q x)=false):l.filter q=l:=by grind [List.filter_eq_self]
theorem Acv{q:Ab->Bool}{l:Bc}:(wK q l l.length).take (l.filter q).length=l.filter q/\X9 q l l.length=(l.filter q).length:=by grind [wK,X9]
theorem Ahz{s:Bc}{f:Ab->Fo}{p:Ab->Bool}(hn:s.length<2305843009213693952)(hf:∀x∈s,f x=some (p x)):(UD s f=some (-1)/\s.any p=false)\/∃j:Nat,UD s f=some (j:Int)/\s.findIdx? p=some j:=by
 obtain⟨r,h1,h2⟩:=Ahf (s:=s) p hn (step:=Hv s f) (λk x hx=>by unfold Hv;rw[Dk hx,ax,Bg hx,aL,hf x (bO hx),aL];cases p x<;>simp) (by unfold Hv;rw[D4];rfl)
 unfold UD;rw[h1];rcases h2 with⟨rfl,h2⟩|⟨j,rfl,h2,h3⟩
 .exact .inl ⟨rfl,h2⟩
 .exact .inr ⟨j,rfl,h3⟩
def dfT(del:Ab->Bool)(s:Nat×Nat×Bc):Option ((Nat×Nat×Bc)⊕(Nat×Bc)):=
 bif decide (s.2.2.length<=1000/\s.2.1<=s.1) then bif decide ((s.1:Int)<ah s.2.2) then(aS s.2.2 (s.1:Int)).bind λx=>bif del x then some (.inl (s.1+1,s.2.1,s.2.2)) else(ji s.2.2 (s.2.1:Int) x).bind λW=>some (.inl (s.1+1,s.2.1+1,W)) else some (.inr s.2) else none
theorem AlA{del:Ab->Bool}{l:Bc}(hl:l.length<=1000)(h:l.findIdx? del=some i):AB (dfT del) (i+1,i,l)=some ((l.filter λx=> !del x).length,wK (λx=> !del x) l l.length):=by
 have h':l.findIdx? (λx=> !(!del x))=some i:=by simpa using h
 obtain⟨hi,k1,k2⟩:=Aly (q:=λx=> !del x) h';refine T.eq (T.loop (λs=>s.1<=l.length/\s.2.1=X9 (λx=> !del x) l s.1/\s.2.2=wK (λx=> !del x) l s.1) (λs=>l.length-s.1) (by grind) (by show l.length-(i+1)<_;omega) ?_);rintro⟨j,k,W⟩ ⟨hj,hk,a⟩;dsimp only at hj hk a;subst hk;subst a;unfold dfT;dsimp only;have hlen:=Acu (q:=λx=> !del x) (l:=l) (j:=j);rw[C3 (by grind [Alv]),ax];refine .dec (λhh=>?_) λhh=> .some ?_
 .unfold ah at hh;have hlt:j<l.length:=aa;have hx:l[j]?=some l[j]:=DR hlt;refine .bind (.ix aa (x:=l[j]) (by rw[Fv,Alw];exact hx) ?_);refine .ite (λhd=>?_) λhd=>?_
  .obtain⟨a1,a2⟩:=Alx (q:=λx=> !del x) hx (by simpa using hd);exact .some (by constructor<;>grind)
  .obtain⟨a1,a2⟩:=Anp (q:=λx=> !del x) hx (by simpa using hd);rw[a2];exact .some (by constructor<;>grind)
 .unfold ah at hh;obtain rfl:j=l.length:=aa;rw[Acv.2];exact rfl
abbrev zR(W:Bc)(i:Nat):Bn:=(W.flatMap aj).take (0+(i:Int).toNat*3)++(bN zI ((W.length-(i:Int).toNat)*3)).map .lit++(W.flatMap aj).drop (0+(i:Int).toNat*3+(W.length-(i:Int).toNat)*3)
theorem Ajy(W:Bc)(i:Nat):∀g∈zR W i,bB g:=by grind [AH.imm,ac,mN]
theorem AhA(h:i<=W.length):(zR W i).take (i*3)=(W.take i).flatMap aj:=by grind [Fv,O6,AH.len,ac]
section
variable {gl:CD}
end
abbrev tMI:Bo:=296
abbrev oLi(al:AQ)(v f:Nat):Option Ob:=some ⟨298,[.ptr (Ag al.g) 0,aE aj al.row,.mref v,.mref f],none⟩
abbrev WY(m:FM Ab Bool):Option Ob:=some (M5 tMI ga bG m)
abbrev oBl(b:Nat):Option Ob:=some ⟨216,[.ref b 0],none⟩
abbrev σL(al:AQ):aQ:=[(1,oBl 2),(2,oLi al 3 4),(3,WY al.void),(4,WY al.fork)]
abbrev ρL:DG:=[(0,0),(1,1),(2,2),(3,3),(4,4)]
abbrev kdL:List (Nat×Rk):=[(0,.row),(999999,.clo)]
theorem Acw(m:FM Ab Bool):∀e∈mEs ga bG m,bB e.2.1:=by grind [mN]
abbrev mLs(al:AQ):List HP:=[hc (Acw al.void),hc (Acw al.fork)]
theorem Aas(h1:ag st.σ b=oLi al v f)(h2:ag st.σ v=WY al.void)(h3:ag st.σ f=WY al.fork):ve P st (.ref b 0) (.ptr (BG al) 0):=by
 refine Mb h1 (Dx _) (Nt rfl λp hp=>?_);simp only[BG,List.zip_cons_cons,List.zip_nil_right,EO,KZ,or_false] at hp;rcases hp with rfl|rfl|rfl|rfl
 .exact jB (Ah _ _)
 .exact jB (FC _ _)
 .exact Om h2 λe _=>jB (mN _)
 .exact Om h3 λe _=>jB (mN _)
theorem AfY(h0:ag st.σ a=oBl b)(h1:ag st.σ b=oLi al v f)(h2:ag st.σ v=WY al.void)(h3:ag st.σ f=WY al.fork):ve P st (.ref a 0) (.ptr [.ptr (BG al) 0] 0):=by refine Mb h0 (Dx _) (Nt rfl λp hp=>?_);grind [List.zip_cons_cons,List.zip_nil_right,Aas]
section
variable {gl:CD}
theorem AjA{al:AQ}{r:Bool}{c:Nat}(a:aK prog fi=true)(hF:ba prog gl fi [.agg (aj x),.ptr [.ptr (BG al) 0] 0] (bG r)):oJ prog gl fi [.agg (aj x),.ref 1 0] (σL al) c (bG r) [] c:=
 PA a hF (lR _) rfl λst h i y z h1 h2=>by
  match i with
  |0=>cases h1;cases h2;exact jB (aG 20 (.agg (aj x)) aH)
  |1=>cases h1;cases h2;exact AfY (h 1 _ rfl) (h 2 _ rfl) (h 3 _ rfl) (h 4 _ rfl)
  |j+2=>cases h1
theorem AfZ{f:Ab->Fo}(hv:T9 prog gl fi [] [.ptr [.ptr (BG al) 0] 0] (λx:Ab=>[.agg (aj x)]) (λb:Bool=>bG b) f){l:Bc}{r:Int}(e:UD l f=some r):oJ prog gl 213 [.rsl 0 0 l.length,.clo (.func fi) [] [.ref 1 0]] ((0,Bw l)::σL al) 5 (iG r) [] 5:=
 PA aH (gS gl hv e) (lR _) rfl λst h i x y h1 h2=>by
  match i with
  |0=>
   cases h1;cases h2;exact FD (s:=3) (h 0 _ rfl) aH (by show 0+l.length*3<=(l.flatMap aj).length;rw[ac.len];omega) (ac.len l) λj g c a b=>by rw[Nat.zero_add] at a;rw[show(l.flatMap aj)[j]?=some g from a] at b;cases b;exact jB (ac.imm l g (bO a))
  |1=>
   cases h1;cases h2;exact SX rfl rfl (λi g c a b=>by cases a) (λi g c a b=>by
    match i with
    |0=>cases a;cases b;exact AfY (h 1 _ rfl) (h 2 _ rfl) (h 3 _ rfl) (h 4 _ rfl)
    |j+1=>cases a)
  |j+2=>cases h1
theorem Anr{al:AQ}{i:Nat}(h:i<W.length):rF prog ((0,Bw W)::σL al) 29 (.rsl 0 (0+(i:Int).toNat*3) (W.length-(i:Int).toNat))=some (0,⟨25,zR W i,none⟩):=by have e1:dp prog 29=some 25:=aH;have e2:jj prog 25=some zI:=aH;have e3:bw prog 25=some 3:=aH;have e4:ag ((0,Bw W)::σL al) 0=some ⟨25,W.flatMap aj,none⟩:=rfl;have e5:(i:Int).toNat=i:=Fv i;unfold rF;rw[e1];simp only[e2,e3,e4];rw[Bx ⟨rfl,aa,B5,by rw[ac.len];omega,rfl⟩]
theorem Acx{del:Ab->Bool}(a:aK prog fi=true)(hF:∀x,ba prog gl fi [.agg (aj x),.ptr [.ptr (BG al) 0] 0] (bG (del x))){l:Bc}(hl:l.length<=1000):UE prog gl 239 [.rsl 0 0 l.length,.clo (.func fi) [] [.ref 1 0]] ((0,Bw l)::σL al) 5 5 (.rsl 0 0 (l.filter λx=> !del x).length) ((0,Bw (l.filter λx=> !del x))::σL al):=by
 have hv:T9 prog gl fi [] [.ptr [.ptr (BG al) 0] 0] (λx:Ab=>[.agg (aj x)]) (λb:Bool=>bG b) (λx=>some (del x)):=⟨a,bf,eB aH,λx r e=>by cases e;exact hF x⟩;refine dFP func239 ?_;rcases Ahz (s:=l) (p:=del) aa (λx _=>rfl) with⟨e,h0⟩|⟨i,e,h0⟩
 .have hi:=AfZ hv e;rw[Alz (by simpa using h0)];exact ZT [hz 10 [0,1,2,3,4] hi] (hc (el l)::hc (ac.imm l)::mLs al) ρL kdL
 .have hi:=AfZ hv e;have hlt:=(List.findIdx?_eq_some_iff_getElem.1 h0).1;have hkn:(l.filter λx=> !del x).length<l.length:=by have:=Aly (q:=λx=> !del x) (by simpa using h0);have h2:=Acv (q:=λx=> !del x) (l:=l);refine Nat.lt_of_le_of_ne (NS _ _) λhe=>?_;have h3:=List.length_filter_eq_length_iff.1 he _ (List.getElem_mem hlt);have h4:=(List.findIdx?_eq_some_iff_getElem.1 h0).2.1;simp[h4] at h3
  refine pN (λs:Nat×Nat×Bc=>(s0 42 gl [(0,.rsl 0 0 s.2.2.length),(1,.clo (.func fi) [] [.ref 1 0]),(5,iG (s.2.1:Int)),(6,iG (s.1:Int))] ((0,Bw s.2.2)::σL al) 5 5)) 11110122 (AlA hl h0) [hz 10 [0,1,2,3,4] hi,hr 12 (show decide ((i:Int)= -1)=false from C6 aa),hbb 15 (Xl (q:=i) aa)] (hc (el l)::hc (ac.imm l)::mLs al) (λB s w hs k5 g=>?_) [] ρL kdL;obtain⟨j,k,W⟩:=s;unfold dfT at hs;dsimp only at hs;cases b0:decide (W.length<=1000/\k<=j) with
  |false=>rw[b0] at hs;cases hs
  |true=>
  rw[b0,ax] at hs;obtain⟨g1,g2⟩:=DP b0;rcases bC hs with⟨b1,hs⟩|⟨b1,hs⟩
  .have hjl:=DP b1;unfold ah at hjl;obtain⟨x,ex,hs⟩:=bS hs;have hcl:=AjA (al:=al) (c:=6) a (hF x);have hjb:j<1000000:=aa;cases hd:del x with
   |true=>rw[hd] at hs hcl;obtain rfl:=Bj hs;exact jw [hr 19 b1,AA 24 (ac.ixrZ 0 ex),AA 25 (ac.pt0Z aW ex),hz 28 [1,2,3,4] hcl,hbb 21 (Xl (q:=j) aa)] (hc (el W)::hc (ac.imm W)::mLs al) (k5 _ rfl) [] ρL kdL
   |false=>rw[hd] at hs hcl;obtain⟨d,e2,hs⟩:=bS hs;obtain rfl:=Bj hs;have hkb:k<1000000:=aa;exact jw [hr 19 b1,AA 24 (ac.ixrZ 0 ex),AA 25 (ac.pt0Z aW ex),hz 28 [1,2,3,4] hcl,AA 33 (ac.ixsZ 0 e2),hw 33 (d.flatMap aj) (ac.putZ e2),hbb 35 (Xl (q:=k) aa),hbb 21 (Xl (q:=j) aa)] (hc (hZ e2)::hc (ac.imm d)::mLs al) (k5 _ rfl) [] ρL kdL
  .obtain rfl:=Bj hs;have ek:=g _ rfl;simp only[Ge] at ek;obtain⟨ek,f⟩:=ek;have hkW:k<W.length:=by rw[f,Acu,ek];exact hkn
   have e:(zR W k).take (k*3)=(l.filter λx=> !del x).flatMap aj:=by rw[AhA (Nat.le_of_lt hkW),f,ek,Acv.1]
   rw[<-ek];generalize (l.filter λx=> !del x)=F at e⊢;refine pO 1111110 (J:=(s0 42 gl [(0,.rsl 0 0 W.length),(5,iG (k:Int))] ((ob 0 25 (zR W k))::σL al) 5 5)) [hr 19 b1,AA 38 (ac.sufZ 0 (l:=W) (i:=(k:Int)) (y:=W.drop k) (by unfold mc;rw[Bx ⟨aa,by rw[Fv];omega⟩,Fv])),Go.Proofs.YtghphhhpagagbaaGreatDoor.hcl 5 (Anr (al:=al) hkW)] (hc (el W)::hc (Ajy W k)::mLs al) ?_ [] ρL kdL;refine dSh 0 (k*3) ?_;show Gp _ _ _ _ _ _ (s0 42 gl [(0,.rsl 0 0 W.length),(5,iG (k:Int))] ((ob 0 25 ((zR W k).take (k*3)))::(ob 0 25 (zR W k))::σL al) 5 5);rw[e];exact ZT [AA 41 (ac.preZ 0 (l:=W) (i:=(k:Int)) (y:=W.take k) (by unfold tq;rw[Bx ⟨aa,by rw[Fv];omega⟩,Fv]))] (hc (rfl:k=k)::hc (ac.imm F)::mLs al) ρL kdL
end
def JI(k:Int):Bool:=bif decide (k=3) then true else bif decide (k=13) then true else decide (k=12)
def Ny(I:Gi)(R:Ad)(x:Ab):Ad:=U2 R (I.o x) x
def Y4(I:Gi)(cs:Bc):Ad:=cs.foldl (Ny I) (He I.cards)
theorem W6{I:Gi}:∀{l:Bc} {R:Ad},Bk R->(∀x∈l,Wz (I.o x) x)->Bk (l.foldl (Ny I) R)
 |[],R,h,_=>h
 |x::r,R,h,hx=>W6 (l:=r) (RW h (hx x aC)) (by grind)
section
variable {gl:CD} {gg:Aj} {I:Gi}
theorem Ad0(k:Int):ba prog gl 241 [iG k] (bG (JI k)):=XT gl (by unfold Vr JI;cases decide (k=3)<;>cases decide (k=13)<;>rfl)
theorem AhC{al:AQ}(h:Q9 gl al.g I)(x:Ab):ba prog gl 240 [.agg (aj x),.ptr [.ptr (BG al) 0] 0] (bG (!JI (I.o x).Kind)):=by have h1:=h.op x;have h2:=Ad0 (gl:=gl) (I.o x).Kind;refine Gh func240 ?_;exact Ar [hf 12 h1,hf 17 h2] []
theorem Aat{al:AQ}(x:Ab):ba prog gl 242 [.agg (aj x),.ptr [.ptr (BG al) 0] 0] (bG (Bb (al.void.get x))):=Pm gl rfl
abbrev ρr0:DG:=[(0,0),(1,1),(2,2),(3,3),(4,4),(5,5),(6,6),(7,7),(8,8),(9,9),(10,10),(11,11),(12,12),(13,13)]
abbrev ρr2:DG:=[(0,0),(1,1),(2,2),(3,3),(4,4),(5,16),(6,17),(7,18),(8,19),(9,20),(10,21),(11,22),(12,23),(13,24)]
theorem AhD(h:Q9 gl gg I)(hc:AdU I.cards){cs:Bc}(c:ba prog gl 82 [.ptr (Ag gg) 0,aE aj ids] (aE aj cs))(hl:∀x∈cs,Wz (I.o x) x)(hn:cs.length<=1000):UE prog gl 30 [.ptr (Ag gg) 0,aE aj ids] [] 0 0 (.ref 0 0) (BW f0 (Y4 I cs)):=by
 have hQ:∀k,Bk ((cs.take k).foldl (Ny I) (He I.cards)):=λk=>W6 (Lz hc.r) λx hx=>hl x (List.mem_of_mem_take hx);refine dFP func30 ?_;refine pN (λk:Nat=>(s0 33 gl [(0,.ptr (Ag gg) 0),(5,.ref 0 0),(15,aE aj cs),(16,iG (ah cs)),(17,iG (k:Int))] (BW f0 ((cs.take k).foldl (Ny I) (He I.cards))) 14 0)) 1110122 (E0 (n:=cs.length) aa) [hf 11 h.cards,hrn 12 0 [aE bv I.cards] (Lz hc.r) (AfH gl hc),hf 15 c] (rlB ρr0 (Qs 0) (hQ 0)) (λB k v hs k5 d=>?_) [] ρr0 Nz;unfold KS at hs;split at hs
 .rename_i hlt;obtain rfl:=Bj hs;obtain⟨x,hx⟩:∃x,cs[k]?=some x:=⟨_,DR hlt⟩;have hz:=Bg hx;have k5:=k5 _ rfl;have hq:=hQ k;have a:=hl x (bO hx);rw[Jn,hx,Option.toList_some,OP,List.foldl_cons,List.foldl_nil] at k5;generalize (cs.take k).foldl (Ny I) (He I.cards)=Q at hq k5⊢;unfold Ny at k5;have b:=RW hq a;exact jw [hr 18 (Dk hx),AA 19 (ac.ixZ hz),AA 20 (ac.ptZ aW hz),hf 24 (h.op x),hrw 30 f0 16 [.agg (aJ (I.o x)),.agg (aj x)] hq b (AfG gl hq a),hbb 31 (Xl (q:=k) aa)] (rlB ρr2 (fW f0 16) b) k5 [] ρr2 Nz
 .split at hs
  .rename_i he;subst he;rw[EQ];exact ZT [hr 18 (D4 (s:=cs))] (rlB ρr0 f0 (W6 (Lz hc.r) hl)) ρr0 Nz
  .cases hs
end
section
variable {g:A7} {m:JJ} {N:JD}
theorem AbB(w:Fq g)(p:Oa g m N)(h:bu x g.IDs=some k):∃y,N[k]?=some y/\k<256/\y.id=x:=by have h1:=(gb h).1;have hlt:=(cr h1).1;have n1:=w.nL;have n2:=w.nI;have a:=p.len;have hy:N[k]?=some (N[k]'aa):=DR _;have:=(p.nd k _ hy).2.1;rw[h1] at this;exact⟨_,hy,aa,(Bj this).symm⟩
theorem Um(w:Fq g)(p:Oa g m N)(x:Ab):M3 ⟨g.Cards,m,N⟩ x=(bu x g.IDs).bind λk=>N[k]? :=by
 unfold M3;show(m.get x).bind _=_;rw[p.get];cases bu x g.IDs with
 |none=>rfl
 |some k=>exact au
theorem Af0(w:Fq g)(p:Oa g m N)(x:Ab):(Re ⟨g.Cards,m,N⟩).op x=(bu x g.IDs).bind λk=>g.L[k]? :=by
 show(M3 _ x).map (·.o)=_;rw[Um w p];cases hk:bu x g.IDs with
 |none=>rfl
 |some k=>obtain⟨y,h1,_,_⟩:=AbB w p hk;show(N[k]?).map _=g.L[k]?;rw[h1,(p.nd k y h1).1];rfl
theorem Acy(w:Fq g)(p:Oa g m N)(x y:Ab):(Re ⟨g.Cards,m,N⟩).bef x y=match bu x g.IDs,bu y g.IDs with|some i,some j=>Q2 g j i|_,_=>false:=by
 show AfW _ x y=_;unfold AfW;show(match m.get x,M3 ⟨g.Cards,m,N⟩ y with|some n,some b=>gW b.past n.toNat|_,_=>false)=_;rw[Um w p,p.get];cases hx:bu x g.IDs with
 |none=>rfl
 |some i=>
  cases hy:bu y g.IDs with
  |none=>rfl
  |some j=>obtain⟨b,h1,_,_⟩:=AbB w p hy;obtain⟨_,_,h2,_⟩:=AbB w p hx;show(match some (i:Int),N[j]? with|some n,some b=>gW b.past n.toNat|_,_=>false)=_;rw[h1];exact(p.nd j b h1).2.2.1 i h2
end
def GD(s:List EH×Int):Option ((List EH×Int)⊕(List EH)):=
 bif decide (0<s.2) then(aS s.1 s.2).bind λa=>(aS s.1 (wI (s.2-1))).bind λb=>(wz a b).bind λr=>bif decide (r<0) then(ji s.1 s.2 b).bind λc=>(ji c (wI (s.2-1)) a).bind λd=>some (.inl (d,wI (s.2-1))) else some (.inr s.1) else some (.inr s.1)
def Ln(n:Int)(s:List EH×Int):Option ((List EH×Int)⊕(List EH)):=
 bif decide (s.2<n) then(AB GD (s.1,s.2)).bind λl=>some (.inl (l,wI (s.2+1))) else some (.inr s.1)
def So(l:List EH):Option (List EH):=AB (Ln (ah l)) (l,wI (0+1))
structure Am0 {K V:Type} (m:FM K V):Prop where
 nd:(m.es.map (·.2.2)).Nodup
 lt:∀e∈m.es,e.2.2<m.clk
structure Am1 (m:FM EH Nat) (srt:List EH):Prop where
 ok:Am0 m
 n:m.es.length<=12
 sr:∀ks:List EH,ks.Perm (m.es.map (·.1))->So ks=some srt
 len:srt.length=m.es.length
theorem Lt{l:Be}{k:Nat}{v:Int}(hl:l.length<=3)(hv:v≠0)(hk:l[k]?=some v)(h:∀j,j<k->l[j]?=some 0):iy l=some v:=by
 unfold iy;refine T.eq (.bind ((T.search l (λy=>decide (y≠0)) (λ_ y=>y) aa (λk x hx hk=>?_) ?_).mono ?_))
 .grind [fm,eA,au,aq]
 .unfold fm;rw[eF,A9]
 .rintro r (⟨rfl,h0⟩|⟨k',x,hx,hp,rfl,h0⟩)
  .have:=h0 v (bO hk);simp[hv] at this
  .refine .some ?_;grind
theorem Uj:iy [0,0,0]=some 0:=by
 unfold iy;refine T.eq (.bind ((T.search [0,0,0] (λy=>decide (y≠0)) (λ_ y=>y) B5 (λk x hx hk=>?_) ?_).mono ?_))
 .grind [fm,eA,au,aq]
 .unfold fm;rw[eF,A9]
 .rintro r (⟨rfl,h0⟩|⟨k',x,hx,hp,rfl,h0⟩)
  .exact .some rfl
  grind
theorem EW(a b:Ab):pE a b=some (dt a b):=by
 by_cases hl:dt a b=true
 .rw[hl];exact MW hl
 have hl:dt a b=false:=by simpa using hl
 rw[hl];unfold pE;rw[Ax,Ax,MV];simp only[aL];unfold dt at hl;by_cases h1:a.By=b.By
 .rw[BA (by simp[h1])] at hl;by_cases h2:a.Seq=b.Seq
  .rw[BA (by simp[h2])] at hl;have h3:=LU hl;by_cases h4:b.Sum<a.Sum
   .rw[Lt (k:=2) (v:=1) aC B5 (by simp[h3,h4]) (by grind)];rfl
   grind [Uj]
  .rw[Bx h2] at hl;have h3:=LU hl;rw[Lt (k:=1) (v:=1) aC B5 (by simp[h3];omega) (by grind)];rfl
 .rw[Bx h1] at hl;have h3:=LU hl;rw[Lt (k:=0) (v:=1) aC B5 (by simp[h3];omega) (by grind)];rfl
theorem EX{a b:Ab}(h1:dt a b=false)(h2:dt b a=false):a=b:=by obtain⟨x,y,z⟩:=a;obtain⟨c,d,e⟩:=b;grind [dt]
def AbC(x y:Int):Int:=bif decide (x<y) then-1 else bif decide (y<x) then 1 else 0
def GK(a b:Ab):Int:=bif dt a b then-1 else bif dt b a then 1 else 0
def M4(I:Gi)(a b:Ab):Int:=bif decide (AbC (I.lev a) (I.lev b)≠0) then AbC (I.lev a) (I.lev b) else GK a b
theorem Adk(x y:Int):f8 x y=some (AbC x y):=by unfold f8 AbC FF;have h1:decide (x≠x)=false:=C6 aC;have h2:decide (y≠y)=false:=C6 aC;simp only[h1,h2,aL,A9];cases decide (x<y)<;>cases decide (y<x)<;>rfl
theorem AhE(u v:Int):iy [u,v]=some (bif decide (u≠0) then u else v):=by
 unfold iy;refine T.eq (.bind (T.forI 2 (λk=>0<k->u=0/\(1<k->v=0)) aa (λh=>absurd h (Nat.lt_irrefl _)) (λk hk a=>?_) λa=>?_))
 .unfold fm;rcases(by omega:k=0\/k=1) with rfl|rfl
  .show T ((bif decide (u≠0) then _ else _)) _;refine .ite (λh=> .some (.some ?_)) λh=> .some ⟨rfl,λ_=>⟨by simpa using h,λh=>absurd h (Nat.lt_irrefl _)⟩⟩;rw[h];rfl
  .obtain⟨hu,_⟩:=a aa;show T ((bif decide (v≠0) then _ else _)) _;refine .ite (λh=> .some (.some ?_)) λh=> .some ⟨rfl,λ_=>⟨hu,λ_=>by simpa using h⟩⟩;subst hu;rfl
 .obtain⟨hu,hv⟩:=a aa;have hv:=hv aa;subst hu;subst hv;exact .some (.some rfl)
theorem AjB(h:Uk gg)(x:Ab):Fi gg x=some ((Re gg).lev x):=by
 unfold Fi FR;cases e:gg.at_.get x with
 |none=>show _=some (match M3 gg x with|some y=>y.level|none=>0);rw[WG e];rfl
 |some n=>obtain⟨k,y,rfl,hz,hn,hk,hm⟩:=Ul h e;show _=some (match M3 gg x with|some y=>y.level|none=>0);rw[hn];simp only[Option.isSome_some,ax,Nf,hz,aL]
theorem AhF(h:Uk gg)(a b:Ab):K4 ⟨gg⟩ a b=some (M4 (Re gg) a b):=by unfold K4;rw[EW,EW];unfold M4 GK;cases h1:dt a b<;>cases h2:dt b a<;>(simp only[ax,A9,aL,AjB h,Adk,AhE])
theorem AhG{gl:CD}(h:Uk gg)(a b:Ab):ba prog gl 87 [.agg (Nh ⟨gg⟩),.agg (aj a),.agg (aj b)] (iG (M4 (Re gg) a b)):=RY gl (AhF h a b)
theorem AhH{gl:CD}{s:Bc}(hn:s.length<=1000)(v:Ab):ba prog gl 133 [aE aj s,.agg (aj v)] (bG (s.any λy=>decide (v=y))):=Je gl (SP aa v)
abbrev dR(l:Bc)(i:Nat):Bn:=(l.flatMap aj).take (i*3)++(l.drop (i+1)).flatMap aj++(l.flatMap aj).drop (i*3+(l.length-(i+1))*3)
abbrev zD(L:Bn)(n:Nat):Bn:=L.take (n*3)++(bN zI (1*3)).map .lit++L.drop (n*3+1*3)
theorem Acz{l:Bc}(h:i<l.length):(dR l i).length=l.length*3:=by grind [AH.len,ac]
theorem AjC(l:Bc)(i:Nat):∀g∈dR l i,bB g:=by grind [AH.imm,ac]
theorem AjD{L:Bn}(h:∀g∈L,bB g)(n:Nat):∀g∈zD L n,bB g:=by grind [mN]
theorem AhI{l:Bc}{i:Nat}(h:i<l.length):(zD (dR l i) (l.length-1)).take ((l.length-1)*3)=(l.eraseIdx i).flatMap aj:=by
 have hl:=Acz h;have e1:(zD (dR l i) (l.length-1)).take ((l.length-1)*3)=(dR l i).take ((l.length-1)*3):=by grind
 have e2:(l.flatMap aj).take (i*3)=(l.take i).flatMap aj:=by grind [O6,AH.len,ac,N3]
 grind [AH.len,ac]
theorem cI:dp prog 29=some 25/\bw prog 25=some 3/\jj prog 25=some zI:=⟨aH,aH,aH⟩
def hai(d:Nat){P:Br}{σ:aQ}{t:Bo}{gx gy:G}{i n:Nat}{ob:Ob}(h:Rh P σ t gx gy=some (i,ob,n)):HP:=⟨some (.i d i ob n),Rh P (UF σ (fR gx++fR gy)) t gx gy=some (i,ob,n),(AcT Hg).symm.trans h⟩
theorem AjE{l:Bc}{i:Nat}(h:i<l.length):Rh prog [(0,Bw l)] 29 (.rsr 0 i) (.rsl 0 (0+((i+1:Nat):Int).toNat*3) (l.length-((i+1:Nat):Int).toNat))=some (0,⟨25,dR l i,none⟩,l.length-1):=by
 have e4:ag [(0,Bw l)] 0=some ⟨25,l.flatMap aj,none⟩:=rfl;have hlen:=ac.len l;have e5:fO [(0,Bw l)] 3 (.rsl 0 ((i+1)*3) (l.length-(i+1)))=some ((l.drop (i+1)).flatMap aj,l.length-(i+1)):=by
  unfold fO;simp only[e4,aL];rw[Bx (by rw[hlen];omega)];congr 2;have:(l.flatMap aj).drop ((i+1)*3)=(l.drop (i+1)).flatMap aj:=by
   conv=>lhs;rw[<-O6 (i+1) l,List.flatMap_append]
   grind [List.drop_left',AH.len,ac]
  grind [AH.len,ac]
 rw[Fv,Nat.zero_add];grind [Rh,cI]
theorem AjF{l:Bc}{i:Nat}(h:i<l.length):sJ prog 29 (.rsl 0 0 l.length) (iG (i:Int)) (iG ((i+1:Nat):Int)) (iG (ah l))=some .junk:=by unfold sJ ah;grind [xL,cI]
theorem AjG{l:Bc}{i:Nat}(h:i<l.length):Ju prog [] 29 (.rsl 0 0 l.length) none (some (i:Int))=some (.rsr 0 i):=by unfold Ju;grind [cI]
theorem AjH{l:Bc}{i:Nat}(h:i<l.length):Ju prog [ob 0 25 (dR l i)] 29 (.rsr 0 (l.length-1)) (some ((l.length-1:Nat):Int)) (some (ah l))=some (.rsl 0 ((l.length-1)*3) 1):=by have e4:ag [ob 0 25 (dR l i)] 0=some (⟨25,dR l i,none⟩:Ob):=rfl;unfold Ju ah;simp only[cI.1,cI.2.1,e4];rw[Bx (by grind [Acz]),Fv,Fv,show l.length-(l.length-1)=1 by omega]
theorem AjI{l:Bc}{i:Nat}(h:i<l.length):rF prog [ob 0 25 (dR l i),(1,some BC),(0,Bw l)] 29 (.rsl 0 ((l.length-1)*3) 1)=some (0,⟨25,zD (dR l i) (l.length-1),none⟩):=by have e4:ag [ob 0 25 (dR l i),(1,some BC),(0,Bw l)] 0=some (⟨25,dR l i,none⟩:Ob):=rfl;unfold rF;simp only[cI.1,cI.2.1,cI.2.2,e4];rw[Bx ⟨rfl,aa,B5,by rw[Acz h];omega,rfl⟩]
theorem Y5{l:Bc}{i:Nat}(hl:l.length<=1000)(h:i<l.length):jg prog gl 244 [.rsl 0 0 l.length,iG (i:Int),iG ((i+1:Nat):Int)] [(0,Bw l)] 1 (.rsl 0 0 (l.length-1)) [(0,Bw (l.eraseIdx i))] 1:=by have hz:=AhI h;have hi:=AjD (AjC l i) (l.length-1);refine pP func244 ?_;refine pO 11111110 (J:=(s0 33 gl [(0,.rsl 0 0 (l.length-1))] [ob 0 25 (zD (dR l i) (l.length-1))] 1 1)) [hcv 13 (g:= .junk) (AjF h),hr 16 (show decide ((i:Int)=((i+1:Nat):Int))=false from C6 aa),hcv 22 (g:= .rsr 0 i) (AjG h),AA 25 (ac.sufZ 0 (l:=l) (i:=((i+1:Nat):Int)) (y:=l.drop (i+1)) (by unfold mc;rw[Bx ⟨aa,by rw[Fv];omega⟩,Fv])),hai 26 (AjE h),hcv 31 (g:= .rsl 0 ((l.length-1)*3) 1) (AjH h),hcl 2 (AjI h)] [hc (rfl:l.length-1=l.length-1),hc hi] ?_ [] [(0,0)] [(0,.row)];refine dSh 0 ((l.length-1)*3) ?_;show Gp _ _ _ _ _ _ (s0 33 gl [(0,.rsl 0 0 (l.length-1))] ((ob 0 25 ((zD (dR l i) (l.length-1)).take ((l.length-1)*3)))::[ob 0 25 (zD (dR l i) (l.length-1))]) 1 1);rw[hz];exact mt .ret (s0 33 gl [(6,.rsl 0 0 (l.length-1))] [(0,Bw (l.eraseIdx i))] 1 1) [.rsl 0 0 (l.length-1)] [] [hc (rfl:l.length-1=l.length-1),hc (ac.imm (l.eraseIdx i))]
theorem Adl{gl:CD}{fid:FuncId}{gs gs':Bn}{σR:aQ}{t:Bo}{m:Nat}{l:Bn}{c:Nat}(hc:aK P fid=true)(hF:iV P gl fid gs' t m l)(hr:∀g∈l,∃v,g= .lit v)(hl:gs'.length=gs.length)(hz:∀st:St,(∀i o,ag σR i=some o->ag st.σ i=some o)->∀(i:Nat) (x y:G),gs[i]?=some x->gs'[i]?=some y->ve P st x y):oJ P gl fid gs σR c (.rsl c 0 m) [(c,some ⟨t,l,none⟩)] (c+1):=λo st y xs ats fst cap ho hd hx hgs hgl b a=>by grind [H4,Vx]
abbrev tSe:Bo:=190
abbrev oSe(m:FM Int Int):Option Ob:=some (M5 tSe JO iG m)
theorem Aio{σ:aQ}(m:FM Int Int)(h:ag σ 4=oSe m)(k v:Int):dZ prog σ tSe (.mref 4) (iG k) (iG v)=some (4,M5 tSe JO iG (C4 m k v)):=Afz (P:=prog) (et:=3) Pp Ac6 aH (k:=k) (gk:=iG k) rfl (m:=m) h v
theorem Aip(k:Ab):Instr.sameBits 10000 (ga k) (ga k)=true:=by(unfold ga Pe;simp[Instr.sameBits])
theorem AjJ{σ:aQ}{i:Nat}(m:FM Ab Bool)(h:ag σ i=WY m)(k:Ab):dZ prog σ tMI (.mref i) (.agg (aj k)) (bG true)=some (i,M5 tMI ga bG (C4 m k true)):=Afz (P:=prog) (et:=4) jt Aip aH (k:=k) (gk:= .agg (aj k)) rfl (m:=m) h true
def Tl(cs:LT):FM Int Int:=cs.foldl (λm c=>C4 m c.Device 12) ⟨[],0⟩
def UK(m:FM Int Int)(s:Be):Nat->FM Int Int
 |0=>m
 |k+1=>match s[k]? with
  |some d=>C4 (UK m s k) d (k:Int)
  |none=>UK m s k
def OR(cs:LT)(s:Be):FM Int Int:=UK (Tl cs) s s.length
abbrev wV(al:AQ)(v:FM Ab Bool):AQ:={al with void:=v}
def vFu(I:Gi)(row a:Bc)(x:Ab)(v:FM Ab Bool)(y:Ab):FM Ab Bool:=bif Jb I x y then C4 v y true else bif a.any (λz=>decide (y=z))&&DZ I row x y then C4 v y true else v
def vAl(I:Gi)(row a:Bc)(x:Ab)(v:FM Ab Bool):FM Ab Bool:=row.foldl (vFu I row a x) v
def Af1(I:Gi)(al:AQ)(sen:FM Int Int)(s:Bc×FM Ab Bool):Option ((Bc×FM Ab Bool)⊕FM Ab Bool):=
 bif decide (s.1.length<=1000) then
 (λl1:Bc=>bif decide (ah l1=0) then some (.inr s.2) else(AB (AfU I al.row l1 sen) (0,-1)).bind λi=>(aS l1 i).bind λx=>
   bif(JR I (wV al s.2)).any (λz=>decide (x=z)) then some (.inl (l1.eraseIdx i.toNat,vAl I al.row (l1.eraseIdx i.toNat) x s.2)) else some (.inl (l1.eraseIdx i.toNat,C4 s.2 x true)))
 (s.1.filter λx=> !Bb (s.2.get x))
 else none
def Af2(I:Gi)(al:AQ)(sen:FM Int Int):Option (FM Ab Bool):=AB (Af1 I al sen) (al.row.filter (λx=> !!JI (I.o x).Kind),al.void)
abbrev σ3(al:AQ):aQ:=[(0,oLi al 1 2),(1,WY al.void),(2,WY al.fork)]
abbrev σ5(al:AQ)(sen:FM Int Int):aQ:=σ3 al++[(3,oBl 0),(4,oSe sen)]
abbrev σ6(al:AQ)(sen:FM Int Int)(l:Bc):aQ:=σ5 al sen++[(5,Bw l)]
theorem AjK(m:FM Int Int):∀e∈mEs JO iG m,bB e.2.1:=by grind [mN]
theorem Af3{κ:Nat->Ft}{b b':Nat}(h:κ b=some b'):∀ob,oBl b'=some ob->∃o,oBl b=some o/\MB κ o ob:=λob e=>by cases e;refine⟨_,rfl,rfl,.inl ?_⟩;grind [qg]
theorem Aau{κ:Nat->Ft}{al:AQ}{v v' f f':Nat}(h:κ v=some v')(h2:κ f=some f'):∀ob,oLi al v' f'=some ob->∃o,oLi al v f=some o/\MB κ o ob:=λob e=>by cases e;refine⟨_,rfl,rfl,.inl ?_⟩;grind [qg]
theorem PH{κ:Nat->Ft}{m:FM Ab Bool}:∀ob,WY m=some ob->∃o,WY m=some o/\MB κ o ob:=λob e=>by cases e;exact⟨_,rfl,rfl,rfl,rfl,rfl,.inr ⟨rfl,Acw m⟩⟩
theorem Adm{κ:Nat->Ft}{l:Bc}:∀ob,Bw l=some ob->∃o,Bw l=some o/\MB κ o ob:=λob e=>by cases e;exact⟨_,rfl,rfl,.inr ⟨rfl,ac.imm l⟩⟩
theorem AlB(al:AQ)(l:Bc):InP (vi [5,3,0,1,2]) [5,3,0,1,2] [(5,Bw l),(3,oBl 0),(0,oLi al 1 2),(1,WY al.void),(2,WY al.fork)] ((0,Bw l)::σL al):=λk o0 h=>by
 match k with
 |0=>obtain⟨o,h1,h2⟩:=Adm (κ:=vi [5,3,0,1,2]) o0 h;exact⟨5,o,rfl,h1,h2⟩
 |1=>obtain⟨o,h1,h2⟩:=Af3 (κ:=vi [5,3,0,1,2]) (b:=0) (b':=2) rfl o0 h;exact⟨3,o,rfl,h1,h2⟩
 |2=>obtain⟨o,h1,h2⟩:=Aau (κ:=vi [5,3,0,1,2]) (al:=al) (v:=1) (v':=3) (f:=2) (f':=4) rfl rfl o0 h;exact⟨0,o,rfl,h1,h2⟩
 |3=>obtain⟨o,h1,h2⟩:=PH (κ:=vi [5,3,0,1,2]) (m:=al.void) o0 h;exact⟨1,o,rfl,h1,h2⟩
 |4=>obtain⟨o,h1,h2⟩:=PH (κ:=vi [5,3,0,1,2]) (m:=al.fork) o0 h;exact⟨2,o,rfl,h1,h2⟩
 |j+5=>cases h
theorem AjL(al:AQ)(l d:Bc)(c:Nat):Aa4 (kO ((0,Bw l)::σL al) [5,3,0,1,2] 5 0 c) ((0,Bw d)::σL al) [(5,Bw d),(3,oBl 0),(0,oLi al 1 2),(1,WY al.void),(2,WY al.fork)]:=λi o h0=>by
 generalize hκ:kO ((0,Bw l)::σL al) [5,3,0,1,2] 5 0 c=κ;have h0':κ 0=some 5:=by rw[<-hκ];rfl
 have h1':κ 1=some 3:=by rw[<-hκ];rfl
 have h2':κ 2=some 0:=by rw[<-hκ];rfl
 have h3':κ 3=some 1:=by rw[<-hκ];rfl
 have h4':κ 4=some 2:=by rw[<-hκ];rfl
 match i with
 |5=>obtain⟨a,h1,h2⟩:=Adm (κ:=κ) o h0;exact⟨0,a,h0',h1,h2⟩
 |3=>obtain⟨a,h1,h2⟩:=Af3 (κ:=κ) (b:=2) (b':=0) h2' o h0;exact⟨1,a,h1',h1,h2⟩
 |0=>obtain⟨a,h1,h2⟩:=Aau (κ:=κ) (al:=al) (v:=3) (v':=1) (f:=4) (f':=2) h3' h4' o h0;exact⟨2,a,h2',h1,h2⟩
 |1=>obtain⟨a,h1,h2⟩:=PH (κ:=κ) (m:=al.void) o h0;exact⟨3,a,h3',h1,h2⟩
 |2=>obtain⟨a,h1,h2⟩:=PH (κ:=κ) (m:=al.fork) o h0;exact⟨4,a,h4',h1,h2⟩
 |4=>cases h0
 |j+6=>cases h0
theorem AlC:aK prog 239=true:=aH
abbrev hdl(d c:Nat){fi:FuncId}{al:AQ}{del:Ab->Bool}{gl:CD}(a:aK prog fi=true)(hF:∀x,ba prog gl fi [.agg (aj x),.ptr [.ptr (BG al) 0] 0] (bG (del x))){l l':Bc}(hl:l.length<=1000)(e:(l.filter λx=> !del x)=l')(hlt:[5,3,0,1,2].all (λi=>Nat.blt i c)=true:=by kernel_rfl):HP:=
 hfm d [5,3,0,1,2] 5 0 c [(5,Bw l),(3,oBl 0),(0,oLi al 1 2),(1,WY al.void),(2,WY al.fork)] [.rsl 5 0 l.length,.clo (.func fi) [] [.ref 3 0]] [(5,Bw l'),(3,oBl 0),(0,oLi al 1 2),(1,WY al.void),(2,WY al.fork)] (e▸Acx a hF hl) (AlB al l) (AjL al l l' c) AlC hlt
section
variable {gl:CD} {P:Br}
theorem Aav{l:Bc}(h:ag st.σ i=Bw l):ve prog st (.rsl i 0 l.length) (aE aj l):=FD (s:=3) h aH (by grind [AH.len,ac]) (ac.len l) (by grind [jB,AH.imm,ac])
theorem AbD{al:AQ}{l:Bc}{sen:FM Int Int}{r:Int}{c:Nat}(hF:ba prog gl 243 [.ptr (BG al) 0,aE aj l,FM.g JO iG sen] (iG r)):oJ prog gl 243 [.ref 0 0,.rsl 5 0 l.length,.mref 4] (σ6 al sen l) c (iG r) [] c:=
 PA aH hF (lR _) rfl λst h i x y h1 h2=>by
  match i with
  |0=>grind [Aas]
  |1=>cases h1;cases h2;exact Aav (h 5 _ rfl)
  |2=>cases h1;cases h2;exact Om (h 4 _ rfl) λe _=>jB (mN _)
  |j+3=>cases h1
theorem Aaw{al:AQ}{c:Nat}(hF:iV prog gl 154 [.ptr (BG al) 0] 25 (JR I al).length ((JR I al).flatMap aj)):oJ prog gl 154 [.ref 0 0] (σ3 al) c (.rsl c 0 (JR I al).length) [(c,Bw (JR I al))] (c+1):=
 Adl aH hF (Zy _) rfl (by grind [Aas])
theorem Aax{l:Bc}{x:Ab}{i c:Nat}(hn:l.length<=1000):oJ prog gl 133 [.rsl i 0 l.length,.agg (aj x)] [(i,Bw l)] c (bG (l.any λy=>decide (x=y))) [] c:=
 PA aH (AhH hn x) (lR _) rfl λst h j y z h1 h2=>by
  match j with
  |0=>grind [Aav]
  |1=>cases h1;cases h2;exact jB (aG 20 (.agg (aj x)) aH)
  |j+2=>cases h1
theorem Af4{al:AQ}(h:Q9 gl al.g I)(hn:al.row.length<=1000)(x y:Ab){c:Nat}:oJ prog gl 246 [.ref 0 0,.agg (aj x),.agg (aj y)] (σ3 al) c (bG (DZ I al.row x y)) [] c:=
 PA aH (AbA h hn x y) (lR _) rfl λst h i p q h1 h2=>by
  match i with
  |0=>grind [Aas]
  |1=>cases h1;cases h2;exact jB (aG 20 (.agg (aj x)) aH)
  |2=>cases h1;cases h2;exact jB (aG 20 (.agg (aj y)) aH)
  |j+3=>cases h1
end
abbrev oS(al:AQ)(sen:FM Int Int):List HP:=mLs al++[hc (AjK sen)]
abbrev ρ5:DG:=[(0,0),(1,1),(2,2),(3,3),(4,4)]
abbrev ρ6:DG:=ρ5++[(5,5)]
abbrev ρ7:DG:=ρ6++[(6,6)]
abbrev kd5:List (Nat×Rk):=[(5,.row)]
abbrev stM(al:AQ)(sen:FM Int Int)(s:Bc×FM Ab Bool):St:=(s0 115 fI [(1,.ref 3 0),(2,.mref 4),(7,.rsl 5 0 s.1.length)] (σ6 (wV al s.2) sen s.1) 6 3)
abbrev oMn(al:AQ)(sen:FM Int Int)(s:Bc×FM Ab Bool)(n:Nat)(h:n=s.1.length):List HP:=hc h::oS (wV al s.2) sen++[hc (ac.imm s.1)]
abbrev stV(al:AQ)(sen:FM Int Int)(l:Bc)(x:Ab)(v:FM Ab Bool)(k:Nat):St:=(s0 115 fI [(1,.ref 3 0),(2,.mref 4),(7,.rsl 5 0 l.length),(9,.ref 6 0),(85,aE aj al.row),(86,iG (ah al.row)),(87,iG (k:Int))] (σ6 (wV al v) sen l++[(6,XK x)]) 7 3)
theorem Ad1(h:AfR fI al I){s:Be}(hS:ba prog fI 74 [.ptr (Ag al.g) 0,aE aj al.row] (aE cZ s))(hsn:s.length<=1000){v:FM Ab Bool}(hv0:Af2 I al (OR I.cards s)=some v):UE prog fI 153 [.ref 0 0] (σ3 al) 3 3 (.tup []) (σ3 (wV al v)):=by
 have hn:=h.n;have hcn:=h.c.n;have hcl:cU al.row=some al.row:=by unfold cU aT;rw[Bx cq];rfl
 unfold Af2 at hv0;refine dFP func153 ?_;refine pN (λk:Nat=>(s0 115 fI [(1,.ref 3 0),(2,.mref 4),(17,aE bv I.cards),(18,iG (ah I.cards)),(19,iG (k:Int))] (σ5 al (Tl (I.cards.take k))) 5 3)) 1110122 (E0 (n:=I.cards.length) aa) [hf 17 h.g.cards] (oS al (Tl (I.cards.take 0))) (λB k w hs k5 r=>?_) [] ρ5 [];unfold KS at hs;split at hs
 .rename_i hlt;obtain rfl:=Bj hs;obtain⟨x,hx⟩:∃x,I.cards[k]?=some x:=⟨_,DR hlt⟩;have hz:=Bg hx;have k5:=k5 _ rfl;unfold Tl at k5⊢;rw[Jn,hx,Option.toList_some,OP,List.foldl_cons,List.foldl_nil] at k5;generalize (I.cards.take k).foldl (λ(m:FM Int Int) (c:DL)=>C4 m c.Device (12:Int)) ⟨[],0⟩=m at k5⊢;exact jw [hr 20 (Dk hx),AA 21 (bT.ixZ hz),AA 22 (bT.ptZ E2 hz),hmp 6 (Aio (σ:=(ob 5 78 (bv x))::σ5 al m) m rfl x.Device 12),hbb 26 (Xl (q:=k) aa)] (oS al (C4 m x.Device 12)) k5 [] ρ5 []
 split at hs
 .rename_i he;subst he;clear r k5 hs;rw[EQ];refine yl (Bs':=[]) [1,1,0,1] (J:=(s0 115 fI [(1,.ref 3 0),(2,.mref 4)] (σ5 al (Tl I.cards)) 5 3)) [hr 20 (D4 (s:=I.cards))] (oS al (Tl I.cards)) ?_;refine pN (λk:Nat=>(s0 115 fI [(1,.ref 3 0),(2,.mref 4),(35,aE cZ s),(36,iG (ah s)),(37,iG (k:Int))] (σ5 al (UK (Tl I.cards) s k)) 5 3)) 11110122 (E0 (n:=s.length) aa) [hf 35 hS] (oS al (Tl I.cards)) (λt k A hs k5 r=>?_) [] ρ5 [];unfold KS at hs;split at hs
  .rename_i hlt;obtain rfl:=Bj hs;obtain⟨x,hx⟩:∃x,s[k]?=some x:=⟨_,DR hlt⟩;have hz:=Bg hx;have k5:=k5 _ rfl;have e:UK (Tl I.cards) s (k+1)=C4 (UK (Tl I.cards) s k) x (k:Int):=by show(match s[k]? with|some d=>_|none=>_)=_;rw[hx]
   rw[e] at k5;generalize UK (Tl I.cards) s k=m at k5⊢;exact jw [hr 38 (Dk hx),AA 40 (rZ.ixZ hz),AA 41 (rZ.p1Z tZ hz),hmp 5 (Aio (σ:=σ5 al m) m rfl x (k:Int)),hbb 45 (Xl (q:=k) aa)] (oS al (C4 m x (k:Int))) k5 [] ρ5 []
  split at hs
  .rename_i he;subst he;clear r k5 hs;rw[show UK (Tl I.cards) s s.length=OR I.cards s from rfl];generalize OR I.cards s=sen at hv0⊢;refine yl (Bs':=[]) [1,1,1,0,1] (J:=(s0 115 fI [(1,.ref 3 0),(2,.mref 4)] (σ5 al sen) 5 3)) [hr 38 (D4 (s:=s))] (oS al sen) ?_;refine pN (stM al sen) [1,1,1,1,1,2,2] hv0 [ho 50 [aE aj al.row] [] (jY fI hcl) (Zy _),hdl 52 6 (al:=al) (fi:=240) (del:=λx=> !JI (I.o x).Kind) aH (λx=>AhC h.g x) (l:=al.row) hn rfl] (oMn al sen (al.row.filter (λx=> !!JI (I.o x).Kind),al.void) _ rfl) (λC z D hs k5 r=>?_) [] ρ6 kd5;obtain⟨l,vd⟩:=z;unfold Af1 at hs;dsimp only at hs;cases b0:decide (l.length<=1000) with
   |false=>rw[b0] at hs;cases hs
   |true=>
   rw[b0,ax] at hs;have hln:=DP b0;have h':AfR fI (wV al vd) I:=⟨h.g,h.c,h.o,h.n⟩;have hkl:=λx y=>Y3 h.g x y;generalize e1:(l.filter λx=> !Bb (vd.get x))=l1 at hs;have hl1:l1.length<=1000:=by rw[<-e1];exact MI (NS _ _) hln
   rcases bC hs with⟨b1,hs⟩|⟨b1,hs⟩
   .obtain rfl:=Bj hs;obtain rfl:=r _ rfl;exact ZT [hdl 55 6 (gl:=fI) (al:=wV al vd) (fi:=242) (del:=λx=>Bb (vd.get x)) aH (λx=>Aat x) (l:=l) hln e1,hr 58 b1] (mLs (wV al vd)) [(0,0),(1,1),(2,2)] []
   .obtain⟨i,ei,hs⟩:=bS hs;obtain⟨x,ex,hs⟩:=bS hs;obtain⟨k,rfl⟩:∃k:Nat,i=(k:Int):=by
     unfold aS at ex;split at ex
     .exact⟨i.toNat,aa⟩
     .cases ex
    have hkx:l1[k]?=some x:=by rw[<-au];exact ex
    have f:=(cr hkx).1;rw[Fv] at hs;have hle:l1.length-1=(l1.eraseIdx k).length:=by rw[List.length_eraseIdx,Bx f]
    have hF:=AfV h'.g h'.n hl1 ei;have hg:=Adj h';have hgn:(JR I (wV al vd)).length<=1000:=MI WE.2 (by simpa using hn);cases c2:(JR I (wV al vd)).any (λz=>decide (x=z)) with
    |false=>rw[c2,A9] at hs;obtain rfl:=Bj hs;have j:=Aax (gl:=fI) (l:=JR I (wV al vd)) (x:=x) (i:=7) (c:=8) hgn;rw[c2] at j;exact jw [hdl 55 6 (gl:=fI) (al:=wV al vd) (fi:=242) (del:=λx=>Bb (vd.get x)) aH (λx=>Aat x) (l:=l) hln e1,hr 58 b1,hz 62 [0,1,2,3,4,5] (AbD (c:=6) hF),AA 65 (ac.ixrZ 5 ex),AA 66 (ac.pt0Z aW ex),hbb 70 (Xl (q:=k) aa),tN 71 [5] 7 [(5,Bw l1)] [.rsl 5 0 l1.length,iG (k:Int),iG ((k+1:Nat):Int)] [(0,Bw (l1.eraseIdx k))] (Y5 fI hl1 f) ⟨⟨rfl,.inr ⟨rfl,ac.imm l1⟩⟩,trivial⟩ ⟨⟨rfl,.inr ⟨rfl,ac.imm _⟩⟩,trivial⟩,hz 73 [0,1,2] (Aaw (c:=7) hg),hz 75 [7] j,hmr 8 (AjJ (σ:=[(1,WY vd)]) (i:=1) vd rfl x)] (oMn al sen (l1.eraseIdx k,C4 vd x true) _ hle) (k5 _ rfl) [] ρ6 kd5
    |true=>
     rw[c2,ax] at hs;obtain rfl:=Bj hs;have k5:=k5 _ rfl;have j:=Aax (gl:=fI) (l:=JR I (wV al vd)) (x:=x) (i:=7) (c:=8) hgn;rw[c2] at j;refine pN (λq:Nat=>stV al sen (l1.eraseIdx k) x ((al.row.take q).foldl (vFu I al.row (l1.eraseIdx k) x) vd) q) [1,1,1,1,1,2,2,2,1,1,1,1,1,1,1,2,2] (E0 (n:=al.row.length) aa) [hdl 55 6 (gl:=fI) (al:=wV al vd) (fi:=242) (del:=λx=>Bb (vd.get x)) aH (λx=>Aat x) (l:=l) hln e1,hr 58 b1,hz 62 [0,1,2,3,4,5] (AbD (c:=6) hF),AA 65 (ac.ixrZ 5 ex),AA 66 (ac.pt0Z aW ex),hbb 70 (Xl (q:=k) aa),tN 71 [5] 7 [(5,Bw l1)] [.rsl 5 0 l1.length,iG (k:Int),iG ((k+1:Nat):Int)] [(0,Bw (l1.eraseIdx k))] (Y5 fI hl1 f) ⟨⟨rfl,.inr ⟨rfl,ac.imm l1⟩⟩,trivial⟩ ⟨⟨rfl,.inr ⟨rfl,ac.imm _⟩⟩,trivial⟩,hz 73 [0,1,2] (Aaw (c:=7) hg),hz 75 [7] j] (oMn al sen (l1.eraseIdx k,vd) _ hle) (λE q F hs b H=>?_) [] ρ7 kd5;have hl2:(l1.eraseIdx k).length<=1000:=aa;generalize l1.eraseIdx k=l2 at k5 b hl2⊢;unfold KS at hs;split at hs
     .rename_i hlt;obtain rfl:=Bj hs;obtain⟨y,hy⟩:∃y,al.row[q]?=some y:=⟨_,DR hlt⟩;have a:=Bg hy;have b:=b _ rfl;rw[Jn,hy,Option.toList_some,OP,List.foldl_cons,List.foldl_nil] at b;generalize (al.row.take q).foldl (vFu I al.row l2 x) vd=u at b⊢;have hk:=hkl x y;unfold vFu at b;cases kk:Jb I x y with
      |true=>rw[kk] at hk b;exact jw [hr 88 (Dk hy),AA 89 (ac.ixZ a),AA 90 (ac.ptZ aW a),hf 97 hk,hmr 8 (AjJ (σ:=[(1,WY u)]) (i:=1) u rfl y),hbb 114 (Xl (q:=q) aa)] (oMn al sen (l2,C4 u y true) _ rfl) b [] ρ7 kd5
      |false=>
       rw[kk,A9] at b;rw[kk] at hk;have p:=Aax (gl:=fI) (l:=l2) (x:=y) (i:=5) (c:=8) hl2;cases cc:l2.any (λz=>decide (y=z)) with
       |false=>rw[cc] at p b;exact jw [hr 88 (Dk hy),AA 89 (ac.ixZ a),AA 90 (ac.ptZ aW a),hf 97 hk,hz 101 [5] p,hbb 114 (Xl (q:=q) aa)] (oMn al sen (l2,u) _ rfl) b [] ρ7 kd5
       |true=>
        have hw:=Af4 (al:=wV al u) (c:=8) h.g h.n x y;rw[show(wV al u).row=al.row from rfl] at hw;rw[cc,Bool.true_and] at b;rw[cc] at p;cases ww:DZ I al.row x y with
        |false=>rw[ww] at hw b;exact jw [hr 88 (Dk hy),AA 89 (ac.ixZ a),AA 90 (ac.ptZ aW a),hf 97 hk,hz 101 [5] p,hz 106 [0,1,2] hw,hbb 114 (Xl (q:=q) aa)] (oMn al sen (l2,u) _ rfl) b [] ρ7 kd5
        |true=>rw[ww] at hw b;exact jw [hr 88 (Dk hy),AA 89 (ac.ixZ a),AA 90 (ac.ptZ aW a),hf 97 hk,hz 101 [5] p,hz 106 [0,1,2] hw,hmr 8 (AjJ (σ:=[(1,WY u)]) (i:=1) u rfl y),hbb 114 (Xl (q:=q) aa)] (oMn al sen (l2,C4 u y true) _ rfl) b [] ρ7 kd5
     .split at hs
      .rename_i he;subst he;unfold vAl at k5;rw[EQ];generalize al.row.foldl (vFu I al.row l2 x) vd=u at k5⊢;exact jw [hr 88 (D4 (s:=al.row))] (oMn al sen (l2,u) _ rfl) k5 [] ρ6 kd5
      .cases hs
  .cases hs
 .cases hs
theorem AjM{K V:Type}:Q6 (⟨[],0⟩:FM K V):=by grind [Q6,FxOk]
def ofV(vs:Bc):FM Ab Bool:=vs.foldl (λm x=>C4 m x true) ⟨[],0⟩
theorem AjN{vs:Bc}:Q6 (ofV vs):=by
 have key:∀(l:Bc) (m:FM Ab Bool),Q6 m->Q6 (l.foldl (λm x=>C4 m x true) m):=by intro l;induction l<;>grind [On]
 exact key vs _ AjM
def XL(gg:Aj)(row vs:Bc):AQ:=⟨gg,row,ofV vs,ofV vs⟩
abbrev hsI(d i c:Nat){m:FM Ab Bool}(k:Ab):HP:=hme d [i] c (Ajo (P:=prog) (σ:=[(i,WY m)]) (t:=tMI) (t':=tMI) (et:=4) (v0:=false) jt Aip aH aH (k:=k) (gk:= .agg (aj k)) rfl RU)
abbrev AlD(d i c:Nat){m:FM Ab Bool}(k:Ab)(h:FxOk m):HP:=hms d [i] c (Ajp (σ:=[(i,some (M5 tMI ga bG (C4 m k ((m.get k).getD false))))]) (i:=i) (t':=tMI) (kv:=ga) (vg:=bG) (m:=m) (k:=k) (v0:=(m.get k).getD false) h RU true)
section
variable {gl:CD}
theorem AlE{row vs:Bc}(hO:ba prog gl 47 [.ptr (Ag gg) 0,aE aj ids] (aE aj row))(hV:ba prog gl 238 [.ptr (Ag gg) 0,aE aj ids] (aE aj vs))(hn:vs.length<=1000):UE prog gl 152 [.ptr (Ag gg) 0,aE aj ids] [] 0 0 (.ref 0 0) (σ3 (XL gg row vs)):=by
 refine dFP func152 ?_;refine pN (λk:Nat=>(s0 40 gl [(5,.ref 0 0),(18,aE aj vs),(19,iG (ah vs)),(20,iG (k:Int))] (σ3 (XL gg row (vs.take k))) 3 0)) 1110122 (E0 (n:=vs.length) aa) [hf 11 hO,hf 18 hV] (mLs (XL gg row (vs.take 0))) (λB k w hs k5 a=>?_) [] [(0,2),(1,0),(2,1)] [];unfold KS at hs;split at hs
 .rename_i hlt;obtain rfl:=Bj hs;obtain⟨x,hx⟩:∃x,vs[k]?=some x:=⟨_,DR hlt⟩;have hz:=Bg hx;have k5:=k5 _ rfl;have e:XL gg row (vs.take (k+1))=⟨gg,row,C4 (ofV (vs.take k)) x true,C4 (ofV (vs.take k)) x true⟩:=by unfold XL ofV;rw[Jn,hx,Option.toList_some,OP];rfl
  have hm:=AjN (vs:=vs.take k);rw[e] at k5;unfold XL;generalize ofV (vs.take k)=m at k5 hm⊢;exact jw [hr 21 (Dk hx),AA 22 (ac.ixZ hz),AA 23 (ac.ptZ aW hz),hsI 34 1 4 (m:=m) x,AlD 35 1 4 x hm.1,hsI 36 2 4 (m:=m) x,AlD 37 2 4 x hm.1,hbb 38 (Xl (q:=k) aa)] (mLs ⟨gg,row,C4 m x true,C4 m x true⟩) k5 [] [(0,0),(1,1),(2,2)] []
 .split at hs
  .rename_i he;subst he;rw[EQ];exact ZT [hr 21 (D4 (s:=vs))] (mLs (XL gg row vs)) [(0,0),(1,1),(2,2)] []
  .cases hs
end
def Af5(I:Gi)(al:AQ)(s:Be):Option Bc:=(Af2 I al (OR I.cards s)).map λv=>JR I (wV al v)
theorem AlF{κ:Nat->Ft}{al:AQ}(h0:κ 0=some 0)(h1:κ 1=some 1)(h2:κ 2=some 2):Aa4 κ (σ3 al) (σ3 al):=λk o h=>by
 match k with
 |0=>obtain⟨a,e⟩:=Aau (v:=1) (f:=2) h1 h2 o h;exact⟨0,a,h0,e⟩
 |1=>obtain⟨a,e⟩:=PH o h;exact⟨1,a,h1,e⟩
 |2=>obtain⟨a,e⟩:=PH o h;exact⟨2,a,h2,e⟩
 |j+3=>cases h
theorem in3{al:AQ}:InP (vi [0,1,2]) [0,1,2] (σ3 al) (σ3 al):=λk o h=>by
 match k with
 |0=>obtain⟨a,e⟩:=Aau (κ:=vi [0,1,2]) (v:=1) (f:=2) rfl rfl o h;exact⟨0,a,rfl,e⟩
 |1=>obtain⟨a,e⟩:=PH (κ:=vi [0,1,2]) o h;exact⟨1,a,rfl,e⟩
 |2=>obtain⟨a,e⟩:=PH (κ:=vi [0,1,2]) o h;exact⟨2,a,rfl,e⟩
 |j+3=>cases h
theorem Ad2{I:Gi}{ids row vs:Bc}{s:Be}{r:Bc}(h:AfR fI (XL gg row vs) I)(hO:ba prog fI 47 [.ptr (Ag gg) 0,aE aj ids] (aE aj row))(hV:ba prog fI 238 [.ptr (Ag gg) 0,aE aj ids] (aE aj vs))(hn:vs.length<=1000)
  (hS:ba prog fI 74 [.ptr (Ag gg) 0,aE aj row] (aE cZ s)) (hsn:s.length<=1000) (hr:Af5 I (XL gg row vs) s=some r):ba prog fI 82 [.ptr (Ag gg) 0,aE aj ids] (aE aj r):=by
 unfold Af5 at hr
 cases hd:Af2 I (XL gg row vs) (OR I.cards s) with
 |none=>rw[hd] at hr;cases hr
 |some v=>
  rw[hd] at hr
  obtain rfl:=Bj hr
  have h':AfR fI (wV (XL gg row vs) v) I:=⟨h.g,h.c,h.o,h.n⟩
  have hg:=Adj h'
  have hof:=AlE hO hV hn
  have a:=Ad1 h hS hsn hd
  generalize XL gg row vs=al at*
  refine Gh func82 ?_
  exact Ar [hfm 8 [] 0 3 0 [] [.ptr (Ag gg) 0,aE aj ids] (σ3 al) hof AfQ (AlF rfl rfl rfl),hfm 10 [0,1,2] 3 0 3 (σ3 al) [.ref 0 0] (σ3 (wV al v)) a in3 (AlF rfl rfl rfl),hz 12 [0,1,2] (Aaw (al:=wV al v) (c:=3) hg)] [hc (ac.al (JR I (wV al v)))]
def AbE(o:Bp):JM:=bif decide (o.Kind=1) then some o.By else bif decide (o.Kind=2) then some o.Device else bif decide (o.Kind=13) then some o.Device else none
def Tz(I:Gi)(acc:Be)(x:Ab):Be:=match AbE (I.o x) with
 |none=>acc
 |some d=>bif acc.any (λy=>decide (d=y)) then acc else acc++[d]
def Ot(I:Gi)(row:Bc):Be:=row.foldl (Tz I) []
theorem Af6{I:Gi}{acc:Be}:(Tz I acc x).length<=acc.length+1:=by grind [Tz]
theorem Xc{I:Gi}:∀{l:Bc} {acc:Be},(l.foldl (Tz I) acc).length<=acc.length+l.length
 |[],acc=>Dx _
 |x::r,acc=>by have h1:=Xc (I:=I) (l:=r) (acc:=Tz I acc x);grind [Af6]
section
variable {gl:CD} {gg:Aj}
abbrev AjO(gg:Aj)(ids:Bc):G:= .clo (.func 237) [] [.ptr [.ptr (Ag gg) 0] 0,.ptr [aE aj ids] 0]
theorem AhJ(ids:Bc):ba prog gl 148 [.ptr (Ag gg) 0,aE aj ids] (AjO gg ids):=by refine Gh func148 ?_;refine pO [1,0] (s0 6 gl [(2,.ptr [.ptr (Ag gg) 0] 0),(3,.ptr [aE aj ids] 0)] [] 0 0) [] [hc (eB (gs:=[.ptr (Ag gg) 0]) aH),hc (aY (aG 20 (aE aj ids) aH) bf)] ?_;exact Ar [] []
noncomputable abbrev cSe:Code:=bq 111012 (ai Tryz.f74)
noncomputable abbrev UM(st:LoopState):Option Ob:=some ⟨0,[],some (.loop st none 22 [(5,.ref 0 0)] (Dy cSe) (Dz cSe) (DA cSe))⟩
abbrev AlG(gg:Aj)(row:Bc)(k:Nat):Fr:=[(0,.yld 1),(1,.ptr [.ptr (Ag gg) 0] 0),(11,aE aj row),(12,iG (ah row)),(13,iG (k:Int))]
noncomputable abbrev σCa(acc:Be):aQ:=[(0,bxI (.rsl 2 0 acc.length)),(1,UM .ready),(2,KE acc)]
noncomputable abbrev AjP(gl:CD)(gg:Aj)(row:Bc)(k:Nat)(acc:Be):St:=(s0 40 gl (AlG gg row k) (σCa acc) 3 2)
noncomputable abbrev Ya(gl:CD)(gg:Aj)(row:Bc)(k:Nat)(acc:Be)(x:Ab)(d:Int):St:=(s0 40 gl ((5,.ref 3 0)::(8,iG d)::AlG gg row k) (σCa acc++[(3,XK x)]) 4 2)
abbrev ρC3:DG:=[(0,0),(1,1),(2,2)]
abbrev ρC4:DG:=[(0,0),(1,1),(2,2),(3,3)]
theorem Af7{l:Be}{d:Int}{i c:Nat}(hn:l.length<=1000000):oJ prog gl 77 [.rsl i 0 l.length,iG d] [(i,KE l)] c (bG (l.any λy=>decide (d=y))) [] c:=
 PA aH (Dq gl (SP aa d)) (lR _) rfl λst h j y z h1 h2=>by
  match j with
  |0=>cases h1;cases h2;have ho:ag st.σ i=KE l:=h i _ (by rw[Ba,Bx rfl]);exact FD (s:=1) ho aH (by grind [AH.len,rZ]) (rZ.len l) (by grind [jB,AH.imm,rZ])
  |1=>grind [jB,mN]
  |j+2=>cases h1
theorem Xd(h:Q9 gl gg I){ids row:Bc}(hO:ba prog gl 47 [.ptr (Ag gg) 0,aE aj ids] (aE aj row))(hn:row.length<=1000):ba prog gl 74 [.ptr (Ag gg) 0,aE aj ids] (aE cZ (Ot I row)):=by
 refine Gh func74 ?_;refine YR [1,1,0,1,2] (s0 22 gl [(5,.ref 0 0),(10,AjO gg ids)] [(0,bxI (.lit (.slice none 0 0)))] 1 0) [hf 10 (AhJ (gl:=gl) (gg:=gg) ids)] ?_;refine Xt (fst:=[]) (cap:=[.ptr [.ptr (Ag gg) 0] 0,.ptr [aE aj ids] 0]) Tryz.f237 func237 ?_;refine pN (λk:Nat=>AjP gl gg row k ((row.take k).foldl (Tz I) [])) [1,2,2] (E0 (n:=row.length) aa) [hf 11 hO] [hc (rZ.imm [])] (λB k w hs k5 g=>?_) (vs:=[3]) (ρ:=ρC3) (kd:=[(2,.row)]);unfold KS at hs;split at hs
 .rename_i hlt;obtain rfl:=Bj hs;obtain⟨x,hx⟩:∃x,row[k]?=some x:=⟨_,DR hlt⟩;have e:=Bg hx;have k5:=k5 _ rfl;have hal:=Xc (I:=I) (l:=row.take k) (acc:=[]);rw[N3,List.length_nil] at hal;rw[Jn,hx,Option.toList_some,OP,List.foldl_cons,List.foldl_nil] at k5;generalize (row.take k).foldl (Tz I) []=acc at k5 hal⊢;have ho:=h.op x;have hb2:k<1000000:=aa;have fin:∀d,B (AjP gl gg row (k+1) (bif acc.any (λy=>decide (d=y)) then acc else acc++[d]))->Gp prog Tryz.f237 (sI prog (s0 22 gl [(5,.ref 0 0),(10,AjO gg ids)] [(0,bxI (.lit (.slice none 0 0)))] 1 0) (dz prog (bE [1,1,0,1,2] (ai Tryz.f74) [] []) (tH prog Tryz.f74 (aE cZ (Ot I row))))) [B] false [1,2,2,1,1,0,2,1,1,1,1,0] (Ya gl gg row k acc x d):=λd hB=>by
   have f:=Af7 (gl:=gl) (l:=acc) (d:=d) (i:=2) (c:=4) aa;cases cc:acc.any (λy=>decide (d=y)) with
   |true=>
    rw[cc] at hB f;refine Xw (i:=1) (j:=3) (n:=22) (t:=0) (t2:=0) (pe:=none) (fr:=[(5,.ref 0 0)]) (ps:=Dy cSe) (a:=Dz cSe) (b:=DA cSe) (s1:=(s0 40 gl ([(36,iG d),(35,.agg (aj x)),(34,.yld 1)]++(Ya gl gg row k acc x d).fr) ((Ya gl gg row k acc x d).σ) 4 2))
     (s3:=(s0 40 gl ([(38,bG false),(37,bG true),(36,iG d),(35,.agg (aj x)),(34,.yld 1)]++(Ya gl gg row k acc x d).fr) ((1,UM .ready)::[(0,bxI (.rsl 2 0 acc.length)),(1,UM .busy),(2,KE acc)]) 4 2))
     [(0,bxI (.rsl 2 0 acc.length)),(1,UM .busy),(2,KE acc)] 4 (.loop .ready none 22 [(5,.ref 0 0)] (Dy cSe) (Dz cSe) (DA cSe)) [] [] ?_ ?_
    .refine C9 .normal ⟨22,gl,[(5,.ref 0 0),(7,iG d)],[(0,bxI (.rsl 2 0 acc.length)),(1,UM .ready),(2,KE acc)],4,4,true⟩ [] [hc (rfl:acc.length=acc.length),hc (rZ.imm acc)] (Xv Tryz.f74 ?_ rfl) (ρ:=ρC4) (kd:=[(2,.row)]);exact C9 .normal ⟨22,gl,[],[(0,bxI (.rsl 2 0 acc.length)),(1,UM .busy),(2,KE acc)],4,4,true⟩ [hz 15 [2] f] [hc (rfl:acc.length=acc.length),hc (rZ.imm acc)] (by grind [jy]) (ρ:=ρC4) (kd:=[(2,.row)])
    .exact jw [hbb 39 (Xl (q:=k) aa)] [hc (rfl:acc.length=acc.length),hc (rZ.imm acc)] hB [] ρC3 [(2,.row)]
   |false=>
    rw[cc] at hB f;refine Xw (i:=1) (j:=3) (n:=22) (t:=0) (t2:=0) (pe:=none) (fr:=[(5,.ref 0 0)]) (ps:=Dy cSe) (a:=Dz cSe) (b:=DA cSe) (s1:=(s0 40 gl ([(36,iG d),(35,.agg (aj x)),(34,.yld 1)]++(Ya gl gg row k acc x d).fr) ((Ya gl gg row k acc x d).σ) 4 2))
     (s3:=(s0 40 gl ([(38,bG false),(37,bG true),(36,iG d),(35,.agg (aj x)),(34,.yld 1)]++(Ya gl gg row k acc x d).fr) ((1,UM .ready)::[(0,bxI (.rsl 4 0 (acc++[d]).length)),(1,UM .busy),(4,KE (acc++[d]))]) 5 2))
     [(0,bxI (.rsl 4 0 (acc++[d]).length)),(1,UM .busy),(4,KE (acc++[d]))] 5 (.loop .ready none 22 [(5,.ref 0 0)] (Dy cSe) (Dz cSe) (DA cSe)) [] [] ?_ ?_
    .refine C9 .normal ⟨22,gl,[(5,.ref 0 0),(7,iG d)],[(0,bxI (.rsl 2 0 acc.length)),(1,UM .ready),(2,KE acc)],4,4,true⟩ [] [hc (rfl:acc.length=acc.length),hc (rZ.imm acc)] (Xv Tryz.f74 ?_ rfl) (ρ:=ρC4) (kd:=[(2,.row)]);exact C9 .normal ⟨22,gl,[],[(0,bxI (.rsl 4 0 (acc++[d]).length)),(1,UM .busy),(4,KE (acc++[d]))],5,4,true⟩ [hz 15 [2] f,Tn 20 rZ 8 acc d aa] [hc (el (acc++[d])),hc (rZ.imm (acc++[d]))] (by grind [jy]) (ρ:=rI 4++[(4,5)]) (kd:=[(4,.row)])
    .exact jw [hbb 39 (Xl (q:=k) aa)] [hc (el (acc++[d])),hc (rZ.imm (acc++[d]))] hB [] [(0,0),(1,1),(2,4)] [(2,.row)]
  unfold Tz at k5;generalize I.o x=o at ho k5;unfold AbE at k5;cases b1:decide (o.Kind=1) with
  |true=>rw[b1] at k5;exact pO 1122110211110 (Ya gl gg row k acc x o.By) [hr 14 (Dk hx),AA 15 (ac.ixZ e),AA 16 (ac.ptZ aW e),hf 20 ho,hr 26 b1] [hc (rfl:acc.length=acc.length),hc (rZ.imm acc)] (fin _ k5) [] ρC4 [(2,.row)]
  |false=>
   rw[b1,A9] at k5;cases b2:decide (o.Kind=2) with
   |true=>rw[b2] at k5;exact pO 1122110211110 (Ya gl gg row k acc x o.Device) [hr 14 (Dk hx),AA 15 (ac.ixZ e),AA 16 (ac.ptZ aW e),hf 20 ho,hr 26 b1,hr 30 b2] [hc (rfl:acc.length=acc.length),hc (rZ.imm acc)] (fin _ k5) [] ρC4 [(2,.row)]
   |false=>
    rw[b2,A9] at k5;cases b3:decide (o.Kind=13) with
    |true=>rw[b3] at k5;exact pO 1122110211110 (Ya gl gg row k acc x o.Device) [hr 14 (Dk hx),AA 15 (ac.ixZ e),AA 16 (ac.ptZ aW e),hf 20 ho,hr 26 b1,hr 30 b2,hr 31 b3] [hc (rfl:acc.length=acc.length),hc (rZ.imm acc)] (fin _ k5) [] ρC4 [(2,.row)]
    |false=>rw[b3] at k5;exact jw [hr 14 (Dk hx),AA 15 (ac.ixZ e),AA 16 (ac.ptZ aW e),hf 20 ho,hr 26 b1,hr 30 b2,hr 31 b3,hbb 39 (Xl (q:=k) aa)] [hc (rfl:acc.length=acc.length),hc (rZ.imm acc)] k5 [] ρC3 [(2,.row)]
 .split at hs
  .rename_i he;subst he;rw[EQ];show Gp _ _ _ _ _ _ (AjP gl gg row row.length (Ot I row));generalize Ot I row=acc;refine C9 .normal (s0 40 gl [] [(0,bxI (.rsl 2 0 acc.length)),(1,UM .ready),(2,KE acc)] 3 2) [hr 14 (D4 (s:=row))] [hc (rfl:acc.length=acc.length),hc (rZ.imm acc)] (Xu ?_ rfl) (ρ:=ρC3) (kd:=[(2,.row)]);exact Ar [] [hc (rZ.al acc)]
  .cases hs
end
abbrev CmV(gl:CD)(fi:FuncId)(fa fc:Bn)(cmp:Ab->Ab->Int):Prop:=T9 prog gl fi fa fc (λp:Ab×Ab=>[.agg (aj p.1),.agg (aj p.2)]) (λz:Int=>iG z) (λp=>some (cmp p.1 p.2))
abbrev Se(fi:FuncId)(fa fc:Bn):G:= .clo (.func fi) fa fc
theorem imP(p:Ab×Ab):∀g∈([.agg (aj p.1),.agg (aj p.2)]:Bn),bB g:=aY (aG 20 (.agg (aj p.1)) aH) (aY (aG 20 (.agg (aj p.2)) aH) bf)
abbrev hcp(d c:Nat){gl:CD}{fi:FuncId}{fa fc:Bn}{cmp:Ab->Ab->Int}(hv:CmV gl fi fa fc cmp)(x y:Ab):HP:=hz d [] (hv.cs (c:=c) (x:=(x,y)) rfl (imP (x,y)))
def Aay{α:Type}(cmp:α->α->Int)(a:Int)(s:List α×Int):Option ((List α×Int)⊕List α):=
 bif decide (a<s.2) then(aS s.1 s.2).bind λx=>(aS s.1 (wI (s.2-1))).bind λy=>bif decide (cmp x y<0) then(ji s.1 s.2 y).bind λb=>(ji b (wI (s.2-1)) x).bind λc=>some (.inl (c,wI (s.2-1))) else some (.inr s.1) else some (.inr s.1)
def Aaz{α:Type}(cmp:α->α->Int)(a b:Int)(s:List α×Int):Option ((List α×Int)⊕List α):=
 bif decide (s.2<b) then(AB (Aay cmp a) (s.1,s.2)).bind λl=>some (.inl (l,wI (s.2+1))) else some (.inr s.1)
def inI{α:Type}(cmp:α->α->Int)(a b:Int)(l:List α):Option (List α):=AB (Aaz cmp a b) (l,wI (a+1))
theorem Ait{l c d:Bc}{i j:Int}{a b:Ab}(h1:ji l i b=some c)(h2:ji c j a=some d):fh prog 29 (.rsl 0 0 l.length) j=some (.ref 0 (0+j.toNat*3)):=by rw[hZ h1];exact ac.ixsZ 0 h2
section
variable {gl:CD} {fi:FuncId} {fa fc:Bn} {cmp:Ab->Ab->Int} (hv:CmV gl fi fa fc cmp)
include hv
theorem Adn{a b:Int}{l r:Bc}(h:inI cmp a b l=some r):jg prog gl 267 [.rsl 0 0 l.length,iG a,iG b,Se fi fa fc] [(0,Bw l)] 1 (.tup []) [(0,Bw r)] 1:=by
 unfold inI at h;refine pP func267 ?_;refine pN (λs:Bc×Int=>(s0 53 gl [(0,.rsl 0 0 s.1.length),(1,iG a),(2,iG b),(3,Se fi fa fc),(8,iG s.2)] [(0,Bw s.1)] 1 1)) 1122 h [] [hc (el l),hc hv.im,hc (ac.imm l)] (λB s w hs k5 f=>?_) [] [(0,0)] [(0,.row)];obtain⟨l1,i⟩:=s;unfold Aaz at hs;dsimp only at hs;rcases bC hs with⟨b1,hs⟩|⟨b1,hs⟩
 .obtain⟨l2,e2,hs⟩:=bS hs;obtain rfl:=Bj hs;refine Ix 11221021 (s0 53 gl [(0,.rsl 0 0 l2.length),(1,iG a),(2,iG b),(3,Se fi fa fc),(8,iG i)] [(0,Bw l2)] 1 1) ?_ λkk=>?_
  .exact jw [] [hc (el l2),hc hv.im,hc (ac.imm l2)] (k5 _ rfl) [] [(0,0)] [(0,.row)]
  refine pN (λs:Bc×Int=>(s0 53 gl [(0,.rsl 0 0 s.1.length),(1,iG a),(2,iG b),(3,Se fi fa fc),(8,iG i),(9,iG s.2)] [(0,Bw s.1)] 1 1)) 1122102122 e2 [hr 14 b1] [hc (el l1),hc hv.im,hc (ac.imm l1)] (λm z v hz g d=>?_) [] [(0,0)] [(0,.row)];obtain⟨l3,j⟩:=z;unfold Aay at hz;dsimp only at hz;rcases bC hz with⟨b2,hz⟩|⟨b2,hz⟩
  .obtain⟨x,ex,hz⟩:=bS hz;obtain⟨y,c,hz⟩:=bS hz;rcases bC hz with⟨b3,hz⟩|⟨b3,hz⟩
   .obtain⟨k,e1,hz⟩:=bS hz;obtain⟨e,e3,hz⟩:=bS hz;obtain rfl:=Bj hz;exact jw [hr 20 b2,AA 25 (ac.ixrZ 0 ex),AA 26 (ac.pt0Z aW ex),AA 30 (ac.ixrZ 0 c),AA 31 (ac.pt0Z aW c),hcp 32 1 hv x y,hr 33 b3,AA 45 (ac.ixrZ 0 c),AA 46 (ac.pt0Z aW c),AA 49 (ac.ixrZ 0 ex),AA 50 (ac.pt0Z aW ex),AA 51 (ac.ixsZ 0 e1),hw 51 (k.flatMap aj) (ac.putZ e1),AA 52 (Ait e1 e3),hw 52 (e.flatMap aj) (ac.putZ e3)] [hc ((hZ e1).trans (hZ e3)),hc hv.im,hc (ac.imm e)] (g _ rfl) [] [(0,0)] [(0,.row)]
   .obtain rfl:=Bj hz;obtain rfl:=d _ rfl;exact yl 11221021 [hr 20 b2,AA 25 (ac.ixrZ 0 ex),AA 26 (ac.pt0Z aW ex),AA 30 (ac.ixrZ 0 c),AA 31 (ac.pt0Z aW c),hcp 32 1 hv x y,hr 33 b3] [hc (el l3),hc hv.im,hc (ac.imm l3)] kk [] [(0,0)] [(0,.row)]
  .obtain rfl:=Bj hz;obtain rfl:=d _ rfl;exact yl 11221021 [hr 20 b2] [hc (el l3),hc hv.im,hc (ac.imm l3)] kk [] [(0,0)] [(0,.row)]
 .obtain rfl:=Bj hs;obtain rfl:=f _ rfl;exact mt .normal (s0 53 gl [] [(0,Bw l1)] 1 1) [] [hr 14 b1] [hc (ac.imm l1)] (ρ:=[(0,0)]) (kd:=[(0,.row)])
omit hv
def swZ{α:Type}(l:List α)(i j:Nat):Option (List α):=(l[i]?).bind λx=>(l[j]?).bind λy=>some ((l.set i y).set j x)
theorem I3{l r:List α}{i j:Nat}(h:swZ l i j=some r):∃x y,l[i]?=some x/\l[j]?=some y/\r=(l.set i y).set j x:=by grind [swZ]
theorem stZ{l:List α}{i:Nat}{y x:α}(h:l[i]?=some y):ji l (i:Int) x=some (l.set i x):=by grind [ji]
theorem AhL{l:List α}{i j:Nat}{y x z w:α}(h:l[j]?=some y):ji (l.set i z) (j:Int) x=some ((l.set i z).set j x):=by grind [ji]
theorem Un{l:Bc}{y:Ab}:l.length=((l.set i y).set j x).length:=by rw[List.length_set,List.length_set]
abbrev hsw(a b c d:Nat){l w:Bc}{i j:Nat}{x y:Ab}(hx:l[i]?=some x)(hy:l[j]?=some y)(e:w=(l.set i y).set j x):List HP:=[AA a (ac.ixrZ 0 (Bg hy)),AA (a+1) (ac.pt0Z aW (Bg hy)),AA b (ac.ixrZ 0 (Bg hx)),AA (b+1) (ac.pt0Z aW (Bg hx)),AA c (ac.ixsZ 0 (stZ (x:=y) hx)),hw c ((l.set i y).flatMap aj) (ac.putZ (stZ (x:=y) hx)),AA d (Ait (stZ (x:=y) hx) (AhL (w:=x) (x:=x) (z:=y) (i:=i) hy)),hw d (w.flatMap aj) (e▸ac.putZ (AhL (w:=x) (x:=x) (z:=y) (i:=i) hy))]
theorem Hq{c:Bool}{x:Option α}{v:α}(h:(bif c then x else none)=some v):c=true/\x=some v:=by grind
theorem Af8(h:Nat.blt 0 j=true):∃k,j=k+1:=by simp_all
theorem Af9{v:Nat⊕α}(h:(bif Nat.blt 0 j then some (.inl (j-1)) else none)=some v):∃k,j=k+1/\v= .inl k:=by
 cases j with
 |zero=>cases h
 |succ k=>grind
def scU(cmp:Ab->Ab->Int)(l:Bc)(a j i:Nat):Option (Nat⊕Nat):=bif decide ((i:Int)<=(j:Int)) then(l[i]?).bind λx=>(l[a]?).bind λy=>bif decide (cmp x y<0) then some (.inl (i+1)) else some (.inr i) else some (.inr i)
def scD(cmp:Ab->Ab->Int)(l:Bc)(a i j:Nat):Option (Nat⊕Nat):=bif decide ((i:Int)<=(j:Int)) then(l[j]?).bind λx=>(l[a]?).bind λy=>bif decide (cmp x y<0) then some (.inr j) else bif Nat.blt 0 j then some (.inl (j-1)) else none else some (.inr j)
def paT(cmp:Ab->Ab->Int)(a:Nat)(s:Bc×Nat×Nat):Option ((Bc×Nat×Nat)⊕(Bc×Nat)):=
 bif decide (s.1.length<=1000) then(AB (scU cmp s.1 a s.2.2) s.2.1).bind λi=>(AB (scD cmp s.1 a i) s.2.2).bind λj=>bif decide ((j:Int)<(i:Int)) then some (.inr (s.1,j)) else bif Nat.blt 0 j then(swZ s.1 i j).bind λl=>some (.inl (l,i+1,j-1)) else none else none
def paS(cmp:Ab->Ab->Int)(a b p:Nat)(l:Bc):Option (Nat×Bool×Bc):=
 (
  swZ l a p).bind λl0=>(AB (scU cmp l0 a (b-1)) (a+1)).bind λi=>(AB (scD cmp l0 a i) (b-1)).bind λj=>
  bif decide ((j:Int)<(i:Int)) then(swZ l0 j a).bind λr=>some (j,true,r) else bif Nat.blt 0 j then(swZ l0 i j).bind λl1=>(AB (paT cmp a) (l1,i+1,j-1)).bind λs=>(swZ s.1 s.2 a).bind λr=>some (s.2,false,r) else none
include hv
abbrev AaA(gl:CD)(fi:FuncId)(fa fc:Bn)(a b:Nat)(l:Bc)(i j:Nat):St:=(s0 178 gl [(0,.rsl 0 0 l.length),(1,iG (a:Int)),(2,iG (b:Int)),(4,Se fi fa fc),(12,iG (i:Int)),(13,iG (j:Int))] [(0,Bw l)] 1 1)
theorem Qt{a b p:Nat}{l r:Bc}{m:Nat}{f:Bool}(hl:l.length<=1000)(ha:a<1000)(hb1:1<=b)(hb2:b<=1000)(h:paS cmp a b p l=some (m,f,r)):jg prog gl 274 [.rsl 0 0 l.length,iG (a:Int),iG (b:Int),iG (p:Int),Se fi fa fc] [(0,Bw l)] 1 (.tup [iG (m:Int),bG f]) [(0,Bw r)] 1:=by
 obtain⟨b,rfl⟩:∃q,b=q+1:=⟨b-1,aa⟩;unfold paS at h;rw[Nat.add_sub_cancel] at h;obtain⟨l0,e0,h⟩:=bS h;obtain⟨i,ei,h⟩:=bS h;obtain⟨j,ej,h⟩:=bS h;obtain⟨C,D,h1,h2,e0⟩:=I3 e0;have hl0:l.length=l0.length:=by rw[e0];exact Un
 refine pP func274 ?_;refine Ix 11110 (AaA gl fi fa fc a (b+1) l0 i b) ?_ λkk=>?_;rotate_left
 .have hl2:l0.length<=1000:=aa;refine pN (λq:Nat=>AaA gl fi fa fc a (b+1) l0 q b) [1,1,1,0,2,2] ei (hsw 20 24 26 27 h1 h2 e0++[hbb 29 (Xl (q:=a) aa),hbb 31 (dec (q:=b) aa)]) [hc hl0,hc hv.im,hc (ac.imm l0)] (λt q v hz g d=>?_) [] [(0,0)] [(0,.row)];unfold scU at hz;rcases bC hz with⟨b2,hz⟩|⟨b2,hz⟩
  .obtain⟨x,ex,hz⟩:=bS hz;obtain⟨y,c,hz⟩:=bS hz;have hq:=(cr ex).1;rcases bC hz with⟨b3,hz⟩|⟨b3,hz⟩
   .obtain rfl:=Bj hz;exact jw [hr 34 b2,AA 39 (ac.ixrZ 0 (Bg ex)),AA 40 (ac.pt0Z aW (Bg ex)),AA 43 (ac.ixrZ 0 (Bg c)),AA 44 (ac.pt0Z aW (Bg c)),hcp 45 1 hv x y,hr 46 b3,hbb 49 (Xl (q:=q) aa)] [hc (rfl:l0.length=l0.length),hc hv.im,hc (ac.imm l0)] (g _ rfl) [] [(0,0)] [(0,.row)]
   .obtain rfl:=Bj hz;obtain rfl:=d _ rfl;exact yl 11110 [hr 34 b2,AA 39 (ac.ixrZ 0 (Bg ex)),AA 40 (ac.pt0Z aW (Bg ex)),AA 43 (ac.ixrZ 0 (Bg c)),AA 44 (ac.pt0Z aW (Bg c)),hcp 45 1 hv x y,hr 46 b3] [hc (rfl:l0.length=l0.length),hc hv.im,hc (ac.imm l0)] kk [] [(0,0)] [(0,.row)]
  .obtain rfl:=Bj hz;obtain rfl:=d _ rfl;exact yl 11110 [hr 34 b2] [hc (rfl:l0.length=l0.length),hc hv.im,hc (ac.imm l0)] kk [] [(0,0)] [(0,.row)]
 have hl0:l0.length<=1000:=aa;clear e0 h1 h2 hl ei;refine Ix 111110 (AaA gl fi fa fc a (b+1) l0 i j) ?_ λkk=>?_;rotate_left
 .skip;refine pN (λq:Nat=>AaA gl fi fa fc a (b+1) l0 i q) [1,1,1,1,0,2,2] ej [] [hc (rfl:l0.length=l0.length),hc hv.im,hc (ac.imm l0)] (λt q v hz g d=>?_) [] [(0,0)] [(0,.row)];unfold scD at hz;rcases bC hz with⟨b2,hz⟩|⟨b2,hz⟩
  .obtain⟨x,ex,hz⟩:=bS hz;obtain⟨y,c,hz⟩:=bS hz;have hq:=(cr ex).1;rcases bC hz with⟨b3,hz⟩|⟨b3,hz⟩
   .obtain rfl:=Bj hz;obtain rfl:=d _ rfl;exact yl 111110 [hr 52 b2,AA 57 (ac.ixrZ 0 (Bg ex)),AA 58 (ac.pt0Z aW (Bg ex)),AA 61 (ac.ixrZ 0 (Bg c)),AA 62 (ac.pt0Z aW (Bg c)),hcp 63 1 hv x y,hr 64 b3] [hc (rfl:l0.length=l0.length),hc hv.im,hc (ac.imm l0)] kk [] [(0,0)] [(0,.row)]
   .obtain⟨k,rfl,rfl⟩:=Af9 hz;exact jw [hr 52 b2,AA 57 (ac.ixrZ 0 (Bg ex)),AA 58 (ac.pt0Z aW (Bg ex)),AA 61 (ac.ixrZ 0 (Bg c)),AA 62 (ac.pt0Z aW (Bg c)),hcp 63 1 hv x y,hr 64 b3,hbb 68 (dec (q:=k) aa)] [hc (rfl:l0.length=l0.length),hc hv.im,hc (ac.imm l0)] (g _ rfl) [] [(0,0)] [(0,.row)]
  .obtain rfl:=Bj hz;obtain rfl:=d _ rfl;exact yl 111110 [hr 52 b2] [hc (rfl:l0.length=l0.length),hc hv.im,hc (ac.imm l0)] kk [] [(0,0)] [(0,.row)]
 clear ej;rcases bC h with⟨b1,h⟩|⟨b1,h⟩
 .obtain⟨r',u,h⟩:=bS h;simp only[Fl,Ge] at h;obtain⟨rfl,rfl,rfl⟩:=h;obtain⟨x,y,hx,hy,e⟩:=I3 u;exact mt .ret (s0 178 gl [(10,iG (j:Int)),(11,bG true)] [(0,Bw r')] 1 1) [iG (j:Int),bG true] (hr 71 b1::hsw 78 82 84 85 hx hy e) [hc (ac.imm r')] (ρ:=[(0,0)]) (kd:=[(0,.row)])
 obtain⟨hj,h⟩:=Hq h;obtain⟨j,rfl⟩:=Af8 hj;rw[Nat.add_sub_cancel] at h;obtain⟨l1,e1,h⟩:=bS h;obtain⟨s,es,h⟩:=bS h;obtain⟨r',u,h⟩:=bS h;simp only[Fl,Ge] at h;obtain⟨rfl,rfl,rfl⟩:=h;obtain⟨x,y,hx,hy,e1⟩:=I3 e1;have hli:=(cr hx).1;have n:=(cr hy).1;have hl1:l0.length=l1.length:=by rw[e1];exact Un
 refine pN (λz:Bc×Nat×Nat=>AaA gl fi fa fc a (b+1) z.1 z.2.1 z.2.2) [1,1,1,1,1,1,1,1,1,0,2,2] es (hr 71 b1::hsw 93 97 99 100 hx hy e1++[hbb 102 (Xl (q:=i) aa),hbb 104 (dec (q:=j) aa)]) [hc hl1,hc hv.im,hc (ac.imm l1)] (λB z w hs k5 A=>?_) [] [(0,0)] [(0,.row)];clear hx hy e1 hli n hl1 b1 hl0;obtain⟨l1,i,j⟩:=z;unfold paT at hs;dsimp only at hs;cases b0:decide (l1.length<=1000) with
 |false=>rw[b0] at hs;cases hs
 |true=>
 rw[b0,ax] at hs;have hl1:=DP b0;obtain⟨i1,ei,hs⟩:=bS hs;obtain⟨o,ej,hs⟩:=bS hs;refine Ix 111111111102220 (AaA gl fi fa fc a (b+1) l1 i1 j) ?_ λkk=>?_;rotate_left
 .skip;refine pN (λq:Nat=>AaA gl fi fa fc a (b+1) l1 q j) [1,1,1,1,1,1,1,1,1,0,2,2,2,0,2,2] ei [] [hc (rfl:l1.length=l1.length),hc hv.im,hc (ac.imm l1)] (λt q v hz g d=>?_) [] [(0,0)] [(0,.row)];unfold scU at hz;rcases bC hz with⟨b2,hz⟩|⟨b2,hz⟩
  .obtain⟨x,ex,hz⟩:=bS hz;obtain⟨y,c,hz⟩:=bS hz;have hq:=(cr ex).1;rcases bC hz with⟨b3,hz⟩|⟨b3,hz⟩
   .obtain rfl:=Bj hz;exact jw [hr 107 b2,AA 112 (ac.ixrZ 0 (Bg ex)),AA 113 (ac.pt0Z aW (Bg ex)),AA 116 (ac.ixrZ 0 (Bg c)),AA 117 (ac.pt0Z aW (Bg c)),hcp 118 1 hv x y,hr 119 b3,hbb 122 (Xl (q:=q) aa)] [hc (rfl:l1.length=l1.length),hc hv.im,hc (ac.imm l1)] (g _ rfl) [] [(0,0)] [(0,.row)]
   .obtain rfl:=Bj hz;obtain rfl:=d _ rfl;exact yl 111111111102220 [hr 107 b2,AA 112 (ac.ixrZ 0 (Bg ex)),AA 113 (ac.pt0Z aW (Bg ex)),AA 116 (ac.ixrZ 0 (Bg c)),AA 117 (ac.pt0Z aW (Bg c)),hcp 118 1 hv x y,hr 119 b3] [hc (rfl:l1.length=l1.length),hc hv.im,hc (ac.imm l1)] kk [] [(0,0)] [(0,.row)]
  .obtain rfl:=Bj hz;obtain rfl:=d _ rfl;exact yl 111111111102220 [hr 107 b2] [hc (rfl:l1.length=l1.length),hc hv.im,hc (ac.imm l1)] kk [] [(0,0)] [(0,.row)]
 clear ei;refine Ix 1111111111022210 (AaA gl fi fa fc a (b+1) l1 i1 o) ?_ λkk=>?_;rotate_left
 .skip;refine pN (λq:Nat=>AaA gl fi fa fc a (b+1) l1 i1 q) [1,1,1,1,1,1,1,1,1,0,2,2,2,1,0,2,2] ej [] [hc (rfl:l1.length=l1.length),hc hv.im,hc (ac.imm l1)] (λt q v hz g d=>?_) [] [(0,0)] [(0,.row)];unfold scD at hz;rcases bC hz with⟨b2,hz⟩|⟨b2,hz⟩
  .obtain⟨x,ex,hz⟩:=bS hz;obtain⟨y,c,hz⟩:=bS hz;have hq:=(cr ex).1;rcases bC hz with⟨b3,hz⟩|⟨b3,hz⟩
   .obtain rfl:=Bj hz;obtain rfl:=d _ rfl;exact yl 1111111111022210 [hr 125 b2,AA 130 (ac.ixrZ 0 (Bg ex)),AA 131 (ac.pt0Z aW (Bg ex)),AA 134 (ac.ixrZ 0 (Bg c)),AA 135 (ac.pt0Z aW (Bg c)),hcp 136 1 hv x y,hr 137 b3] [hc (rfl:l1.length=l1.length),hc hv.im,hc (ac.imm l1)] kk [] [(0,0)] [(0,.row)]
   .obtain⟨k,rfl,rfl⟩:=Af9 hz;exact jw [hr 125 b2,AA 130 (ac.ixrZ 0 (Bg ex)),AA 131 (ac.pt0Z aW (Bg ex)),AA 134 (ac.ixrZ 0 (Bg c)),AA 135 (ac.pt0Z aW (Bg c)),hcp 136 1 hv x y,hr 137 b3,hbb 141 (dec (q:=k) aa)] [hc (rfl:l1.length=l1.length),hc hv.im,hc (ac.imm l1)] (g _ rfl) [] [(0,0)] [(0,.row)]
  .obtain rfl:=Bj hz;obtain rfl:=d _ rfl;exact yl 1111111111022210 [hr 125 b2] [hc (rfl:l1.length=l1.length),hc hv.im,hc (ac.imm l1)] kk [] [(0,0)] [(0,.row)]
 clear ej;rcases bC hs with⟨b1,hs⟩|⟨b1,hs⟩
 .obtain rfl:=Bj hs;obtain rfl:=A _ rfl;obtain⟨x,y,hx,hy,e⟩:=I3 u;exact mt .ret (s0 178 gl [(10,iG (o:Int)),(11,bG false)] [(0,Bw r')] 1 1) [iG (o:Int),bG false] (hr 144 b1::hsw 169 173 175 176 hx hy e) [hc (ac.imm r')] (ρ:=[(0,0)]) (kd:=[(0,.row)])
 .obtain⟨hj,hs⟩:=Hq hs;obtain⟨o,rfl⟩:=Af8 hj;rw[Nat.add_sub_cancel] at hs;obtain⟨l2,e2,hs⟩:=bS hs;obtain rfl:=Bj hs;obtain⟨x,y,hx,hy,e2⟩:=I3 e2;have hli:=(cr hx).1;have n:=(cr hy).1;have hl2:l1.length=l2.length:=by rw[e2];exact Un
  exact jw (hr 144 b1::hsw 151 155 157 158 hx hy e2++[hbb 160 (Xl (q:=i1) aa),hbb 162 (dec (q:=o) aa)]) [hc hl2,hc hv.im,hc (ac.imm l2)] (k5 _ rfl) [] [(0,0)] [(0,.row)]
end
section
variable {gl:CD}
abbrev oLs(l:Ly):Option Ob:=some ⟨22,l.flatMap Jc,none⟩
def Ady(s:Ly×Nat×Nat):Option ((Ly×Nat×Nat)⊕Ly):=bif decide ((s.2.1:Int)<(s.2.2:Int)-1) then(bif Nat.ble s.1.length 4000 then(swZ s.1 s.2.1 (s.2.2-1)).bind λw=>some (.inl (w,s.2.1+1,s.2.2-1)) else none) else some (.inr s.1)
theorem AkT{q:Nat}(h:q<1000000):lD .sub (iG (q:Int)) (iG 1)=some (iG ((q:Int)-1)):=by grind [sb]
theorem AiY{l r:Ly}(hn:l.length<=4000)(h:AB Ady (l,0,l.length)=some r):jg prog gl 131 [.rsl 0 0 l.length] [(0,oLs l)] 1 (.tup []) [(0,oLs r)] 1:=by
 refine pP func131 ?_;refine pN (λs:Ly×Nat×Nat=>(s0 28 gl [(0,.rsl 0 0 s.1.length),(2,iG (s.2.1:Int)),(3,iG ((s.2.2:Int)-1))] [(0,oLs s.1)] 1 1)) 1122 h [hbb 6 (AkT (q:=l.length) aa)] [hc (el l),hc (nH.imm l)] (λB s w hs k5 b=>?_) [] [(0,0)] [(0,.row)];obtain⟨l1,i,j⟩:=s;unfold Ady at hs;dsimp only at hs;rcases bC hs with⟨b1,hs⟩|⟨b1,hs⟩
 .rcases bC hs with⟨b2,hs⟩|⟨b2,hs⟩;rotate_left;· cases hs
  obtain⟨a,e0,hs⟩:=bS hs;obtain rfl:=Bj hs;obtain⟨j,rfl⟩:∃c,j=c+1:=⟨j-1,by have:=DP b1;omega⟩;rw[Nat.add_sub_cancel] at e0 k5;obtain⟨x,y,hx,hy,e1⟩:=I3 e0;have hw1:l1.length=a.length:=by rw[e1,List.length_set,List.length_set]
  have hi:=(cr hx).1;have hj:=(cr hy).1;have hl:=Fa b2;rw[show((j+1:Nat):Int)-1=(j:Int) by omega] at b1⊢;exact jw [hr 9 b1,AA 20 (nH.ixrZ 0 (Bg hy)),AA 21 (nH.p10Z Vs (Bg hy)),AA 24 (nH.ixrZ 0 (Bg hx)),AA 25 (nH.p10Z Vs (Bg hx)),AA 26 (nH.ixsZ 0 (stZ (x:=y) hx)),hw 26 ((l1.set i y).flatMap Jc) (nH.putZ (stZ (x:=y) hx)),AA 27 (nH.ixsZ 0 (stZ (x:=x) hy)),hw 27 (a.flatMap Jc) (e1▸nH.putZ (AhL (w:=x) (x:=x) (z:=y) (i:=i) hy)),hbb 11 (Xl (q:=i) aa),hbb 13 (AkT (q:=j) aa)] [hc hw1,hc (nH.imm a)] (k5 _ rfl) [] [(0,0)] [(0,.row)]
 .obtain rfl:=Bj hs;obtain rfl:=b _ rfl;exact mt .normal (s0 28 gl [] [(0,oLs l1)] 1 1) [] [hr 9 b1] [hc (nH.imm l1)] (ρ:=[(0,0)]) (kd:=[(0,.row)])
def LP(s:Ly):Option Ly:=aT 24 [] s
theorem SF{s:Ly}:LC prog gl (LP s) 130 [aE Jc s] 22 Jc:=λr h=>by
 unfold LP at h;refine OW func130 ?_;refine pO 1100 (s0 8 gl [(0,aE Jc s)] [] 0 0) [] [] ?_;refine IA 0 3 4 30 22 rfl (Fa aH) (Fa aH) λb hb=>?_;cases b
 .exact EI [eu 7 nH h] (nH.imm _)
 .obtain rfl:=nH.isNil (hb rfl);obtain rfl:=mV h;exact EI [] (nH.imm [])
theorem Adz{l r:Ly}(hn:l.length<=4000)(h:AB Ady (l,0,l.length)=some r)(hl:r.length=l.length):ba prog gl 65 [aE Jc l] (aE Jc r):=by refine Gh func65 ?_;have a:=SF (gl:=gl) (s:=l) (r:=l) (by unfold LP;grind [aT]);have hM:=AiY (gl:=gl) hn h;rw[<-hl] at a hM;exact Ar [hz 5 [] (SC (c:=0) aH a (eB aH) (nH.imm l)),tN 7 [0] 1 [(0,oLs l)] [.rsl 0 0 r.length] [(0,oLs r)] hM ⟨⟨rfl,.inr ⟨rfl,nH.imm l⟩⟩,trivial⟩ ⟨⟨rfl,.inr ⟨rfl,nH.imm r⟩⟩,trivial⟩] [hc (nH.al r)]
theorem AcU{l:Be}{a b r:Ly}(hd:Pu l d=some (a,b))(hn:a.length<=4000)(h:AB Ady (a,0,a.length)=some r)(hl:r.length=a.length):ba prog gl 26 [aE cZ l,iG d] (aE Jc r):=by refine Gh func26 ?_;exact Ar [hf 10 (Aa7 gl hd),hf 14 (Adz (gl:=gl) hn h hl)] []
end
theorem AgF(n:Int):SE n=zZ n:=by
 have:Ps n=AE n:=by grind [Ps,AE]
 grind [SE,zZ]
def ZQ(n:Nat):Nat:=((zZ (n:Int)).getD 0).toNat
theorem YC{n:Nat}(h:2<=n)(hn:n<=1000000):zZ (n:Int)=some ((ZQ n:Nat):Int)/\1<=ZQ n/\ZQ n<n:=by obtain⟨v,e,k,rfl,h1,h2⟩:=Oc h hn;grind [ZQ]
def OJ:Nat->Be->Ly
 |0,_=>[]
 |n+1,l=>if l.length=0 then[] else if l.length=1 then[l] else l::(OJ n (l.take (ZQ l.length))++OJ n (l.drop (ZQ l.length)))
def XW(d:Int):Nat->Be->Ly
 |0,_=>[]
 |n+1,l=>if l.length<=1 then[l] else l::(if d∈l.take (ZQ l.length) then XW d n (l.take (ZQ l.length)) else XW d n (l.drop (ZQ l.length)))
theorem SG(d:Int):∀(n m:Nat) (l:Be),l.length<n->l.length<m->l.length<=1000000->XW d n l=XW d m l
 |0,_,_,h,_,_=>(by grind)
 |_,0,_,_,h,_=>(by grind)
 |n+1,m+1,l,h,h',hl=>by
  unfold XW;split
  .rfl
  .obtain⟨_,k1,k2⟩:=YC (n:=l.length) aa hl;rw[SG d n m (l.take (ZQ l.length)) cq cq cq,SG d n m (l.drop (ZQ l.length)) cq cq cq]
theorem ZR:∀(nn:Nat) (l:Be),l.length<nn->l.length<=1000000->KF nn l=some (OJ nn l)/\(OJ nn l).length<=2*l.length-1
 |0,_,h,_=>absurd h (Nat.not_lt_zero _)
 |nn+1,l,h,hl=>by
  unfold KF OJ;by_cases h0:l.length=0
  .simp[ah,h0]
  by_cases h1:l.length=1
  .simp[ah,h1]
  obtain⟨e,k1,k2⟩:=YC (n:=l.length) aa hl;obtain⟨e2,n2⟩:=ZR nn (l.take (ZQ l.length)) cq cq;obtain⟨e3,a⟩:=ZR nn (l.drop (ZQ l.length)) cq cq;rw[show decide (ah l=0)=false from C6 (by unfold ah;omega),show decide (ah l=1)=false from C6 (by unfold ah;omega),A9,A9,show ah l=(l.length:Int) from rfl,e,aL,BA h0,BA h1];rw[N3] at n2;rw[List.length_drop] at a;constructor
  .refine T.eq (.bind (.pre aa aa ?_));rw[Fv,e2,aL];refine .bind (.app (by simp only[List.length_singleton];omega) (.bind (.suf aa aa ?_)));rw[Fv,e3,aL];exact .bind (.app (by simp only[Sq,List.length_singleton];omega) (.some aC))
  grind
theorem Uc:∀(nn:Nat) (l:Be),∀s∈OJ nn l,∀x∈s,x∈l
 |0,_=>by simp[OJ]
 |nn+1,l=>by
  intro s hs x hx;unfold OJ at hs;split at hs
  .cases hs
  split at hs
  .grind
  .rcases EO.1 hs with rfl|hs
   .exact hx
   rcases I5.1 hs with hs|hs
   .exact List.mem_of_mem_take (Uc nn _ s hs x hx)
   .exact List.mem_of_mem_drop (Uc nn _ s hs x hx)
theorem ZW(d:Int):∀(nn:Nat) (l:Be),l.length<nn->l.length<=1000000->l.Nodup->(OJ nn l).filter (λs=>decide (d∈s))=if d∈l then XW d nn l else[]
 |0,_,h,_,_=>(by grind)
 |nn+1,l,h,hl,hnd=>by
  by_cases hd:d∈l
  .rw[Bx hd];have hp:0<l.length:=List.length_pos_of_mem hd;unfold OJ XW;rw[BA aa];by_cases h1:l.length=1
   .grind
   rw[BA h1,BA aa];obtain⟨_,k1,k2⟩:=YC (n:=l.length) aa hl;generalize ZQ l.length=k at k1 k2;have e2:=ZW d nn (l.take k) cq cq (by grind);have e3:=ZW d nn (l.drop k) cq cq (by grind);grind [O6]
  grind [List.filter_eq_nil_iff,Uc]
end Go.Proofs.YtghphhhpagagbaaGreatDoor
