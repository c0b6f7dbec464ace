/- Texts. -/
import Derived.Laws.StructEq
import Derived.Orders
import Derived.Test.YtlimmeehdfbheaaGreatDoorGK
namespace Go.Proofs.YtlimmeehdfbheaaGreatDoor
set_option linter.unusedSectionVars false
set_option linter.unusedVariables false
set_option linter.unusedSimpArgs false
open Go.RowKit
variable {α:Type}{o:Oper}{c c' d i id j k m n:Nat}{s st st' st'':St}{p x y:Dl}{t u:Bn}{parts:Array (Nat×Dl)}{g gx gy v:G}{e:Exit}{zs:List Value}{hi lo:Option Dl}{a b:Value}{ok r:Bool}{gs l:Bo}{R:Bp}{q:FF}{fid:FuncId}{C:Option Prop}{ps:JQ}{ρ:Dx}{xs ys:Array Value}{z:Int}{P:Br}
theorem gj{ρ ρ':Dl->G}(hs:∀cs b,o.op≠ .select cs b)(h:∀x∈o.op.operands,ρ x=ρ' x):gJ P ρ o=gJ P ρ' o:=by grind [execOp_congr,gJ]
theorem jW{ρ ρ':Dl->G}{σ:aQ}(h:∀x∈o.op.operands,ρ x=ρ' x):aX P ρ σ o=aX P ρ' σ o:=by
 obtain⟨f,op,e,pos,d,guard⟩:=o;have arr:∀xs:Array Dl,(∀x∈xs,ρ x=ρ' x)->xs.map ρ=xs.map ρ':=by grind
 have g:=λhs=>gj (P:=P) hs h;cases op;case call c=>
  obtain⟨callee,args,ats⟩:=c
  cases callee with
  |builtin b=>
   cases b
   case len=>
    simp only[aX]
    rw[g aC]
    split
    .rename_i x t hx hat
     have:x∈args:=by rw[<-Array.mem_toList_iff,hx];simp
     grind [Op.operands,Call.operands]
    .rfl
   all_goals first|rfl|exact g aC
  |_=>rfl
 case slice t x lo hi mx=>
  cases mx with
  |some _=>simp[aX]
  |none=>
   simp only[aX]
   rw[g aC,h x fK]
   have e1:lo.map ρ=lo.map ρ':=by cases lo<;>simp_all [Op.operands]
   have e2:hi.map ρ=hi.map ρ':=by cases hi<;>simp_all [Op.operands]
   rw[e1,e2]
 all_goals grind [Op.operands,aX]
def St.pr(st:St):Nat×Bool:=(st.p,st.r)
structure Xg (st st':St):Prop where
 n:st'.n=st.n
 gl:st'.gl=st.gl
 fr:∀i,aD st'.fr i=aD st.fr i
 σ:∀i,ag st'.σ i=ag st.σ i
 c:st'.c=st.c
 p:st'.p=st.p
 r:st'.r=st.r
theorem Xg.rel{st st':St}(e:Xg st st'){cx:Cx}{a:Act}{w:World}(h:mh P cx st a w):mh P cx st' a w:=by
 obtain⟨β,h⟩:=h;obtain⟨e1,e2,e3,e4,e5,e6,e7⟩:=e;have hA:Av cx.S0 β st'.σ=Av cx.S0 β st.σ:=by grind
 refine⟨β,?_⟩;constructor<;>grind
theorem Xg.refl(st:St):Xg st st:=by constructor<;>grind
def mO(l:It)(o:Oper):Bp:=(o.op.operands.toList.filterMap fun| .tmp t=>some t|_=>none)++(match o.guard with|some (g,_)=>((l[g]?).bind (·.dst)).toList|none=>[])
def Um(e:Edge):Bool:=Region.binds .any e
def Ab2(o:Oper)(i:Nat):Bool:=o.after.toList.any λe=>Um e&&Nat.beq e.on i
def rgo:It->Bp->Bp
 |[],a=>a
 |o::r,a=>rgo r (a++[o.after.toList.foldr (λe s=>bif Um e then 2^e.on|||(a.getD e.on 0|||s)else s) 0])
def rch(R:Bp)(i j:Nat):Bool:=(R.getD j 0).testBit i
def mL(a b:Bp):Bool:=a.any λx=>b.any (Nat.beq x)
theorem wg{a b:Bp}(h:mL a b=false){x:Nat}(ha:x∈a):x∉b:=by simp only[mL,List.any_eq_false] at h;simp_all
structure DI where
 R:Bp
 U:aQ
 cu:Bool
 ck:aQ->Bool
def DI.K(d:DI):Bp:=d.U.map (·.1)
def bP(inf:List DI)(j:Nat):DI:=inf.getD j ⟨[],[],false,λ_=>false⟩
def xI(a b:DI):Bool:= !mL a.K b.R&&(!mL b.K a.R&&(!mL a.K b.K&& !(a.cu&&b.cu)))
def wv(l:It)(R:Bp)(n:Nat):Bool:=l.zipIdx.all λq=>(match q.1.dst with|some d=>Nat.blt d n|none=>true)&&(q.1.after.toList.all (λe=> !Um e||Nat.blt e.on q.2)&&l.zipIdx.all λp=>match p.1.dst with
 |none=>true
 |some d=>(Nat.beq p.2 q.2||q.1.dst !=some d)&&(!(mO l q.1).any (Nat.beq d)||(Nat.blt p.2 q.2&&Ab2 q.1 p.2||Nat.blt q.2 p.2&&rch R q.2 p.2)))
def Nu(inf:List DI)(R:Bp)(n:Nat):Dx:=(List.range n).flatMap λj=>(List.range j).filterMap λi=>bif rch R i j||xI (bP inf i) (bP inf j)then none else some (i,j)
def kL(l:It)(inf:List DI)(n:Nat):Bool:=(λR=>wv l R n&&match Nu inf R l.length with
 |[]=>true
 |[q]=>(bP inf q.1).U.isEmpty&&(!(bP inf q.1).cu&&(bP inf q.1).ck (bP inf q.2).U)
 |_=>false) (rgo l [])
def D6(P:Br)(ops:Array Oper)(d:DI)(o:Oper)(g:G)(st st':St):Prop:=
 (ce st ops o=some true/\∃c,st'={st with σ:=d.U++st.σ,c:=c}.put o.dst g/\(d.cu=false->c=st.c)/\
   ∀V:aQ,(V=[]\/d.ck V=true)->∀b,b.n=st.n->b.gl=st.gl->b.pr=st.pr->(d.cu=true->b.c=st.c)->(∀x∈d.R,ag b.σ x=ag (V++st.σ) x)->(∀x∈o.op.operands,aB b x=aB st x)->GS P o b ({b with σ:=d.U++b.σ,c:=if d.cu then c else b.c}.put o.dst g))\/
 (ce st ops o=some false/\g= .lit undef/\st'=st.put o.dst g/\d.U=[]/\d.cu=false)
def PQ(P:Br)(ops:Array Oper)(K:St->Prop):It->List DI->St->Prop
 |[],[],st=>K st
 |o::rest,i::inf,st=>∃g st',D6 P ops i o g st st'/\PQ P ops K rest inf st'
 |_,_,_=>False
theorem yM{ops:Array Oper}{K:St->Prop}:∀(l:It) (inf:List DI) (st:St),PQ P ops K l inf st->
  ∃(sts:Nat->St) (gs:Nat->G),sts 0=st/\K (sts l.length)/\∀i o,l[i]?=some o->D6 P ops (bP inf i) o (gs i) (sts i) (sts (i+1))
 |[],[],st,h=>⟨λ_=>st,λ_=> .junk,rfl,h,aC⟩
 |o::rest,q::inf,st,⟨g,st1,hs,hr⟩=>by obtain⟨sts,gs,h1,h2,h3⟩:=yM rest inf st1 hr;refine⟨λi=>match i with|0=>st|i+1=>sts i,λi=>match i with|0=>g|i+1=>gs i,rfl,h2,λi b ho=>?_⟩;grind [bP]
 |o::rest,[],st,h=>h.elim
 |[],q::inf,st,h=>h.elim
theorem Ab3{o:Oper}{g:G}(s:St):(s.put o.dst g).n=s.n/\(s.put o.dst g).gl=s.gl/\(s.put o.dst g).pr=s.pr/\(∀t,aD (s.put o.dst g).fr t=if o.dst=some t then g else aD s.fr t)/\(s.put o.dst g).σ=s.σ/\(s.put o.dst g).c=s.c:=by cases o.dst<;>simp[St.put,aO,St.pr]
theorem D6.like{ops:Array Oper}{d:DI}{o:Oper}{g:G}{st st':St}(h:D6 P ops d o g st st'):st'.n=st.n/\(st'.gl=st.gl/\st'.pr=st.pr)/\(∀t,aD st'.fr t=if o.dst=some t then g else aD st.fr t)/\(d.cu=false->st'.c=st.c)/\(∀x,x∉d.K->ag st'.σ x=ag st.σ x)/\∀x,x∈d.K->ag st'.σ x=ag d.U x:=by
 unfold DI.K;rcases h with⟨_,c,rfl,hc,_⟩|⟨_,_,rfl,h1,h2⟩
 all_goals grind [Ab3,fY,fE,St.pr]
theorem Ab4{D:Ga}{l:It}(hc:∀j o,l[j]?=some o->D j->∀e∈o.after.toList,Um e=true->D e.on):∀(r d:It) (a:Bp),l=d++r->a.length=d.length->(∀j i,D j->(a.getD j 0).testBit i=true->D i)->∀j i,D j->((rgo r a).getD j 0).testBit i=true->D i
 |[],d,a,hl,hn,ha=>ha
 |o::r,d,a,hl,hn,ha=>by
  refine Ab4 hc r (d++[o]) _ (by simp[hl]) (by simp[hn]) λj i hj hb=>?_;rcases Nat.lt_trichotomy j a.length with h|h|h
  .rw[List.getD_eq_getElem?_getD,List.getElem?_append_left h,<-List.getD_eq_getElem?_getD] at hb;grind
  .have ho:l[j]?=some o:=by grind
   have hb:(o.after.toList.foldr (λe s=>bif Um e then 2^e.on|||(a.getD e.on 0|||s)else s) 0).testBit i=true:=by grind
   have hd:=hc j o ho hj;generalize o.after.toList=es at hb hd;induction es<;>grind
  grind
section draw
variable {l:It} {inf:List DI} {st:St} {K:St->Prop} {cx:Cx} {Q:Exit->Act->World->Prop}
def bX(l:It)(i:Nat):Option Tmp:=(l[i]?).bind (·.dst)
def Fre(a b:DI):Prop:=(∀x∈a.K,x∉b.R)/\(∀x∈b.K,x∉a.R)/\(∀x∈a.K,x∉b.K)/\(a.cu=true->b.cu=false)
theorem AcZ{a b:DI}(h:xI a b=true):Fre a b:=by simp only[xI,bA,Bool.not_eq_true'] at h;constructor<;>grind [wg]
structure DY (P:Br) (l:It) (inf:List DI) (st:St) (sts:Nat->St) (gs:Nat->G) (sp:Option (Nat×Nat)):Prop where
 zero:sts 0=st
 step:∀i o,l[i]?=some o->D6 P l.toArray (bP inf i) o (gs i) (sts i) (sts (i+1))
 dstn:∀(j:Nat) (o:Oper) (d:Tmp),l[j]?=some o->o.dst=some d->d<st.n
 edges:∀j o,l[j]?=some o->∀e∈o.after.toList,Um e=true->e.on<j
 uniq:∀i j d,bX l i=some d->bX l j=some d->i=j
 look:∀i j o d,l[j]?=some o->bX l i=some d->d∈mO l o->(i<j/\Ab2 o i=true)\/(j<i/\rch (rgo l []) j i=true)
 spq:∀u v,sp=some (u,v)->u<v/\(bP inf u).U=[]/\(bP inf u).cu=false/\(bP inf u).ck (bP inf v).U=true
 pair:∀i j,i<j->j<l.length->rch (rgo l []) i j=true\/Fre (bP inf i) (bP inf j)\/sp=some (i,j)
theorem Ag9{R:Bp}{n i j:Nat}(hij:i<j)(hj:j<n):rch R i j=true\/xI (bP inf i) (bP inf j)=true\/(i,j)∈Nu inf R n:=by cases h1:rch R i j<;>cases h2:xI (bP inf i) (bP inf j)<;>simp[Nu];grind
theorem Ajy{R:Bp}{n:Nat}{q:Nat×Nat}(h:q∈Nu inf R n):q.1<q.2:=by grind [Nu]
theorem Dm{sts:Nat->St}{gs:Nat->G}(h:kL l inf st.n=true)(h0:sts 0=st)(hs:∀i o,l[i]?=some o->D6 P l.toArray (bP inf i) o (gs i) (sts i) (sts (i+1))):∃sp,DY P l inf st sts gs sp:=by
 simp only[kL,bA,wv,GE,Prod.forall,List.mem_zipIdx_iff_getElem?] at h;obtain⟨h,hp⟩:=h;have go:∀sp,(∀u v,sp=some (u,v)->u<v/\(bP inf u).U=[]/\(bP inf u).cu=false/\(bP inf u).ck (bP inf v).U=true)->(∀i j,i<j->j<l.length->rch (rgo l []) i j=true\/Fre (bP inf i) (bP inf j)\/sp=some (i,j))->∃sp,DY P l inf st sts gs sp:=by
  refine λsp k1 k2=>⟨sp,h0,hs,λj o d ho hd=>?_,λj o ho e he hb=>?_,λi j d hi hj=>?_,λi j o d ho hi hl=>?_,k1,k2⟩
  .have:=(h o j ho).1;simp_all
  .have:=(h o j ho).2.1 e he;simp_all
  .obtain⟨b,h1,h2⟩:=GJ.1 hi;obtain⟨c,h3,h4⟩:=GJ.1 hj;have:=(h c j h3).2.2 b i h1;simp_all
  .obtain⟨b,h1,h2⟩:=GJ.1 hi;grind [Nat.beq_refl,Nat.blt_eq]
 have bm:=λi j=>Ag9 (inf:=inf) (R:=rgo l []) (n:=l.length) (i:=i) (j:=j);split at hp
 .exact go none (by grind) (by grind [AcZ])
 .rename_i q hq;have:=Ajy (inf:=inf) (R:=rgo l []) (n:=l.length) (q:=q) (by simp[hq]);simp only[bA,Bool.not_eq_true',List.isEmpty_iff] at hp;exact go (some q) (by grind) (by grind [AcZ])
 .cases hp
variable {sts:Nat->St} {gs:Nat->G} {sp:Option (Nat×Nat)}
theorem DY.ngl(F:DY P l inf st sts gs sp):∀i,i<=l.length->(sts i).n=st.n/\(sts i).gl=st.gl/\(sts i).pr=st.pr
 |0,_=>by grind [zero]
 |i+1,hi=>by have:=F.ngl i aa;have:=(F.step i _ (EA aa)).like;grind
theorem DY.fr1(F:DY P l inf st sts gs sp){j:Nat}{t:Tmp}(hd:bX l j=some t):∀i,j<i->i<=l.length->aD (sts i).fr t=gs j
 |0,h,_=>aa
 |i+1,h,hi=>by
  have ho:l[i]?=some (l[i]'aa):=by grind
  have:=(F.step i _ ho).like;have:=F.uniq j i t hd;have:=F.fr1 hd i;grind [bX]
theorem DY.fr2(F:DY P l inf st sts gs sp){t:Tmp}:∀i,i<=l.length->(∀j,j<i->bX l j≠some t)->aD (sts i).fr t=aD st.fr t
 |0,_,_=>by rw[F.zero]
 |i+1,hi,h=>by
  have ho:l[i]?=some (l[i]'aa):=by grind
  have:=(F.step i _ ho).like;have:=h i aa;simp only[bX,ho,aL] at this;rw[(F.step i _ ho).like.2.2.1,BB this];exact F.fr2 i aa (by grind)
theorem DY.stc(F:DY P l inf st sts gs sp){a:Nat}:∀b,a<=b->b<=l.length->(∀k,a<=k->k<b->(bP inf k).cu=false)->(sts b).c=(sts a).c
 |0,h,_,_=>by grind
 |b+1,h,hl,hb=>by
  by_cases e:a=b+1
  .subst e;rfl
  .have:=(F.step b _ (EA aa)).like;have:=F.stc (a:=a) b;grind
theorem DY.sto(F:DY P l inf st sts gs sp){a x:Nat}:∀b,a<=b->b<=l.length->(∀k,a<=k->k<b->x∉(bP inf k).K)->ag (sts b).σ x=ag (sts a).σ x
 |0,h,_,_=>by grind
 |b+1,h,hl,hb=>by
  by_cases e:a=b+1
  .subst e;rfl
  .have:=(F.step b _ (EA aa)).like;have:=F.sto (a:=a) (x:=x) b;grind
structure KF (P:Br) (l:It) (inf:List DI) (st:St) (sts:Nat->St) (gs:Nat->G) (cx:Cx) (L:Array Bool) (a:Act) (w:World) (st':St):Prop where
 size:L.size=l.length
 closed:∀j o,l[j]?=some o->L.getD j false=true->∀e∈o.after.toList,Um e=true->L.getD e.on false=true
 rel:mh P cx st' a w
 n:st'.n=st.n
 gl:st'.gl=st.gl
 σ:∀x m,m<=l.length->(∀i,i<l.length->x∈(bP inf i).K->(L.getD i false=true↔i<m))->ag st'.σ x=ag (sts m).σ x
 c:∀m,m<=l.length->(∀i,i<l.length->(bP inf i).cu=true->(L.getD i false=true↔i<m))->st'.c=(sts m).c
 p:st'.pr=st.pr
 f1:∀j t,L.getD j false=true->bX l j=some t->aD st'.fr t=gs j
 f2:∀t,(∀j,L.getD j false=true->bX l j≠some t)->aD st'.fr t=aD st.fr t
section
variable {L:Array Bool} {a a':Act} {w w':World} {st':St} {j:Nat} {o:Oper}
theorem KF.done(I:KF P l inf st sts gs cx L a w st'){i k:Nat}(hk:L.getD k false=true)(h:rch (rgo l []) i k=true):L.getD i false=true:=Ab4 (D:=λk=>L.getD k false=true) I.closed l [] [] rfl rfl aC k i hk h
structure Now (l:It) (L:Array Bool) (j:Nat) (o:Oper):Prop where
 ho:l[j]?=some o
 hr:∀e∈o.after.toList,Um e=true->L.getD e.on false=true
 hL:L.getD j false=false
theorem KF.ready(I:KF P l inf st sts gs cx L a w st')(N:Now l L j o){i:Nat}(hne:i≠j)(h:rch (rgo l []) i j=true):L.getD i false=true:=by have:=Ab4 (D:=λk=>L.getD k false=true\/k=j) (l:=l) (by grind [Now,closed]) l [] [] rfl rfl aC j i (.inr rfl) h;grind
theorem KF.same(F:DY P l inf st sts gs sp)(I:KF P l inf st sts gs cx L a w st')(N:Now l L j o){t:Tmp}(ht:t∈mO l o):aD st'.fr t=aD (sts j).fr t:=by
 have hjl:=(cr N.ho).1;by_cases hx:∃i,bX l i=some t
 .obtain⟨i,hi⟩:=hx;have u:=λk h=>F.uniq k i t h hi;rcases F.look i j o t N.ho hi ht with⟨h1,h2⟩|⟨h1,h2⟩
  .obtain⟨e,he,h2⟩:=List.any_eq_true.1 h2;grind [Now,bc,f1,DY.fr1]
  .have:=λk=>I.done (i:=j) (k:=k);have:=N.hL;rw[I.f2 t (by grind),F.fr2 j aa (by grind)]
 grind [KF,DY.fr2]
theorem ord{D:Ga}{rc fr:Nat->Ga}(hL:¬D j)(dn:∀i k,D k->rc i k->D i)(b:∀i,i≠j->rc i j->D i)(pr:∀i k,i<k->k<n->rc i k\/fr i k\/sp=some (i,k))(hj:j<n){i:Nat}(hi:i<n)(hne:i≠j):fr i j\/fr j i\/(D i↔i<j)\/sp=some (i,j)\/(sp=some (j,i)/\j<i/\D i):=by grind
theorem KF.ord(F:DY P l inf st sts gs sp)(I:KF P l inf st sts gs cx L a w st')(N:Now l L j o){i:Nat}(hi:i<l.length)(hne:i≠j):Fre (bP inf i) (bP inf j)\/Fre (bP inf j) (bP inf i)\/(L.getD i false=true↔i<j)\/((bP inf i).U=[]/\(bP inf i).cu=false)\/(sp=some (j,i)/\j<i/\L.getD i false=true):=by grind [Now,done,ready,DY.pair,DY.spq]
theorem KF.find(F:DY P l inf st sts gs sp)(I:KF P l inf st sts gs cx L a w st')(N:Now l L j o):∃V:aQ,(V=[]\/(bP inf j).ck V=true)/\(∀x∈(bP inf j).R,ag st'.σ x=ag (V++(sts j).σ) x)/\((bP inf j).cu=true->st'.c=(sts j).c):=by
 have hjl:=(cr N.ho).1;have hL:=N.hL;have or:=λi=>I.ord F N (i:=i);have self:∀i,i=j->(L.getD i false=true↔i<j):=by grind
 have hc:(bP inf j).cu=true->st'.c=(sts j).c:=λhcu=>I.c j aa λi hi hci=>by
  by_cases e:i=j
  .exact self i e
  .rcases or i hi e with h|h|h|h|h
   .have:=h.2.2.2 hci;simp_all
   .have:=h.2.2.2 hcu;simp_all
   all_goals grind [DY.spq]
 have pl:∀x∈(bP inf j).R,∀i,i<l.length->x∈(bP inf i).K->(L.getD i false=true↔i<j)\/(sp=some (j,i)/\j<i/\L.getD i false=true):=λx hx i hi hk=>by
  by_cases e:i=j
  .grind
  .rcases or i hi e with h|h|h|h|h
   .exact absurd hx (h.1 x hk)
   .exact absurd hx (h.2.1 x hk)
   all_goals grind [DI.K]
 by_cases hv:∃v,sp=some (j,v)/\v<l.length/\L.getD v false=true
 .obtain⟨v,hs,hvl,b⟩:=hv;refine⟨(bP inf v).U,.inr (F.spq _ _ hs).2.2.2,λx hx=>?_,hc⟩;have hst:=(F.step v _ (EA hvl)).like;have d:=(F.spq _ _ hs).1;by_cases hxv:x∈(bP inf v).K
  .rw[fY hxv,<-hst.2.2.2.2.2 x hxv];refine I.σ x (v+1) aa λi hi hk=>?_;by_cases e:i=v
   .grind
   rcases pl x hx i hi hk with h|⟨h,_⟩
   .rcases Nat.lt_or_gt_of_ne e with h2|h2
    .have:L.getD i false=true:=by
      rcases F.pair i v h2 hvl with h3|h3|h3
      .grind [done]
      .exact absurd hxv (h3.2.2.1 x hk)
      grind [DI.K,DY.spq]
     grind
    grind
   grind
  .rw[fE hxv];grind [KF]
 .exact⟨[],.inl rfl,(by grind [KF]),hc⟩
theorem KF.next(F:DY P l inf st sts gs sp)(I:KF P l inf st sts gs cx L a w st')(N:Now l L j o){σ:aQ}{c:Nat}(f:mh P cx ({st' with σ:=σ,c:=c}.put o.dst (gs j)) a' w')(B:∀x,x∉(bP inf j).K->ag σ x=ag st'.σ x)(q:∀x,x∈(bP inf j).K->ag σ x=ag (sts (j+1)).σ x)(s:(bP inf j).cu=false->c=st'.c)(hc2:(bP inf j).cu=true->c=(sts (j+1)).c):∃r,KF P l inf st sts gs cx (L.setIfInBounds j true) a' w' r:=by
 obtain⟨ho,hr,hL⟩:=N;have hjl:=(cr ho).1;have set:∀i,(L.setIfInBounds j true).getD i false=if i=j then true else L.getD i false:=λi=>by have:=I.size;simp only[Array.getD_eq_getD_getElem?,Array.getElem?_setIfInBounds];grind
 obtain⟨u,v,y,C,z,A⟩:=Ab3 (o:=o) (g:=gs j) {st' with σ:=σ,c:=c};have late:∀k,j<k->k<l.length->L.getD k false=true->Fre (bP inf j) (bP inf k)\/sp=some (j,k):=by grind [DY.pair,done]
 have sp1:=λk h=>(F.spq j k h).2;refine⟨_,{size:=by simp[I.size],closed:=λk ok hk d e he hb=>?_,rel:=f,n:=u.trans I.n,gl:=v.trans I.gl,σ:=λx m hm b=>?_,c:=λm hm b=>?_,p:=y.trans I.p,f1:=λk t hk hd=>?_,f2:=λt ht=>?_}⟩
 .grind [closed]
 .rw[z];by_cases hx:x∈(bP inf j).K
  .rw[q x hx];have hjm:j<m:=by grind
   refine(F.sto (a:=j+1) m hjm hm λk hk1 hk2 hkx=>?_).symm;have d:=(b k aa hkx).2 hk2;rw[set,BB aa] at d;rcases late k aa aa d with h|h
   .exact h.2.2.1 x hx hkx
   grind [DI.K]
  grind [σ]
 .rw[A];cases hcu:(bP inf j).cu with
  |true=>
   rw[hc2 hcu];have hjm:j<m:=by grind
   refine(F.stc (a:=j+1) m hjm hm λk hk1 hk2=>?_).symm;cases hkc:(bP inf k).cu with
   |false=>rfl
   |true=>
    have d:=(b k aa hkc).2 hk2;rw[set,BB aa] at d;rcases late k aa aa d with h|h
    .have:=h.2.2.2 hcu;simp_all
    grind
  |false=>grind [c]
 .grind [KF,bX,DY.uniq]
 grind [bX,f2]
end
theorem BV(hg:st'.gl=s.gl)(h:∀t,x= .tmp t->aD st'.fr t=aD s.fr t):aB st' x=aB s x:=by cases x<;>grind [aB]
theorem YF:∀(l:List Bool) (i:Nat),l[i]?=some false->(l.set i true).count false+1=l.count false
 |[],i,h=>by simp at h
 |b::r,0,h=>by grind
 |b::r,i+1,h=>by grind
theorem KF.run(F:DY P l inf st sts gs sp)(k:∀a w,mh P cx (sts l.length) a w->Q .normal a w):∀(fuel:Nat) (L:Array Bool) (a:Act) (w:World) (st':St),L.toList.count false<=fuel->KF P l inf st sts gs cx L a w st'->wpAnyIn cx.F cx.nn P .any l.toArray Q fuel L a w:=by
 have rdy:∀{L:Array Bool} {a w st'} (I:KF P l inf st sts gs cx L a w st') {j},j∈Region.ready .any l.toArray L↔∃o,Now l L j o:=λ{L a w st'} I {j}=>by
  rw[mem_ready];have:=I.size;constructor
  .rintro⟨h1,o,ho,hr⟩;have ho:l[j]?=some o:=by grind
   have:=(cr ho).1;exact⟨o,ho,λe he hb=>hr e (by grind) hb,by grind⟩
  .rintro⟨o,ho,hr,hL⟩;have:=(cr ho).1;exact⟨by grind,o,by grind,λe he hb=>hr e (by grind) hb⟩
 have done:∀(L:Array Bool) (a:Act) (w:World) (st':St),KF P l inf st sts gs cx L a w st'->Region.ready .any l.toArray L=[]->Q .normal a w:=by
  intro L a w st' I hr;have hall:∀j,j<l.length->L.getD j false=true:=by
   intro j;induction j using Nat.strongRecOn with
   |_ j ih=>
    intro hj;cases h:L.getD j false with
    |true=>rfl
    |false=>have:j∈Region.ready .any l.toArray L:=(rdy I).2 ⟨_,EA hj,(by grind [KF,DY.edges]),h⟩;grind
  obtain⟨hn,hg,hp⟩:=F.ngl l.length (C6 _);have hpp:(sts l.length).pr=st'.pr:=hp.trans I.p.symm;simp only[St.pr,Gb] at hpp;refine k a w (Xg.rel ⟨hn.trans I.n.symm,hg.trans I.gl.symm,λt=>?_,(by grind [KF]),(by grind [KF]),hpp.1,hpp.2⟩ I.rel);by_cases hx:∃i,bX l i=some t
  .obtain⟨i,hi⟩:=hx;have hil:i<l.length:=by obtain⟨o,ho,_⟩:=GJ.1 hi;grind
   grind [DY.fr1,f1]
  .rw[F.fr2 l.length (C6 _) (by grind),I.f2 t (by grind)]
 intro fuel;induction fuel with
 |zero=>
  intro L a w st' hc I;have h0:Region.ready .any l.toArray L=[]:=List.eq_nil_iff_forall_not_mem.2 λj hj=>by obtain⟨o,ho,_,hL⟩:=(rdy I).1 hj;have:=(cr ho).1;have:=I.size;have h0:L.toList.count false=0:=aa;rw[List.count_eq_zero] at h0;exact h0 (by rw[<-hL];simp[Array.getD,show j<L.size by omega])
  exact⟨h0,(by grind)⟩
 |succ fuel ih=>
  intro L a w st' hc I;refine⟨(by grind),λj hj=>?_⟩;obtain⟨o,N⟩:=(rdy I).1 hj;have ho:=N.ho;have hjl:=(cr ho).1;have hcnt:(L.setIfInBounds j true).toList.count false<=fuel:=by
   have hs:j<L.size:=by grind [size]
   have:=YF L.toList j (by rw[Array.getElem?_toList,Array.getElem?_eq_getElem hs];simpa[Array.getD,hs] using N.hL);grind
  obtain⟨hn,hg,hp⟩:=F.ngl j aa;have hlook:=λt (ht:t∈mO l o)=>I.same F N ht;have hgev:∀x∈o.op.operands,aB st' x=aB (sts j) x:=λx hx=>BV (I.gl.trans hg.symm) (λt e=>hlook t (by subst e;exact List.mem_append_left _ (List.mem_filterMap.2 ⟨.tmp t,by grind,rfl⟩)))
  have hgw:ce st' l.toArray o=ce (sts j) l.toArray o:=by grind [ce,mO]
  obtain⟨β,rb⟩:=I.rel;unfold wpOpIn;simp only[List.getElem?_toArray,ho];rcases F.step j o ho with⟨hw,c,hst,m,hB⟩|⟨hw,hge,hst,hU,hcu⟩
  .rw[<-hgw] at hw;rw[Bx (cT rb hw)];obtain⟨V,hV,s1,s2⟩:=I.find F N;refine hB V hV st' (I.n.trans hn.symm) (I.gl.trans hg.symm) (I.p.trans hp.symm) s2 s1 hgev cx a w _ Q ⟨β,rb⟩ λa' w' r'=>?_;have hput:=Ab3 (o:=o) (g:=gs j) {sts j with σ:=(bP inf j).U++(sts j).σ,c:=c};obtain⟨b,q⟩:=I.next F N r' (λx hx=>fE hx) (λx hx=>by rw[hst,hput.2.2.2.2.1,fY hx];exact(fY hx).symm) (by grind) (by grind);grind
  .rw[<-hgw] at hw;rw[BB (by grind [cT])];refine⟨λf _=>rb.loose.fn f,?_⟩;have hd:∀d,o.dst=some d->d<st'.n:=by grind [KF,DY.dstn]
   obtain⟨b,q⟩:=I.next (a':=a.put o.dst undef) (w':=w) (σ:=st'.σ) (c:=st'.c) F N ⟨β,by rw[hge];exact rb.put o.dst hd (.imm _ _ (.lit _))⟩ (by grind) (by grind [DI.K]) (λ_=>rfl) (by grind);grind
theorem pX{id:Nat}{Q:Exit->St->Prop}(hm:P.follows .mixedOrders=true)(hok:kL l inf st.n=true)(h:PQ P l.toArray (Q .normal) l inf st):Tr P (.region id l.toArray true) st Q:=λcx a w R ⟨β,r⟩ k=>by
 obtain⟨sts,gs,h0,b,hs⟩:=yM l inf st h;obtain⟨sp,F⟩:=Dm hok h0 hs;refine wpIn_region_any hm ?_;have hno:∀i,(Array.replicate l.toArray.size false).getD i false=false:=λi=>by simp[Array.getD]
 have I:KF P l inf st sts gs cx (Array.replicate l.toArray.size false) a {w with drawn:=w.drawn+1} st:={
  size:=aC
  closed:=λj o _ hj=>by rw[hno] at hj;cases hj
  rel:=⟨β,r.world ⟨rfl,rfl,rfl,C6 _,λ_ _ _=>rfl,Nat.le_succ _⟩⟩
  n:=rfl
  gl:=rfl
  σ:=λx m hm hc=>by rw[<-h0];refine(F.sto (a:=0) m (Nat.zero_le _) hm λk _ hk hx=>?_).symm;have:=(hc k aa hx).2 hk;rw[hno] at this;cases this
  c:=λm hm hc=>by rw[<-h0];refine(F.stc (a:=0) m (Nat.zero_le _) hm λk _ hk=>?_).symm;have:=hc k aa;grind
  p:=rfl
  f1:=λj t hj=>by rw[hno] at hj;cases hj
  f2:=λ_ _=>rfl}
 grind [KF.run]
end draw
def FO(P:Br)(t:Bn)(a:List (Nat×G)):Option G:=
 match ND P t,jj P t with
 |some (n,e),some zs=>match bw P e with
  |some s=>(RG (λi=>some (i*s,s)) (zs.map .lit) a).map .agg
  |none=>none
 |_,_=>none
theorem NO(ho:o.op= .build t parts)(hd:LS o st.n)(hg:FO P t (parts.toList.map λp=>(p.1,aB st p.2))=some g):GS P o st (st.put o.dst g):=by
 intro cx a w K R ⟨β,h⟩ j;unfold FO at hg;split at hg
 .rename_i n e zs hp hz;obtain⟨i,z,hi,hz',c,h1⟩:=ii hz;have hu:=xM hp;split at hg
  .rename_i s hs;simp only[bw,DG] at hs;obtain⟨k,d,rfl⟩:=hs;simp only[DG] at hg;obtain⟨out,b,rfl⟩:=hg;obtain⟨us,f,hr⟩:=sE (β:=β) (S:=Av cx.S0 β st.σ) (w:=w) (e:=a.eval) (λx=>h.ev x) parts.toList (Rw.lits h1) b;have hb:P.built t ((parts.map λ(p:Nat×Dl)=>(p.1,a.eval p.2)).toList)=some us.toArray:=by unfold Program.built;simp only[hi,hu,hz',d];rw[<-f,<-c];simp
   have hrun:(execOp a.eval o).run P w= .ok (.value (.agg us.toArray)) w:=by unfold execOp;simp[ho,Go.run_build w t _ _ hb]
   refine h.loose.oper (by grind) ?_;unfold Oper.wp;rw[hrun];refine j _ _ ⟨β,h.put o.dst hd (.agg _ _ (by simpa using hr.1) (λi u hu=>?_) (λi g u hg hu=>hr.2.2 i g u hg (by grind)))⟩;exact hr.2.1 u (by grind)
  .cases hg
 .cases hg
theorem Km{e:Bn}{s:Nat}(ht:P.underlying t=some (.slice e))(hs:bw P e=some s)(a:Option Addr)(n cap:Nat)(k1 k2 k3:IntKind)(L H M:Nat)(h1:L<=H)(h2:H<=M)(h3:M<=cap)(w:World):
  (Instr.sliceAt t (.slice a n cap) (some (.int k1 L)) (some (.int k2 H)) (some (.int k3 M))).run P w= .ok (.slice (if M=L then a else a.map (·.add (L*s))) (H-L) (M-L)) w:=by
 have e1:(Instr.sliceBounds true n cap (some (.int k1 L)) (some (.int k2 H)) (some (.int k3 M))).run P w= .ok (L,H,M) w:=by unfold Instr.sliceBounds;simp[jp (P:=P) (.int k3 (M:Int)) (M:Int) cap .slice3Acap ⟨k3,rfl⟩ aa aa,jp (P:=P) (.int k2 (H:Int)) (H:Int) M .slice3B ⟨k2,rfl⟩ aa aa,jp (P:=P) (.int k1 (L:Int)) (L:Int) H .slice3C ⟨k1,rfl⟩ aa aa]
 unfold Instr.sliceAt
 simp only[Fa,Gf ht,Fj]
 unfold Instr.slice
 simp only[Fa,Gf ht,Fj,e1,dG hs]
 rfl
def sJ(P:Br)(t:Bn)(x lo hi mx:G):Option G:=match x,dp P t,xL lo,xL hi,xL mx with
 | .sl l n,some e,some a,some h,some m=>match bw P e with
  |some s=>if 0<=a/\a<=h/\h<=m/\m<=n then some (.sl ((l.take (h.toNat*s)).drop (a.toNat*s)) (h.toNat-a.toNat))else none
  |none=>none
 | .rsl _ _ n,some e,some a,some h,some m=>match bw P e with
  |some s=>if 0<=a/\a<=h/\h<=m/\m<=n then some .junk else none
  |none=>none
 |_,_,_,_,_=>none
theorem En{lo hi mx:Dl}(ho:o.op= .slice t x (some lo) (some hi) (some mx))(hd:LS o st.n)(hg:sJ P t (aB st x) (aB st lo) (aB st hi) (aB st mx)=some g):GS P o st (st.put o.dst g):=by
 intro cx a w K R ⟨β,h⟩ f;unfold sJ at hg;split at hg
 .rename_i l n e A H M hx he hA c hM;split at hg
  .rename_i s hs;split at hg
   .rename_i hc;cases hg;have ht:=cE he;have hxv:=h.ev x;rw[hx] at hxv;obtain⟨ad,cap,us,hv,hn,hm,ha,h1,b⟩:=hxv.sl_cells;obtain⟨k1,hk1⟩:=ol (h.ev lo) hA;obtain⟨k2,hk2⟩:=ol (h.ev hi) c;obtain⟨k3,d⟩:=ol (h.ev mx) hM;have hrun0:=Km ht hs ad n cap k1 k2 k3 A.toNat H.toNat M.toNat aa aa aa w;have c1:(A.toNat:Int)=A:=aa;have c2:(H.toNat:Int)=H:=aa;have c3:(M.toNat:Int)=M:=aa;rw[c1,c2,c3] at hrun0;have hrun:(execOp a.eval o).run P w= .ok (.value (.slice (if M.toNat=A.toNat then ad else ad.map (·.add (A.toNat*s))) (H.toNat-A.toNat) (M.toNat-A.toNat))) w:=by unfold execOp;simp_all
    refine h.loose.oper (by grind) ?_;unfold Oper.wp;rw[hrun];refine f _ _ ⟨β,h.put o.dst hd (.imm _ _ (PZ (n:=n) aa aa aa ha h1 b (by grind) (λe=>?_)))⟩;all_goals grind
   .cases hg
  .cases hg
 .rename_i i j n e A H M hx he hA c hM;split at hg
  .rename_i s hs;split at hg
   .rename_i hc;cases hg;have ht:=cE he;have hxv:=h.ev x;rw[hx] at hxv;obtain⟨k1,hk1⟩:=ol (h.ev lo) hA;obtain⟨k2,hk2⟩:=ol (h.ev hi) c;obtain⟨k3,d⟩:=ol (h.ev mx) hM;have c1:(A.toNat:Int)=A:=aa;have c2:(H.toNat:Int)=H:=aa;have c3:(M.toNat:Int)=M:=aa;obtain⟨ad,cap,hv,hn⟩:∃ad cap,a.eval x= .slice ad n cap/\n<=cap:=by grind [RV.rsl_form]
    have hrun0:=Km ht hs ad n cap k1 k2 k3 A.toNat H.toNat M.toNat aa aa aa w;rw[c1,c2,c3] at hrun0;have hrun:(execOp a.eval o).run P w= .ok (.value (.slice (if M.toNat=A.toNat then ad else ad.map (·.add (A.toNat*s))) (H.toNat-A.toNat) (M.toNat-A.toNat))) w:=by unfold execOp;simp_all
    refine h.loose.oper (by grind) ?_;unfold Oper.wp;rw[hrun];exact f _ _ ⟨β,h.put o.dst hd (.junk _)⟩
   .cases hg
  .cases hg
 .cases hg
def rF(P:Br)(σ:aQ)(t:Bn)(g:G):Option (Nat×Ob):=match g with
 | .rsl i o n=>match ag σ i,dp P t with
  |some ob,some e=>match jj P e,bw P e with
   |some zs,some s=>if zs.length=s/\0<n/\0<s/\o+n*s<=ob.l.length/\ob.x.isNone=true then some (i,⟨ob.t,ob.l.take o++(bN zs (n*s)).map .lit++ob.l.drop (o+n*s),none⟩)else none
   |_,_=>none
  |_,_=>none
 |_=>none
theorem AbX{m:Nat}(hz:∀v∈zs,v.oneCell'=true)(hl:0<zs.length):∀v∈bN zs m,v.oneCell'=true:=by grind [bN,Nat.mod_lt]
theorem FP{z:Value}(a:z.cells.toList=zs)(hl:0<zs.length)(n:Nat):(Builtin.zeroCells z.cells n).toList=bN zs (n*zs.length):=by
 have hsz:z.cells.size=zs.length:=by grind
 unfold Builtin.zeroCells bN;rw[hsz];apply List.ext_getElem aC;grind [Nat.mod_lt]
theorem Qp{ob:Ob}(ho:o.op= .call {callee:= .builtin .clear,args:= #[x],argTypes:= #[t]})(hd:LS o st.n)(hg:rF P st.σ t (aB st x)=some (i,ob)):GS P o st ({st with σ:=(i,some ob)::st.σ}.put o.dst (.tup [])):=by
 intro cx a w K R ⟨β,h⟩ v;unfold rF at hg;split at hg
 .rename_i H k n hx;split at hg
  .rename_i c e hob he;split at hg
   .rename_i zs s hz hs;split at hg
    .rename_i hc;cases hg;have ht:=cE he;obtain⟨I,z,hi,hz',p,h1⟩:=ii hz;obtain⟨q,hn0,y,hle,d⟩:=hc;have d:=Option.isNone_iff_eq_none.1 d;have hxv:=h.ev x;rw[hx] at hxv;rcases hxv.rsl_form with⟨_,_,h0⟩|⟨b,C,J,cap,hb,hv,hn,hm,r,hC⟩
     .omega
     rw[r aa] at hv;rcases h.ob i c hob with⟨h1',_⟩|⟨b',L,B,hx',_⟩|⟨b',C',cur,_,g1,g2,D,A,E,F⟩
     .grind
     .grind
     rw[g1] at hb;cases hb;have hzc:=FP p aa n;rw[q] at hzc;have hgl:(bN zs (n*s)).length=n*s:=by simp[bN]
     have f:=AbX (m:=n*s) h1 aa;have hst:=run_storeCells_at (P:=P) b k c.t (bN zs (n*s)) 0 cur w g2 (by rw[hgl];omega) f;simp only[Nat.add_zero,hgl] at hst;obtain⟨m,rfl⟩:∃m,n=m+1:=by simp_all
     have hzv:(zeroValue e).run P w= .ok z w:=by simp[zeroValue,typeInfo,hi,hz']
     have hrun:(execOp a.eval o).run P w= .ok (.value (.tuple #[])) (w.setRow b (cur.toList.take k++bN zs ((m+1)*s)++cur.toList.drop (k+(m+1)*s)).toArray):=by unfold execOp;simp only[ho,resolve,invoke,builtin,Fa,HR,Fj,List.map_toArray,Fo,List.map_nil,Builtin.clear_,hv];simp only[List.getElem?_toArray,List.getElem?_cons_zero,Fa,Gf ht,Fj,hzv,hzc,hst,HR]
     have hsz:(cur.toList.take k++bN zs ((m+1)*s)++cur.toList.drop (k+(m+1)*s)).toArray.size=cur.size:=by grind
     have hh:=setRow_heap w b cur (cur.toList.take k++bN zs ((m+1)*s)++cur.toList.drop (k+(m+1)*s)).toArray c.t (0,0) g2;have hkeep:Bc (λx=>x=b) w (w.setRow b (cur.toList.take k++bN zs ((m+1)*s)++cur.toList.drop (k+(m+1)*s)).toArray):=⟨rfl,rfl,rfl,aC,(by grind [setRow_other]),C6 _⟩;have hlen:((bN zs ((m+1)*s)).map G.lit).length=(m+1)*s:=by simp[hgl]
     have hw:=h.write (l:=c.l.take k++(bN zs ((m+1)*s)).map .lit++c.l.drop (k+(m+1)*s)) hob g1 hkeep hh (by grind) A (by grind) (λj g hg=>by
      have hg':(c.l.take k++(bN zs ((m+1)*s)).map .lit++c.l.drop (k+((bN zs ((m+1)*s)).map G.lit).length))[j]?=some g:=by grind
      obtain⟨u,hu,h7,h8⟩:=pw (R:=λg u=>u.oneCell'=true/\RV β (Av cx.S0 β st.σ) w g u) (xs:=cur.toList) (xs':=bN zs ((m+1)*s)) (by grind) (λj g hg=>by rw[Nh,DG] at hg;obtain⟨u,hu,rfl⟩:=hg;exact⟨u,hu,(by grind),.imm _ _ (.lit u)⟩) aC (by grind) (by rw[hlen];omega) j g hg'
      grind)
     refine h.loose.oper (by grind) ?_;unfold Oper.wp;rw[hrun];exact v _ _ ⟨β,(by grind [Bw.put,RV])⟩
    .cases hg
   .cases hg
  .cases hg
 .cases hg
def Qq(P:Br)(σ:aQ)(t:Bn)(gx gy:G):Option (Nat×Ob×Nat):=match gx with
 | .rsl i o n=>match ag σ i,dp P t with
  |some ob,some e=>match bw P e with
   |some s=>match fO σ s gy with
    |some (news,m)=>if m=n/\0<n/\0<s/\o+n*s<=ob.l.length/\ob.x.isNone=true then some (i,⟨ob.t,ob.l.take o++news++ob.l.drop (o+n*s),none⟩,n)else none
    |none=>none
   |none=>none
  |_,_=>none
 |_=>none
theorem Tc{ob:Ob}(ho:o.op= .call {callee:= .builtin .copy,args:= #[x,y],argTypes:= #[t,u]})(hd:LS o st.n)(hg:Qq P st.σ t (aB st x) (aB st y)=some (i,ob,n)):GS P o st ({st with σ:=(i,some ob)::st.σ}.put o.dst (.lit (.int .i64 (n:Int)))):=by
 intro cx a w K R ⟨β,h⟩ H;unfold Qq at hg;split at hg
 .rename_i O k Q hx;split at hg
  .rename_i d e hob he;split at hg
   .rename_i s hs;split at hg
    .rename_i f m p;split at hg
     .rename_i hc;cases hg;have ht:=cE he;obtain⟨hmn,hn0,D,hle,z⟩:=hc;subst hmn;have z:=Option.isNone_iff_eq_none.1 z;have hxv:=h.ev x;rw[hx] at hxv;rcases hxv.rsl_form with⟨_,_,h0⟩|⟨b,C,S,cap,hb,hv,hn,hm,E,hC⟩
      .omega
      rw[E aa] at hv;obtain⟨A,U,c,F,hnl,hrw,r⟩:=xN h (h.ev y) p;have hpos:0<m*s:=Nat.mul_pos hn0 D;obtain⟨a0,rfl⟩:∃a0,A=some a0:=by obtain⟨a0,h1,_⟩:=r 0 _ (EA aa);grind
      have hsrc:∀j v,c[j]?=some v->w.cell? (a0.add j)=some v:=by grind
      rcases h.ob i d hob with⟨h1',_⟩|⟨b',V,J,hx',_⟩|⟨b',C',cur,_,g1,g2,L,I,M,N⟩
      .grind
      .grind
      rw[g1] at hb;cases hb;have hnewsl:f.length=m*s:=by rw[<-hrw.1,hnl]
      have B:=run_loadCells_list (P:=P) w a0 c hsrc;have hst:=run_storeCells_at (P:=P) b k d.t c 0 cur w g2 (by rw[hnl];omega) hrw.2.1;rw[hnl] at B;simp only[Nat.add_zero,hnl] at hst;have hsz1:(sizeOf e).run P w= .ok s w:=by
       unfold bw at hs;cases hq:P.info? e with
       |none=>grind
       |some q=>rw[hq] at hs;simp only[Option.map_some,Ft] at hs;simp[sizeOf,typeInfo,hq,hs]
      have hmin:Nat.min m m=m:=Nat.min_self m;have hrun:(execOp a.eval o).run P w= .ok (.value (goInt m)) (w.setRow b (cur.toList.take k++c++cur.toList.drop (k+m*s)).toArray):=by unfold execOp;simp only[ho,resolve,invoke,builtin,Fa,HR,Fj,List.map_toArray,Fo,List.map_nil,Builtin.copy_,hv,F];simp[Gf ht,Builtin.lenOf,Builtin.firstCells,hsz1,B,hst]
      have hsz:(cur.toList.take k++c++cur.toList.drop (k+m*s)).toArray.size=cur.size:=by grind
      have hh:=setRow_heap w b cur (cur.toList.take k++c++cur.toList.drop (k+m*s)).toArray d.t (0,0) g2;have hkeep:Bc (λx=>x=b) w (w.setRow b (cur.toList.take k++c++cur.toList.drop (k+m*s)).toArray):=⟨rfl,rfl,rfl,aC,(by grind [setRow_other]),C6 _⟩;have hw:=h.write (l:=d.l.take k++f++d.l.drop (k+m*s)) hob g1 hkeep hh (by grind) I (by grind) (λj g hg=>by
       have hg':(d.l.take k++f++d.l.drop (k+f.length))[j]?=some g:=by grind
       obtain⟨u,hu,h7,h8⟩:=pw (R:=λg u=>u.oneCell'=true/\RV β (Av cx.S0 β st.σ) w g u) (xs:=cur.toList) (xs':=c) (by grind) (λj g hg=>by have hlt:=(cr hg).1;have hx:c[j]?=some (c[j]'aa):=EA _;exact⟨_,hx,hrw.2.1 _ (by simp_all),hrw.2.2 j g _ hg hx⟩) aa (by grind) (by grind) j g hg'
       grind)
      refine h.loose.oper (by grind) ?_;unfold Oper.wp;rw[hrun];exact H _ _ ⟨β,hw.put o.dst hd (.imm _ _ (.lit _))⟩
     .cases hg
    .cases hg
   .cases hg
  .cases hg
 .cases hg
def JD(P:Br)(σ:aQ)(t:Bn)(x:G)(lo hi:JP):Option G:=match dp P t,hi with
 |some e,some h=>match bw P e,lo with
  |some s,none=>match x with
   | .rsl i 0 n=>if 0<n/\0<=h/\h.toNat<=n/\0<s then some (.rsr i h.toNat)else none
   |_=>none
  |some s,some a=>match x with
   | .rsr i n=>match ag σ i with
    |some ob=>if 0<=a/\a<=h/\h.toNat*s<=ob.l.length/\0<s/\ob.t=e/\ob.x.isNone=true then some (.rsl i (a.toNat*s) (h.toNat-a.toNat))else none
    |none=>none
   |_=>none
  |_,_=>none
 |_,_=>none
theorem AaX{cx:Cx}{a:Act}{w:World}{β:Bm}(r:Bw P cx st a w β){x:G}{v:Value}{lo hi:JP}{vl vh:Option Value}(hx:RV β (Av cx.S0 β st.σ) w x v)(bl:VF β (Av cx.S0 β st.σ) w lo vl)(f:VF β (Av cx.S0 β st.σ) w hi vh)(hg:JD P st.σ t x lo hi=some g):
  ∃u,(Instr.sliceAt t v vl vh none).run P w= .ok u w/\RV β (Av cx.S0 β st.σ) w g u:=by
 unfold JD at hg
 split at hg
 .rename_i e h he
  have ht:=cE he
  split at hg
  .rename_i s hs
   split at hg
   .rename_i i n
    split at hg
    .rename_i hc
     cases hg
     obtain⟨h0,h1,h2,c⟩:=hc
     rcases hx.rsl_form with⟨_,_,h3⟩|⟨b,C,p,cap,hb,rfl,hn,hm,ho,hC⟩
     .omega
     obtain⟨rfl,rfl⟩:=hC rfl
     refine⟨_,sD ht hs _ n cap vl vh 0 h.toNat (bl.lo 0 (λ_=>rfl) aC) (f.hi h.toNat n aC (by grind)) (Nat.zero_le _) aa w,?_⟩
     grind [iS,RV]
    .cases hg
   .cases hg
  .rename_i s A hs
   split at hg
   .rename_i i n
    split at hg
    .rename_i ob hob
     split at hg
     .rename_i hc
      cases hg
      obtain⟨h0,h1,h2,c,rfl,d⟩:=hc
      have d:=Option.isNone_iff_eq_none.1 d
      obtain⟨b,C,hb,rfl,hn,hm⟩:=hx.rsr_form
      rcases r.ob i ob hob with⟨h1',_⟩|⟨b',q,k,hx',_⟩|⟨b',C',cur,_,g1,g2,j,l,m,o⟩
      .grind
      .grind
      rw[g1] at hb;cases hb
      have hcs:cur.size=C*s:=by rw[j,Pp hs]
      have hHC:h.toNat<=C:=Nat.le_of_mul_le_mul_right (by omega:h.toNat*s<=C*s) c
      refine⟨_,sD ht hs _ n C vl vh A.toNat h.toNat (bl.lo A.toNat aC (by grind)) (f.hi h.toNat n aC (by grind)) aa hHC w,?_⟩
      by_cases hca:C=A.toNat
      .rw[Bx hca]
       refine .rsl i _ _ b C 0 _ g1 aa aa (by grind) (λhz=>?_)
       grind [Nat.mul_pos]
      .rw[BB hca]
       simp only[Option.map_some,iS]
       grind [RV,Nat.mul_pos]
     .cases hg
    .cases hg
   .cases hg
  .cases hg
 .cases hg
theorem AdM{b1 b2:JP}(ho:o.op= .slice t x lo hi none)(hd:LS o st.n)(h1:Ko (lo.map (aB st))=some b1)(h2:Ko (hi.map (aB st))=some b2)(hg:JD P st.σ t (aB st x) b1 b2=some g):GS P o st (st.put o.dst g):=by
 intro cx a w K R ⟨β,h⟩ b;obtain⟨u,hu,hr⟩:=AaX h (h.ev x) (BN (v:=lo.map a.eval) (λg hg=>by
  obtain⟨y,hy,rfl⟩:=DG.1 hg;exact⟨_,by rw[hy];rfl,h.ev y⟩) (λe=>by rw[Option.map_eq_none_iff.1 e];rfl) h1) (BN (v:=hi.map a.eval) (λg hg=>by
  obtain⟨y,hy,rfl⟩:=DG.1 hg;exact⟨_,by rw[hy];rfl,h.ev y⟩) (λe=>by rw[Option.map_eq_none_iff.1 e];rfl) h2) hg
 have hrun:(execOp a.eval o).run P w= .ok (.value u) w:=by unfold execOp;simp_all
 refine h.loose.oper (by grind) ?_;unfold Oper.wp;rw[hrun];exact b _ _ ⟨β,h.put o.dst hd hr⟩
def RT(P:Br)(σ:aQ)(t:Bn)(gx gy:G):Option (Nat×Ob×Nat):=match gx with
 | .rsr i n=>match ag σ i,dp P t with
  |some ob,some e=>match bw P e with
   |some s=>match fO σ s gy with
    |some (news,m)=>if 0<s/\(n+m)*s<=ob.l.length/\ob.t=e/\ob.x.isNone=true then some (i,⟨ob.t,ob.l.take (n*s)++news++ob.l.drop (n*s+m*s),none⟩,n+m)else none
    |none=>none
   |none=>none
  |_,_=>none
 |_=>none
theorem Ag0{st:St}{ob:Ob}(ho:o.op= .call {callee:= .builtin .append,args:= #[x,y],argTypes:= #[t,t]})(hd:LS o st.n)(hg:RT P st.σ t (aB st x) (aB st y)=some (i,ob,n)):GS P o st ({st with σ:=(i,some ob)::st.σ}.put o.dst (.rsr i n)):=by
 intro cx a w K R ⟨β,h⟩ H;unfold RT at hg;split at hg
 .rename_i O k hx;split at hg
  .rename_i d e hob he;split at hg
   .rename_i s hs;split at hg
    .rename_i f m p;split at hg
     .rename_i hc;cases hg;have ht:=cE he;obtain⟨z,hle,rfl,B⟩:=hc;have B:=Option.isNone_iff_eq_none.1 B;have hxv:=h.ev x;rw[hx] at hxv;obtain⟨b,C,hb,hv,hn,hm⟩:=hxv.rsr_form;obtain⟨A,Q,c,D,hnl,hrw,r⟩:=xN h (h.ev y) p;rcases h.ob i d hob with⟨h1',_⟩|⟨b',U,N,hx',_⟩|⟨b',C',cur,_,g1,g2,I,J,L,M⟩
      .grind
      .grind
      rw[g1] at hb;cases hb;have hcs:cur.size=C*s:=by rw[I,Pp hs]
      have hroom:k+m<=C:=Nat.le_of_mul_le_mul_right (by omega:(k+m)*s<=C*s) z;have hmul:(k+m)*s=k*s+m*s:=Nat.add_mul _ _ _;have hnewsl:f.length=m*s:=by rw[<-hrw.1,hnl]
      obtain⟨q,hq,F⟩:∃q,P.info? d.t=some q/\q.size=s:=by unfold bw at hs;simp_all
      subst F;have hrun:∃w',(execOp a.eval o).run P w= .ok (.value (.slice (some ⟨b,0,none⟩) (k+m) C)) w'/\w'=(if m=0 then w else w.setRow b (cur.toList.take (k*q.size)++c++cur.toList.drop (k*q.size+m*q.size)).toArray):=by
       refine⟨_,?_,rfl⟩;rcases Nat.eq_zero_or_pos m with rfl|hm0
       .unfold execOp;simp only[ho,resolve,invoke,builtin,Fa,HR,Fj,List.map_toArray,Fo,List.map_nil,hv,D];cases A<;>simp[Builtin.append_,Gf ht,sizeOf,typeInfo,hq,Builtin.lenOf,Builtin.firstCells,loadCells,loadCellsFrom,storeCells,hn]
       .rw[BB aa];have hpos:0<m*q.size:=Nat.mul_pos hm0 z;obtain⟨a0,rfl⟩:∃a0,A=some a0:=by obtain⟨a0,h1,_⟩:=r 0 _ (EA aa);grind
        have hsrc:∀j v,c[j]?=some v->w.cell? (a0.add j)=some v:=by grind
        have E:=run_loadCells_list (P:=P) w a0 c hsrc;have hst:=run_storeCells_at (P:=P) b (k*q.size) d.t c 0 cur w g2 (by rw[hnl];omega) hrw.2.1;rw[hnl] at E;simp only[Nat.add_zero,hnl] at hst;unfold execOp;simp only[ho,resolve,invoke,builtin,Fa,HR,Fj,List.map_toArray,Fo,List.map_nil,hv,D];simp[Builtin.append_,Gf ht,sizeOf,typeInfo,hq,Builtin.lenOf,Builtin.firstCells,hroom,E,Addr.add_lit,hst]
      obtain⟨w',hrun,hw'⟩:=hrun;refine h.loose.oper (by grind) ?_;unfold Oper.wp;rw[hrun];have hval:∀(β':Bm) S w'',β' i=some (some (b,C))->RV β' S w'' (.rsr i (k+m)) (.slice (some ⟨b,0,none⟩) (k+m) C):=by grind [RV]
      rcases Nat.eq_zero_or_pos m with rfl|hm0
      .rw[Bx rfl] at hw';subst hw';have e0:f=[]:=by grind
       have e1:d.l.take (k*q.size)++f++d.l.drop (k*q.size+0*q.size)=d.l:=by grind [Pt]
       have hw:=h.write (l:=d.l.take (k*q.size)++f++d.l.drop (k*q.size+0*q.size)) hob g1 (Bc.refl _ _) g2 I J (by rw[e1];exact L) (λj g hg=>by rw[e1] at hg;exact M j g hg);exact H _ _ ⟨β,(by grind [Bw.put])⟩
      .rw[BB aa] at hw';subst hw';have hsz:(cur.toList.take (k*q.size)++c++cur.toList.drop (k*q.size+m*q.size)).toArray.size=cur.size:=by grind
       have hh:=setRow_heap w b cur (cur.toList.take (k*q.size)++c++cur.toList.drop (k*q.size+m*q.size)).toArray d.t (0,0) g2;have hkeep:Bc (λx=>x=b) w (w.setRow b (cur.toList.take (k*q.size)++c++cur.toList.drop (k*q.size+m*q.size)).toArray):=⟨rfl,rfl,rfl,aC,(by grind [setRow_other]),C6 _⟩;have hw:=h.write (l:=d.l.take (k*q.size)++f++d.l.drop (k*q.size+m*q.size)) hob g1 hkeep hh (by grind) J (by grind) (λj g hg=>by
        have hg':(d.l.take (k*q.size)++f++d.l.drop (k*q.size+f.length))[j]?=some g:=by grind
        obtain⟨u,hu,h7,h8⟩:=pw (R:=λg u=>u.oneCell'=true/\RV β (Av cx.S0 β st.σ) w g u) (xs:=cur.toList) (xs':=c) (by grind) (λj g hg=>by have hlt:=(cr hg).1;have hx:c[j]?=some (c[j]'aa):=EA _;exact⟨_,hx,hrw.2.1 _ (by simp_all),hrw.2.2 j g _ hg hx⟩) aa (by grind) (by grind) j g hg'
        simp_all)
       exact H _ _ ⟨β,(by grind [Bw.put])⟩
     .cases hg
    .cases hg
   .cases hg
  .cases hg
 .cases hg
def iEq:Int->Int->Bool
 | .ofNat a,.ofNat b=>Nat.beq a b
 | .negSucc a,.negSucc b=>Nat.beq a b
 |_,_=>false
theorem Py{a b:Int}(h:iEq a b=true):a=b:=by unfold iEq at h;split at h;all_goals grind [bc]
def fe{α:Type}(f:α->α->Bool):List α->List α->Bool
 |[],[]=>true
 |x::r,y::s=>bif f x y then fe f r s else false
 |_,_=>false
theorem bi{α:Type}{f:α->α->Bool}(hf:∀x y,f x y=true->x=y):∀{l m:List α},fe f l m=true->l=m
 |[],[],_=>rfl
 |x::r,y::s,h=>by
  unfold fe at h;cases hx:f x y with
  |false=>grind
  |true=>rw[hx] at h;rw[hf x y hx,bi hf h]
 |[],_::_,h=>by cases h
 |_::_,[],h=>by cases h
def bEq(a b:UInt8):Bool:=Nat.beq a.toNat b.toNat
theorem Pz{a b:UInt8}(h:bEq a b=true):a=b:=UInt8.toNat_inj.1 (bc h)
def X4(a b:Value):Bool:=match a with
 | .int k x=>(match b with
  | .int k' y=>decide (k=k')&&iEq x y
  |_=>false)
 | .bool x=>(match b with
  | .bool y=>x==y
  |_=>false)
 | .string s=>(match b with
  | .string t=>fe bEq s.data.toList t.data.toList
  |_=>false)
 | .slice none n m=>(match b with
  | .slice none n' m'=>Nat.beq n n'&&Nat.beq m m'
  |_=>false)
 |_=>false
theorem Bl(h:X4 a b=true):a=b:=by
 unfold X4 at h;split at h
 .grind [Py]
 .grind
 .rename_i s;split at h
  .rename_i t;have:=bi (λ_ _=>Pz) h;obtain⟨⟨s⟩⟩:=s;simp_all
  .cases h
 all_goals grind [bc]
def dE(a b:Bool):Bool:=bif a then b else false
theorem aZ{a b:Bool}(h:dE a b=true):a=true/\b=true:=by
 cases a with
 |true=>exact⟨rfl,h⟩
 |false=>cases h
def SL(a b:Value):Bool:=match a with
 | .pointer none=>(match b with
  | .pointer none=>true
  |_=>false)
 | .map none=>(match b with
  | .map none=>true
  |_=>false)
 | .nilFunc=>(match b with
  | .nilFunc=>true
  |_=>false)
 | .nilIface=>(match b with
  | .nilIface=>true
  |_=>false)
 | .agg cs=>(match b with
  | .agg ds=>fe X4 cs.toList ds.toList
  |_=>false)
 |a=>X4 a b
theorem DX(h:SL a b=true):a=b:=by unfold SL at h;grind [bi,Bl,Array.toList_inj]
def Vy(a b:Fn):Bool:=match a with
 | .func f=>(match b with
  | .func g=>Nat.beq f g
  |_=>false)
 |_=>false
theorem Nq{a b:Fn}(h:Vy a b=true):a=b:=by unfold Vy at h;grind [bc]
def iF:Nat->G->G->Bool
 |0,_,_=>false
 |k+1,a,b=>match a with
  | .lit v=>(match b with
   | .lit u=>SL v u
   |_=>false)
  | .agg l=>(match b with
   | .agg m=>fe (iF k) l m
   |_=>false)
  | .tup l=>(match b with
   | .tup m=>fe (iF k) l m
   |_=>false)
  | .sl l n=>(match b with
   | .sl m n'=>dE (Nat.beq n n') (fe (iF k) l m)
   |_=>false)
  | .ptr l n=>(match b with
   | .ptr m n'=>dE (Nat.beq n n') (fe (iF k) l m)
   |_=>false)
  | .clo f x y=>(match b with
   | .clo f' x' y'=>dE (Vy f f') (dE (fe (iF k) x x') (fe (iF k) y y'))
   |_=>false)
  | .ifc t g=>(match b with
   | .ifc t' g'=>dE (Nat.beq t t') (iF k g g')
   |_=>false)
  | .ref i o=>(match b with
   | .ref i' o'=>dE (Nat.beq i i') (Nat.beq o o')
   |_=>false)
  | .rsl i o n=>(match b with
   | .rsl i' o' n'=>dE (Nat.beq i i') (dE (Nat.beq o o') (Nat.beq n n'))
   |_=>false)
  | .mref i=>(match b with
   | .mref i'=>Nat.beq i i'
   |_=>false)
  | .yld i=>(match b with
   | .yld i'=>Nat.beq i i'
   |_=>false)
  | .junk=>(match b with
   | .junk=>true
   |_=>false)
  | .mp _ _ _ _=>false
  | .rsr _ _=>false
theorem GK:∀(k:Nat) (a b:G),iF k a b=true->a=b
 |0,a,b,h=>by cases h
 |k+1,a,b,h=>by
  unfold iF at h;split at h
  .grind [DX]
  .split at h
   .rw[bi (GK k) h]
   .cases h
  .split at h
   .rw[bi (GK k) h]
   .cases h
  .split at h
   .obtain⟨h1,h2⟩:=aZ h;rw[bc h1,bi (GK k) h2]
   .cases h
  .split at h
   .obtain⟨h1,h2⟩:=aZ h;rw[bc h1,bi (GK k) h2]
   .cases h
  .split at h
   .obtain⟨h1,h2⟩:=aZ h;obtain⟨h2,h3⟩:=aZ h2;rw[Nq h1,bi (GK k) h2,bi (GK k) h3]
   .cases h
  .split at h
   .obtain⟨h1,h2⟩:=aZ h;rw[bc h1,GK k _ _ h2]
   .cases h
  all_goals grind [aZ,bc]
theorem th.eqv{o:Oper}{st:St}{S T:St->Prop}(h:th P o st S)(e:∀s,S s->∃s',T s'/\Xg s s'):th P o st T:=λcx a w K R r k=>h cx a w K R r λs hs a' w' r'=>by obtain⟨s',h1,h2⟩:=e s hs;exact k s' h1 a' w' (h2.rel r')
theorem GS.eqv{o:Oper}{st s s':St}(h:GS P o st s)(e:Xg s s'):GS P o st s':=λcx a w K R r k=>h cx a w K R r (by grind [Xg.rel])
def jO:aQ->Nat->Option Ob->aQ
 |[],d,g=>[(d,g)]
 |(e,h)::r,d,g=>bif e.beq d then(d,g)::r else(e,h)::jO r d g
theorem YC:∀(σ:aQ) (d:Nat) (g:Option Ob) (i:Nat),ag (jO σ d g) i=if d=i then g else ag σ i
 |[],d,g,i=>by show ag [(d,g)] i=_;rw[A3]
 |(e,h)::r,d,g,i=>by
  unfold jO;by_cases he:e=d
  .grind [Nat.beq_refl]
  .have:Nat.beq e d=false:=by grind [bc]
   rw[this];simp only[A9,A3];rw[YC r d g i];grind
def pj(n:Nat):Option Tmp->Bool
 |some d=>Nat.ble (d+1) n
 |none=>true
theorem eN{n:Nat}{d:Option Tmp}(h:pj n d=true):∀x,d=some x->x<n:=λx e=>by subst e;exact EG h
def A5:Bo->Option CO
 |[]=>some []
 | .lit (.int .u8 n)::r=>if 0<=n/\n<256 then(A5 r).map λl=>UInt8.ofNat n.toNat::l else none
 |_=>none
theorem A6:∀{l:Bo} {s:CO},A5 l=some s->l=s.map gY
 |[],s,h=>by grind [A5]
 |g::r,s,h=>by
  unfold A5 at h;split at h
  .grind
  .rename_i n r' h0;cases h0;split at h
   .rename_i hc;simp only[DG] at h;obtain⟨l,hl,rfl⟩:=h;rw[Fo,<-A6 hl];congr 2;have:(UInt8.ofNat n.toNat).toNat=n.toNat:=by simp;omega
    grind
   .cases h
  .cases h
def iQ(P:Br)(σ:aQ)(s t:Bn)(g:G):Option G:=match g with
 | .lit (.int k n)=>Qa P s t (.lit (.int k n))
 | .lit (.string b)=>match dp P t with
  |some e=>match xR P e with
   |some .u8=>bif nu P s&&Nat.ble b.data.toList.length 9223372036854775807 then some (Kb b.data.toList)else none
   |_=>none
  |none=>none
 |g=>match dp P s with
  |some e=>match xR P e with
   |some .u8=>match fO σ 1 g with
    |some (l,m)=>match A5 l with
     |some bs=>bif nu P t&&Nat.beq bs.length m then some (.lit (.string ⟨bs.toArray⟩))else none
     |none=>none
    |none=>none
   |_=>none
  |none=>none
def Hc(P:Br)(σ:aQ)(c:Nat)(t u:Bn)(gx gy:G):Option (Bn×Nat×Nat×Bo):=match gy with
 | .lit (.string b)=>match dp P t with
  |some e=>match bw P e,(P.info? e).bind (·.zero),(P.info? e).map (·.bytes) with
   |some 1,some (.int .u8 0),some 1=>match xO σ c e 1 gx with
    |some (i,n,l)=>bif nu P u&&Nat.ble (n+b.data.toList.length) 140737488355328 then some (e,i,n+b.data.toList.length,l++b.data.toList.map gY)else none
    |none=>none
   |_,_,_=>none
  |none=>none
 |_=>none
def nI(k:IntKind)(z:Int):Option G:=some (.lit (.int k z))
def nB(b:Bool):Option G:=some (.lit (.bool b))
theorem X0(k:IntKind)(z:Int):nI k z=some (.lit (.int k z)):=rfl
theorem X1(b:Bool):nB b=some (.lit (.bool b)):=rfl
def lD(op:BinOp)(gx gy:G):Option G:=match gx with
 | .lit (.int k a)=>match gy with
  | .lit (.int k' b)=>if k=k' then(match op with
   | .add=>nI k (k.wrap (a+b))
   | .sub=>nI k (k.wrap (a-b))
   | .mul=>nI k (k.wrap (a*b))
   | .lss=>nB (decide (a<b))
   | .leq=>nB (decide (a<=b))
   | .gtr=>nB (decide (b<a))
   | .geq=>nB (decide (b<=a))
   | .eql=>nB (decide (a=b))
   | .neq=>nB (decide (a≠b))
   | .quo=>if b=0 then none else nI k (k.wrap (a.tdiv b))
   | .rem=>if b=0 then none else nI k (a.tmod b)
   |_=>none)else none
  |_=>none
 |_=>none
theorem AdN{op:BinOp}(h:lD op gx gy=some g):DE P op t x y gx gy=some g:=by
 unfold lD at h;simp only[X0,X1] at h;split at h
 .grind [VM,VN,VO,VP,VQ,VR,VS,VT,VU,VV,VW]
 .cases h
def A8(a b:Nat):Nat:=bif Nat.ble a b then b else a
theorem xz(a b:Nat):a<=A8 a b:=by
 unfold A8;cases h:Nat.ble a b with
 |true=>simp_all
 |false=>grind
theorem xA(a b:Nat):b<=A8 a b:=by grind [A8,Ng]
theorem Tr.eqv{c:Code}{st:St}{Q:Exit->St->Prop}(h:Tr P c st (λe s=>∃s',Xg s s'/\Q e s')):Tr P c st Q:=λcx a w R r k=>h cx a w R r λe s a' w' ⟨s',h1,h2⟩ r'=>k e s' a' w' h2 (h1.rel r')
def tc:Exit->Bool
 | .normal| .ret=>true
 |_=>false
theorem eO(h:tc e=true):e= .normal\/e= .ret:=by grind [tc]
def vR(P:Br)(s:St):List ResultVar->Option Bo
 |[]=>some []
 |r::rs=>match jV P s r,vR P s rs with
  |some g,some gs=>some (g::gs)
  |_,_=>none
theorem gh{s:St}:∀{rs:List ResultVar} {gs:Bo},vR P s rs=some gs->rs.mapM (jV P s)=some gs
 |[],gs,h=>by grind [vR]
 |r::rs,gs,h=>by
  simp only[vR] at h;split at h
  .rename_i g a h1 h2;cases h;simp[List.mapM_cons,h1,gh h2]
  .cases h
theorem Bd{s:Bn}(ho:o.op= .convert s t x)(hd:LS o st.n)(h:iQ P st.σ s t (aB st x)=some g):GS P o st (st.put o.dst g):=by
 obtain⟨a,op,ty,pos,d,gd⟩:=o;obtain rfl:op= .convert s t x:=ho;unfold iQ at h;split at h
 .rename_i k n hg;exact fM hd (by grind [Qe])
 .rename_i b hg;split at h
  .rename_i e he;split at h
   .rename_i hi;cases hc:(nu P s&&Nat.ble b.data.toList.length 9223372036854775807) with
    |false=>grind
    |true=>rw[hc] at h;simp only[bA] at hc;cases h;exact Kd (s:=b.data.toList) rfl hd hc.1 he hi (by rw[hg]) (EG hc.2)
   .cases h
  .cases h
 .split at h
  .rename_i e he;split at h
   .rename_i hi;split at h
    .rename_i l m hv;split at h
     .rename_i c hy;cases hc:(nu P t&&Nat.beq c.length m) with
      |false=>grind
      |true=>rw[hc] at h;simp only[bA] at hc;cases h;have hm:=bc hc.2;exact HT rfl hd he hi hc.1 (by grind [A6])
     .cases h
    .cases h
   .cases h
  .cases h
theorem Ac(h:∀x∈parts.map (·.2),aB st' x=aB st x):(parts.toList.map λq=>(q.1,aB st' q.2))=parts.toList.map λq=>(q.1,aB st q.2):=
 by grind [List.map_congr_left]
structure Sub (st st':St):Prop where
 n:st'.n=st.n
 gl:st'.gl=st.gl
 fr:∀i,aD st'.fr i=aD st.fr i
 σ:∀i o,ag st'.σ i=some o->ag st.σ i=some o
 c:st'.c=st.c
 p:st'.p=st.p
 r:st'.r=st.r
theorem Sub.rel{st st':St}(e:Sub st st'){cx:Cx}{a:Act}{w:World}(h:mh P cx st a w):mh P cx st' a w:=by
 obtain⟨β,h⟩:=h;have hS:∀b',b'<w.heap.size->Av cx.S0 β st'.σ b'->Av cx.S0 β st.σ b':=by grind [σ]
 refine⟨β,?_⟩;exact{
  size:=by rw[e.n];exact h.size
  defers:=h.defers
  loose:=h.loose
  rnd:=by rw[e.r];exact h.rnd
  fr:=λi=>by rw[e.fr];exact(h.fr i).step (by grind) hS (Bc.refl _ _)
  ob:=λi o ho=>(h.ob i o (e.σ i o ho)).step (by grind) hS (Bc.refl _ _) (by grind)
  inj:=λi j o d b C D h1 h2=>h.inj i j o d b C D (e.σ i o h1) (e.σ j d h2)
  own:=λi o b C h1=>h.own i o b C (e.σ i o h1)
  sep:=λi o b C h1=>h.sep i o b C (e.σ i o h1)
  fresh:=λi hi=>h.fresh i (by rw[<-e.c];exact hi)
  glob:=λg l hl=>(h.glob g l (by rw[<-e.gl];exact hl)).sub hS
  keep:=h.keep
  old:=h.old
  pin:=λi x hx=>by rw[e.p];exact h.pin i x hx}
theorem th.sub{o:Oper}{st:St}{S T:St->Prop}(h:th P o st S)(e:(∀i o,ag st.σ i=some o->i<st.c)->∀s,S s->∃s',T s'/\Sub s s'):th P o st T:=λcx a w K R r k=>h cx a w K R r λs hs a' w' r'=>by
 obtain⟨s',h1,h2⟩:=e (λi ob ho=>by obtain⟨β,rb⟩:=r;grind [RO.at]) s hs
 exact k s' h1 a' w' (h2.rel r')
theorem Ae(e:Xg st s)(d:Option Tmp)(g:G):Xg (st.put d g) (s.put d g):=by
 cases d with
 |none=>exact e
 |some d=>exact⟨e.n,e.gl,λi=>by show aD ((d,g)::s.fr) i=aD ((d,g)::st.fr) i;rw[aO,aO,e.fr],e.σ,e.c,e.p,e.r⟩
theorem Af{σ σ':aQ}(h1:∀i,ag σ' i=ag σ i)(h2:c'=c):Xg {st with σ:=σ,c:=c} {st with σ:=σ',c:=c'}:=⟨rfl,rfl,λ_=>rfl,h1,h2,rfl,rfl⟩
theorem LM{σ σ':aQ}(h1:∀i o,ag σ' i=some o->ag σ i=some o)(h2:c'=c):Sub {st with σ:=σ,c:=c} {st with σ:=σ',c:=c'}:=⟨rfl,rfl,λ_=>rfl,h1,h2,rfl,rfl⟩
theorem LN(e:Sub st s)(d:Option Tmp)(g:G):Sub (st.put d g) (s.put d g):=by
 cases d with
 |none=>exact e
 |some d=>exact⟨e.n,e.gl,λi=>by show aD ((d,g)::s.fr) i=aD ((d,g)::st.fr) i;rw[aO,aO,e.fr],e.σ,e.c,e.p,e.r⟩
def fR:G->Bp
 | .ref i _=>[i]
 | .rsl i _ _=>[i]
 | .rsr i _=>[i]
 | .mref i=>[i]
 |_=>[]
def fX(o:Option Ob):Bool:=match o with
 |some ⟨_,_,some .resv⟩=>true
 |_=>false
def aai(o:Oper):Bool:=match o.op with
 | .alloc _| .box .. | .buildSlice .. | .makeSlice .. =>true
 | .call {callee:= .builtin .append,.. }=>true
 |_=>false
theorem Hy{o:Option Ob}(h:fX o=true):∃ob,o=some ob/\ob.x=some .resv:=by unfold fX at h;grind
theorem wb{σ:aQ}{ob:Option Ob}(i:Nat):ag ([(k,ob)]++σ) i=ag ((k,ob)::(k,none)::σ) i:=by grind
theorem lL{f:Nat->Option Ob}{i:Nat}:∀{l:Bp},ag (l.map λi=>(i,f i)) i=if i∈l then f i else none
 |[]=>by simp[ag]
 |x::r=>by
  rw[Fo,A3];by_cases e:x=i
  .grind
  .rw[BB e,lL (l:=r)];grind
theorem GS.bound{o:Oper}{st s s':St}(h:GS P o st s)(hs:(∀i ob,ag st.σ i=some ob->i<st.c)->Sub s s'):GS P o st s':=
 (th.sub (S:=λx=>x=s) (T:=λx=>x=s') h.gsn (by grind)).gs λx hx=>hx
def vU(P:Br)(ops:Array Oper)(K:St->Prop):It->St->Prop
 |[],st=>K st
 |o::rest,st=>(ce st ops o=some true/\th P o st (vU P ops K rest))\/(ce st ops o=some false/\(∀d,o.dst=some d->d<st.n)/\vU P ops K rest (st.put o.dst (.lit undef)))
theorem ux{ops:Array Oper}{K:St->Prop}{cx:Cx}{Q:Exit->Act->World->Prop}(c:∀st a w,K st->mh P cx st a w->Q .normal a w):∀(l:It) (st:St) (a:Act) (w:World),vU P ops K l st->mh P cx st a w->wpListIn cx.F cx.nn P ops Q l a w
 |[],st,a,w,h,r=>wpListIn_nil (c st a w h r)
 |o::rest,st,a,w,h,r=>by
  obtain⟨β,rb⟩:=r;rcases h with⟨hg,hs⟩|⟨hg,hd,hr⟩
  .refine wpListIn_step λK' b=>?_;rw[Bx (cT rb hg)];exact hs cx a w K' Q ⟨β,rb⟩ λs hs' a' w' r'=>b _ _ (ux c rest s a' w' hs' r')
  .refine wpListIn_step λK' b=>?_;rw[BB (by grind [cT])];exact⟨λf _=>rb.loose.fn f,b _ _ (ux c rest _ _ w hr ⟨β,rb.put o.dst hd (.imm _ _ (.lit _))⟩)⟩
theorem lG{l:It}{st:St}{Q:Exit->St->Prop}(h:vU P l.toArray (Q .normal) l st):Tr P (.region id l.toArray false) st Q:=λcx a w R r k=>
 (by grind [wpIn_region_lit,ux])
def Nm(o:Oper)(k:Nat):Nat:=bif aai o then k+1 else k
theorem sv:∀(n:Nat) (s:St),(ff n s).n=s.n/\(ff n s).gl=s.gl/\s.c<=(ff n s).c/\∀i,i<s.c->ag (ff n s).σ i=ag s.σ i
 |0,s=>⟨rfl,rfl,C6 _,λ_ _=>rfl⟩
 |n+1,s=>by obtain⟨a,b,c,d⟩:=sv n {s with σ:=(s.c,some BC)::s.σ,c:=s.c+1};grind [ff]
def UN:It->Nat
 |[]=>0
 |o::r=>Nm o (UN r)
theorem Hu{K K':St->Prop}{Q Q':Exit->St->Prop}(hk:∀s,K s->K' s)(hq:∀e s,Q e s->Q' e s)(h:uE K Q e s):uE K' Q' e s:=by cases e<;>simp only[uE] at h⊢<;>first|exact hk s h|grind
theorem DU{K:St->Prop}{Q:Exit->St->Prop}(he:e≠ .normal)(h:Q e st):uE K Q e st:=by grind [uE]
theorem UP{Q:Exit->St->Prop}(he:e≠ .exit id)(h:Q e st):pu id Q e st:=by cases e<;>grind [pu]
def vQ:aQ->Nat->aQ
 |[],_=>[]
 |(e,h)::r,d=>bif e.beq d then vQ r d else(e,h)::vQ r d
theorem li(d i:Nat):∀σ:aQ,ag (vQ σ d) i=if d=i then none else ag σ i
 |[]=>by simp[vQ,ag]
 |(e,h)::r=>by
  have:=li d i r;cases hb:Nat.beq e d with
  |true=>grind [bc,vQ]
  |false=>
   have:e≠d:=λe=>by simp_all
   grind [vQ]
def upd(U σ:aQ):aQ:=U.foldr (λq σ=>match q.2 with
 |none=>vQ σ q.1
 |some ob=>bif(ag σ q.1).isSome then jO σ q.1 (some ob)else(q.1,some ob)::σ) σ
theorem Vo(i:Nat)(σ:aQ):∀U:aQ,ag (upd U σ) i=ag (U++σ) i
 |[]=>rfl
 |(j,o)::r=>by have ih:=Vo i σ r;grind [upd,li,YC]
abbrev XF:=G×aQ×Bp×FF
def RX(st:St)(k:Nat):Bool:=fX (ag st.σ k)&&Nat.ble st.p k
def xw(g:G)(R:Bp)(q:Nat×Ob):XF:=(g,[(q.1,some q.2)],R,none)
def xn(g:G)(k:Nat)(ob:Ob)(R:Bp):XF:=(g,[(k,some ob)],k::R,none)
def xv(R:Bp)(g:G):XF:=(g,[],R,none)
def ZW(P:Br)(σ:aQ)(t u:Bn)(gx gy:G):Option (Bn×Nat×Nat×Bo):=bif Nat.beq t u then wu P σ 0 t gx gy else Hc P σ 0 t u gx gy
def Aa2(σ:aQ)(g:G):Bp:=match gR σ g with
 |some (_,_,some j,_,_,_)=>j::fR g
 |_=>fR g
def AlD(P:Br)(t:Bn)(l:List (Nat×G)):Option G:=match uH P t l with
 |some g=>some g
 |none=>FO P t l
def ZX(P:Br)(o:Oper)(st:St)(k:Nat):Option XF:=match o.op with
 | .buildSlice t m parts=>bif RX st k then(Yd P t m (parts.toList.map λq=>(q.1,aB st q.2))).map λ(e,l)=>xn (.rsl k 0 m) k ⟨e,l,none⟩ []else none
 | .makeSlice t x y=>bif RX st k then(tI P t (aB st x) (aB st y)).map λ(e,l,n)=>xn (.rsl k 0 n) k ⟨e,l,none⟩ []else none
 | .box t x=>bif RX st k then(S6 P t (aB st x)).map λl=>xn (.ref k 0) k ⟨t,l,none⟩ []else none
 | .alloc t=>bif RX st k then(FJ P t).map λl=>xn (.ref k 0) k ⟨t,l,none⟩ []else none
 | .makeMap t r=>bif rC P t (r.map (aB st))then some (.mref st.c,[(st.c,some ⟨t,[],some (.map [] 0)⟩)],[],some (st.c+1))else none
 | .range t x=>(B9 P st.σ t (aB st x)).map λob=>(.ref st.c 0,[(st.c,some ⟨t,[],some ob⟩)],fR (aB st x),some (st.c+1))
 | .store t x y=>(FK P st.σ t (aB st x) (aB st y)).map (xw (.lit undef) (fR (aB st x)))
 | .mapUpdate t x y z=>(dZ P st.σ t (aB st x) (aB st y) (aB st z)).map (xw (.lit undef) (fR (aB st x)))
 | .insert t x y z=>(dZ P st.σ t (aB st x) (aB st y) (aB st z)).map (xw (.lit undef) (fR (aB st x)))
 | .mapEntry t x y=>(ov P st.σ t (aB st x) (aB st y)).map λ(i,ob,g)=>xw g (fR (aB st x)) (i,ob)
 | .entryStore _ x y z=>(jX st.σ (aB st x) (aB st y) (aB st z)).map (xw (.lit undef) (fR (aB st x)))
 | .call ⟨.builtin .append,⟨[x,y]⟩,⟨[t,u]⟩⟩=>bif RX st k then(match aB st x with
  | .rsl i 0 n=>(ZW P st.σ t u (.rsl i 0 n) (aB st y)).map λ(e,_,m,l)=>(.rsl k 0 m,[(k,some ⟨e,l,none⟩),(i,none)],k::i::fR (aB st y),none)
  | .lit (.slice none 0 0)=>(ZW P st.σ t u (.lit (.slice none 0 0)) (aB st y)).map λ(e,_,m,l)=>xn (.rsl k 0 m) k ⟨e,l,none⟩ (fR (aB st y))
  |_=>none)else none
 | .call ⟨.builtin .delete,⟨[x,y]⟩,⟨[t,_]⟩⟩=>(FN P st.σ t (aB st x) (aB st y)).map (xw (.tup []) (fR (aB st x)))
 | .call ⟨.builtin .clear,⟨[x]⟩,⟨[t]⟩⟩=>(rF P st.σ t (aB st x)).map (xw (.tup []) (fR (aB st x)))
 | .call ⟨.builtin .copy,⟨[x,y]⟩,⟨[t,_]⟩⟩=>(Qq P st.σ t (aB st x) (aB st y)).map λ(i,ob,n)=>xw (.lit (.int .i64 (n:Int))) (fR (aB st x)++fR (aB st y)) (i,ob)
 | .call ⟨.builtin .min,⟨[x,y]⟩,_⟩=>(Qb (aB st x) (aB st y)).map (xv [])
 | .call ⟨.builtin .max,⟨[x,y]⟩,_⟩=>(Qc (aB st x) (aB st y)).map (xv [])
 | .call ⟨.builtin .len,⟨[x]⟩,⟨[t]⟩⟩=>(match ou P st.σ t (aB st x) with|some g=>some g|none=>aX P (aB st) [] o).map (xv (fR (aB st x)))
 | .build t parts=>(AlD P t (parts.toList.map λq=>(q.1,aB st q.2))).map (xv [])
 | .slice t x (some lo) (some hi) (some mx)=>(sJ P t (aB st x) (aB st lo) (aB st hi) (aB st mx)).map (xv [])
 | .convert s t x=>(iQ P st.σ s t (aB st x)).map (xv (fR (aB st x)))
 | .binOp op t x y _=>(match lD op (aB st x) (aB st y) with
  |some g=>some g
  |none=>match FL P op t (aB st x) (aB st y) with
   |some g=>some g
   |none=>aX P (aB st) [] o).map (xv [])
 | .lookup t x y ok=>(bL P st.σ t ok (aB st x) (aB st y)).map (xv (fR (aB st x)))
 | .entry x=>(jr st.σ (aB st x)).map (xv (Aa2 st.σ (aB st x)))
 | .load t x=>(jU P st.σ t (aB st x)).map (xv (fR (aB st x)))
 |_=>(aX P (aB st) [] o).map (xv [])
structure Lk (o:Oper) (st st'':St) (x:XF):Prop where
 n:st''.n=st.n
 gl:st''.gl=st.gl
 p:st''.pr=st.pr
 c:x.2.2.2.isSome=true->st''.c=st.c
 σ:∀i∈x.2.2.1,ag st''.σ i=ag st.σ i
 x:∀y∈o.op.operands,aB st'' y=aB st y
def lay(st:St)(o:Oper)(x:XF):St:={st with σ:=x.2.1++st.σ,c:=x.2.2.2.getD st.c}.put o.dst x.1
def X6(P:Br)(o:Oper)(st:St)(x:XF):Prop:=∀a,Lk o st a x->GS P o a (lay a o x)
section
variable {σ σ':aQ} {g:G}
theorem Ag5(h:∀i∈fR g,ag σ' i=ag σ i):jU P σ' t g=jU P σ t g:=by cases g<;>grind [jU,fR]
theorem Lw(h:∀i∈fR g,ag σ' i=ag σ i):LD σ' g=LD σ g:=by cases g<;>grind [LD,fR]
theorem UM(h:∀i∈fR g,ag σ' i=ag σ i)(s:Nat):fO σ' s g=fO σ s g:=by unfold fO;split<;>simp_all [fR]
theorem AeN(h:∀i∈fR g,ag σ' i=ag σ i):B9 P σ' t g=B9 P σ t g:=by have:=Lw h;unfold B9;grind
theorem Ag6(h:∀i∈fR g,ag σ' i=ag σ i):ou P σ' t g=ou P σ t g:=by have:=Lw h;unfold ou;grind
theorem AcW{k:G}(h:∀i∈fR g,ag σ' i=ag σ i):bL P σ' t ok g k=bL P σ t ok g k:=by have:=Lw h;grind [bL]
theorem AcX{s:Bn}(h:∀i∈fR g,ag σ' i=ag σ i):iQ P σ' s t g=iQ P σ s t g:=by have:=UM h 1;unfold iQ;split<;>simp_all
theorem Ag7(h:∀i∈fR g,ag σ' i=ag σ i):gR σ' g=gR σ g:=by unfold gR;split<;>simp_all [fR]
theorem Vp(h:∀i∈Aa2 σ g,ag σ' i=ag σ i):jr σ' g=jr σ g/\Aa2 σ' g=Aa2 σ g:=by have h1:=Ag7 (σ:=σ) (σ':=σ') (g:=g);have h2:=λj=>Lw (σ:=σ) (σ':=σ') (g:= .mref j);grind [Aa2,jr,fR]
end
theorem Qt(h:RX st k=true):zB st (some k):=by simp only[RX,bA] at h;obtain⟨ob,h1,h2⟩:=Hy h.1;exact⟨EG h.2,ob,h1,h2⟩
theorem nl{σ U:aQ}(h:GS P o st ({st with σ:=σ,c:=c}.put o.dst g))(a:∀i,ag (U++st.σ) i=ag σ i):GS P o st ({st with σ:=U++st.σ,c:=c}.put o.dst g):=h.eqv (Ae (Af a rfl) _ _)
theorem AeO{σ:aQ}{e:Bn}{s c:Nat}(h:xO σ 0 e s g=some (i,n,l)):∃a,xO σ c e s g=some (a,n,l)/\((∃j n,g= .rsl j 0 n/\a=j)\/g= .lit (.slice none 0 0)/\a=c):=by unfold xO at h⊢;grind [GJ]
theorem AcY{e:Bn}(ho:o.op= .call ⟨.builtin .append,⟨[x,y]⟩,⟨[t,u]⟩⟩)(hd:LS o st.n)(hk:RX st k=true)(hg:ZW P st.σ t u (aB st x) (aB st y)=some (e,i,m,l)):∃a,((∃j n,aB st x= .rsl j 0 n/\a=j)\/aB st x= .lit (.slice none 0 0)/\a=st.c)/\GS P o st ({st with σ:=(k,some ⟨e,l,none⟩)::(a,none)::st.σ}.put o.dst (.rsl k 0 m)):=by
 unfold ZW at hg;cases htu:Nat.beq t u with
 |true=>
  obtain rfl:=bc htu;rw[htu] at hg;simp only[ax,wu,GJ] at hg;obtain⟨e',he,s,hs,zs,hz,b,hb,⟨a,n,f⟩,hx,⟨d,h⟩,hy,hg⟩:=hg;obtain⟨i1,h1,h2⟩:=AeO (c:=st.c) hx;split at hg
  .rename_i hc;simp only[Ft,Gb] at hg;obtain⟨rfl,rfl,rfl,rfl⟩:=hg;exact⟨i1,h2,J4 (pl:=some k) ho hd he hs hc.1 hz hc.2.1 hb h1 hy (by grind [maxLen]) hc.2.2.2 (Qt hk)⟩
  .cases hg
 |false=>
  rw[htu] at hg;simp only[A9,Hc] at hg;split at hg
  .rename_i b hy;split at hg
   .rename_i e' he;split at hg
    .rename_i h1 h2 h3;split at hg
     .rename_i a n f hx;obtain⟨i1,h4,h5⟩:=AeO (c:=st.c) hx;cases hc:(nu P u&&Nat.ble (n+b.data.toList.length) 140737488355328) with
      |false=>grind
      |true=>rw[hc] at hg;simp only[bA] at hc;cases hg;exact⟨i1,h5,Kc (pl:=some k) (s:=b.data.toList) ho hd he hc.1 h1 h2 h3 h4 (by rw[hy]) (by simp_all) (Qt hk)⟩
     .cases hg
    .cases hg
   .cases hg
  .cases hg
theorem YD(ho:o.op= .load t x)(hd:LS o st.n)(h:jU P st.σ t (aB st x)=some g):GS P o st (st.put o.dst g):=fM hd (by obtain⟨a,op,ty,pos,b,gd⟩:=o;obtain rfl:op=_:=ho;exact h)
theorem Sw{ρ:Dl->G}{σ:aQ}(hl:∀t x,o.op≠ .load t x)(h:aX P ρ [] o=some g):aX P ρ σ o=some g:=by
 obtain⟨d,op,ty,pos,e,gd⟩:=o;cases op with
 |load t x=>grind
 |slice t x lo hi mx=>cases mx<;>exact h
 |call c=>
  obtain⟨a,args,ats⟩:=c;cases a with
  |builtin b=>cases b<;>exact h
  |_=>exact h
 |_=>exact h
theorem Ajv{U:aQ}(hd:LS o st.n)(h:ZX P o st k=some (g,U,R,q)):GS P o st ({st with σ:=U++st.σ,c:=q.getD st.c}.put o.dst g):=by
 obtain⟨d,op,ty,pos,j,gd⟩:=o;have one:∀{a:Option G} {R':Bp},a.map (xv R')=some (g,U,R,q)->a=some g/\U=[]/\q=none:=λ{a R'} h=>by cases a<;>simp[xv] at h;grind
 have mk:∀{b:Bool} {a:Option XF},(bif b then a else none)=some (g,U,R,q)->b=true/\a=some (g,U,R,q):=by grind
 unfold ZX at h;dsimp only at h;split at h
 .obtain⟨hk,h⟩:=mk h;obtain⟨⟨e,l⟩,hg,h⟩:=DG.1 h;cases h;exact nl (P9 (pl:=some k) rfl hd hg (Qt hk)) wb
 .obtain⟨hk,h⟩:=mk h;obtain⟨⟨e,l,n⟩,hg,h⟩:=DG.1 h;cases h;exact nl (HV (pl:=some k) rfl hd hg (Qt hk)) wb
 .obtain⟨hk,h⟩:=mk h;obtain⟨l,hg,h⟩:=DG.1 h;cases h;simp only[S6,GJ] at hg;obtain⟨p,h1,s,h2,hg⟩:=hg;split at hg<;>cases hg;exact nl (L5 (pl:=some k) rfl hd h1 (by rw[Pp h2];assumption) (Qt hk)) wb
 .obtain⟨hk,h⟩:=mk h;obtain⟨l,hg,h⟩:=DG.1 h;cases h;simp only[FJ,GJ] at hg;obtain⟨zs,h1,s,h2,hg⟩:=hg;split at hg<;>cases hg;exact nl (Ed (pl:=some k) rfl hd h1 (by rw[Pp h2];assumption) (Qt hk)) wb
 .cases hg:rC P ‹_› ((‹Option Dl›).map (aB st))<;>rw[hg] at h<;>cases h;exact B8 rfl hd hg
 .obtain⟨ob,hg,h⟩:=DG.1 h;cases h;exact H2 rfl hd hg
 .obtain⟨q,hg,h⟩:=DG.1 h;cases h;exact Qg rfl hd hg
 .obtain⟨q,hg,h⟩:=DG.1 h;cases h;exact iW (.inl rfl) hd hg
 .obtain⟨q,hg,h⟩:=DG.1 h;cases h;exact iW (.inr rfl) hd hg
 .obtain⟨⟨i,ob,r⟩,hg,h⟩:=DG.1 h;cases h;exact yU rfl hd hg
 .obtain⟨q,hg,h⟩:=DG.1 h;cases h;exact tJ rfl hd hg
 .obtain⟨hk,h⟩:=mk h;split at h
  .rename_i i n hx;obtain⟨⟨e,f,m,l⟩,hg,h⟩:=DG.1 h;cases h;obtain⟨i1,h1,h2⟩:=AcY rfl hd hk (by rw[hx];exact hg);grind
  .rename_i hx;obtain⟨⟨e,f,m,l⟩,hg,h⟩:=DG.1 h;cases h;obtain⟨i1,h1,h2⟩:=AcY rfl hd hk (by rw[hx];exact hg);grind [GS.bound,LN,LM]
  .cases h
 .obtain⟨q,hg,h⟩:=DG.1 h;cases h;exact NM rfl hd hg
 .obtain⟨q,hg,h⟩:=DG.1 h;cases h;exact Qp rfl hd hg
 .obtain⟨⟨i,ob,n⟩,hg,h⟩:=DG.1 h;cases h;exact Tc rfl hd hg
 all_goals
  obtain⟨h',rfl,rfl⟩:=one h
  clear h one mk
  have h:=h'
 .exact fM hd (S4 h)
 .exact fM hd (S5 h)
 .split at h
  .rename_i hg;cases h;exact Ta rfl hd hg
  .exact fM hd (Sw aC h)
 .unfold AlD at h;split at h
  .rename_i hg;cases h;exact BO rfl hd hg
  .exact NO rfl hd h
 .exact En rfl hd h
 .exact Bd rfl hd h
 .split at h
  .rename_i hg;cases h;exact fM hd (by grind [rA,AdN])
  split at h
  .rename_i hg;cases h;exact NL rfl hd hg
  .exact fM hd (Sw aC h)
 .exact xS rfl hd h
 .exact H3 rfl hd h
 .exact YD rfl hd h
 .rename_i hl;exact fM hd (Sw hl h)
theorem Ajw{U:aQ}(h:ZX P o st k=some (g,U,R,q))(L:Lk o st st'' (g,U,R,q)):ZX P o st'' k=some (g,U,R,q):=by
 obtain⟨_,_,hn,hc,c,hx⟩:=L;obtain⟨d,op,ty,pos,j,gd⟩:=o;have hp:st''.p=st.p:=by grind [St.pr]
 have mk:∀{a a':Option XF},(bif RX st k then a else none)=some (g,U,R,q)->(a=some (g,U,R,q)->k∈R/\a'=some (g,U,R,q))->(bif RX st'' k then a' else none)=some (g,U,R,q):=by grind [RX]
 have one:∀{α:Type} {a b:Option α} {f:α->XF},a.map f=some (g,U,R,q)->(∀x,f x=(g,U,R,q)->b=a)->b.map f=some (g,U,R,q):=by grind [DG]
 have vl:∀{a b:Option G} {R':Bp},a.map (xv R')=some (g,U,R,q)->((∀x∈R',ag st''.σ x=ag st.σ x)->b=a)->b.map (xv R')=some (g,U,R,q):=by grind [xv]
 have wl:∀{g':G} {R':Bp} {a b:Option (Nat×Ob)},a.map (xw g' R')=some (g,U,R,q)->((∀x∈R',ag st''.σ x=ag st.σ x)->b=a)->b.map (xw g' R')=some (g,U,R,q):=by grind [xw]
 have ev:aX P (aB st'') [] ⟨d,op,ty,pos,j,gd⟩=aX P (aB st) [] ⟨d,op,ty,pos,j,gd⟩:=jW hx;unfold ZX at h⊢;dsimp only at h hx⊢;split at h
 .refine mk h λh=>?_;obtain⟨_,hg,e⟩:=DG.1 h;cases e;exact⟨aC,by rw[Ac λx hx'=>hx x (by simpa[Op.operands] using hx'),hg];rfl⟩
 all_goals try
  simp only[Op.operands,Call.operands,Array.mem_append,List.mem_toArray,EY,Lv,or_false,false_or,forall_eq_or_imp,forall_eq] at hx
  simp only[hx]
 iterate 3
  refine mk h λh=>?_
  obtain⟨_,hg,e⟩:=DG.1 h
  cases e
  exact(by grind)
 .rename_i t r;have e:r.map (aB st'')=r.map (aB st):=by cases r<;>simp_all [Op.operands]
  grind
 .grind [DG,AeN]
 .exact wl h λc=>by unfold FK;split<;>simp_all [fR]
 iterate 2 exact(by grind [dZ,Lw])
 .refine one h λ_ e=>?_;cases e;grind [ov,Lw]
 .exact wl h λc=>by unfold jX;rw[Lw c]
 .refine mk h λh=>?_;rename_i x y t u _;have go:∀gx,(∀i∈fR (aB st y),ag st''.σ i=ag st.σ i)->(∀i n,gx= .rsl i 0 n->ag st''.σ i=ag st.σ i)->ZW P st''.σ t u gx (aB st y)=ZW P st.σ t u gx (aB st y):=λgx h1 h2=>by
   have e:∀e s,xO st''.σ 0 e s gx=xO st.σ 0 e s gx:=λe s=>by unfold xO;split<;>simp_all
   unfold ZW wu Hc;simp only[e,UM h1]
  split at h
  .grind [DG]
  .obtain⟨_,hg,e⟩:=DG.1 h;cases e;grind
  .cases h
 .grind [FN,Lw]
 .exact wl h λc=>by unfold rF;split<;>simp_all [fR]
 .refine one h λ_ e=>?_;cases e;unfold Qq;have h2:=λs=>UM (σ:=st.σ) (σ':=st''.σ) (g:=aB st ‹_›) (λi hi=>c i (List.mem_append_right _ hi)) s;split<;>simp_all [fR]
 iterate 2 exact(by grind)
 .grind [Ag6]
 .exact vl h λ_=>by rw[Ac λx hx'=>hx x (by simpa[Op.operands] using hx')]
 .grind [Op.operands]
 .grind [AcX]
 .grind
 .grind [AcW]
 .have e:=h;obtain⟨_,_,e⟩:=DG.1 e;cases e;grind [Vp]
 all_goals grind [Ag5]
theorem Ajx{x:XF}(hd:LS o st.n)(h:ZX P o st k=some x):X6 P o st x:=λa L=>Ajv (by rw[L.n];exact hd) (Ajw h L)
theorem H4{f:Dl}{xs:Array Dl}{ats:Array Bn}{fst cap:Bo}(ho:o.op= .call {callee:= .value f,args:=xs,argTypes:=ats})(hd:LS o st.n)(hf:aB st f= .clo (.func fid) fst cap)(hc:aK P fid=true)
  (hl:gs.length=(fst++xs.toList.map (aB st)++cap).length) (hi:∀(i:Nat) (g g':G),(fst++xs.toList.map (aB st)++cap)[i]?=some g->gs[i]?=some g'->ve P st g g') (hF:iV P st.gl fid gs t m l) (d:∀g∈l,∃v,g= .lit v):
  GS P o st ({st with σ:=(st.c,some ⟨t,l,none⟩)::st.σ,c:=st.c+1}.put o.dst (.rsl st.c 0 m)):=by
 intro cx a w K R ⟨β,h⟩ q
 obtain⟨vs,hrun,hsz,hv⟩:=lQ h ho hf hc
 refine h.loose.oper (by grind) ?_
 unfold Oper.wp
 rw[hrun]
 have hav:∀b,Av cx.S0 (λ_=>none) [] b->cx.S0 b:=by grind
 refine(hF w (λ_=>none) cx.S0 vs (by grind) (by grind) (λg l hl=>(by grind [IV.sub])) ⟨λi o ho=>by(cases ho),(by grind),(by grind)⟩ aa (λi g u hg hu=>?_)).mono ?_
 .have hlt:=(cr hg).1
  have hx:(fst++xs.toList.map (aB st)++cap)[i]?=some ((fst++xs.toList.map (aB st)++cap)[i]'aa):=by rw[EA]
  exact .imm _ _ ((hi i _ g hx hg cx a w β h u (by grind)).sub (by grind))
 .rintro e w' ⟨v,r,rfl,hp⟩
  have hkeep:Bc (λ_=>False) w w':=hp.keep.mono (by rintro k _ ⟨i,ob,C,hob,_⟩;cases hob)
  have hob:=hp.rs.ob 0 _ rfl
  have hval:=hp.val
  rcases hob with⟨h1,h2,_⟩|⟨b,x,s,h1,_⟩|⟨b,C,cur,_,h1,h2,h3,h4,h5,h6⟩
  .obtain⟨hv0,hm0⟩:v= .slice none 0 0/\m=0:=by grind [RV.rsl_form]
   subst hv0;subst hm0
   have hl0:l=[]:=h2
   subst hl0
   exact q _ _ ⟨_,((h.world hkeep).virt t (C6 _)).put o.dst hd (.rsl0 _ _ aC)⟩
  .cases h1
  .have hb:w.heap.size<=b:=by
    rcases hp.old b ⟨0,_,C,rfl,h1⟩ with⟨i,ob,D,hob,_⟩|hb
    all_goals simp_all
   have p:=h.alloc (k:=st.c) (ob:=⟨t,l,none⟩) hkeep hb h2 h3 h4 h5 rfl (λj g hj=>by obtain⟨u,hu,h7,h8⟩:=h6 j g hj;obtain⟨v',rfl⟩:=d g (bO hj);exact⟨u,hu,h7,by rw[h8.lit_eq];exact .imm _ _ (.lit _)⟩) (C6 _)
   refine q _ _ ⟨_,p.put o.dst hd ?_⟩
   grind [RV.rsl_form,RV]
inductive Hn where
 |v (d:Nat) (g:G)
 |b (d:Nat) (g:G)
 |f (d:Nat) (g:G)
 |e (d:Nat) (g:G) (i:Nat) (ob:Ob)
 |a (d:Nat) (L:Bo) (M:Nat)
 |r (d:Nat) (b:Bool)
 |w (d:Nat) (L:Bo)
 |k (d:Nat) (L:Bo) (M:Nat)
 |q (d:Nat) (ts:Bo) (g:G)
 |c (d:Nat) (g:G)
 |m (d:Nat) (g:G)
 |z (d:Nat) (R:Bp) (g:G) (U:aQ) (c':Nat)
 |o (d:Nat) (ts:Bo) (t:Bn) (m:Nat) (l:Bo)
 |i (d j:Nat) (ob:Ob) (n:Nat)
 |n (d:Nat) (g:G) (ck:aQ->Bool)
def Hn.key:Hn->Nat
 | .v d _| .b d _| .f d _| .e d _ _ _| .a d _ _| .r d _| .k d _ _| .q d _ _| .o d _ _ _ _| .c d _| .m d _| .z d _ _ _ _| .i d _ _ _| .n d _ _=>d
 | .w d _=>1000000+d
def CL(o:Oper):Nat:=match o.dst with
 |some d=>d
 |none=>match o.op with
  | .store _ (.tmp d) _=>1000000+d
  | .entryStore _ _ (.tmp d) _=>2000000+d
  |_=>999999998
def Ol(o:Oper)(hs:List Hn):Option Hn:=hs.find? λh=>Nat.beq h.key (CL o)
def II:Option Prop->Prop->Prop
 |none,q=>q
 |some p,q=>p/\q
def EM(P:Br)(o:Oper)(st:St)(g:G):Prop:=match o.op with
 | .binOp op t x y _=>∀p q:Dl,DE P op t p q (aB st x) (aB st y)=some g
 | .indexAddr t x i=>match aB st i with
  | .lit (.int _ k)=>fh P t (aB st x) k=some g
  |_=>False
 | .load t x=>match aB st x with
  | .ptr l o=>dN P t l o=some g
  | .ref i o=>match ag st.σ i with
   |some ob=>dN P t ob.l o=some g
   |none=>False
  |_=>False
 | .slice t x lo hi none=>match aB st x with
  | .sl l n=>(Ko (lo.map (aB st))).bind (λa=>(Ko (hi.map (aB st))).bind λb=>ig P t (.sl l n) a b)=some g
  | .rsl i o n=>(Ko (lo.map (aB st))).bind (λa=>(Ko (hi.map (aB st))).bind λb=>ig P t (.rsl i o n) a b)=some g
  |_=>False
 | .call {callee:= .builtin .len,args:=⟨[x]⟩,argTypes:=⟨[t]⟩}=>match aB st x with
  | .lit (.string b)=>nu P t=true/\G.lit (.int .i64 b.size)=g
  |_=>aX P (aB st) [] o=some g
 |_=>aX P (aB st) [] o=some g
theorem Afg(hd:LS o st.n)(h:EM P o st g):GS P o st (st.put o.dst g):=by
 obtain⟨a,op,ty,pos,c,gd⟩:=o;unfold EM at h;dsimp only at h;split at h
 .exact fM hd (by grind [rA])
 .split at h
  .rename_i hi;exact fM hd (by grind [aX,xL])
  .exact h.elim
 .refine YD rfl hd ?_;grind [jU]
 .split at h
  .rename_i hx;exact fM hd (by grind [aX])
  .rename_i hx;exact fM hd (by grind [aX])
  .exact h.elim
 .split at h
  .rename_i b hx;exact fM hd (by grind [Qf,Qd])
  .exact fM hd (Sw aC h)
 .rename_i hl _ _;exact fM hd (Sw hl h)
def xrd(o:Oper)(st:St):Bp:=match o.op with
 | .load _ x=>fR (aB st x)
 |_=>[]
theorem Afh(h:EM P o st g)(b:∀i∈xrd o st,ag st''.σ i=ag st.σ i)(hx:∀x∈o.op.operands,aB st'' x=aB st x):EM P o st'' g:=by
 obtain⟨a,op,ty,pos,c,gd⟩:=o;have ev:aX P (aB st'') [] ⟨a,op,ty,pos,c,gd⟩=aX P (aB st) [] ⟨a,op,ty,pos,c,gd⟩:=jW hx;unfold EM at h⊢;unfold xrd at b;dsimp only at h b hx⊢;have om:∀lo:Option Dl,(∀y,lo=some y->y∈op.operands)->lo.map (aB st'')=lo.map (aB st):=λlo hl=>by cases lo<;>grind
 split at h
 .grind [Op.operands]
 .grind [Op.operands]
 .grind [Op.operands,fR]
 .rw[hx _ fK,om _ (by simp+contextual [Op.operands]),om _ (by simp+contextual [Op.operands])];exact h
 all_goals grind [Op.operands,Call.operands]
def KU(P:Br)(σ:aQ)(t:Bn)(ok:Bool)(gm gk g:G):Prop:=match gm with
 | .mref i=>bL P [(i,ag σ i)] t ok (.mref i) gk=some g
 |gm=>∀σ,bL P σ t ok gm gk=some g
theorem EN{σ σ':aQ}{gm gk:G}(h:KU P σ t ok gm gk g)(hs:∀i∈fR gm,ag σ' i=ag σ i):bL P σ' t ok gm gk=some g:=by
 cases gm with
 |mref i=>have h:bL P [(i,ag σ i)] t ok (.mref i) gk=some g:=h;grind [fR,AcW]
 |_=>exact h σ'
def ge(st:St)(o:Oper):Option (FuncId×Bo):=match o.op with
 | .call {callee:= .value x,args:=xs,argTypes:=_}=>match aB st x with
  | .clo (.func fid) fst cap=>some (fid,fst++xs.toList.map (aB st)++cap)
  |_=>none
 |_=>none
def oJ(P:Br)(gl:CC)(fid:FuncId)(gs:Bo)(σR:aQ)(c:Nat)(g:G)(U:aQ)(c':Nat):Prop:=∀(o:Oper) (st:St) (y:Dl) (xs:Array Dl) (ats:Array Bn) (fst cap:Bo),o.op= .call {callee:= .value y,args:=xs,argTypes:=ats}->(∀d,o.dst=some d->d<st.n)->aB st y= .clo (.func fid) fst cap->fst++xs.toList.map (aB st)++cap=gs->st.gl=gl->(∀q∈σR,ag st.σ q.1=q.2)->st.c=c->GS P o st ({st with σ:=U++st.σ,c:=c'}.put o.dst g)
def nF:Nat->G->Bool
 |0,_=>false
 |_+1,.lit _=>true
 |_+1,.sl _ _=>true
 |_+1,.ptr _ _=>true
 |_+1,.mp _ _ _ _=>true
 |n+1,.agg l=>l.all (nF n)
 |n+1,.tup l=>l.all (nF n)
 |n+1,.clo _ a b=>a.all (nF n)&&b.all (nF n)
 |_,_=>false
theorem aG:∀(n:Nat) (g:G),nF n g=true->bB g
 |0,_,h=>by cases h
 |n+1,g,h=>by
  cases g with
  |lit v=>exact mN v
  |sl l m=>exact FC l m
  |ptr l o=>exact Ah l o
  |mp ks vs ns c=>grind [J5]
  |agg l=>exact L6 λx hx=>aG n x (GE.1 h x hx)
  |tup l=>exact L7 λx hx=>aG n x (GE.1 h x hx)
  |clo fn a b=>simp only[nF,bA] at h;exact L8 (λx hx=>aG n x (by grind)) (λx hx=>aG n x (by grind))
  |_=>cases h
def w8:Nat->G->Bool
 |0,_=>false
 |_+1,.lit _=>true
 |n+1,.agg l=>l.all (w8 n)
 |n+1,.tup l=>l.all (w8 n)
 |_,_=>false
theorem rQ:∀(n:Nat) (g:G),w8 n g=true->XI g
 |0,_,h=>by cases h
 |n+1,g,h=>by
  cases g with
  |lit v=>exact lR v
  |agg l=>exact HM λx hx=>rQ n x (GE.1 h x hx)
  |tup l=>exact HN λx hx=>rQ n x (GE.1 h x hx)
  |_=>cases h
theorem KV:ve P st (.lit (.slice none 0 0)) (.sl [] 0):=λcx a w β r v hv=>by rw[hv.lit_eq];exact .sl [] 0 none 0 (λ_=>undef) (C6 _) (Nat.zero_le _) aC aC aC
theorem QY{clock:Nat}{es:List (Value×G×Nat)}(ho:ag st.σ i=some ⟨t,l,some (.map es clock)⟩)(hi:∀e∈es,bB e.2.1):ve P st (.mref i) (.mp (es.map (·.1)) (es.map (·.2.1)) (es.map (·.2.2)) clock):=λcx a w β r v hv=>by
 obtain⟨b,C,hb,rfl⟩:=hv.mref_form;rcases r.ob i _ ho with⟨_,_,h3⟩|⟨b',x,o,h1,h2,h3,h4,h5⟩|⟨b',C',cur,h1,_⟩
 .grind
 .cases h1;have c:=hb;rw[h3] at hb;cases hb;obtain⟨ents,rfl,e2,e3⟩:=h5;have hav:=r.sep i _ _ _ ho c;refine .mp _ _ _ _ _ ents hav (r.lt ho c) h4 (by simp[e2]) ?_ ?_ λj g e hg he=>?_
  .apply List.ext_getElem?;grind
  .apply List.ext_getElem?;grind
  .rw[Nh,DG] at hg;obtain⟨⟨k,d,n⟩,hj,rfl⟩:=hg;obtain⟨e',h6,h7,h8,h9⟩:=e3 j k d n hj;rw[he] at h6;cases h6;exact(hi _ (bO hj) _ _ _ _ h9).sub (by grind)
 .cases h1
def Da(f:G->G->Option (JQ×G)):Bo->Bo->Option (JQ×Bo)
 |[],[]=>some ([],[])
 |g::r,t::r'=>match f g t with
  |some (C,g')=>match Da f r r' with
   |some (D,l)=>some (C++D,g'::l)
   |none=>none
  |none=>none
 |_,_=>none
theorem io{Q:G->G->Prop}{f:G->G->Option (JQ×G)}(hf:∀g t C c,f g t=some (C,c)->(∀p∈C,p)->Q g c):∀(l t:Bo) (C:JQ) (l':Bo),Da f l t=some (C,l')->(∀p∈C,p)->l'.length=l.length/\∀(i:Nat) (g c:G),l[i]?=some g->l'[i]?=some c->Q g c
 |[],[],C,l',h,hC=>by cases h;grind
 |g::r,t::r',C,l',h,hC=>by
  unfold Da at h;split at h
  .rename_i d g1 h1;split at h
   .rename_i D l1 h2;cases h;obtain⟨k1,k2⟩:=io hf r r' D l1 h2 λp hp=>hC p (by grind);refine⟨by simp[k1],λi a b ha hb=>?_⟩;cases i with
    |zero=>simp at ha hb;subst ha;subst hb;exact hf _ _ _ _ h1 λp hp=>hC p (by grind)
    |succ i=>grind
   .cases h
  .cases h
 |[],_::_,C,l',h,hC=>by cases h
 |_::_,[],C,l',h,hC=>by cases h
def KW(P:Br)(σ:aQ):Nat->G->G->Option (JQ×G)
 |0,_,_=>none
 |n+1,g,t=>match t with
  | .sl _ m'=>match g with
   | .sl l m=>some ([],.sl l m)
   | .lit (.slice none 0 0)=>some ([],.sl [] 0)
   | .rsl j o m=>match ag σ j with
    |some ob=>match bw P ob.t with
     |some s=>bif Nat.beq o 0 then some ([ob.l.length=m'*s/\(∀x∈ob.l,bB x)/\m=m'],.sl ob.l m')else some ([o+m*s<=ob.l.length/\∀x∈ob.l,bB x],.sl ((ob.l.drop o).take (m*s)) m)
     |none=>none
    |none=>none
   |_=>none
  | .ptr l' _=>match g with
   | .ptr l o=>some ([],.ptr l o)
   | .ref i o=>match ag σ i with
    |some ob=>match Da (KW P σ n) ob.l l' with
     |some (C,r)=>some (C,.ptr r o)
     |none=>none
    |none=>none
   |_=>none
  | .mp _ _ _ _=>match g with
   | .mp ks vs ns c=>some ([],.mp ks vs ns c)
   | .mref j=>match ag σ j with
    |some ⟨_,_,some (.map es clock)⟩=>some ([∀e∈es,bB e.2.1],.mp (es.map (·.1)) (es.map (·.2.1)) (es.map (·.2.2)) clock)
    |_=>none
   |_=>none
  | .agg l'=>match g with
   | .agg l=>match Da (KW P σ n) l l' with
    |some (C,r)=>some (C,.agg r)
    |none=>none
   |_=>none
  | .tup l'=>match g with
   | .tup l=>match Da (KW P σ n) l l' with
    |some (C,r)=>some (C,.tup r)
    |none=>none
   |_=>none
  | .clo _ l' m'=>match g with
   | .clo f l m=>match Da (KW P σ n) l l',Da (KW P σ n) m m' with
    |some (C,r),some (a,b)=>some (C++a,.clo f r b)
    |_,_=>none
   |_=>none
  |_=>bif nF 20 g then some ([],g)else none
theorem rR{st:St}:∀(n:Nat) (g t:G) (C:JQ) (a:G),KW P st.σ n g t=some (C,a)->(∀p∈C,p)->ve P st g a
 |0,_,_,_,_,h,_=>by cases h
 |n+1,g,t,C,a,h,hC=>by
  unfold KW at h;split at h
  .split at h
   .grind [jB,FC]
   .grind [KV]
   .rename_i j o m;split at h
    .rename_i ob ho;split at h
     .rename_i s hs;cases hz:Nat.beq o 0 with
      |true=>rw[hz] at h;obtain rfl:=bc hz;cases h;obtain⟨h1,h2,rfl⟩:=hC _ (List.mem_singleton.2 rfl);grind [FD,jB]
      |false=>rw[hz] at h;cases h;have h1:=hC _ (List.mem_singleton.2 rfl);grind [FD,jB]
     .cases h
    .cases h
   .cases h
  .split at h
   .grind [jB,Ah]
   .split at h
    .rename_i ob ho;split at h
     .rename_i C' r hl;cases h;obtain⟨k1,k2⟩:=io (Q:=ve P st) (λg t C a=>rR n g t C a) _ _ _ _ hl hC;grind [Mb]
     .cases h
    .cases h
   .cases h
  .split at h
   .grind [jB,J5]
   .split at h
    .rename_i t l es clock ho;cases h;exact QY ho (hC _ (by grind))
    .cases h
   .cases h
  .split at h
   .split at h
    .rename_i C' r hl;cases h;obtain⟨k1,k2⟩:=io (Q:=ve P st) (λg t C a=>rR n g t C a) _ _ _ _ hl hC;exact L9 k1 k2
    .cases h
   .cases h
  .split at h
   .split at h
    .rename_i C' r hl;cases h;obtain⟨k1,k2⟩:=io (Q:=ve P st) (λg t C a=>rR n g t C a) _ _ _ _ hl hC;exact Ma k1 k2
    .cases h
   .cases h
  .split at h
   .split at h
    .rename_i C' r b c hl hm;cases h;obtain⟨k1,k2⟩:=io (Q:=ve P st) (λg t C a=>rR n g t C a) _ _ _ _ hl λp hp=>hC p (by grind);obtain⟨k3,d⟩:=io (Q:=ve P st) (λg t C a=>rR n g t C a) _ _ _ _ hm λp hp=>hC p (by grind);grind [SX]
    .cases h
   .cases h
  grind [jB,aG]
def IJ:JQ->Prop
 |[]=>True
 |p::r=>p/\IJ r
theorem w9:∀{l:JQ},IJ l->∀p∈l,p
 |[],_,p,hp=>by cases hp
 |q::r,h,p,hp=>by
  rcases EY.1 hp with rfl|hp
  .exact h.1
  .exact w9 h.2 p hp
def TA(σ:aQ)(e:Bn)(s:Nat):G->Option (Nat×Nat×Bo×Prop)
 | .lit (.slice none 0 0)=>some (0,0,[],True)
 | .rsl i 0 n=>match ag σ i with
  |some ⟨t,l,none⟩=>bif Nat.beq t e then some (i,n,l,l.length=n*s)else none
  |_=>none
 |_=>none
def QZ(σ:aQ)(s:Nat):G->Option (Bo×Nat×Prop)
 | .sl l m=>some (l,m,l.length=m*s)
 | .rsl j o m=>match ag σ j with
  |some ob=>some ((ob.l.drop o).take (m*s),m,o+m*s<=ob.l.length)
  |none=>none
 | .lit (.slice none 0 _)=>some ([],0,True)
 |_=>none
def ME(P:Br)(σ:aQ)(t u:Bn)(gx gy:G)(L:Bo)(M:Nat):Option (Bn×Prop):=match dp P t with
 |some e=>bif Nat.beq t u then(match bw P e,jj P e,(P.info? e).map (·.bytes) with
  |some s,some zs,some b=>bif Nat.blt 0 s&&Nat.beq zs.length s&&Nat.blt 0 b then(match TA σ e s gx,QZ σ s gy with
   |some (i,n,l,a),some (news,m,c)=>some (e,a/\c/\(n+m)*b<=140737488355328/\l++news=L/\n+m=M)
   |_,_=>none)else none
  |_,_,_=>none)
  else match gy,bw P e,(P.info? e).bind (·.zero),(P.info? e).map (·.bytes) with
   | .lit (.string b),some 1,some (.int .u8 0),some 1=>bif nu P u then(match TA σ e 1 gx with
    |some (i,n,l,a)=>some (e,a/\n+b.data.toList.length<=140737488355328/\l++b.data.toList.map gY=L/\n+b.data.toList.length=M)
    |none=>none)else none
   |_,_,_,_=>none
 |none=>none
theorem MF{σ:aQ}{s:Nat}{e:Bn}{C:Prop}(h:TA σ e s g=some (i,n,l,C))(hC:C):xO σ 0 e s g=some (i,n,l):=by unfold TA at h;grind [bc,xO]
theorem Q0{σ:aQ}{s:Nat}{C:Prop}(h:QZ σ s g=some (l,m,C))(hC:C):fO σ s g=some (l,m):=by unfold QZ at h;grind [fO]
theorem CN{σ:aQ}{e:Bn}{L:Bo}{M:Nat}{C:Prop}(h:ME P σ t u gx gy L M=some (e,C))(hC:C):∃i,ZW P σ t u gx gy=some (e,i,M,L):=by
 unfold ME at h;unfold ZW;split at h
 .rename_i e' he;cases htu:Nat.beq t u with
  |true=>
   rw[htu] at h;simp only[ax] at h⊢;split at h
   .rename_i s zs b hs hz hb;cases hk:(Nat.blt 0 s&&Nat.beq zs.length s&&Nat.blt 0 b) with
    |false=>grind
    |true=>
     rw[hk] at h;simp only[ax] at h;simp only[bA] at hk;split at h
     .rename_i a n l d c m f h1 h2;cases h;obtain⟨c1,c2,c3,rfl,rfl⟩:=hC;have hb1:n+m<=(n+m)*b:=Nat.le_mul_of_pos_right _ (by simp_all);refine⟨a,?_⟩;unfold wu;simp only[he,hs,hz,hb,aL,MF h1 c1,Q0 h2 c2];rw[Bx ⟨(by simp_all),(by simp_all),aa,c3⟩]
     .cases h
   .cases h
  |false=>
   rw[htu] at h;simp only[A9] at h⊢;split at h
   .rename_i b h1 h2 h3;cases hu:nu P u with
    |false=>grind
    |true=>
     rw[hu] at h;simp only[ax] at h;split at h
     .rename_i a n l d hs;cases h;obtain⟨c1,c2,rfl,rfl⟩:=hC;refine⟨a,?_⟩;unfold Hc;simp only[he,h1,h2,h3,MF hs c1,hu,Bool.true_and,Ng c2,ax]
     .cases h
   .cases h
 .cases h
def Ac8(P:Br)(σ:aQ)(t:Bn)(x:G)(lo hi:Option G)(g:G):Prop:=match Ko lo,Ko hi with
 |some a,some b=>JD P σ t x a b=some g
 |_,_=>False
theorem Afi(ho:o.op= .slice t x lo hi none)(hd:LS o st.n)(h:Ac8 P st.σ t (aB st x) (lo.map (aB st)) (hi.map (aB st)) g):GS P o st (st.put o.dst g):=by grind [Ac8,AdM]
theorem cM(h:ge st o=some (fid,gs)):∃x xs ats fst cap,o.op= .call {callee:= .value x,args:=xs,argTypes:=ats}/\aB st x= .clo (.func fid) fst cap/\gs=fst++xs.toList.map (aB st)++cap:=by grind [ge]
theorem CP{f f':G->G->Option (JQ×G)}:∀(l t:Bo),(∀g∈l,∀t,f' g t=f g t)->Da f' l t=Da f l t
 |[],[],h=>rfl
 |g::r,t::r',h=>by unfold Da;rw[h g aC t,CP r r' λg hg=>h g (List.mem_cons_of_mem _ hg)]
 |[],_::_,h=>rfl
 |_::_,[],h=>rfl
def Oq(σ:aQ):Nat->G->Bp
 |0,_=>[]
 |n+1,g=>match g with
  | .rsl j _ _=>[j]
  | .ref i _=>i::(match ag σ i with
   |some ob=>ob.l.flatMap (Oq σ n)
   |none=>[])
  | .mref i=>[i]
  | .agg l=>l.flatMap (Oq σ n)
  | .tup l=>l.flatMap (Oq σ n)
  | .clo _ l m=>l.flatMap (Oq σ n)++m.flatMap (Oq σ n)
  |_=>[]
theorem T9{σ σ':aQ}:∀(n:Nat) (g t:G),(∀j∈Oq σ n g,ag σ' j=ag σ j)->KW P σ' n g t=KW P σ n g t
 |0,g,t,h=>rfl
 |n+1,g,t,h=>by
  unfold KW;cases t with
  |sl l' m'=>grind [Oq]
  |ptr l' m'=>
   cases g with
   |ref j o=>
    dsimp only;rw[h j (by simp[Oq])];cases ho:ag σ j with
    |none=>rfl
    |some ob=>
     dsimp only;rw[CP ob.l l' λg hg t=>T9 n g t λk hk=>h k (by simp only[Oq,ho,EY,List.mem_flatMap];exact .inr ⟨g,hg,hk⟩)]
   |_=>rfl
  |mp ks vs ns ck=>grind [Oq]
  |agg l'=>
   cases g with
   |agg l=>dsimp only;rw[CP l l' λg hg t=>T9 n g t λj hj=>h j (by simp only[Oq,List.mem_flatMap];exact⟨g,hg,hj⟩)]
   |_=>rfl
  |tup l'=>
   cases g with
   |tup l=>dsimp only;rw[CP l l' λg hg t=>T9 n g t λj hj=>h j (by simp only[Oq,List.mem_flatMap];exact⟨g,hg,hj⟩)]
   |_=>rfl
  |clo f' l' m'=>
   cases g with
   |clo f l m=>dsimp only;rw[CP l l' λg hg t=>T9 n g t λj hj=>h j (by simp only[Oq,Hp,List.mem_flatMap];exact .inl ⟨g,hg,hj⟩),CP m m' λg hg t=>T9 n g t λj hj=>h j (by simp only[Oq,Hp,List.mem_flatMap];exact .inr ⟨g,hg,hj⟩)]
   |_=>rfl
  |_=>rfl
theorem Q7{σ σ':aQ}{ts:Bo}(h:∀j∈gs.flatMap (Oq σ 20),ag σ' j=ag σ j):Da (KW P σ' 20) gs ts=Da (KW P σ 20) gs ts:=
 by grind [CP,T9]
theorem sV(h:∀x∈o.op.operands,aB st'' x=aB st x)(hc:ge st o=some (fid,gs)):ge st'' o=some (fid,gs):=by
 obtain⟨x,xs,ats,fst,cap,ho,hx,rfl⟩:=cM hc;have h1:aB st'' x=aB st x:=by grind [Op.operands,Call.operands]
 have h2:xs.toList.map (aB st'')=xs.toList.map (aB st):=by grind [List.map_congr_left,Op.operands,Call.operands]
 grind [ge]
def Uy(σ:aQ)(R:Bp):aQ:=R.map λi=>(i,ag σ i)
theorem Hs{σ:aQ}:∀i∈R,ag σ i=ag (Uy σ R) i:=λi hi=>by rw[Uy,lL,Bx hi]
theorem Afj{σ σ':aQ}(h:∀i∈R,ag σ' i=ag σ i):Uy σ' R=Uy σ R:=List.map_congr_left (by grind)
def syO(P:Br)(o:Oper)(st:St)(hs:List Hn)(k:Nat):Option (Option Prop×XF):=match Ol o hs with
 |none=>(ZX P o st k).map λx=>(none,x)
 |some h=>match h with
  | .v _ g=>some (some (EM P o st g),xv (xrd o st) g)
  | .b _ g=>match o.op with
   | .binOp op t x y _=>some (some (lD op (aB st x) (aB st y)=some g),xv [] g)
   |_=>none
  | .r _ b=>match ZX P o st k with
   |some (.lit (.bool t),[],R,none)=>some (some (t=b),xv R (.lit (.bool b)))
   |_=>none
  | .f _ g=>match ge st o with
   |some (fid,gs)=>bif aK P fid&&gs.all (nF 20)then some (some (ba P st.gl fid gs g),xv [] g)else none
   |none=>none
  | .q _ ts g=>match ge st o with
   |some (fid,gs)=>bif aK P fid&&w8 20 g then(match Da (KW P st.σ 20) gs ts with
    |some (C,gs')=>some (some (IJ C/\ba P st.gl fid gs' g),xv (gs.flatMap (Oq st.σ 20)) g)
    |none=>none)else none
   |none=>none
  | .o _ ts t m l=>match ge st o with
   |some (fid,gs)=>bif aK P fid then(match Da (KW P st.σ 20) gs ts with
    |some (C,gs')=>some (some (IJ C/\iV P st.gl fid gs' t m l/\∀g∈l,∃v,g= .lit v),.rsl st.c 0 m,[(st.c,some ⟨t,l,none⟩)],gs.flatMap (Oq st.σ 20),some (st.c+1))
    |none=>none)else none
   |none=>none
  | .z _ R g U c'=>match ge st o with
   |some (fid,gs)=>some (some (oJ P st.gl fid gs (Uy st.σ R) st.c g U c'),g,U,R,some c')
   |none=>none
  | .m _ g=>match o.op with
   | .lookup t x y ok=>some (some (KU P st.σ t ok (aB st x) (aB st y) g),xv (fR (aB st x)) g)
   | .entry x=>some (some (jr (Uy st.σ (Aa2 st.σ (aB st x))) (aB st x)=some g),xv (Aa2 st.σ (aB st x)) g)
   |_=>none
  | .c _ g=>match o.op with
   | .convert s t x=>some (some (iQ P (Uy st.σ (fR (aB st x))) s t (aB st x)=some g),xv (fR (aB st x)) g)
   | .slice t x (some lo) (some hi) (some mx)=>some (some (sJ P t (aB st x) (aB st lo) (aB st hi) (aB st mx)=some g),xv [] g)
   | .slice t x lo hi none=>some (some (Ac8 P (Uy st.σ (fR (aB st x))) t (aB st x) (lo.map (aB st)) (hi.map (aB st)) g),xv (fR (aB st x)) g)
   |_=>none
  | .k _ L M=>match o.op with
   | .makeSlice t x y=>match dp P t with
    |some e=>bif RX st k then some (some (tI P t (aB st x) (aB st y)=some (e,L,M)),xn (.rsl k 0 M) k ⟨e,L,none⟩ [])else none
    |none=>none
   |_=>none
  | .w _ L=>match o.op with
   | .store t x y=>match aB st x with
    | .ref i j=>match ag st.σ i,dH (aB st y),bw P t with
     |some ⟨d,l0,none⟩,some l,some s=>some (some (l.length=s/\j+s<=l0.length/\l0.take j++l++l0.drop (j+s)=L),xw (.lit undef) [i] (i,⟨d,L,none⟩))
     |_,_,_=>none
    |_=>none
   |_=>none
  | .a _ L M=>match o.op with
   | .call ⟨.builtin .append,⟨[x,y]⟩,⟨[t,u]⟩⟩=>bif RX st k then(match ME P st.σ t u (aB st x) (aB st y) L M with
    |some (e,C)=>match aB st x with
     | .rsl j 0 _=>some (some C,.rsl k 0 M,[(k,some ⟨e,L,none⟩),(j,none)],k::j::fR (aB st y),none)
     | .lit (.slice none 0 0)=>some (some C,xn (.rsl k 0 M) k ⟨e,L,none⟩ (fR (aB st y)))
     |_=>none
    |none=>none)else none
   |_=>none
  | .i _ j ob n=>match o.op with
   | .call ⟨.builtin .append,⟨[x,y]⟩,⟨[t,u]⟩⟩=>bif Nat.beq t u then some (some (RT P (Uy st.σ (fR (aB st x)++fR (aB st y))) t (aB st x) (aB st y)=some (j,ob,n)),xw (.rsr j n) (fR (aB st x)++fR (aB st y)) (j,ob))else none
   |_=>none
  | .e _ g i ob=>match o.op with
   | .mapUpdate t x y z=>some (some (dZ P (Uy st.σ (fR (aB st x))) t (aB st x) (aB st y) (aB st z)=some (i,ob)),xw (.lit undef) (fR (aB st x)) (i,ob))
   | .mapEntry t x y=>some (some (ov P (Uy st.σ (fR (aB st x))) t (aB st x) (aB st y)=some (i,ob,g)),xw g (fR (aB st x)) (i,ob))
   | .entryStore _ x y z=>some (some (jX (Uy st.σ (fR (aB st x))) (aB st x) (aB st y) (aB st z)=some (i,ob)),xw (.lit undef) (fR (aB st x)) (i,ob))
   | .call ⟨.builtin .delete,⟨[x,y]⟩,⟨[t,_]⟩⟩=>some (some (FN P (Uy st.σ (fR (aB st x))) t (aB st x) (aB st y)=some (i,ob)),xw (.tup []) (fR (aB st x)) (i,ob))
   | .call ⟨.builtin .clear,⟨[x]⟩,⟨[t]⟩⟩=>some (some (rF P (Uy st.σ (fR (aB st x))) t (aB st x)=some (i,ob)),xw (.tup []) (fR (aB st x)) (i,ob))
   |_=>none
  | .n _ _ _=>none
section
variable {σ σ':aQ} {g:G}
theorem aah{k:G}(h:∀i∈fR g,ag σ' i=ag σ i):dZ P σ' t g k v=dZ P σ t g k v:=by grind [dZ,Lw]
theorem Afk{k:G}(h:∀i∈fR g,ag σ' i=ag σ i):ov P σ' t g k=ov P σ t g k:=by grind [ov,Lw]
theorem AiY{k:G}(h:∀i∈fR g,ag σ' i=ag σ i):jX σ' g k v=jX σ g k v:=by unfold jX;rw[Lw h]
theorem Afl{k:G}(h:∀i∈fR g,ag σ' i=ag σ i):FN P σ' t g k=FN P σ t g k:=by grind [FN,Lw]
theorem Afm(h:∀i∈fR g,ag σ' i=ag σ i):rF P σ' t g=rF P σ t g:=by unfold rF;split<;>simp_all [fR]
theorem AjP{lo hi:JP}(h:∀i∈fR g,ag σ' i=ag σ i):JD P σ' t g lo hi=JD P σ t g lo hi:=by unfold JD;split;all_goals grind [fR]
end
theorem Ac9{σ σ':aQ}(h:∀i∈fR gx++fR gy,ag σ' i=ag σ i):RT P σ' t gx gy=RT P σ t gx gy:=by have:=λs=>UM (σ:=σ) (σ':=σ') (g:=gy) (λi hi=>h i (List.mem_append_right _ hi)) s;unfold RT;split<;>simp_all [fR]
theorem Ach{hs:List Hn}{x:XF}(hd:LS o st.n)(h:syO P o st hs k=some (C,x)){X:Prop}(hC:II C X):X6 P o st x/\X:=by
 have bg:ZX P o st k=some x->X6 P o st x:=Ajx hd;have hn:∀{a},Lk o st a x->∀d,o.dst=some d->d<a.n:=by grind [Lk.n]
 unfold syO at h;split at h
 .obtain⟨y,hy,e⟩:=DG.1 h;cases e;exact⟨bg hy,hC⟩
 split at h
 .cases h;exact⟨λa L=>Afg (hn L) (Afh hC.1 L.σ L.x),hC.2⟩
 .split at h
  .rename_i ho;cases h;exact⟨bg (by unfold ZX;rw[ho];simp only[hC.1,Option.map_some]),hC.2⟩
  .cases h
 .split at h
  .rename_i hv;cases h;obtain⟨rfl,b⟩:=hC;exact⟨bg hv,b⟩
  .cases h
 .split at h
  .rename_i fid gs hc;cases hb:(aK P fid&&gs.all (nF 20)) with
   |false=>grind
   |true=>rw[hb] at h;simp only[bA] at hb;cases h;refine⟨λa L=>?_,hC.2⟩;obtain⟨x,xs,ats,fst,cap,ho,hx,hgs⟩:=cM (sV L.x hc);exact wt ho (hn L) hx hb.1 (by grind [aG]) (by rw[<-hgs,L.gl];exact hC.1)
  .cases h
 .split at h
  .rename_i fid gs hc;cases hb:(aK P fid&&w8 20 _) with
   |false=>rw[hb] at h;cases h
   |true=>
    rw[hb] at h;simp only[bA] at hb;simp only[ax] at h;split at h
    .rename_i j f hz;cases h;refine⟨λa L=>?_,hC.2⟩;obtain⟨x,xs,ats,fst,cap,ho,hx,hgs⟩:=cM (sV L.x hc);have hz':=(Q7 (P:=P) L.σ).trans hz;rw[hgs] at hz';obtain⟨f1,f2⟩:=io (Q:=ve P a) (by grind [rR]) _ _ _ _ hz' (w9 hC.1.1);exact Ai ho (hn L) hx hb.1 f1 f2 (by rw[L.gl];exact hC.1.2) (rQ 20 _ hb.2)
    .cases h
  .cases h
 .split at h
  .rename_i fid gs hc;cases hb:aK P fid with
   |false=>grind
   |true=>
    rw[hb] at h;simp only[ax] at h;split at h
    .rename_i j f hz;cases h;obtain⟨⟨k1,k2,k3⟩,b⟩:=hC;refine⟨λa L=>?_,b⟩;obtain⟨x,xs,ats,fst,cap,ho,hx,hgs⟩:=cM (sV L.x hc);have hz':=(Q7 (P:=P) L.σ).trans hz;rw[hgs] at hz';obtain⟨f1,f2⟩:=io (Q:=ve P a) (by grind [rR]) _ _ _ _ hz' (w9 k1);have:=H4 ho (hn L) hx hb f1 f2 (by rw[L.gl];exact k2) k3;rw[L.c rfl] at this;exact this
    .cases h
  .cases h
 .split at h
  .rename_i fid gs hc;cases h;obtain⟨hS,b⟩:=hC;refine⟨λa L=>?_,b⟩;obtain⟨x,xs,ats,fst,cap,ho,hx,hgs⟩:=cM (sV L.x hc);exact hS o a x xs ats fst cap ho (hn L) hx hgs.symm L.gl (λq hq=>by obtain⟨i,hi,rfl⟩:=E7.1 hq;exact L.σ i hi) (L.c rfl)
  .cases h
 .split at h
  .rename_i ho;cases h;exact⟨bg (by unfold ZX;rw[ho];simp only[EN hC.1 (λ_ _=>rfl),Option.map_some]),hC.2⟩
  .rename_i ho;cases h;have hc:=hC.1;rw[(Vp λi hi=>(Hs i hi).symm).1] at hc;exact⟨(by grind [ZX]),hC.2⟩
  .cases h
 .split at h
  .rename_i ho;cases h;have hc:=hC.1;rw[<-AcX Hs] at hc;exact⟨(by grind [ZX]),hC.2⟩
  .rename_i ho;cases h;exact⟨bg (by unfold ZX;rw[ho];simp only[hC.1,Option.map_some]),hC.2⟩
  .rename_i t x lo hi ho;cases h;refine⟨λa L=>Afi ho (hn L) ?_,hC.2⟩;have hc:=hC.1;have om:∀lo:Option Dl,(∀y,lo=some y->y∈o.op.operands)->lo.map (aB a)=lo.map (aB st):=λlo hl=>by cases lo<;>grind [Lk.x]
   rw[L.x x (by grind [Op.operands]),om lo (by grind [Op.operands]),om hi (by grind [Op.operands])];have e:Uy a.σ (fR (aB st x))=_:=Afj L.σ;rw[<-e] at hc;unfold Ac8 at hc⊢;split at hc
   .rw[AjP Hs];exact hc
   .exact hc.elim
  .cases h
 .split at h
  .rename_i ho;split at h
   .cases hb:RX st k with
    |false=>grind
    |true=>rw[hb] at h;cases h;exact⟨bg (by unfold ZX;rw[ho];simp only[hb,ax,hC.1,Option.map_some]),hC.2⟩
   .cases h
  .cases h
 .split at h
  .rename_i ho;split at h
   .rename_i hx;split at h
    .rename_i h1 h2 h3;cases h;obtain⟨⟨k1,k2,rfl⟩,b⟩:=hC;grind [ZX,FK,fR]
    .cases h
   .cases h
  .cases h
 .split at h
  .rename_i ho;cases hb:RX st k with
   |false=>grind
   |true=>
    rw[hb] at h;simp only[ax] at h;split at h
    .rename_i hcd;split at h
     .rename_i hx;cases h;rw[hx] at hcd;obtain⟨i,hi⟩:=CN hcd hC.1;exact⟨(by grind [ZX]),hC.2⟩
     .rename_i hx;cases h;rw[hx] at hcd;obtain⟨i,hi⟩:=CN hcd hC.1;exact⟨(by grind [ZX]),hC.2⟩
     .cases h
    .cases h
  .cases h
 .split at h
  .rename_i x y t u ho;cases hb:Nat.beq t u with
   |false=>grind
   |true=>rw[hb] at h;obtain rfl:=bc hb;cases h;refine⟨λa L=>?_,hC.2⟩;have e:Uy a.σ (fR (aB st x)++fR (aB st y))=_:=Afj L.σ;exact Ag0 (st:=a) ho (hn L) (by rw[L.x x (by grind [Op.operands,Call.operands]),L.x y (by rw[ho];simp[Op.operands,Call.operands]),<-hC.1,<-e];exact Ac9 Hs)
  .cases h
 .split at h;all_goals first
   |(cases h;done)
   |(
     rename_i ho
     cases h
     refine⟨bg ?_,hC.2⟩
     have hc:=hC.1
     grind [aah,Hs,ZX,Afk,AiY,Afl,Afm])
 .cases h
def TI(_:aQ):Bool:=false
def lkN(P:Br)(o:Oper)(hs:List Hn)(s:St):Option (Prop×G×Bp×(aQ->Bool)):=match Ol o hs with
 |some (.n _ g ck)=>match o.op with
  | .lookup t x y ok=>some ((KU P s.σ t ok (aB s x) (aB s y) g/\∀W,ck W=true->KU P (W++s.σ) t ok (aB s x) (aB s y) g),g,fR (aB s x),ck)
  |_=>none
 |_=>none
def oPs(C:Option Prop)(ps:JQ):JQ:=match C with
 |some p=>p::ps
 |none=>ps
def oKs(o:Oper)(C:Option Prop)(u:Bp):Bp:=match C with
 |some _=>CL o::u
 |none=>u
def AdY(x:XF)(ck:aQ->Bool):DI:=⟨x.2.2.1,x.2.1,x.2.2.2.isSome,ck⟩
def yp(P:Br)(ops:Array Oper)(hs:List Hn):It->St->Nat->Option (JQ×Bp×St×List DI)
 |[],s,_=>some ([],[],s,[])
 |o::r,s,k=>bif pj s.n o.dst then(match ce s ops o with
  |some true=>match lkN P o hs s with
   |some (C,g,R,ck)=>(match yp P ops hs r (s.put o.dst g) (Nm o k) with
    |some (ps,u,s',inf)=>some (C::ps,CL o::u,s',AdY (xv R g) ck::inf)
    |none=>none)
   |none=>match syO P o s hs k with
    |some (C,x)=>(match yp P ops hs r (lay s o x) (Nm o k) with
     |some (ps,u,s',inf)=>some (oPs C ps,oKs o C u,s',AdY x TI::inf)
     |none=>none)
    |none=>none
  |some false=>(match yp P ops hs r (s.put o.dst (.lit undef)) (Nm o k) with
   |some (ps,u,s',inf)=>some (ps,u,s',AdY (xv [] (.lit undef)) TI::inf)
   |none=>none)
  |none=>none)else none
def AjQ(s:St)(o:Oper)(x:XF):St:={s with σ:=bif x.2.2.2.isSome then x.2.1++s.σ else upd x.2.1 s.σ,c:=bif aai o then s.c+1 else x.2.2.2.getD s.c}.put o.dst x.1
def Ua(P:Br)(ops:Array Oper)(hs:List Hn):It->St->Option (JQ×Bp×St)
 |[],s=>some ([],[],s)
 |o::r,s=>bif pj s.n o.dst then(match ce s ops o with
  |some true=>(λs1=>match syO P o s1 hs s.c with
   |some (C,x)=>bif aai o&& !(x.2.2.2.isNone&&x.2.1.any λq=>Nat.beq q.1 s.c)then none else(match Ua P ops hs r (AjQ s o x) with
    |some (ps,u,s')=>some (oPs C ps,oKs o C u,s')
    |none=>none)
   |none=>none) (bif aai o then ff 1 s else s)
  |some false=>Ua P ops hs r (s.put o.dst (.lit undef))
  |none=>none)else none
theorem Afn(h:∀p∈oPs C ps,p):II C True/\∀p∈ps,p:=by
 cases C with
 |none=>exact⟨trivial,h⟩
 |some q=>exact⟨⟨h q (by simp[oPs]),trivial⟩,(by grind [oPs])⟩
theorem Ahv(o:Oper)(st:St)(x:XF):Lk o st st x:=by constructor<;>grind
theorem QK{ops:Array Oper}{hs:List Hn}{K:St->Prop}:∀(l:It) (s:St) (ps:JQ) (u:Bp) (s':St),Ua P ops hs l s=some (ps,u,s')->(∀p∈ps,p)->K s'->D8 P ops K l s
 |[],s,ps,u,s',h,hp,b=>by cases h;exact b
 |o::r,s,ps,u,s',h,hp,b=>by
  unfold Ua at h;cases hd:pj s.n o.dst<;>rw[hd] at h
  .cases h
  have hd:=eN hd;simp only[ax] at h;split at h
  .rename_i hw;split at h
   .rename_i C x hx;cases hm:(aai o&& !(x.2.2.2.isNone&&x.2.1.any λq=>Nat.beq q.1 s.c))<;>rw[hm] at h;rotate_left
    .cases h
    simp only[A9] at h;split at h
    .rename_i d u1 s1 hr;cases h;obtain⟨h1,h2⟩:=Afn hp;have bg:∀s1:St,s1.n=s.n->Le P s s1->syO P o s1 hs s.c=some (C,x)->GS P o s (lay s1 o x):=λs1 e le hx=>λcx a w K R r=>(Ach (by grind) hx h1).1 s1 (Ahv o s1 x) cx a w K R (le cx a w r);refine .inl ⟨hw,AjQ s o x,?_,QK r _ _ _ _ hr h2 b⟩;unfold AjQ;cases hk:aai o with
     |false=>rw[hk] at hx;refine(bg s rfl (Le.refl s) hx).eqv (Ae (Af (λi=>?_) rfl) _ _);grind [Vo]
     |true=>rw[hk] at hx hm;simp only[Bool.true_and,Bool.not_eq_false',bA,Option.isNone_iff_eq_none] at hm;refine(bg (ff 1 s) rfl (uB 1 s) hx).eqv (Ae (Af (λi=>?_) (by rw[hm.1];rfl)) _ _);rw[hm.1];refine(Vo ..).trans ?_;obtain⟨q,hq,hb⟩:=List.any_eq_true.1 hm.2;show _=ag (x.2.1++((s.c,some BC)::s.σ)) i;grind [fY,fE,bc]
    .cases h
   .cases h
  .rename_i hw;exact .inr ⟨hw,hd,QK r _ _ _ _ h hp b⟩
  .cases h
theorem sX{ops:Array Oper}{hs:List Hn}{K:St->Prop}:∀(l:It) (s:St) (k:Nat) (ps:JQ) (u:Bp) (s':St) (inf:List DI),yp P ops hs l s k=some (ps,u,s',inf)->(∀p∈ps,p)->K s'->PQ P ops K l inf s
 |[],s,k,ps,u,s',inf,h,hp,d=>by cases h;exact d
 |o::r,s,k,ps,u,s',inf,h,hp,d=>by
  unfold yp at h;cases hd:pj s.n o.dst<;>rw[hd] at h
  .cases h
  have hd:=eN hd;simp only[ax] at h;split at h
  .rename_i hw;split at h
   .rename_i C g R ck hx;split at h
    .rename_i f u1 s1 b hr;cases h;refine⟨g,s.put o.dst g,.inl ⟨hw,s.c,rfl,λ_=>rfl,?_⟩,sX r _ _ _ _ _ _ hr (by simp_all) d⟩;have hC:=hp C aC;unfold lkN at hx;split at hx
     .split at hx
      .rename_i t x y ok ho;cases hx;intro V hV a h1 h2 h3 h4 h5 h6;refine xS ho (by grind) ?_;rw[h6 x (by grind [Op.operands]),h6 y (by grind [Op.operands])];rcases hV with rfl|hV
       .exact EN hC.1 h5
       .exact EN (hC.2 V hV) h5
      .cases hx
     .cases hx
    .cases h
   .split at h
    .rename_i C x hx;split at h
     .rename_i f u1 s1 b hr;cases h;obtain⟨h1,h2⟩:=Afn hp;refine⟨x.1,_,.inl ⟨hw,x.2.2.2.getD s.c,rfl,λhc=>?_,λV hV a e1 e2 e3 e4 e5 e6=>?_⟩,sX r _ _ _ _ _ _ hr h2 d⟩
      .cases hx2:x.2.2.2<;>grind [AdY]
      .rcases hV with rfl|hV
       .have:=(Ach hd hx h1).1 a ⟨e1,e2,e3,e4,e5,e6⟩;unfold lay at this;have e:(if(AdY x TI).cu=true then x.2.2.2.getD s.c else a.c)=x.2.2.2.getD a.c:=by cases hx2:x.2.2.2<;>simp[AdY,hx2]
        rw[e];exact this
       .cases hV
     .cases h
    .cases h
  .rename_i hw;split at h
   .rename_i f u1 s1 b hr;cases h;exact⟨_,_,.inr ⟨hw,rfl,rfl,rfl,rfl⟩,sX r _ _ _ _ _ _ hr hp d⟩
   .cases h
  .cases h
def AjR(l:It)(inf:List DI)(n:Nat):Option Prop:=(λR=>bif wv l R n then(match Nu inf R l.length with
 |[q]=>bif(bP inf q.1).U.isEmpty&& !(bP inf q.1).cu then some ((bP inf q.1).ck (bP inf q.2).U=true)else none
 |_=>none)else none) (rgo l [])
theorem Ahw{l:It}{inf:List DI}{C:Prop}(h:AjR l inf n=some C)(hC:C):kL l inf n=true:=by grind [AjR,kL]
inductive Kf where
 |thn (c:Code)
 |blk (id:Nat)
 |lp (B:St->Prop)
inductive Afo where
 |lp (c:Code) (K:List Kf) (st:St)
 |fin (e:Exit) (st:St)
 |bk (B:St->Prop) (st:St)
 |ct (c:Code) (K:List Kf) (st:St)
abbrev Q3:=Option (Prop×Bp×Afo)
def TE:JQ->Prop->Prop
 |[],q=>q
 |p::r,q=>p/\TE r q
theorem Gr:∀{l:JQ} {q:Prop},TE l q->(∀p∈l,p)/\q
 |[],q,h=>⟨(by simp_all),h⟩
 |p::r,q,h=>by
  obtain⟨h1,h2⟩:=Gr h.2;exact⟨λx hx=>by
   rcases EY.1 hx with rfl|hx
   .exact h.1
   grind,h2⟩
def AlT(hs:List Hn)(l:It):Bool:=l.any λo=>match Ol o hs with
 |some (.n ..)=>true
 |_=>false
def MK(P:Br)(ops:Array Oper)(hs:List Hn)(st:St):Option (JQ×Bp×St):=match yp P ops hs ops.toList (ff (UN ops.toList) st) st.c with
 |some (ps,u,s,inf)=>bif AlT hs ops.toList then(match AjR ops.toList inf st.n with
  |some C=>some (C::ps,999999996::u,s)
  |none=>none)else bif kL ops.toList inf st.n then some (ps,u,s)else none
 |none=>none
theorem Q8(hm:P.follows .mixedOrders=true){ops:Array Oper}{hs:List Hn}{u:Bp}{Q:Exit->St->Prop}(h:MK P ops hs st=some (ps,u,s))(hp:∀p∈ps,p)(hQ:Q .normal s):Tr P (.region id ops true) st Q:=by
 unfold MK at h;split at h
 .rename_i a b s' inf h1;have go:kL ops.toList inf st.n=true->(∀p∈a,p)->s'=s->Tr P (.region id ops true) st Q:=λhk hp e=>by subst e;refine Tr.le ?_ (uB (UN ops.toList) st);have:=sX (K:=Q .normal) ops.toList _ _ _ _ _ _ h1 hp hQ;have hx:=pX (id:=id) (l:=ops.toList) (st:=ff (UN ops.toList) st) (Q:=Q) hm (by rw[(sv (UN ops.toList) st).1];exact hk) (by rwa [Array.toArray_toList]);simp_all
  cases hN:AlT hs ops.toList with
  |false=>grind
  |true=>
   rw[hN] at h;simp only[ax] at h;split at h
   .rename_i C hC;cases h;exact go (Ahw hC (by simp_all)) (by simp_all) rfl
   .cases h
 .cases h
def rgK(k:St->Q3):Option (JQ×Bp×St)->Q3
 |some (ps,u,s)=>match k s with
  |some (C,u',out)=>some (TE ps C,u++u',out)
  |none=>none
 |none=>none
def U9(cut:Nat):Dl->Bool
 | .tmp d=>Nat.beq d cut
 |_=>false
def sy(P:Br)(hs:List Hn)(cut:Nat):Nat->Code⊕Exit->List Kf->St->Q3
 |0,_,_,_=>none
 |n+1,.inl c,K,st=>match c with
  | .skip=>sy P hs cut n (.inr .normal) K st
  | .label _=>sy P hs cut n (.inr .normal) K st
  | .seq a b=>sy P hs cut n (.inl a) (.thn b::K) st
  | .block id c=>sy P hs cut n (.inl c) (.blk id::K) st
  | .region id ops draw=>bif Nat.beq cut (2000000+id)then some (True,[],.ct (.region id ops draw) K st)else rgK (λs=>sy P hs cut n (.inr .normal) K s) (bif draw then MK P ops hs st else Ua P ops hs ops.toList st)
  | .cond x a b=>bif U9 cut x then some (True,[],.ct (.cond x a b) K st)else match aB st x with
   | .lit (.bool t)=>bif t then sy P hs cut n (.inl a) K st else sy P hs cut n (.inl b) K st
   |_=>none
  | .loop c=>some (True,[],.lp c K st)
  | .rangeFunc g ps a b=>some (True,[],.ct (.rangeFunc g ps a b) K st)
  | .scope c=>some (True,[],.ct (.scope c) K st)
  | .exit id=>sy P hs cut n (.inr (.exit id)) K st
  | .ret=>sy P hs cut n (.inr .ret) K st
  |_=>none
 |n+1,.inr e,K,st=>match K with
  |[]=>some (True,[],.fin e st)
  | .thn b::K=>match e with
   | .normal=>sy P hs cut n (.inl b) K st
   |_=>sy P hs cut n (.inr e) K st
  | .blk id::K=>match e with
   | .exit i=>bif Nat.beq i id then sy P hs cut n (.inr .normal) K st else sy P hs cut n (.inr (.exit i)) K st
   |_=>sy P hs cut n (.inr e) K st
  | .lp B::K=>match e with
   | .normal=>some (True,[],.bk B st)
   |_=>sy P hs cut n (.inr e) K st
def Z1(P:Br)(Q:Exit->St->Prop):Exit->St->Prop:=λe s=>∃s',Le P s s'/\Q e s'
def LeB(P:Br)(B:St->Prop):St->Prop:=λs=>∃s',Le P s s'/\B s'
def dz(P:Br):List Kf->(Exit->St->Prop)->Exit->St->Prop
 |[],Q=>Z1 P Q
 | .thn b::K,Q=>uE (λs=>Tr P b s (dz P K Q)) (dz P K Q)
 | .blk id::K,Q=>pu id (dz P K Q)
 | .lp B::K,Q=>uE (LeB P B) (dz P K Q)
def Res(P:Br)(Q:Exit->St->Prop):Afo->Prop
 | .lp c K st=>Tr P (.loop c) st (dz P K Q)
 | .fin e st=>Z1 P Q e st
 | .bk B st=>LeB P B st
 | .ct c K st=>Tr P c st (dz P K Q)
theorem Tr.leQ{c:Code}{st:St}{Q:Exit->St->Prop}(h:Tr P c st (Z1 P Q)):Tr P c st Q:=λcx a w R r k=>h cx a w R r λe s a' w' ⟨s',h1,h2⟩ r'=>k e s' a' w' h2 (h1 cx a' w' r')
theorem pQ{Q:Exit->St->Prop}{s s':St}(l:Le P s s'):∀(K:List Kf) (e:Exit),dz P K Q e s'->dz P K Q e s
 |[],e,h=>by obtain⟨t,h1,h2⟩:=h;exact⟨t,l.trans h1,h2⟩
 | .thn b::K,e,h=>by
  unfold dz at h⊢;cases e with
  |normal=>grind [uE,Tr.le]
  |_=>unfold uE at h⊢;exact pQ l K _ h
 | .blk id::K,e,h=>by
  unfold dz at h⊢;cases e with
  |exit i=>
   by_cases hi:i=id
   .subst hi;refine PX (pQ l K _ ?_);grind [pu]
   .refine PY hi (pQ l K _ ?_);grind [pu]
  |_=>unfold pu at h⊢;exact pQ l K _ h
 | .lp B::K,e,h=>by
  unfold dz at h⊢;cases e with
  |normal=>unfold uE at h⊢;obtain⟨t,h1,h2⟩:=h;exact⟨t,l.trans h1,h2⟩
  |_=>unfold uE at h⊢;exact pQ l K _ h
def CQ(P:Br)(Q:Exit->St->Prop)(K:List Kf)(st:St):Code⊕Exit->Prop
 | .inl c=>Tr P c st (dz P K Q)
 | .inr e=>dz P K Q e st
theorem oK(hm:P.follows .mixedOrders=true){Q:Exit->St->Prop}{hs:List Hn}{cut:Nat}{out:Afo}(hR:Res P Q out):∀(n:Nat) (m:Code⊕Exit) (K:List Kf) (st:St) (C:Prop) (u:Bp),sy P hs cut n m K st=some (C,u,out)->C->CQ P Q K st m
 |0,m,K,st,C,u,h,hC=>by cases h
 |n+1,.inl c,K,st,C,u,h,hC=>by
  have ih:=oK hm (hs:=hs) (cut:=cut) hR n;unfold sy at h;show Tr P c st (dz P K Q);split at h
  .exact Fy (ih _ _ _ _ _ h hC)
  .exact HJ (ih _ _ _ _ _ h hC)
  .exact BH (ih _ _ _ _ _ h hC)
  .exact BI (ih _ _ _ _ _ h hC)
  .rename_i id ops d;cases hcut:Nat.beq cut (2000000+id) with
   |true=>rw[hcut] at h;simp only[ax,Ft,Gb] at h;obtain⟨rfl,rfl,rfl⟩:=h;exact hR
   |false=>
   rw[hcut] at h;simp only[A9] at h;simp only[rgK] at h;split at h
   .rename_i ps u1 s1 hr;split at h
    .rename_i k l j h1;cases h;obtain⟨hp,f⟩:=Gr hC;have hQ:=ih (.inr .normal) K _ _ _ h1 f;cases d with
     |true=>exact Q8 hm hr hp hQ
     |false=>have:=D9 (id:=id) (QK (K:=dz P K Q .normal) _ _ _ _ _ hr hp hQ);simp_all
    .cases h
   .cases h
  .rename_i x a b;cases hcut:U9 cut x with
   |true=>rw[hcut] at h;simp only[ax,Ft,Gb] at h;obtain⟨rfl,rfl,rfl⟩:=h;exact hR
   |false=>
    rw[hcut] at h;simp only[A9] at h;split at h
    .rename_i t ht;refine wk ht ?_;cases t with
     |true=>exact ih _ _ _ _ _ h hC
     |false=>exact ih _ _ _ _ _ h hC
    .cases h
  .simp only[Ft,Gb] at h;obtain⟨rfl,rfl,rfl⟩:=h;exact hR
  .simp only[Ft,Gb] at h;obtain⟨rfl,rfl,rfl⟩:=h;exact hR
  .simp only[Ft,Gb] at h;obtain⟨rfl,rfl,rfl⟩:=h;exact hR
  .exact Fz (ih _ _ _ _ _ h hC)
  .exact PW (ih _ _ _ _ _ h hC)
  .cases h
 |n+1,.inr e,K,st,C,u,h,hC=>by
  have ih:=oK hm (hs:=hs) (cut:=cut) hR n;unfold sy at h;show dz P K Q e st;split at h
  .simp only[Ft,Gb] at h;obtain⟨rfl,rfl,rfl⟩:=h;exact hR
  .rename_i b K;unfold dz;split at h
   .exact wm (ih _ _ _ _ _ h hC)
   .rename_i hne;exact DU hne (ih _ _ _ _ _ h hC)
  .rename_i id K;unfold dz;split at h
   .rename_i i;cases hb:Nat.beq i id with
    |true=>rw[hb] at h;obtain rfl:=bc hb;exact PX (ih _ _ _ _ _ h hC)
    |false=>rw[hb] at h;exact PY (by grind [Nat.beq_refl]) (ih _ _ _ _ _ h hC)
   .rename_i hne;exact UP (by grind) (ih _ _ _ _ _ h hC)
  .rename_i B K;unfold dz;split at h
   .simp only[Ft,Gb] at h;obtain⟨rfl,rfl,rfl⟩:=h;exact wm hR
   .rename_i hne;exact DU hne (ih _ _ _ _ _ h hC)
section
variable {P:Br}
def I3(ρ:Dx)(j:Nat):FF:=match ρ.find? (λq=>Nat.beq q.2 j) with
 |some q=>match dq ρ q.1 with
  |some k=>bif Nat.beq k j then some q.1 else none
  |none=>none
 |none=>none
theorem Aci(h:I3 ρ j=some i):dq ρ i=some j:=by grind [I3,bc]
def cR(ρ:Dx):Nat:=ρ.foldr (λq m=>A8 (q.1+1) m) 0
theorem Va:∀{ρ:Dx} {q:Nat×Nat},q∈ρ->q.1<cR ρ
 |x::r,q,h=>by
  show q.1<A8 (x.1+1) (cR r);rcases EY.1 h with rfl|h
  .exact xz _ _
  .exact Nat.lt_of_lt_of_le (Va h) (xA _ _)
def ER(ρ:Dx)(p:Nat):Bool:=(ρ.all λq=>match dq ρ q.1 with|some k=>Nat.beq k q.2|none=>false)&&(ρ.all λq=>ρ.all λa=> !(Nat.beq q.2 a.2)||Nat.beq q.1 a.1)&&(List.range p).all λi=>match dq ρ i with|some k=>Nat.beq k i|none=>false
theorem Gt(h:dq ρ i=some j):(i,j)∈ρ:=by grind [dq,List.lookup_eq_some_iff]
variable {c:Code} {K:List Kf} {st:St} {Q:Exit->St->Prop}
structure Lp (ι:Type) where
 S:ι->St
 μ:ι->Nat
def Lp.B{ι:Type}(L:Lp ι)(i:ι):St->Prop:=λs=>∃j,s=L.S j/\L.μ j<L.μ i
theorem TJ{ι:Type}(L:Lp ι)(a:ι)(h:∀i,Tr P c (L.S i) (dz P (.lp (L.B i)::K) Q)):Tr P (.loop c) (L.S a) (dz P K Q):=
 L4 L.S L.μ a (Le.refl _) λi=>(h i).mono λe s hq=>by unfold dz at hq;cases e<;>grind [LeB,Lp.B,uE]
def ai(fn:Func):Code:=fn.body.getD .skip
theorem Y7{gl:CC}{f:FuncId}{r:G}(fn:Func)(hf:P.funcs[f]?=some fn)(hb:fn.body.isSome=true)(hn:Nat.ble gs.length fn.ntmps=true)(h:Tr P (ai fn) ⟨fn.ntmps,gl,bQ 0 gs,[],0,0,false⟩ (dz P [] (tH P fn r))):ba P gl f gs r:=
 HL hf (c:=ai fn) (by unfold ai;cases hx:fn.body<;>grind) (EG hn) h.leQ
end
section
variable {P:Br}
variable {c:Code} {K:List Kf} {st:St}
end
class Mix (P:Br):Prop where
 mx:P.follows .mixedOrders=true
structure HP where
 h:Option Hn
 p:Prop
 t:p
def AA(d:Nat){X:Option G}{g:G}(t:X=some g):HP:=⟨some (.v d g),X=some g,t⟩
def hV(d:Nat){X:Dl->Dl->Option G}{g:G}(t:∀p q,X p q=some g):HP:=⟨some (.v d g),∀p q,X p q=some g,t⟩
def hbb(d:Nat){X:Option G}{g:G}(t:X=some g):HP:=⟨some (.b d g),X=some g,t⟩
def hf(d:Nat){P:Br}{gl:CC}{f:FuncId}{gs:Bo}{g:G}(t:ba P gl f gs g):HP:=⟨some (.f d g),ba P gl f gs g,t⟩
def ha(d:Nat)(L:Bo)(M:Nat){p:Prop}(t:p):HP:=⟨some (.a d L M),p,t⟩
def hc{p:Prop}(t:p):HP:=⟨none,p,t⟩
def bK(l:List HP):List Hn:=l.filterMap (·.h)
def psU(A:List HP):Bp->Prop
 |[]=>True
 |d::r=>match A.find? (λx=>match x.h with|some h=>Nat.beq h.key d|none=>false) with
  |some x=>x.p/\psU A r
  |none=>False
theorem Ra(A:List HP):∀u:Bp,(∀d∈u,(A.find? (λx=>match x.h with|some h=>Nat.beq h.key d|none=>false)).isSome=true)->psU A u
 |[],_=>trivial
 |d::r,h=>by
  have h1:=h d aC;unfold psU;split
  .rename_i x hx;exact⟨x.t,Ra A r (by grind)⟩
  grind
def qe(A:List HP)(u:Bp):Bool:=u.all λd=>(A.find? (λx=>match x.h with|some h=>Nat.beq h.key d|none=>false)).isSome
theorem kA{A:List HP}{u:Bp}(h:qe A u=true):psU A u:=Ra A u λd hd=>GE.1 h d hd
def xb(s:St):Bp:=s.fr.map (·.1)
section
variable {P:Br} [M:Mix P] {c:Code} {K:List Kf} {st:St} {Q:Exit->St->Prop} {ι:Type}
end
theorem fP{β:Type}{s:Sem α}{f:α->Sem β}{a:α}(h:bt P s=some a):bt P (s>>=f)=bt P (f a):=by rw[dd,h];rfl
theorem Qr{c:Prop}[Decidable c]{a b:Sem α}:bt P (if c then a else b)=if c then bt P a else bt P b:=by split<;>rfl
theorem xV{fs:Array Field}(ht:bt P (underlying t)=some (.struct fs))(hp:P.stoodInHeld t=false):bt P (Op.equalIn (d+1) t (.agg xs) (.agg ys))=bt P (Op.eqFields d xs ys fs.toList):=by
 unfold Op.equalIn;rw[fP ht];simp only[];rw[fP (show bt P Go.program=some P from rfl)];rw[hp];simp only[Bool.false_eq_true,if_false];rw[<-Array.forIn_toList];generalize fs.toList=l;clear ht;induction l with
 |nil=>rfl
 |cons f fs ih=>
  rw[dd] at ih;rw[dd,List.forIn_cons,dd];unfold Op.eqFields;by_cases hn:f.name≠ "_"
  .rw[Bx hn,Bx hn];simp only[dd];cases bt P (part f.type xs f.offset) with
   |none=>rfl
   |some a=>
   cases bt P (part f.type ys f.offset) with
   |none=>rfl
   |some b=>
   simp only[aL];cases bt P (Op.equalIn d f.type a b) with
   |none=>rfl
   |some r=>
   cases r with
   |false=>rfl
   |true=>exact ih
  .rw[BB hn,BB hn];exact ih
theorem uJ{f:Field}{fs:List Field}{k k':IntKind}{a b:Int}(hn:f.name≠ "_")(hx:bt P (part f.type xs f.offset)=some (.int k a))(hy:bt P (part f.type ys f.offset)=some (.int k b))(ht:bt P (underlying f.type)=some (.int k')):bt P (Op.eqFields (d+1) xs ys (f::fs))=if a=b then bt P (Op.eqFields (d+1) xs ys fs)else some false:=by
 rw[Op.eqFields,Bx hn,fP hx,fP hy];have e:bt P (Op.equalIn (d+1) f.type (.int k a) (.int k b))=some (a==b):=by unfold Op.equalIn;rw[fP ht];simp only[if_true];rfl
 rw[fP e,Qr];by_cases h:a=b
 .simp[h]
 .rw[BB h,Bx (by simp[h])];rfl
theorem Cb{q:Dl}{m:Bo}{us vs:List Value}(hl:rt l=some us)(hm:rt m=some vs)(hg:bt P (eqGuard .neq t p q (.agg us.toArray) (.agg vs.toArray))=some ())(he:bt P (Op.equalIn 10000 t (.agg us.toArray) (.agg vs.toArray))=some r):DE P .neq t p q (.agg l) (.agg m)=some (.lit (.bool (!r))):=by
 unfold DE;simp only[cD,hl,hm,Option.map_some];rw[fP hg];have e:bt P (binOp .neq t (.agg us.toArray) (.agg vs.toArray))=some (.bool (!r)):=by show bt P (Op.equalIn 10000 t (.agg us.toArray) (.agg vs.toArray)>>=λb=>pure (Value.bool (!b)))=_;rw[fP he];rfl
 rw[e];rfl
theorem Eo{q:Dl}{m:Bo}{us vs:List Value}(hl:rt l=some us)(hm:rt m=some vs)(hg:bt P (eqGuard .eql t p q (.agg us.toArray) (.agg vs.toArray))=some ())(he:bt P (Op.equalIn 10000 t (.agg us.toArray) (.agg vs.toArray))=some r):DE P .eql t p q (.agg l) (.agg m)=some (.lit (.bool r)):=by
 unfold DE;simp only[cD,hl,hm,Option.map_some];rw[fP hg];have e:bt P (binOp .eql t (.agg us.toArray) (.agg vs.toArray))=some (.bool r):=by show bt P (Op.equalIn 10000 t (.agg us.toArray) (.agg vs.toArray)>>=λb=>pure (Value.bool b))=_;rw[fP he];rfl
 rw[e];rfl
abbrev iG(z:Int):G:= .lit (.int .i64 z)
abbrev uG(z:Int):G:= .lit (.int .u64 z)
abbrev bG(b:Bool):G:= .lit (.bool b)
theorem Mx(h: -9223372036854775808<=z/\z<9223372036854775808):IntKind.i64.wrap z=z:=w64 aa
theorem ad{a b:Int}(h:a+b=z)(hb: -9223372036854775808<=z/\z<9223372036854775808):lD .add (iG a) (iG b)=some (iG z):=by subst h;show some (iG (IntKind.i64.wrap (a+b)))=_;rw[Mx hb]
theorem sb{a b z:Int}(h:a-b=z)(hb: -9223372036854775808<=z/\z<9223372036854775808):lD .sub (iG a) (iG b)=some (iG z):=by subst h;show some (iG (IntKind.i64.wrap (a-b)))=_;rw[Mx hb]
theorem dec{q:Nat}(h:q<4611686018427387904):lD .sub (iG ((q+1:Nat):Int)) (iG 1)=some (iG (q:Int)):=by grind [sb]
theorem Xl{q:Nat}(h:q<4611686018427387904):lD .add (iG (q:Int)) (iG 1)=some (iG ((q+1:Nat):Int)):=by grind [ad]
section
variable {α:Type} {f:α->Bo} {k:Nat}
theorem QP(hk:∀x,(f x).length=k)(l:List α):(l.flatMap f).length=l.length*k:=by induction l<;>grind
theorem sQ(hk:∀x,(f x).length=k):∀(l:List α) (i:Nat),(l.flatMap f).drop (i*k)=(l.drop i).flatMap f
 |l,0=>aC
 |[],i+1=>aC
 |x::r,i+1=>by rw[List.flatMap_cons,Nat.add_mul,Nat.one_mul,List.drop_append,hk,Nat.add_sub_cancel,sQ hk r i,List.drop_of_length_le (by grind)];rfl
theorem yk(hk:∀x,(f x).length=k):∀(l:List α) (i:Nat),(l.flatMap f).take (i*k)=(l.take i).flatMap f
 |l,0=>aC
 |[],i+1=>aC
 |x::r,i+1=>by rw[List.flatMap_cons,Nat.add_mul,Nat.one_mul,Nat.add_comm,List.take_append,hk,Nat.add_sub_cancel_left,yk hk r i,List.take_of_length_le (by grind)];rfl
theorem wQ(hk:∀x,(f x).length=k){l:List α}{x:α}(h:l[i]?=some x):((l.flatMap f).drop (i*k)).take k=f x:=by grind [sQ,List.drop_eq_getElem_cons]
theorem l9{l:List α}{x:α}(h:l[i]?=some x):i*k+k<=l.length*k:=by have hi:=(cr h).1;have:=Nat.mul_le_mul_right k (Nat.succ_le_of_lt hi);grind
end
structure Ba (P:Br) (ts te:Bn) (k:Nat) {α:Type} (f:α->Bo):Prop where
 el:dp P ts=some te
 sz:bw P te=some k
 kp:0<k
 ln:∀x,(f x).length=k
 im:∀x,(f x).all (nF 19)=true
section
variable {P:Br} {ts te:Bn} {k:Nat} {α:Type} {f:α->Bo}
abbrev aE(f:α->Bo)(l:List α):G:= .sl (l.flatMap f) l.length
theorem Ba.im'(R:Ba P ts te k f)(x:α):∀g∈f x,bB g:=by grind [Ba,aG]
theorem Ba.imm(R:Ba P ts te k f)(l:List α):∀g∈l.flatMap f,bB g:=λg hg=>by obtain⟨x,_,hx⟩:=List.mem_flatMap.1 hg;exact R.im' x g hx
theorem Ba.len(R:Ba P ts te k f)(l:List α):(l.flatMap f).length=l.length*k:=QP R.ln l
theorem Ba.ix(R:Ba P ts te k f){l:List α}{i:Nat}{x:α}(h:l[i]?=some x):fh P ts (aE f l) (i:Int)=some (.ptr (l.flatMap f) (i*k)):=by have hi:=(cr h).1;have hb:=l9 (k:=k) h;have hl:=R.len l;have hk:=R.kp;simp only[fh,R.el,R.sz,aL];grind
theorem Ba.ixr(R:Ba P ts te k f)(j:Nat){l:List α}{i o:Nat}{x:α}(h:l[i]?=some x):fh P ts (.rsl j o l.length) (i:Int)=some (.ref j (o+i*k)):=by have hi:=(cr h).1;simp only[fh,R.el,R.sz,aL];grind
theorem Ba.pt(R:Ba P ts te k f)(ha:fg P te=some true){l:List α}{i:Nat}{x:α}(h:l[i]?=some x):dN P te (l.flatMap f) (i*k)=some (.agg (f x)):=by grind [Ba,l9,dN,len,wQ]
theorem Ba.pt1(R:Ba P ts te 1 f)(ha:fg P te=some false){l:List α}{i:Nat}{x:α}(h:l[i]?=some x){g:G}(hg:f x=[g]:=by rfl):dN P te (l.flatMap f) (i*1)=some g:=by have e:=wQ (f:=f) (k:=1) R.ln h;rw[hg] at e;have e2:=congrArg (λz=>z[0]?) e;grind [dN]
theorem Ba.fd(R:Ba P ts te k f){t:Bn}(ha:fg P t=some false){l:List α}{i j:Nat}{x:α}{g:G}(h:l[i]?=some x)(hg:(f x)[j]?=some g):dN P t (l.flatMap f) (i*k+j)=some g:=by have e:=wQ (f:=f) (k:=k) R.ln h;grind [dN]
def AnA(d:Nat)(R:Ba P ts te k f)(b:Nat)(l r:List α)(hb:(l.length+r.length)*b<=140737488355328):HP:=ha d ((l++r).flatMap f) (l++r).length (p:=(l.flatMap f).length=l.length*k/\(r.flatMap f).length=r.length*k/\(l.length+r.length)*b<=140737488355328/\l.flatMap f++r.flatMap f=(l++r).flatMap f/\l.length+r.length=(l++r).length) (by grind [Ba.len])
theorem Ba.snoc(R:Ba P ts te k f)(l:List α)(x:α):l.flatMap f++((f x).drop 0).take (1*k)=(l++[x]).flatMap f:=by grind [Ba]
def Tn(d:Nat)(R:Ba P ts te k f)(b:Nat)(l:List α)(x:α)(hb:(l.length+1)*b<=140737488355328):HP:=ha d ((l++[x]).flatMap f) (l++[x]).length (p:=(l.flatMap f).length=l.length*k/\0+1*k<=(f x).length/\(l.length+1)*b<=140737488355328/\l.flatMap f++((f x).drop 0).take (1*k)=(l++[x]).flatMap f/\l.length+1=(l++[x]).length) (by grind [Ba.len,Ba.snoc])
theorem Ba.pre(R:Ba P ts te k f)(j:Nat){n q:Nat}(h:q<=n):ig P ts (.rsl j 0 n) none (some (q:Int))=some (.rsl j 0 q):=by have:=R.kp;simp only[ig,R.el,R.sz,aL];grind
theorem Ba.suf(R:Ba P ts te k f)(j:Nat){n q:Nat}(h:q<=n):ig P ts (.rsl j 0 n) (some (q:Int)) none=some (.rsl j (0+q*k) (n-q)):=by have:=R.kp;simp only[ig,R.el,R.sz,aL];grind
end
end Go.Proofs.YtlimmeehdfbheaaGreatDoor
