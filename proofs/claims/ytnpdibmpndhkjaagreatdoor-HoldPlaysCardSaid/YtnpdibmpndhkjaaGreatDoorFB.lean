/- Texts. -/
import Derived.Test.YtnpdibmpndhkjaaGreatDoorGM
namespace Go.Proofs.YtnpdibmpndhkjaaGreatDoor
set_option linter.unusedVariables false
set_option linter.unusedSimpArgs false
open Go.RowKit
variable {α:Type}{x y:Operand}{R:List Nat}{o:Oper}{s st st':St}{e t u:TypeId}{parts:Array (Nat×Operand)}{g gx gy:G}{zs:List Value}{c c' i k lo low m n:Nat}{d:Option Tmp}{cap fst gs l:List G}{ok:Bool}{xs:Array Operand}{ats:Array TypeId}{fid:FuncId}{fr:Fr}{gl:List (Nat×List G)}
structure Eqv (st st':St):Prop where
 n:st'.n=st.n
 gl:st'.gl=st.gl
 fr:∀i,aD st'.fr i=aD st.fr i
 σ:∀i,ag st'.σ i=ag st.σ i
 c:st'.c=st.c
 p:st'.p=st.p
 r:st'.r=st.r
section
variable {P:Program}
theorem Eqv.rel{st st':St}(e:Eqv st st'){cx:Cx}{a:Act}{w:World}(h:mh P cx st a w):mh P cx st' a w:=by
 obtain⟨β,h⟩:=h;have hA:Av cx.S0 β st'.σ=Av cx.S0 β st.σ:=by funext b;simp only[Av,e.σ]
 refine⟨β,?_⟩;exact{
  size:=by rw[e.n];exact h.size
  defers:=h.defers
  loose:=h.loose
  rnd:=by rw[e.r];exact h.rnd
  fr:=λi=>by rw[e.fr,hA];exact h.fr i
  ob:=λi o ho=>by rw[hA];exact h.ob i o (by rw[<-e.σ];exact ho)
  inj:=λi j o d b C D h1 h2=>h.inj i j o d b C D (by rw[<-e.σ];exact h1) (by rw[<-e.σ];exact h2)
  own:=λi o b C h1=>h.own i o b C (by rw[<-e.σ];exact h1)
  sep:=λi o b C h1=>h.sep i o b C (by rw[<-e.σ];exact h1)
  fresh:=λi hi=>h.fresh i (by rw[<-e.c];exact hi)
  glob:=λg l hl=>by rw[hA];exact h.glob g l (by rw[<-e.gl];exact hl)
  keep:=h.keep
  old:=h.old
  pin:=λi x hx=>by rw[e.p];exact h.pin i x hx}
theorem Eqv.refl(st:St):Eqv st st:=⟨rfl,rfl,λ_=>rfl,λ_=>rfl,rfl,rfl,rfl⟩
inductive DI where
 |rd (R:List Nat) (ck:aQ->Bool)
 |wr (R:List Nat) (U O:aQ) (cu:Bool)
def DI.keys:DI->List Nat
 | .rd .. =>[]
 | .wr _ U _ _=>U.map (·.1)
def DI.cu:DI->Bool
 | .rd .. =>false
 | .wr _ _ _ cu=>cu
def mL(a b:List Nat):Bool:=a.any λx=>b.any (Nat.beq x)
theorem wg{a b:List Nat}(h:mL a b=false){x:Nat}(ha:x∈a):x∉b:=λhb=>by have:mL a b=true:=List.any_eq_true.2 ⟨x,ha,List.any_eq_true.2 ⟨x,hb,Nat.beq_refl x⟩⟩;rw[this] at h;cases h
def xI:DI->DI->Bool
 | .rd ..,.rd .. =>true
 | .rd R _,.wr _ U _ _=> !mL (U.map (·.1)) R
 | .wr _ U _ _,.rd R _=> !mL (U.map (·.1)) R
 | .wr R U _ cu,.wr R' U' _ cu'=> !mL (U.map (·.1)) R'&& !mL (U.map (·.1)) (U'.map (·.1))&& !mL (U'.map (·.1)) R&& !(cu&&cu')
def ZR:DI->DI->Bool
 | .rd _ ck,.wr _ U _ _=>ck U
 | .wr _ _ O _,.rd _ ck=>ck O
 |_,_=>false
def bP(inf:List DI)(j:Nat):DI:=inf.getD j (.rd [] λ_=>false)
def kL(l:List Oper)(inf:List DI)(n:Nat):Bool:=wv l n&&(match(eP l).filter λq=> !xI (bP inf q.1) (bP inf q.2) with
 |[]=>true
 |[q]=>ZR (bP inf q.1) (bP inf q.2)
 |_=>false)
def D6(P:Program)(ops:Array Oper)(inf:DI)(o:Oper)(g:G)(st st':St):Prop:=
 (cG o=true->∃b,inf= .rd [] b)/\
 ((
   ce st ops o=some true/\((∃R U O cu c,inf= .wr R U O cu/\st'={st with σ:=U++st.σ,c:=c}.put o.dst g/\(cu=false->c=st.c)/\(∀x,x∈U.map (·.1)->ag O x=ag st.σ x)/\O.map (·.1)=U.map (·.1)/\
   ∀a,a.n=st.n->a.gl=st.gl->a.pr=st.pr->(cu=true->a.c=st.c)->(∀x∈R,ag a.σ x=ag st.σ x)->(∀x∈o.op.operands,aB a x=aB st x)->GS P o a ({a with σ:=U++a.σ,c:=if cu then c else a.c}.put o.dst g))\/
  (∃R b,inf= .rd R b/\st'=st.put o.dst g/\∀V:aQ,(V=[]\/b V=true)->∀a,a.n=st.n->a.gl=st.gl->(∀x∈R,ag a.σ x=ag (V++st.σ) x)->(∀x∈o.op.operands,aB a x=aB st x)->GS P o a (a.put o.dst g))))\/
 (ce st ops o=some false/\g= .lit undef/\st'=st.put o.dst g/\∃b,inf= .rd [] b))
def PQ(P:Program)(ops:Array Oper)(K:St->Prop):List Oper->List DI->St->Prop
 |[],[],st=>K st
 |o::rest,i::inf,st=>∃g st',D6 P ops i o g st st'/\PQ P ops K rest inf st'
 |_,_,_=>False
theorem yM{ops:Array Oper}{K:St->Prop}:∀(l:List Oper) (inf:List DI) (st:St),PQ P ops K l inf st->
  ∃(sts:Nat->St) (gs:Nat->G),sts 0=st/\K (sts l.length)/\∀i o,l[i]?=some o->D6 P ops (bP inf i) o (gs i) (sts i) (sts (i+1))
 |[],[],st,h=>⟨λ_=>st,λ_=> .junk,rfl,h,aC⟩
 |o::rest,q::inf,st,⟨g,st1,hs,hr⟩=>by
  obtain⟨sts,gs,h1,h2,h3⟩:=yM rest inf st1 hr;refine⟨λi=>match i with|0=>st|i+1=>sts i,λi=>match i with|0=>g|i+1=>gs i,rfl,h2,λi a ho=>?_⟩;cases i with
  |zero=>simp at ho;subst ho;simpa[h1,bP] using hs
  |succ i=>simpa[bP] using h3 i a (by simpa using ho)
 |o::rest,[],st,h=>h.elim
 |[],q::inf,st,h=>h.elim
theorem D6.like{ops:Array Oper}{inf:DI}{o:Oper}{g:G}{st st':St}(h:D6 P ops inf o g st st'):st'.n=st.n/\(st'.gl=st.gl/\st'.pr=st.pr)/\(∀t,aD st'.fr t=if o.dst=some t then g else aD st.fr t)/\(inf.cu=false->st'.c=st.c)/\∀x,x∉inf.keys->ag st'.σ x=ag st.σ x:=by
 have hp:∀(s:St),(s.put o.dst g).n=s.n/\((s.put o.dst g).gl=s.gl/\(s.put o.dst g).pr=s.pr)/\(∀t,aD (s.put o.dst g).fr t=if o.dst=some t then g else aD s.fr t)/\(s.put o.dst g).σ=s.σ/\(s.put o.dst g).c=s.c:=λs=>by
  cases o.dst with
  |none=>exact⟨rfl,⟨rfl,rfl⟩,λt=>by simp[St.put],rfl,rfl⟩
  |some d=>exact⟨rfl,⟨rfl,rfl⟩,λt=>by simp[St.put,aO],rfl,rfl⟩
 rcases h with⟨_,⟨_,⟨R,U,O,cu,c,rfl,rfl,hc,_,_⟩|⟨R,f,rfl,rfl,_⟩⟩|⟨_,_,rfl,f,rfl⟩⟩
 .obtain⟨a,b,c',d,e⟩:=hp {st with σ:=U++st.σ,c:=c};exact⟨a,b,c',λh=>e.trans (hc h),λx hx=>by rw[d];exact fE hx⟩
 .obtain⟨a,b,c',d,e⟩:=hp st;exact⟨a,b,c',λ_=>e,λx _=>by rw[d]⟩
 .obtain⟨a,b,c',d,e⟩:=hp st;exact⟨a,b,c',λ_=>e,λx _=>by rw[d]⟩
section draw
variable {l:List Oper} {inf:List DI} {st:St} {K:St->Prop} {cx:Cx} {Q:Exit->Act->World->Prop}
structure FFacts (P:Program) (l:List Oper) (inf:List DI) (st:St) (sts:Nat->St) (gs:Nat->G):Prop where
 zero:sts 0=st
 dstn:∀(j:Nat) (o:Oper) (d:Tmp),l[j]?=some o->o.dst=some d->d<st.n
 step:∀i o,l[i]?=some o->D6 P l.toArray (bP inf i) o (gs i) (sts i) (sts (i+1))
 edges:∀j o,l[j]?=some o->∀e∈o.after,Region.binds .any e=true->e.on<j
 uniq:∀i j d,bX l i=some d->bX l j=some d->i=j
 look:∀i j o d,l[j]?=some o->bX l i=some d->d∈mO l o->(i<j/\p8 o i=true)\/(j<i/\Reach l j i)
 pair:∃sp:Option (Nat×Nat),(∀q,sp=some q->ZR (bP inf q.1) (bP inf q.2)=true/\q.1<q.2)/\∀i j,i<j->j<l.length->Reach l i j\/xI (bP inf i) (bP inf j)=true\/sp=some (i,j)
theorem Dm{sts:Nat->St}{gs:Nat->G}(h:kL l inf st.n=true)(h0:sts 0=st)(hs:∀i o,l[i]?=some o->D6 P l.toArray (bP inf i) o (gs i) (sts i) (sts (i+1))):FFacts P l inf st sts gs:=by
 simp only[kL,bA] at h;obtain⟨h,b⟩:=h;have hj:∀j o,l[j]?=some o->j<l.length:=λj o ho=>(cr ho).1;have key:=λj o (ho:l[j]?=some o)=>by have:=List.all_eq_true.1 h j (List.mem_range.2 (hj j o ho));rw[ho] at this;simp only[bA] at this;exact this
 have hlt:∀q∈eP l,q.1<q.2:=by
  intro q hq;unfold eP at hq;obtain⟨j,_,hq⟩:=List.mem_flatMap.1 hq;split at hq
  .cases hq
  .rename_i o _;cases hf:cG o with
   |true=>rw[hf] at hq;cases hq
   |false=>
    rw[hf] at hq;obtain⟨i,hi,hq⟩:=List.mem_filterMap.1 hq;split at hq
    .cases hq
    .rename_i m _;cases hb:(cG m||sH (kM l []) i j) with
     |true=>rw[hb] at hq;cases hq
     |false=>rw[hb] at hq;cases hq;exact List.mem_range.1 hi
 refine⟨h0,λj o d ho hd=>?_,hs,λj o ho e he hb=>?_,λi j d hi hj'=>?_,λi j o d ho hi hl=>?_,?_⟩
 .have:=(key j o ho).1.1;rw[hd] at this;exact cm this
 .have:=List.all_eq_true.1 (key j o ho).1.2 e (by simpa using he);rw[hb] at this;simp only[Bool.not_true,Bool.false_or] at this;exact cm this
 .cases hoj:l[j]? with
  |none=>simp[bX,hoj] at hj'
  |some oj=>
   cases hoi:l[i]? with
   |none=>simp[bX,hoi] at hi
   |some m=>
    have:=List.all_eq_true.1 (key j oj hoj).2 i (List.mem_range.2 (hj i m hoi));have hi':(l[i]?).bind (·.dst)=some d:=hi;have hj'':oj.dst=some d:=by simpa[bX,hoj] using hj'
    rw[hi'] at this;simp only[bA,Bool.or_eq_true,bne_iff_ne] at this;rcases this.1 with h1|h1
    .exact bc h1
    .exact absurd hj'' h1
 .cases hoi:l[i]? with
  |none=>simp[bX,hoi] at hi
  |some m=>
   have:=List.all_eq_true.1 (key j o ho).2 i (List.mem_range.2 (hj i m hoi));have hi':(l[i]?).bind (·.dst)=some d:=hi;rw[hi'] at this;simp only[bA,Bool.or_eq_true,Bool.not_eq_true'] at this;rcases this.2 with h1|h1
   .rw[Md hl] at h1;cases h1
   .rcases h1 with h1|h1
    .exact .inl ⟨cm h1.1,h1.2⟩
    .exact .inr ⟨cm h1.1,pA h1.2⟩
 .have strict:∀i j,i<j->j<l.length->Reach l i j\/xI (bP inf i) (bP inf j)=true\/(i,j)∈(eP l).filter λq=> !xI (bP inf q.1) (bP inf q.2):=by
   intro i j hij hjl;have hoj:l[j]?=some (l[j]'hjl):=cv hjl;have hoi:l[i]?=some (l[i]'aa):=cv aa;have hfree:∀k o,l[k]?=some o->cG o=true->∃c,bP inf k= .rd [] c:=λk o ho hf=>(hs k o ho).1 hf;have hzero:∀(c:aQ->Bool) (q:DI),xI (.rd [] c) q=true/\xI q (.rd [] c)=true:=λc q=>by
    have hm:∀a:List Nat,mL a []=false:=λa=>by simp[mL]
    cases q<;>exact⟨by simp[xI,hm],by simp[xI,hm]⟩
   cases hfj:cG (l[j]'hjl) with
   |true=>obtain⟨c,hck⟩:=hfree j _ hoj hfj;right;left;rw[hck];exact(hzero c _).2
   |false=>
    cases hfi:cG (l[i]'aa) with
    |true=>obtain⟨c,hck⟩:=hfree i _ hoi hfi;right;left;rw[hck];exact(hzero c _).1
    |false=>
     cases hr:sH (kM l []) i j with
     |true=>exact .inl (pA hr)
     |false=>
      right;have hm:(i,j)∈eP l:=by unfold eP;rw[List.mem_flatMap];refine⟨j,List.mem_range.2 hjl,?_⟩;rw[hoj];simp only[hfj,aM];rw[List.mem_filterMap];refine⟨i,List.mem_range.2 hij,?_⟩;rw[hoi];simp[hfi,hr]
      cases hok:xI (bP inf i) (bP inf j) with
      |true=>exact .inl rfl
      |false=>exact .inr (List.mem_filter.2 ⟨hm,by simp[hok]⟩)
  split at b
  .rename_i g;refine⟨none,λq hq=>(by cases hq),λi j hij hjl=>?_⟩;rcases strict i j hij hjl with h1|h1|h1
   .exact .inl h1
   .exact .inr (.inl h1)
   .rw[g] at h1;cases h1
  .rename_i q f;refine⟨some q,λp hq=>?_,λi j hij hjl=>?_⟩
   .cases hq;have:q∈(eP l).filter λq=> !xI (bP inf q.1) (bP inf q.2):=by rw[f];simp
    exact⟨b,hlt q (List.mem_filter.1 this).1⟩
   .rcases strict i j hij hjl with h1|h1|h1
    .exact .inl h1
    .exact .inr (.inl h1)
    .rw[f] at h1;obtain rfl:=List.mem_singleton.1 h1;exact .inr (.inr rfl)
  .cases b
variable {sts:Nat->St} {gs:Nat->G}
theorem FFacts.ngl(F:FFacts P l inf st sts gs):∀i,i<=l.length->(sts i).n=st.n/\(sts i).gl=st.gl/\(sts i).pr=st.pr
 |0,_=>by rw[F.zero];exact⟨rfl,rfl,rfl⟩
 |i+1,hi=>by obtain⟨a,b,e⟩:=F.ngl i aa;obtain⟨c,⟨d,f⟩,_⟩:=(F.step i _ (cv aa)).like;exact⟨c.trans a,d.trans b,f.trans e⟩
theorem FFacts.fr1(F:FFacts P l inf st sts gs){j:Nat}{t:Tmp}(hd:bX l j=some t):∀i,j<i->i<=l.length->aD (sts i).fr t=gs j
 |0,h,_=>aa
 |i+1,h,hi=>by
  have ho:l[i]?=some (l[i]'aa):=cv aa;obtain⟨_,_,c,_⟩:=(F.step i _ ho).like;rw[c t];by_cases e:j=i
  .subst e;have:(l[j]'aa).dst=some t:=by simpa[bX,ho] using hd
   rw[if_pos this]
  .have:(l[i]'aa).dst≠some t:=λx=>e (F.uniq j i t hd (by simp[bX,ho,x]));rw[if_neg this];exact F.fr1 hd i aa aa
theorem FFacts.fr2(F:FFacts P l inf st sts gs){t:Tmp}:∀i,i<=l.length->(∀j,j<i->bX l j≠some t)->aD (sts i).fr t=aD st.fr t
 |0,_,_=>by rw[F.zero]
 |i+1,hi,h=>by have ho:l[i]?=some (l[i]'aa):=cv aa;obtain⟨_,_,c,_⟩:=(F.step i _ ho).like;rw[c t,if_neg (λx=>h i aa (by simp[bX,ho,x]))];exact F.fr2 i aa (λj hj=>h j aa)
theorem FFacts.stc(F:FFacts P l inf st sts gs){a:Nat}:∀b,a<=b->b<=l.length->(∀k,a<=k->k<b->(bP inf k).cu=false)->(sts b).c=(sts a).c
 |0,h,_,_=>by obtain rfl:a=0:=aa;rfl
 |b+1,h,hl,hb=>by
  by_cases e:a=b+1
  .subst e;rfl
  .have ho:l[b]?=some (l[b]'aa):=cv aa;obtain⟨_,_,_,d,_⟩:=(F.step b _ ho).like;exact(d (hb b aa aa)).trans (F.stc b aa aa (λk h1 h2=>hb k h1 aa))
theorem FFacts.sto(F:FFacts P l inf st sts gs){a x:Nat}:∀b,a<=b->b<=l.length->(∀k,a<=k->k<b->x∉(bP inf k).keys)->ag (sts b).σ x=ag (sts a).σ x
 |0,h,_,_=>by obtain rfl:a=0:=aa;rfl
 |b+1,h,hl,hb=>by
  by_cases e:a=b+1
  .subst e;rfl
  .have ho:l[b]?=some (l[b]'aa):=cv aa;obtain⟨_,_,_,_,d⟩:=(F.step b _ ho).like;exact(d x (hb b aa aa)).trans (F.sto b aa aa (λk h1 h2=>hb k h1 aa))
structure FInv (P:Program) (l:List Oper) (inf:List DI) (st:St) (sts:Nat->St) (gs:Nat->G) (cx:Cx) (L:Array Bool) (a:Act) (w:World) (st':St):Prop where
 size:L.size=l.length
 closed:∀j o,L.getD j false=true->l[j]?=some o->∀e∈o.after,Region.binds .any e=true->L.getD e.on false=true
 rel:mh P cx st' a w
 n:st'.n=st.n
 gl:st'.gl=st.gl
 σ:∀x m,m<=l.length->(∀i,i<l.length->x∈(bP inf i).keys->(L.getD i false=true↔i<m))->ag st'.σ x=ag (sts m).σ x
 c:∀m,m<=l.length->(∀i,i<l.length->(bP inf i).cu=true->(L.getD i false=true↔i<m))->st'.c=(sts m).c
 p:st'.pr=st.pr
 f1:∀j t,L.getD j false=true->bX l j=some t->aD st'.fr t=gs j
 f2:∀t,(∀j,L.getD j false=true->bX l j≠some t)->aD st'.fr t=aD st.fr t
theorem FInv.same(F:FFacts P l inf st sts gs){L:Array Bool}{a:Act}{w:World}{st':St}(I:FInv P l inf st sts gs cx L a w st'){j:Nat}{o:Oper}(ho:l[j]?=some o)(hr:H_a o L)(hL:L.getD j false=false){t:Tmp}(ht:t∈mO l o):aD st'.fr t=aD (sts j).fr t:=by
 have hjl:=(cr ho).1;by_cases hx:∃i,bX l i=some t
 .obtain⟨i,hi⟩:=hx;rcases F.look i j o t ho hi ht with⟨h1,h2⟩|⟨h1,h2⟩
  .obtain⟨e,he,hbe,b⟩:=fJ h2;have hL:L.getD i false=true:=by rw[<-b];exact hr e he hbe
   rw[I.f1 i t hL hi,F.fr1 hi j h1 aa]
  .have hiu:L.getD i false=false:=by
    cases hd:L.getD i false with
    |false=>rfl
    |true=>have:=dI I.closed h2 (.inl hd);rw[hL] at this;cases this
   rw[I.f2 t (λk hk h=>by
    have:=F.uniq k i t h hi;subst this;rw[hiu] at hk;cases hk),F.fr2 j aa (λk hk h=>by
    have:=F.uniq k i t h hi;omega)]
 .rw[I.f2 t (λi _ h=>hx ⟨i,h⟩),F.fr2 j aa (λi _ h=>hx ⟨i,h⟩)]
theorem uD{R':List Nat}{U O U' O':aQ}{cu cu':Bool}(h:xI (.wr R U O cu) (.wr R' U' O' cu')=true):(∀x,x∈U.map (·.1)->x∉R'/\x∉U'.map (·.1))/\(∀x,x∈U'.map (·.1)->x∉R)/\¬(cu=true/\cu'=true):=by simp only[xI,bA,Bool.not_eq_true'] at h;obtain⟨⟨⟨h1,h2⟩,h3⟩,h4⟩:=h;exact⟨λx hx=>⟨wg h1 hx,wg h2 hx⟩,λx hx=>wg h3 hx,λ⟨a,b⟩=>by rw[a,b] at h4;cases h4⟩
theorem PR(a b:DI):xI a b=xI b a:=by
 have hm:∀x y:List Nat,mL x y=mL y x:=λx y=>by
  rw[Bool.eq_iff_iff];constructor<;>intro h
  .obtain⟨u,hu,h⟩:=List.any_eq_true.1 h;obtain⟨v,hv,h⟩:=List.any_eq_true.1 h;have:=bc h;subst this;exact List.any_eq_true.2 ⟨u,hv,List.any_eq_true.2 ⟨u,hu,Nat.beq_refl u⟩⟩
  .obtain⟨u,hu,h⟩:=List.any_eq_true.1 h;obtain⟨v,hv,h⟩:=List.any_eq_true.1 h;have:=bc h;subst this;exact List.any_eq_true.2 ⟨u,hv,List.any_eq_true.2 ⟨u,hu,Nat.beq_refl u⟩⟩
 cases a<;>cases b<;>simp only[xI];rename_i R U O cu R' U' O' c;rw[hm (U'.map (·.1)) (U.map (·.1)),Bool.and_comm c cu];cases mL (U.map (·.1)) R'<;>cases mL (U.map (·.1)) (U'.map (·.1))<;>cases mL (U'.map (·.1)) R<;>rfl
theorem FInv.order(F:FFacts P l inf st sts gs){L:Array Bool}{a:Act}{w:World}{st':St}(I:FInv P l inf st sts gs cx L a w st'){j:Nat}{o:Oper}(ho:l[j]?=some o)(hr:H_a o L)(hL:L.getD j false=false){i:Nat}(hil:i<l.length)(hne:i≠j)(hno:xI (bP inf i) (bP inf j)=false)(hsp:∀sp,F.pair.choose=some sp->sp≠(i,j)/\sp≠(j,i)):(L.getD i false=true↔i<j):=by
 have hjl:=(cr ho).1;obtain⟨h1,h2⟩:=F.pair.choose_spec;rcases Nat.lt_or_gt_of_ne hne with h|h
 .have:L.getD i false=true:=by
   rcases h2 i j h hjl with h3|h3|h3
   .exact dI I.closed h3 (.inr ⟨o,ho,hr⟩)
   .rw[hno] at h3;cases h3
   .exact absurd rfl (hsp _ h3).1
  simp[this,h]
 .have:L.getD i false=false:=by
   rcases h2 j i h hil with h3|h3|h3
   .cases hd:L.getD i false with
    |false=>rfl
    |true=>have:=dI I.closed h3 (.inl hd);rw[hL] at this;cases this
   .rw[PR,hno] at h3;cases h3
   .exact absurd rfl (hsp _ h3).2
  rw[this];simp;omega
theorem sB{d:DI}{x:Nat}(h:x∈d.keys):∃R U O cu,d= .wr R U O cu/\x∈U.map (·.1):=by
 cases d with
 |rd R ck=>cases h
 |wr R U O cu=>exact⟨R,U,O,cu,rfl,h⟩
theorem UU{d d':DI}(h:ZR d d'=true):(∃R c R' U' O' b,d= .rd R c/\d'= .wr R' U' O' b/\c U'=true)\/(∃R U O cu R' a,d= .wr R U O cu/\d'= .rd R' a/\a O=true):=by
 cases d<;>cases d'<;>simp only[ZR] at h
 .cases h
 .exact .inl ⟨_,_,_,_,_,_,rfl,rfl,h⟩
 .exact .inr ⟨_,_,_,_,_,_,rfl,rfl,h⟩
 .cases h
theorem FInv.stoW(F:FFacts P l inf st sts gs){L:Array Bool}{a:Act}{w:World}{st':St}(I:FInv P l inf st sts gs cx L a w st'){j:Nat}{o:Oper}(ho:l[j]?=some o)(hr:H_a o L)(hL:L.getD j false=false){R:List Nat}{U O:aQ}{cu:Bool}(hj:bP inf j= .wr R U O cu):
  (∀x∈R,ag st'.σ x=ag (sts j).σ x)/\(cu=true->st'.c=(sts j).c):=by
 have hjl:=(cr ho).1
 obtain⟨h1,h2⟩:=F.pair.choose_spec
 have hsp:∀i R' U' O' b,bP inf i= .wr R' U' O' b->∀sp,F.pair.choose=some sp->sp≠(i,j)/\sp≠(j,i):=by
  intro i R' U' O' b hi sp hs;have:=(h1 sp hs).1;constructor
  .rintro rfl;rw[hi,hj] at this;cases this
  .rintro rfl;rw[hi,hj] at this;cases this
 refine⟨λx hx=>I.σ x j aa λi hil hk=>?_,λhcu=>I.c j aa λi hil hc=>?_⟩
 .by_cases e:i=j
  .subst e;rw[hL];simp
  .obtain⟨R',U',O',b,hi,d⟩:=sB hk
   refine I.order F ho hr hL hil e ?_ (hsp i _ _ _ _ hi)
   cases hok:xI (bP inf i) (bP inf j) with
   |false=>rfl
   |true=>rw[hi,hj] at hok;exact absurd hx ((uD hok).1 x d).1
 .by_cases e:i=j
  .subst e;rw[hL];simp
  .obtain⟨R',U',O',b,hi⟩:∃R' U' O' b,bP inf i= .wr R' U' O' b:=by
    cases hd:bP inf i with
    |rd _ _=>rw[hd] at hc;cases hc
    |wr R' U' O' b=>exact⟨_,_,_,_,rfl⟩
   refine I.order F ho hr hL hil e ?_ (hsp i _ _ _ _ hi)
   cases hok:xI (bP inf i) (bP inf j) with
   |false=>rfl
   |true=>
    rw[hi,hj] at hok
    rw[hi] at hc
    exact absurd ⟨hc,hcu⟩ (uD hok).2.2
theorem FInv.stoR(F:FFacts P l inf st sts gs){L:Array Bool}{a:Act}{w:World}{st':St}(I:FInv P l inf st sts gs cx L a w st'){j:Nat}{o:Oper}(ho:l[j]?=some o)(hr:H_a o L)(hL:L.getD j false=false){R:List Nat}{ck:aQ->Bool}(hj:bP inf j= .rd R ck):
  ∃V:aQ,(V=[]\/ck V=true)/\∀x∈R,ag st'.σ x=ag (V++(sts j).σ) x:=by
 have hjl:=(cr ho).1
 obtain⟨h1,h2⟩:=F.pair.choose_spec
 have ord:∀x∈R,∀i,i<l.length->x∈(bP inf i).keys->(∀sp,F.pair.choose=some sp->sp≠(i,j)/\sp≠(j,i))->(L.getD i false=true↔i<j):=by
  intro x hx i hil hk hsp;obtain⟨R',U',O',H,hi,c⟩:=sB hk;by_cases e:i=j
  .subst e;rw[hj] at hi;cases hi
  .refine I.order F ho hr hL hil e ?_ hsp;cases hok:xI (bP inf i) (bP inf j) with
   |false=>rfl
   |true=>rw[hi,hj] at hok;simp only[xI,Bool.not_eq_true'] at hok;exact absurd hx (wg hok c)
 have plain:(∀x∈R,∀i,i<l.length->x∈(bP inf i).keys->(L.getD i false=true↔i<j))->∃V:aQ,(V=[]\/ck V=true)/\∀x∈R,ag st'.σ x=ag (V++(sts j).σ) x:=
  λh=>⟨[],.inl rfl,λx hx=>I.σ x j aa λi hil hk=>h x hx i hil hk⟩
 cases hsp:F.pair.choose with
 |none=>exact plain λx hx i hil hk=>ord x hx i hil hk λsp hs=>by rw[hsp] at hs;cases hs
 |some sp=>
  obtain⟨u,v⟩:=sp
  obtain⟨hA,n⟩:=h1 (u,v) hsp
  have huv':u<v:=n
  by_cases hv:v=j
  ·
   subst hv
   rcases UU hA with⟨_,_,_,_,_,_,_,h4,_⟩|⟨p,d,m,f,R',t,h3,h4,h5⟩
   .rw[hj] at h4;cases h4
   rw[hj] at h4
   cases h4
   have h3':bP inf u= .wr p d m f:=h3
   have hul:u<l.length:=aa
   have others:∀x∈R,∀i,i<l.length->x∈(bP inf i).keys->i≠u->(L.getD i false=true↔i<v):=λx hx i hil hk hne=>ord x hx i hil hk λsp hs=>by rw[hsp] at hs;cases hs;exact⟨λe=>hne (by cases e;rfl),λe=>by cases e;omega⟩
   by_cases hLu:L.getD u false=true
   .exact plain λx hx i hil hk=>by
     by_cases e:i=u
     .subst e;simp[hLu,huv']
     .exact others x hx i hil hk e
   .have hLu':L.getD u false=false:=by simpa using hLu
    obtain⟨_,hst⟩:=F.step u _ (cv hul)
    have hO:(∀x,x∈d.map (·.1)->ag m x=ag (sts u).σ x)/\m.map (·.1)=d.map (·.1):=by
     rcases hst with⟨_,⟨q,A,B,y,c1,e1,_,_,e2,e3,_⟩|⟨q,k,e1,_⟩⟩|⟨_,_,_,k,e1⟩
     .rw[h3'] at e1;cases e1;exact⟨e2,e3⟩
     .rw[h3'] at e1;cases e1
     .rw[h3'] at e1;cases e1
    refine⟨m,.inr h5,λx hx=>?_⟩
    by_cases hxu:x∈d.map (·.1)
    .rw[fY (by rw[hO.2];exact hxu),hO.1 x hxu]
     refine I.σ x u aa λi hil hk=>?_
     by_cases e:i=u
     .subst e;rw[hLu'];simp
     .have hi:=others x hx i hil hk e
      obtain⟨C,D,E,z,hi2,c⟩:=sB hk
      have hno:∀a b,(a=i/\b=u)\/(a=u/\b=i)->xI (bP inf a) (bP inf b)=false:=by
       intro a b r;cases hok:xI (bP inf a) (bP inf b) with
       |false=>rfl
       |true=>
        exfalso;rcases r with⟨rfl,rfl⟩|⟨rfl,rfl⟩
        .rw[hi2,h3'] at hok;exact((uD hok).1 x c).2 hxu
        .rw[hi2,h3'] at hok;exact((uD hok).1 x hxu).2 c
      rcases Nat.lt_or_gt_of_ne e with hlt|hgt
      .simp only[hi.2 aa,hlt]
      .have hLi:L.getD i false=false:=by
        rcases h2 u i hgt hil with h6|h6|h6
        .cases hd:L.getD i false with
         |false=>rfl
         |true=>have:=dI I.closed h6 (.inl hd);rw[hLu'] at this;cases this
        .rw[hno u i (.inr ⟨rfl,rfl⟩)] at h6;cases h6
        .rw[hsp] at h6;cases h6;rw[hj] at hi2;cases hi2
       rw[hLi];simp;omega
    .rw[fE (by rw[hO.2];exact hxu)]
     exact I.σ x v aa λi hil hk=>others x hx i hil hk λe=>by subst e;rw[h3'] at hk;exact hxu hk
  .by_cases hu:u=j
   ·
    subst hu
    rcases UU hA with⟨R',t,p,d,m,f,h3,h4,h5⟩|⟨_,_,_,_,_,_,h3,_⟩
    .rw[hj] at h3
     cases h3
     have h4':bP inf v= .wr p d m f:=h4
     by_cases hvl:v<l.length
     .have others:∀x∈R,∀i,i<l.length->x∈(bP inf i).keys->i≠v->(L.getD i false=true↔i<u):=λx hx i hil hk hne=>ord x hx i hil hk λsp hs=>by rw[hsp] at hs;cases hs;exact⟨λe=>by cases e;omega,λe=>hne (by cases e;rfl)⟩
      by_cases hLv:L.getD v false=true
      .obtain⟨_,hst⟩:=F.step v _ (cv hvl)
       have hU:∀x,x∈d.map (·.1)->ag (sts (v+1)).σ x=ag d x:=by
        have hp:∀(s:St) (o:Oper) (g:G),(s.put o.dst g).σ=s.σ:=λs o g=>by cases o.dst<;>rfl
        rcases hst with⟨_,⟨q,A,B,y,c1,e1,e4,_,e2,e3,_⟩|⟨q,k,e1,_⟩⟩|⟨_,_,_,k,e1⟩
        .rw[h4'] at e1;cases e1;intro x hx;rw[e4,hp];exact fY hx
        .rw[h4'] at e1;cases e1
        .rw[h4'] at e1;cases e1
       refine⟨d,.inr h5,λx hx=>?_⟩
       by_cases hxu:x∈d.map (·.1)
       .rw[fY hxu,<-hU x hxu]
        refine I.σ x (v+1) aa λi hil hk=>?_
        by_cases e:i=v
        .subst e;simp[hLv]
        .have hi:=others x hx i hil hk e
         obtain⟨C,D,E,z,hi2,c⟩:=sB hk
         have hno:xI (bP inf i) (bP inf v)=false:=by
          cases hok:xI (bP inf i) (bP inf v) with
          |false=>rfl
          |true=>rw[hi2,h4'] at hok;exact absurd hxu ((uD hok).1 x c).2
         rcases Nat.lt_or_gt_of_ne e with hlt|hgt
         .have hLi:L.getD i false=true:=by
           rcases h2 i v hlt hvl with h6|h6|h6
           .exact dI I.closed h6 (.inl hLv)
           .rw[hno] at h6;cases h6
           .rw[hsp] at h6;cases h6;rw[hj] at hi2;cases hi2
          rw[hLi];simp;omega
         .have:¬i<u:=aa
          have hLi:L.getD i false=false:=by
           cases hd:L.getD i false with
           |false=>rfl
           |true=>exact absurd (hi.1 hd) this
          rw[hLi];simp;omega
       .rw[fE hxu]
        exact I.σ x u aa λi hil hk=>others x hx i hil hk λe=>by subst e;rw[h4'] at hk;exact hxu hk
      .have hLv':L.getD v false=false:=by simpa using hLv
       exact plain λx hx i hil hk=>by
        by_cases e:i=v
        .subst e;rw[hLv'];simp;omega
        .exact others x hx i hil hk e
     .exact plain λx hx i hil hk=>ord x hx i hil hk λsp hs=>by rw[hsp] at hs;cases hs;exact⟨λe=>by cases e;omega,λe=>by cases e;omega⟩
    .rw[hj] at h3;cases h3
   .exact plain λx hx i hil hk=>ord x hx i hil hk λsp hs=>by rw[hsp] at hs;cases hs;exact⟨λe=>hv (by cases e;rfl),λe=>hu (by cases e;rfl)⟩
theorem FInv.next(F:FFacts P l inf st sts gs){L:Array Bool}{a a':Act}{w w':World}{st':St}(I:FInv P l inf st sts gs cx L a w st'){j:Nat}{o:Oper}(ho:l[j]?=some o)(hr:H_a o L)(hL:L.getD j false=false){σ:aQ}{c:Nat}
  (hrel:mh P cx ({st' with σ:=σ,c:=c}.put o.dst (gs j)) a' w') (v:∀x,x∉(bP inf j).keys->ag σ x=ag st'.σ x) (y:∀x,x∈(bP inf j).keys->ag σ x=ag (sts (j+1)).σ x) (h:(bP inf j).cu=false->c=st'.c) (q:(bP inf j).cu=true->c=(sts (j+1)).c):∃z,FInv P l inf st sts gs cx (L.setIfInBounds j true) a' w' z:=by
 have hjl:=(cr ho).1
 have hjs:j<L.size:=by rw[I.size];exact hjl
 obtain⟨h1,h2⟩:=F.pair.choose_spec
 have hcl:∀k ok,(L.setIfInBounds j true).getD k false=true->l[k]?=some ok->∀e∈ok.after,Region.binds .any e=true->(L.setIfInBounds j true).getD e.on false=true:=by
  intro k ok hk hok e he hbe;rw[cI hjs];split
  .rfl
  .rw[cI hjs] at hk;by_cases ek:j=k
   .subst ek;rw[ho] at hok;cases hok;exact hr e he hbe
   .rw[if_neg ek] at hk;exact I.closed k ok hk hok e he hbe
 have hpf:∀t,aD ({st' with σ:=σ,c:=c}.put o.dst (gs j)).fr t=if o.dst=some t then gs j else aD st'.fr t:=λt=>by
  cases hd':o.dst with
  |none=>simp[St.put]
  |some d=>show aD ((d,gs j)::st'.fr) t=_;rw[aO];by_cases e:d=t<;>simp[e]
 have hps:({st' with σ:=σ,c:=c}.put o.dst (gs j)).σ=σ/\({st' with σ:=σ,c:=c}.put o.dst (gs j)).c=c:=by cases o.dst<;>exact⟨rfl,rfl⟩
 have set:∀i,(L.setIfInBounds j true).getD i false=if j=i then true else L.getD i false:=λi=>cI hjs
 have behind:∀i,j<i->i<l.length->xI (bP inf j) (bP inf i)=false->(∀sp,F.pair.choose=some sp->sp≠(j,i))->L.getD i false=false:=by
  intro i r hil hno hsp;rcases h2 j i r hil with h6|h6|h6
  .cases hd:L.getD i false with
   |false=>rfl
   |true=>have:=dI I.closed h6 (.inl hd);rw[hL] at this;cases this
  .rw[hno] at h6;cases h6
  .exact absurd rfl (hsp _ h6)
 refine⟨_,{size:=by simp[I.size],closed:=hcl,rel:=hrel,n:=?_,gl:=?_,σ:=λx m hm b=>?_,c:=λm hm b=>?_,p:=?_,f1:=λk t hk hd=>?_,f2:=λt ht=>?_}⟩
 .rw[<-I.n];cases o.dst<;>rfl
 .rw[<-I.gl];cases o.dst<;>rfl
 .rw[hps.1]
  by_cases hx:x∈(bP inf j).keys
  .rw[y x hx]
   have hjm:j<m:=(b j hjl hx).1 (by rw[set,if_pos rfl])
   refine(F.sto (a:=j+1) m hjm hm λk hk1 hk2 hkx=>?_).symm
   have f:=(b k aa hkx).2 hk2
   rw[set,if_neg aa] at f
   obtain⟨C,D,E,A,e1,s⟩:=sB hx
   obtain⟨H,J,M,B,e2,u⟩:=sB hkx
   have:=behind k aa aa (by
    cases hok:xI (bP inf j) (bP inf k) with
    |false=>rfl
    |true=>rw[e1,e2] at hok;exact absurd u ((uD hok).1 x s).2) (λsp hs e=>by
    subst e;have:=(h1 _ hs).1;rw[e1,e2] at this;cases this)
   rw[this] at f;cases f
  .rw[v x hx]
   refine I.σ x m hm λi hil hk=>?_
   have:=b i hil hk
   rw[set,if_neg (λe=>by subst e;exact hx hk)] at this
   exact this
 .rw[hps.2]
  cases hcu:(bP inf j).cu with
  |true=>
   rw[q hcu]
   have hjm:j<m:=(b j hjl hcu).1 (by rw[set,if_pos rfl])
   refine(F.stc (a:=j+1) m hjm hm λk hk1 hk2=>?_).symm
   cases hkc:(bP inf k).cu with
   |false=>rfl
   |true=>
    exfalso
    have f:=(b k aa hkc).2 hk2
    rw[set,if_neg aa] at f
    obtain⟨C,D,E,A,e1⟩:∃R' U' O' g,bP inf j= .wr R' U' O' g:=by
     cases hd:bP inf j with
     |rd _ _=>rw[hd] at hcu;cases hcu
     |wr R' U' O' g=>exact⟨_,_,_,_,rfl⟩
    obtain⟨H,J,M,B,e2⟩:∃R' U' O' g,bP inf k= .wr R' U' O' g:=by
     cases hd:bP inf k with
     |rd _ _=>rw[hd] at hkc;cases hkc
     |wr R' U' O' g=>exact⟨_,_,_,_,rfl⟩
    have:=behind k aa aa (by
     cases hok:xI (bP inf j) (bP inf k) with
     |false=>rfl
     |true=>
      rw[e1,e2] at hok;rw[e1] at hcu;rw[e2] at hkc;exact absurd ⟨hcu,hkc⟩ (uD hok).2.2) (λsp hs e=>by
     subst e;have:=(h1 _ hs).1;rw[e1,e2] at this;cases this)
    rw[this] at f;cases f
  |false=>
   rw[h hcu]
   refine I.c m hm λi hil hk=>?_
   have:=b i hil hk
   rw[set,if_neg (λe=>by subst e;rw[hcu] at hk;cases hk)] at this
   exact this
 .rw[<-I.p];cases o.dst<;>rfl
 .rw[hpf]
  by_cases e:j=k
  .subst e
   have:o.dst=some t:=by simpa[bX,ho] using hd
   rw[if_pos this]
  .rw[if_neg (λx=>e (F.uniq j k t (by simp[bX,ho,x]) hd))]
   rw[cI hjs,if_neg e] at hk
   exact I.f1 k t hk hd
 .rw[hpf,if_neg (λx=>ht j (by rw[cI hjs,if_pos rfl]) (by simp[bX,ho,x]))]
  exact I.f2 t (λk hk=>ht k (by
   rw[cI hjs];split
   .rfl
   .exact hk))
theorem FInv.run(F:FFacts P l inf st sts gs)(u:∀a w,mh P cx (sts l.length) a w->Q .normal a w):∀(fuel:Nat) (L:Array Bool) (a:Act) (w:World) (st':St),L.toList.count false<=fuel->FInv P l inf st sts gs cx L a w st'->wpAnyIn cx.F cx.nn P .any l.toArray Q fuel L a w:=by
 have done:∀(L:Array Bool) (a:Act) (w:World) (st':St),FInv P l inf st sts gs cx L a w st'->(∀j,j<l.length->L.getD j false=true)->Q .normal a w:=by
  intro L a w st' I hall;obtain⟨hn,hg,hp⟩:=F.ngl l.length (Nat.le_refl _);have hpp:(sts l.length).pr=st'.pr:=hp.trans I.p.symm;simp only[St.pr,Prod.mk.injEq] at hpp;refine u a w (Eqv.rel ⟨hn.trans I.n.symm,hg.trans I.gl.symm,λt=>?_,λx=>(I.σ x l.length (Nat.le_refl _) λi hil _=>by simp[hall i hil,hil]).symm,(I.c l.length (Nat.le_refl _) λi hil _=>by simp[hall i hil,hil]).symm,hpp.1,hpp.2⟩ I.rel);by_cases hx:∃i,bX l i=some t
  .obtain⟨i,hi⟩:=hx;have hil:i<l.length:=by
    rcases Nat.lt_or_ge i l.length with h|h
    .exact h
    .simp[bX,List.getElem?_eq_none h] at hi
   rw[F.fr1 hi l.length hil (Nat.le_refl _),I.f1 i t (hall i hil) hi]
  .rw[F.fr2 l.length (Nat.le_refl _) (λi _ h=>hx ⟨i,h⟩),I.f2 t (λi _ h=>hx ⟨i,h⟩)]
 have empty:∀(L:Array Bool) (a:Act) (w:World) (st':St),FInv P l inf st sts gs cx L a w st'->Region.ready .any l.toArray L=[]->∀j,j<l.length->L.getD j false=true:=by
  intro L a w st' I hr j;induction j using Nat.strongRecOn with
  |_ j ih=>
   intro hj;cases h:L.getD j false with
   |true=>rfl
   |false=>
    have:j∈Region.ready .any l.toArray L:=by
     rw[mem_ready];have ho:l[j]?=some (l[j]'hj):=cv hj;refine⟨?_,l[j]'hj,aC,λe he hbe=>?_⟩
     .have hs:j<L.size:=by rw[I.size];exact hj
      simp[hs] at h⊢;exact h
     .have:=F.edges j _ ho e he hbe;exact ih e.on this aa
    rw[hr] at this;cases this
 intro fuel;induction fuel with
 |zero=>
  intro L a w st' hc I;have hall:∀j,j<l.length->L.getD j false=true:=by
   intro j hj;have hs:j<L.size:=by rw[I.size];exact hj
   have h0:L.toList.count false=0:=aa;rw[List.count_eq_zero] at h0;cases h:L.getD j false with
   |true=>rfl
   |false=>simp[hs] at h;exact absurd (by rw[<-h];simp:false∈L.toList) h0
  refine⟨?_,done L a w st' I hall⟩;cases hr:Region.ready .any l.toArray L with
  |nil=>rfl
  |cons x xs=>
   have hx:x∈Region.ready .any l.toArray L:=by rw[hr];simp
   obtain⟨h1,o,ho,_⟩:=mem_ready.1 hx;have hxl:x<l.length:=by have:=(Array.getElem?_eq_some_iff.1 ho).1;simpa using this
   have hs:x<L.size:=by rw[I.size];exact hxl
   have:=hall x hxl;simp[hs] at h1 this;rw[h1] at this;cases this
 |succ fuel ih=>
  intro L a w st' hc I;refine⟨λhr=>done L a w st' I (empty L a w st' I hr),λj hj=>?_⟩;obtain⟨h1,o,ho',hr⟩:=mem_ready.1 hj;have ho:l[j]?=some o:=by simpa using ho'
  have hjl:=(cr ho).1;have hs:j<L.size:=by rw[I.size];exact hjl
  have hL:L.getD j false=false:=by simp[hs] at h1⊢;exact h1
  have hcnt:(L.setIfInBounds j true).toList.count false<=fuel:=by have:=om L.toList j (by simp[hs] at h1;simp[hs,h1]);rw[Array.toList_setIfInBounds];omega
  have next:∀(σ:aQ) (c:Nat) k w',mh P cx ({st' with σ:=σ,c:=c}.put o.dst (gs j)) k w'->(∀x,x∉(bP inf j).keys->ag σ x=ag st'.σ x)->(∀x,x∈(bP inf j).keys->ag σ x=ag (sts (j+1)).σ x)->((bP inf j).cu=false->c=st'.c)->((bP inf j).cu=true->c=(sts (j+1)).c)->wpAnyIn cx.F cx.nn P .any l.toArray Q fuel (L.setIfInBounds j true) k w':=by intro σ c k w' h h2 h3 h4 h5;obtain⟨q,v⟩:=I.next F ho hr hL h h2 h3 h4 h5;exact ih _ k w' q hcnt v
  obtain⟨hn,hg,hp⟩:=F.ngl j aa;have hlook:=λt (ht:t∈mO l o)=>I.same F ho hr hL ht;have hgev:∀x∈o.op.operands,aB st' x=aB (sts j) x:=λx hx=>BV (I.gl.trans hg.symm) (λt e=>hlook t (by subst e;exact List.mem_append_left _ (List.mem_filterMap.2 ⟨.tmp t,by simpa using hx,rfl⟩)))
  have hgw:ce st' l.toArray o=ce (sts j) l.toArray o:=by
   unfold ce;cases hgd:o.guard with
   |none=>rfl
   |some gw=>
    obtain⟨g,r⟩:=gw;simp only;cases hd:(l.toArray[g]?).bind (·.dst) with
    |none=>rfl
    |some d=>
     simp only;rw[hlook d (List.mem_append_right _ (by
      rw[hgd];have:(l[g]?).bind (·.dst)=some d:=by simpa using hd
      simp[this]))]
  obtain⟨β,m⟩:=I.rel;unfold wpOpIn;simp only[ho'];have hstep:=F.step j o ho;have hput:∀(s:St) (g:G),(s.put o.dst g).σ=s.σ/\(s.put o.dst g).c=s.c:=λs g=>by cases o.dst<;>exact⟨rfl,rfl⟩
  rcases hstep with⟨_,⟨hw,⟨R,U,O,cu,c,b,hst,y,_,_,hB⟩|⟨R,A,b,hst,z⟩⟩|⟨hw,hge,hst,A,b⟩⟩
  .rw[<-hgw] at hw;rw[if_pos (cT m hw)];obtain⟨s1,s2⟩:=I.stoW F ho hr hL b;have hk:(bP inf j).keys=U.map (·.1):=by rw[b];rfl
   have hcu:(bP inf j).cu=cu:=by rw[b];rfl
   refine hB st' (I.n.trans hn.symm) (I.gl.trans hg.symm) (I.p.trans hp.symm) s2 s1 hgev cx a w _ Q ⟨β,m⟩ λk w' r'=>next _ _ k w' r' (λx hx=>?_) (λx hx=>?_) (λhx=>?_) (λhx=>?_)
   .exact fE (by rw[<-hk];exact hx)
   .rw[hst,(hput _ _).1,fY (by rw[<-hk];exact hx),fY (by rw[<-hk];exact hx)]
   .rw[hcu] at hx;rw[hx];rfl
   .rw[hcu] at hx;rw[hx,hst,(hput _ _).2];rfl
  .rw[<-hgw] at hw;rw[if_pos (cT m hw)];have hk:(bP inf j).keys=[]:=by rw[b];rfl
   obtain⟨V,hV,hs⟩:=I.stoR F ho hr hL b;exact z V hV st' (I.n.trans hn.symm) (I.gl.trans hg.symm) hs hgev cx a w _ Q ⟨β,m⟩ λk w' r'=>next st'.σ st'.c k w' r' (λ_ _=>rfl) (λx hx=>by rw[hk] at hx;cases hx) (λ_=>rfl) (λhx=>by rw[b] at hx;cases hx)
  .rw[<-hgw] at hw;rw[if_neg (by rw[cT m hw];simp)];refine⟨λf _=>m.loose.fn f,?_⟩;have hd:∀d,o.dst=some d->d<st'.n:=λd h=>by rw[I.n];exact F.dstn j o d ho h
   have hk:(bP inf j).keys=[]:=by rw[b];rfl
   have hrel:mh P cx (st'.put o.dst (gs j)) (a.put o.dst undef) w:=⟨β,by rw[hge];exact m.put o.dst hd (.imm _ _ (.lit _))⟩;exact next st'.σ st'.c _ w hrel (λ_ _=>rfl) (λx hx=>by rw[hk] at hx;cases hx) (λ_=>rfl) (λhx=>by rw[b] at hx;cases hx)
theorem pX{id:Nat}{Q:Exit->St->Prop}(hm:P.follows .mixedOrders=true)(hok:kL l inf st.n=true)(h:PQ P l.toArray (Q .normal) l inf st):Tr P (.region id l.toArray true) st Q:=λcx a w R ⟨β,r⟩ k=>by
 obtain⟨sts,gs,h0,d,hs⟩:=yM l inf st h;have F:=Dm hok h0 hs;refine wpIn_region_any hm ?_;have hr:RelB P cx st a {w with drawn:=w.drawn+1} β:=r.world ⟨rfl,rfl,rfl,Nat.le_refl _,λ_ _ _=>rfl,Nat.le_succ _⟩;have hno:∀i,(Array.replicate l.toArray.size false).getD i false=false:=λi=>by
  rw[Array.getD_eq_getD_getElem?];cases hx:(Array.replicate l.toArray.size false)[i]? with
  |none=>rfl
  |some b=>rw[Array.getElem?_replicate] at hx;split at hx<;>cases hx;rfl
 have I:FInv P l inf st sts gs cx (Array.replicate l.toArray.size false) a {w with drawn:=w.drawn+1} st:={
  size:=aC
  closed:=λj o hj=>by rw[hno] at hj;cases hj
  rel:=⟨β,hr⟩
  n:=rfl
  gl:=rfl
  σ:=λx m hm hc=>by rw[<-h0];refine(F.sto (a:=0) m (Nat.zero_le _) hm λk _ hk hx=>?_).symm;have:=(hc k aa hx).2 hk;rw[hno] at this;cases this
  c:=λm hm hc=>by
   rw[<-h0];refine(F.stc (a:=0) m (Nat.zero_le _) hm λk _ hk=>?_).symm;cases hx:(bP inf k).cu with
   |false=>rfl
   |true=>have:=(hc k aa hx).2 hk;rw[hno] at this;cases this
  p:=rfl
  f1:=λj t hj=>by rw[hno] at hj;cases hj
  f2:=λ_ _=>rfl}
 exact I.run F (λe w' r'=>k _ _ e w' d r') _ _ _ _ _ aC
end draw
end
section
variable {P:Program}
def FO(P:Program)(t:TypeId)(a:List (Nat×G)):Option G:=
 match ND P t,jj P t with
 |some (n,e),some zs=>match bw P e with
  |some s=>(rx (λi=>some (i*s,s)) (zs.map .lit) a).map .agg
  |none=>none
 |_,_=>none
theorem NO(ho:o.op= .build t parts)(hd:H_d o st.n)(hg:FO P t (parts.toList.map λp=>(p.1,aB st p.2))=some g):GS P o st (st.put o.dst g):=by
 intro cx a w K R ⟨β,h⟩ k;unfold FO at hg;split at hg
 .rename_i n e zs hp hz;obtain⟨i,z,hi,hz',d,h1⟩:=ii hz;have hu:=xM hp;split at hg
  .rename_i s hs;simp only[bw,cn] at hs;obtain⟨l,f,rfl⟩:=hs;simp only[cn] at hg;obtain⟨out,b,rfl⟩:=hg;obtain⟨us,j,hr⟩:=sE (β:=β) (S:=Av cx.S0 β st.σ) (w:=w) (e:=a.eval) (λx=>h.ev x) parts.toList (Rw.lits h1) b;have hb:P.built t ((parts.map λ(p:Nat×Operand)=>(p.1,a.eval p.2)).toList)=some us.toArray:=by unfold Program.built;simp only[hi,hu,hz',f];rw[<-j,<-d];simp
   have hrun:(execOp a.eval o).run P w= .ok (.value (.agg us.toArray)) w:=by unfold execOp;simp[ho,Go.run_build w t _ _ hb]
   refine h.loose.oper (λc hc=>by rw[ho] at hc;cases hc) ?_;unfold Oper.wp;rw[hrun];refine k _ _ ⟨β,h.put o.dst hd (.agg _ _ (by simpa using hr.1) (λi u hu=>?_) (λi g u hg hu=>hr.2.2 i g u hg (by simpa using hu)))⟩;exact hr.2.1 u (bO (by simpa using hu))
  .cases hg
 .cases hg
theorem Km{s:Nat}(ht:P.underlying t=some (.slice e))(hs:bw P e=some s)(a:Option Addr)(n cap:Nat)(k1 k2 k3:IntKind)(L H M:Nat)(h1:L<=H)(h2:H<=M)(h3:M<=cap)(w:World):
  (Instr.sliceAt t (.slice a n cap) (some (.int k1 L)) (some (.int k2 H)) (some (.int k3 M))).run P w= .ok (.slice (if M=L then a else a.map (·.add (L*s))) (H-L) (M-L)) w:=by
 have e1:(Instr.sliceBounds true n cap (some (.int k1 L)) (some (.int k2 H)) (some (.int k3 M))).run P w= .ok (L,H,M) w:=by unfold Instr.sliceBounds;simp[jp (P:=P) (.int k3 (M:Int)) (M:Int) cap .slice3Acap ⟨k3,rfl⟩ aa aa,jp (P:=P) (.int k2 (H:Int)) (H:Int) M .slice3B ⟨k2,rfl⟩ aa aa,jp (P:=P) (.int k1 (L:Int)) (L:Int) H .slice3C ⟨k1,rfl⟩ aa aa]
 unfold Instr.sliceAt
 simp only[Sem.run_bind,run_underlying ht,Result.andThen_ok]
 unfold Instr.slice
 simp only[Sem.run_bind,run_underlying ht,Result.andThen_ok,e1,dG hs]
 rfl
def sJ(P:Program)(t:TypeId)(x lo hi mx:G):Option G:=match x,dp P t,xL lo,xL hi,xL mx with
 | .sl l n,some e,some a,some h,some m=>match bw P e with
  |some s=>if 0<=a/\a<=h/\h<=m/\m<=n then some (.sl ((l.take (h.toNat*s)).drop (a.toNat*s)) (h.toNat-a.toNat)) else none
  |none=>none
 |_,_,_,_,_=>none
theorem En{lo hi mx:Operand}(ho:o.op= .slice t x (some lo) (some hi) (some mx))(hd:H_d o st.n)(hg:sJ P t (aB st x) (aB st lo) (aB st hi) (aB st mx)=some g):GS P o st (st.put o.dst g):=by
 intro cx a w K R ⟨β,h⟩ j;unfold sJ at hg;split at hg
 .rename_i l n e A H M hx he hA k hM;split at hg
  .rename_i s hs;split at hg
   .rename_i hc;cases hg;have ht:=cE he;have d:=h.ev x;rw[hx] at d;obtain⟨ad,cap,us,hv,hn,hm,ha,h1,b⟩:=d.sl_cells;obtain⟨k1,hk1⟩:=ol (h.ev lo) hA;obtain⟨k2,hk2⟩:=ol (h.ev hi) k;obtain⟨k3,f⟩:=ol (h.ev mx) hM;have hrun0:=Km ht hs ad n cap k1 k2 k3 A.toNat H.toNat M.toNat aa aa aa w;have c1:(A.toNat:Int)=A:=aa;have c2:(H.toNat:Int)=H:=aa;have c3:(M.toNat:Int)=M:=aa;rw[c1,c2,c3] at hrun0;have hrun:(execOp a.eval o).run P w= .ok (.value (.slice (if M.toNat=A.toNat then ad else ad.map (·.add (A.toNat*s))) (H.toNat-A.toNat) (M.toNat-A.toNat))) w:=by unfold execOp;simp only[ho,Option.map_some,hv,hk1,hk2,f];simp[hrun0]
    refine h.loose.oper (λc hc=>by rw[ho] at hc;cases hc) ?_;unfold Oper.wp;rw[hrun];refine j _ _ ⟨β,h.put o.dst hd (.imm _ _ (PZ (n:=n) aa aa aa ha h1 b (λi g hg=>?_) (λe=>?_)))⟩
    .rw[List.getElem?_drop,List.getElem?_take] at hg;split at hg
     .exact hg
     .cases hg
    .have:H.toNat=A.toNat:=aa;rw[this];simp
   .cases hg
  .cases hg
 .cases hg
def rF(P:Program)(σ:aQ)(t:TypeId)(g:G):Option (Nat×Ob):=match g with
 | .rsl i o n=>match ag σ i,dp P t with
  |some ob,some e=>match jj P e,bw P e with
   |some zs,some s=>if zs.length=s/\0<n/\0<s/\o+n*s<=ob.l.length/\ob.x.isNone=true then some (i,⟨ob.t,ob.l.take o++(bN zs (n*s)).map .lit++ob.l.drop (o+n*s),none⟩) else none
   |_,_=>none
  |_,_=>none
 |_=>none
theorem Kn{m:Nat}(hz:∀v∈zs,v.oneCell'=true)(hl:0<zs.length):∀v∈bN zs m,v.oneCell'=true:=by intro v hv;simp only[bN,List.mem_map,List.mem_range] at hv;obtain⟨k,hk,rfl⟩:=hv;have hlt:=Nat.mod_lt k hl;rw[List.getD_eq_getElem?_getD,cv hlt];exact hz _ (List.getElem_mem hlt)
theorem FP{z:Value}(a:z.cells.toList=zs)(hl:0<zs.length)(n:Nat):(Builtin.zeroCells z.cells n).toList=bN zs (n*zs.length):=by
 have hsz:z.cells.size=zs.length:=by rw[<-a];simp
 unfold Builtin.zeroCells bN;rw[hsz];apply List.ext_getElem aC;intro j h1 h2;have hlt:=Nat.mod_lt j hl;simp only[Array.getElem_toList,Array.getElem_map,Array.getElem_range,List.getElem_map,List.getElem_range];rw[List.getD_eq_getElem?_getD,cv hlt,getElem!_pos z.cells _ aa];simp only[Option.getD_some,<-a,Array.getElem_toList]
theorem Qp{ob:Ob}(ho:o.op= .call {callee:= .builtin .clear,args:= #[x],argTypes:= #[t]})(hd:H_d o st.n)(hg:rF P st.σ t (aB st x)=some (i,ob)):GS P o st ({st with σ:=(i,some ob)::st.σ}.put o.dst (.tup [])):=by
 intro cx a w K R ⟨β,h⟩ A;unfold rF at hg;split at hg
 .rename_i L k n hx;split at hg
  .rename_i d e hob he;split at hg
   .rename_i zs s hz hs;split at hg
    .rename_i hc;cases hg;have ht:=cE he;obtain⟨M,z,hi,hz',r,h1⟩:=ii hz;obtain⟨v,hn0,hs0,hle,p⟩:=hc;have p:=Option.isNone_iff_eq_none.1 p;have q:=h.ev x;rw[hx] at q;rcases q.rsl_form with⟨_,_,h0⟩|⟨b,C,N,cap,hb,hv,hn,hm,y,hC⟩
     .omega
     rw[y aa] at hv;rcases h.ob i d hob with⟨h1',_⟩|⟨I,O,J,hx',_⟩|⟨I,C',cur,_,g1,g2,B,D,E,F⟩
     .rw[h1'] at hb;cases hb
     .rw[p] at hx';cases hx'
     rw[g1] at hb;cases hb;have hzc:=FP r aa n;rw[v] at hzc;have hgl:(bN zs (n*s)).length=n*s:=by simp[bN]
     have f:=Kn (m:=n*s) h1 aa;have hst:=run_storeCells_at (P:=P) b k d.t (bN zs (n*s)) 0 cur w g2 (by rw[hgl];omega) f;simp only[Nat.add_zero,hgl] at hst;obtain⟨m,rfl⟩:∃m,n=m+1:=⟨n-1,aa⟩;have hzv:(zeroValue e).run P w= .ok z w:=by simp[zeroValue,typeInfo,hi,hz']
     have hrun:(execOp a.eval o).run P w= .ok (.value (.tuple #[])) (w.setRow b (cur.toList.take k++bN zs ((m+1)*s)++cur.toList.drop (k+(m+1)*s)).toArray):=by unfold execOp;simp only[ho,resolve,invoke,builtin,Sem.run_bind,Sem.run_pure,Result.andThen_ok,List.map_toArray,List.map_cons,List.map_nil,Builtin.clear_,hv];simp only[List.getElem?_toArray,List.getElem?_cons_zero,Sem.run_bind,run_underlying ht,Result.andThen_ok,hzv,hzc,hst,Sem.run_pure]
     have hsz:(cur.toList.take k++bN zs ((m+1)*s)++cur.toList.drop (k+(m+1)*s)).toArray.size=cur.size:=by simp[hgl];omega
     have H:=setRow_heap w b cur (cur.toList.take k++bN zs ((m+1)*s)++cur.toList.drop (k+(m+1)*s)).toArray d.t (0,0) g2;have hkeep:Keeps (λx=>x=b) w (w.setRow b (cur.toList.take k++bN zs ((m+1)*s)++cur.toList.drop (k+(m+1)*s)).toArray):=⟨rfl,rfl,rfl,aC,λx _ hx=>setRow_other w b x _ hx,Nat.le_refl _⟩;have hlen:((bN zs ((m+1)*s)).map G.lit).length=(m+1)*s:=by simp[hgl]
     have hw:=h.write (l:=d.l.take k++(bN zs ((m+1)*s)).map .lit++d.l.drop (k+(m+1)*s)) hob g1 hkeep H (by rw[hsz];exact B) D (by rw[hsz];simp[hgl];omega) (λj g hg=>by
      have hg':(d.l.take k++(bN zs ((m+1)*s)).map .lit++d.l.drop (k+((bN zs ((m+1)*s)).map G.lit).length))[j]?=some g:=by rw[hlen];exact hg
      obtain⟨u,hu,h7,h8⟩:=pw (R:=λg u=>u.oneCell'=true/\RV β (Av cx.S0 β st.σ) w g u) (xs:=cur.toList) (xs':=bN zs ((m+1)*s)) (λj g hg=>by
       obtain⟨u,hu,h7,h8⟩:=F j g hg;exact⟨u,by rw[Array.getElem?_toList];exact hu,h7,h8⟩) (λj g hg=>by
       rw[List.getElem?_map,cn] at hg;obtain⟨u,hu,rfl⟩:=hg;exact⟨u,hu,f u (bO hu),.imm _ _ (.lit u)⟩) aC (by simpa using E) (by rw[hlen];omega) j g hg'
      refine⟨u,?_,h7,h8⟩;rw[List.getElem?_toArray];rw[hgl] at hu;exact hu)
     refine h.loose.oper (λc hc=>by rw[ho] at hc;cases hc) ?_;unfold Oper.wp;rw[hrun];exact A _ _ ⟨β,hw.put o.dst hd (.tup _ _ rfl aC)⟩
    .cases hg
   .cases hg
  .cases hg
 .cases hg
def Qq(P:Program)(σ:aQ)(t:TypeId)(a b:G):Option (Nat×Ob×Nat):=match a with
 | .rsl i o n=>match ag σ i,dp P t with
  |some ob,some e=>match bw P e with
   |some s=>match fO σ s b with
    |some (news,m)=>if m=n/\0<n/\0<s/\o+n*s<=ob.l.length/\ob.x.isNone=true then some (i,⟨ob.t,ob.l.take o++news++ob.l.drop (o+n*s),none⟩,n) else none
    |none=>none
   |none=>none
  |_,_=>none
 |_=>none
theorem Tc{ob:Ob}(ho:o.op= .call {callee:= .builtin .copy,args:= #[x,y],argTypes:= #[t,u]})(hd:H_d o st.n)(hg:Qq P st.σ t (aB st x) (aB st y)=some (i,ob,n)):GS P o st ({st with σ:=(i,some ob)::st.σ}.put o.dst (.lit (.int .i64 (n:Int)))):=by
 intro cx a w K R ⟨β,h⟩ L;unfold Qq at hg;split at hg
 .rename_i W k X hx;split at hg
  .rename_i f e hob he;split at hg
   .rename_i s hs;split at hg
    .rename_i p m D;split at hg
     .rename_i hc;cases hg;have ht:=cE he;obtain⟨H,hn0,hs0,hle,B⟩:=hc;subst H;have B:=Option.isNone_iff_eq_none.1 B;have E:=h.ev x;rw[hx] at E;rcases E.rsl_form with⟨_,_,h0⟩|⟨b,C,Y,cap,hb,hv,hn,hm,I,hC⟩
      .omega
      rw[I aa] at hv;obtain⟨A,Z,d,J,hnl,z,r⟩:=xN h (h.ev y) D;have hpos:0<m*s:=Nat.mul_pos hn0 hs0;obtain⟨a0,rfl⟩:∃a0,A=some a0:=by obtain⟨a0,h1,_⟩:=r 0 _ (cv aa);exact⟨a0,h1⟩
      have hsrc:∀j v,d[j]?=some v->w.cell? (a0.add j)=some v:=λj v hj=>by obtain⟨a1,h1,h2⟩:=r j v hj;cases h1;exact h2
      rcases h.ob i f hob with⟨h1',_⟩|⟨U,x',V,hx',_⟩|⟨U,C',cur,_,g1,g2,M,N,O,Q⟩
      .rw[h1'] at hb;cases hb
      .rw[B] at hx';cases hx'
      rw[g1] at hb;cases hb;have hnewsl:p.length=m*s:=by rw[<-z.1,hnl]
      have F:=run_loadCells_list (P:=P) w a0 d hsrc;have hst:=run_storeCells_at (P:=P) b k f.t d 0 cur w g2 (by rw[hnl];omega) z.2.1;rw[hnl] at F;simp only[Nat.add_zero,hnl] at hst;have hsz1:(sizeOf e).run P w= .ok s w:=by
       unfold bw at hs;cases hq:P.info? e with
       |none=>rw[hq] at hs;cases hs
       |some q=>rw[hq] at hs;simp only[Option.map_some,bg] at hs;simp[sizeOf,typeInfo,hq,hs]
      have hmin:Nat.min m m=m:=Nat.min_self m;have hrun:(execOp a.eval o).run P w= .ok (.value (goInt m)) (w.setRow b (cur.toList.take k++d++cur.toList.drop (k+m*s)).toArray):=by unfold execOp;simp only[ho,resolve,invoke,builtin,Sem.run_bind,Sem.run_pure,Result.andThen_ok,List.map_toArray,List.map_cons,List.map_nil,Builtin.copy_,hv,J];simp[run_underlying ht,Builtin.lenOf,Builtin.firstCells,hsz1,F,hst]
      have hsz:(cur.toList.take k++d++cur.toList.drop (k+m*s)).toArray.size=cur.size:=by simp[hnl];omega
      have S:=setRow_heap w b cur (cur.toList.take k++d++cur.toList.drop (k+m*s)).toArray f.t (0,0) g2;have hkeep:Keeps (λx=>x=b) w (w.setRow b (cur.toList.take k++d++cur.toList.drop (k+m*s)).toArray):=⟨rfl,rfl,rfl,aC,λx _ hx=>setRow_other w b x _ hx,Nat.le_refl _⟩;have hw:=h.write (l:=f.l.take k++p++f.l.drop (k+m*s)) hob g1 hkeep S (by rw[hsz];exact M) N (by rw[hsz];simp[hnewsl];omega) (λj g hg=>by
       have hg':(f.l.take k++p++f.l.drop (k+p.length))[j]?=some g:=by rw[hnewsl];exact hg
       obtain⟨u,hu,h7,h8⟩:=pw (R:=λg u=>u.oneCell'=true/\RV β (Av cx.S0 β st.σ) w g u) (xs:=cur.toList) (xs':=d) (λj g hg=>by
        obtain⟨u,hu,h7,h8⟩:=Q j g hg;exact⟨u,by rw[Array.getElem?_toList];exact hu,h7,h8⟩) (λj g hg=>by
        have hlt:=(cr hg).1;have hx:d[j]?=some (d[j]'aa):=cv _;exact⟨_,hx,z.2.1 _ (bO hx),z.2.2 j g _ hg hx⟩) aa (by simpa using O) (by rw[hnewsl];omega) j g hg'
       refine⟨u,?_,h7,h8⟩;rw[List.getElem?_toArray];rw[hnl] at hu;exact hu)
      refine h.loose.oper (λc hc=>by rw[ho] at hc;cases hc) ?_;unfold Oper.wp;rw[hrun];exact L _ _ ⟨β,hw.put o.dst hd (.imm _ _ (.lit _))⟩
     .cases hg
    .cases hg
   .cases hg
  .cases hg
 .cases hg
end
section
variable {P:Program}
theorem th.eqv{o:Oper}{st:St}{S T:St->Prop}(h:th P o st S)(e:∀s,S s->∃s',T s'/\Eqv s s'):th P o st T:=λcx a w K R r k=>h cx a w K R r λs hs b w' r'=>by obtain⟨s',h1,h2⟩:=e s hs;exact k s' h1 b w' (h2.rel r')
theorem GS.eqv{o:Oper}{st s s':St}(h:GS P o st s)(e:Eqv s s'):GS P o st s':=λcx a w K R r k=>h cx a w K R r λb w' r'=>k b w' (e.rel r')
def Po:Fr->Nat->G->Fr
 |[],d,g=>[(d,g)]
 |(e,h)::r,d,g=>bif e.beq d then(d,g)::r else(e,h)::Po r d g
theorem DP:∀(fr:Fr) (d:Nat) (g:G) (i:Nat),aD (Po fr d g) i=if d=i then g else aD fr i
 |[],d,g,i=>by show aD [(d,g)] i=_;rw[aO]
 |(e,h)::r,d,g,i=>by
  unfold Po;by_cases he:e=d
  .subst he;have:Nat.beq e e=true:=Nat.beq_refl e;rw[this];simp only[ax,aO];split<;>rfl
  .have:Nat.beq e d=false:=by
    cases hb:Nat.beq e d with
    |false=>rfl
    |true=>exact absurd (bc hb) he
   rw[this];simp only[aM,aO];rw[DP r d g i];by_cases h1:e=i
   .subst h1;have:¬d=e:=λx=>he x.symm;simp[this]
   .simp[h1]
def jO:aQ->Nat->Option Ob->aQ
 |[],d,g=>[(d,g)]
 |(e,h)::r,d,g=>bif e.beq d then(d,g)::r else(e,h)::jO r d g
theorem lh:∀(σ:aQ) (d:Nat) (g:Option Ob) (i:Nat),ag (jO σ d g) i=if d=i then g else ag σ i
 |[],d,g,i=>by show ag [(d,g)] i=_;rw[am]
 |(e,h)::r,d,g,i=>by
  unfold jO;by_cases he:e=d
  .subst he;have:Nat.beq e e=true:=Nat.beq_refl e;rw[this];simp only[ax,am];split<;>rfl
  .have:Nat.beq e d=false:=by
    cases hb:Nat.beq e d with
    |false=>rfl
    |true=>exact absurd (bc hb) he
   rw[this];simp only[aM,am];rw[lh r d g i];by_cases h1:e=i
   .subst h1;have:¬d=e:=λx=>he x.symm;simp[this]
   .simp[h1]
def St.xput(st:St)(d:Option Tmp)(g:G):St:=match d with
 |some d=>{st with fr:=(d,g)::st.fr}
 |none=>st
theorem oc(e:Eqv st s)(d:Option Tmp)(g:G):Eqv (st.put d g) (s.xput d g):=by
 cases d with
 |none=>exact e
 |some d=>exact⟨e.n,e.gl,λi=>by show aD ((d,g)::s.fr) i=aD ((d,g)::st.fr) i;rw[aO,aO,e.fr],e.σ,e.c,e.p,e.r⟩
def vQ:aQ->Nat->aQ
 |[],_=>[]
 |(e,h)::r,d=>bif e.beq d then vQ r d else(e,h)::vQ r d
theorem li:∀(σ:aQ) (d i:Nat),ag (vQ σ d) i=if d=i then none else ag σ i
 |[],d,i=>by simp[vQ,ag]
 |(e,h)::r,d,i=>by
  unfold vQ;by_cases he:e=d
  .subst he;have:Nat.beq e e=true:=Nat.beq_refl e;rw[this];simp only[ax,am];rw[li r e i];split<;>rfl
  .have:Nat.beq e d=false:=by
    cases hb:Nat.beq e d with
    |false=>rfl
    |true=>exact absurd (bc hb) he
   rw[this];simp only[aM,am];rw[li r d i];by_cases h1:e=i
   .subst h1;have:¬d=e:=λx=>he x.symm;simp[this]
   .simp[h1]
def pj(n:Nat):Option Tmp->Bool
 |some d=>Nat.ble (d+1) n
 |none=>true
theorem eN{n:Nat}(h:pj n d=true):∀x,d=some x->x<n:=λx e=>by subst e;exact cm h
def A5:List G->Option (List UInt8)
 |[]=>some []
 | .lit (.int .u8 n)::r=>if 0<=n/\n<256 then(A5 r).map λl=>UInt8.ofNat n.toNat::l else none
 |_=>none
theorem A6:∀{l:List G} {s:List UInt8},A5 l=some s->l=s.map gY
 |[],s,h=>by simp[A5] at h;subst h;rfl
 |g::r,s,h=>by
  unfold A5 at h;split at h
  .rename_i h0;cases h0
  .rename_i n r' h0;cases h0;split at h
   .rename_i hc;simp only[cn] at h;obtain⟨l,hl,rfl⟩:=h;rw[List.map_cons,<-A6 hl];congr 2;have:(UInt8.ofNat n.toNat).toNat=n.toNat:=by simp;omega
    rw[this];congr 1;omega
   .cases h
  .cases h
def fc{α β:Type}(f:α->Option β):List α->Option (List β)
 |[]=>some []
 |x::r=>match f x with
  |some y=>match fc f r with
   |some l=>some (y::l)
   |none=>none
  |none=>none
theorem jP{α β:Type}{f:α->Option β}:∀{l:List α} {l':List β},fc f l=some l'->l'.length=l.length/\∀(i:Nat) (x:α) (y:β),l[i]?=some x->l'[i]?=some y->f x=some y
 |[],l',h=>by simp[fc] at h;subst h;simp
 |x::r,l',h=>by
  unfold fc at h;split at h
  .rename_i y hy;split at h
   .rename_i l hl;cases h;obtain⟨h1,h2⟩:=jP hl;refine⟨by simp[h1],λi u v hu hv=>?_⟩;cases i with
    |zero=>simp at hu hv;subst hu;subst hv;exact hy
    |succ i=>exact h2 i u v (by simpa using hu) (by simpa using hv)
   .cases h
  .cases h
def kI(P:Program)(σ:aQ):Nat->G->Option G
 |0,_=>none
 |k+1,g=>match g with
  | .lit v=>some (.lit v)
  | .agg l=>(fc (kI P σ k) l).map .agg
  | .tup l=>(fc (kI P σ k) l).map .tup
  | .ptr l o=>some (.ptr l o)
  | .sl l n=>some (.sl l n)
  | .clo fn a b=>match fc (kI P σ k) a,fc (kI P σ k) b with
   |some a',some b'=>some (.clo fn a' b')
   |_,_=>none
  | .ref i o=>match ag σ i with
   |some ob=>(fc (kI P σ k) ob.l).map λl=> .ptr l o
   |none=>none
  | .rsl i o n=>match ag σ i with
   |some ob=>match bw P ob.t with
    |some s=>bif Nat.ble (o+n*s) ob.l.length then(fc (kI P σ k) ((ob.l.drop o).take (n*s))).map λl=> .sl l n else none
    |none=>none
   |none=>none
  |_=>none
theorem A7:∀(k:Nat) (g g':G) (st:St),kI P st.σ k g=some g'->ve P st g g'
 |0,g,g',st,h=>by cases h
 |k+1,g,g',st,h=>by
  have ih:=A7 k;have all:∀{l a:List G},fc (kI P st.σ k) l=some a->a.length=l.length/\∀(i:Nat) (x y:G),l[i]?=some x->a[i]?=some y->ve P st x y:=λh=>
   ⟨(jP h).1,λi x y hx hy=>ih x y st ((jP h).2 i x y hx hy)⟩
  unfold kI at h;split at h
  .cases h;exact jB (mN _)
  .simp only[cn] at h;obtain⟨a,hl,rfl⟩:=h;exact L9 (all hl).1 (all hl).2
  .simp only[cn] at h;obtain⟨a,hl,rfl⟩:=h;exact Ma (all hl).1 (all hl).2
  .cases h;exact jB (Ah _ _)
  .cases h;exact jB (FC _ _)
  .split at h
   .rename_i b c ha hb;cases h;exact SX (all ha).1 (all hb).1 (all ha).2 (all hb).2
   .cases h
  .rename_i i o;split at h
   .rename_i ob ho;simp only[cn] at h;obtain⟨a,hl,rfl⟩:=h;exact Mb ho (Nat.le_of_eq (all hl).1) (all hl).2
   .cases h
  .rename_i i o n;split at h
   .rename_i ob ho;split at h
    .rename_i s hs;cases hb:Nat.ble (o+n*s) ob.l.length with
     |false=>rw[hb] at h;cases h
     |true=>
      rw[hb] at h;simp only[ax,cn] at h;obtain⟨a,hl,rfl⟩:=h;have hle:=cm hb;have hlen:a.length=n*s:=by
       have h1:=(all hl).1;have h2:((ob.l.drop o).take (n*s)).length=n*s:=by rw[List.length_take,List.length_drop];omega
       omega
      refine FD ho hs hle hlen λj x y hx hy=>(all hl).2 j x y ?_ hy;have hlt:=(cr hy).1;rw[List.getElem?_take_of_lt aa,List.getElem?_drop];exact hx
    .cases h
   .cases h
  .cases h
def DQ:Nat->G->Bool
 |0,_=>false
 |k+1,g=>match g with
  | .lit _=>true
  | .agg l=>l.all (DQ k)
  | .tup l=>l.all (DQ k)
  |_=>false
theorem jQ:∀(k:Nat) (g:G),DQ k g=true->zD g/\bB g
 |0,g,h=>by cases h
 |k+1,g,h=>by
  unfold DQ at h;split at h
  .exact⟨lR _,mN _⟩
  .rw[List.all_eq_true] at h;exact⟨HM λg hg=>(jQ k g (h g hg)).1,L6 λg hg=>(jQ k g (h g hg)).2⟩
  .rw[List.all_eq_true] at h;exact⟨HN λg hg=>(jQ k g (h g hg)).1,L7 λg hg=>(jQ k g (h g hg)).2⟩
  .cases h
def iQ(P:Program)(σ:aQ)(s t:TypeId)(g:G):Option G:=match g with
 | .lit (.int k n)=>Qa P s t (.lit (.int k n))
 | .lit (.string b)=>match dp P t with
  |some e=>match xR P e with
   |some .u8=>bif nu P s&&Nat.ble b.data.toList.length 9223372036854775807 then some (Kb b.data.toList) else none
   |_=>none
  |none=>none
 |g=>match dp P s with
  |some e=>match xR P e with
   |some .u8=>match fO σ 1 g with
    |some (l,m)=>match A5 l with
     |some bs=>bif nu P t&&Nat.beq bs.length m then some (.lit (.string ⟨bs.toArray⟩)) else none
     |none=>none
    |none=>none
   |_=>none
  |none=>none
def Hc(P:Program)(σ:aQ)(c:Nat)(t u:TypeId)(a d:G):Option (TypeId×Nat×Nat×List G):=match d with
 | .lit (.string b)=>match dp P t with
  |some e=>match bw P e,(P.info? e).bind (·.zero),(P.info? e).map (·.bytes) with
   |some 1,some (.int .u8 0),some 1=>match xO σ c e 1 a with
    |some (i,n,l)=>bif nu P u&&Nat.ble (n+b.data.toList.length) 140737488355328 then some (e,i,n+b.data.toList.length,l++b.data.toList.map gY) else none
    |none=>none
   |_,_,_=>none
  |none=>none
 |_=>none
theorem Pp(ho:o.op= .call {callee:= .builtin .append,args:= #[x,y],argTypes:= #[t,u]})(hd:H_d o st.n)(h:Hc P st.σ st.c t u (aB st x) (aB st y)=some (e,i,m,l)):
  GS P o st ({st with σ:=(st.c,some ⟨e,l,none⟩)::(i,none)::st.σ,c:=st.c+1}.put o.dst (.rsl st.c 0 m)):=by
 unfold Hc at h
 split at h
 .rename_i b hy
  split at h
  .rename_i e' he
   split at h
   .rename_i h1 h2 h3
    split at h
    .rename_i a n d hx
     cases hc:(nu P u&&Nat.ble (n+b.data.toList.length) 140737488355328) with
     |false=>rw[hc] at h;cases h
     |true=>
      rw[hc] at h
      simp only[bA] at hc
      cases h
      exact Kc (s:=b.data.toList) ho hd he hc.1 h1 h2 h3 hx (by rw[hy]) (cm hc.2)
    .cases h
   .cases h
  .cases h
 .cases h
def dm{α:Type}(n:Nat)(f:Nat->α):α:=match n with
 |0=>f 0
 |m+1=>f (m+1)
theorem bo(n:Nat)(f:Nat->α):dm n f=f n:=by cases n<;>rfl
def Pq{α:Type}(z:Int)(f:Int->α):α:=match z with
 | .ofNat n=>dm n λn=>f (.ofNat n)
 | .negSucc n=>dm n λn=>f (.negSucc n)
theorem Ni(z:Int)(f:Int->α):Pq z f=f z:=by
 cases z with
 |ofNat n=>exact bo n λn=>f (.ofNat n)
 |negSucc n=>exact bo n λn=>f (.negSucc n)
def nI(k:IntKind)(z:Int):Option G:=some (.lit (.int k z))
def nB(b:Bool):Option G:=some (.lit (.bool b))
theorem X0(k:IntKind)(z:Int):nI k z=some (.lit (.int k z)):=rfl
theorem X1(b:Bool):nB b=some (.lit (.bool b)):=rfl
def lD(c:BinOp)(d e:G):Option G:=match d with
 | .lit (.int k a)=>match e with
  | .lit (.int k' b)=>if k=k' then(match c with
   | .add=>nI k (k.wrap (a+b))
   | .sub=>nI k (k.wrap (a-b))
   | .mul=>nI k (k.wrap (a*b))
   | .lss=>nB (decide (a<b))
   | .leq=>nB (decide (a<=b))
   | .gtr=>nB (decide (b<a))
   | .geq=>nB (decide (b<=a))
   | .eql=>nB (decide (a=b))
   | .neq=>nB (decide (a≠b))
   | .quo=>if b=0 then none else nI k (k.wrap (a.tdiv b))
   | .rem=>if b=0 then none else nI k (a.tmod b)
   |_=>none) else none
  |_=>none
 |_=>none
theorem jo{op:BinOp}(h:lD op gx gy=some g):b8 P op t x y gx gy=some g:=by
 unfold lD at h;simp only[X0,X1] at h;split at h
 .rename_i k a;split at h
  .rename_i k' b;split at h
   .rename_i hk;subst hk;cases op with
    |add=>rw[VM];exact h
    |sub=>rw[VN];exact h
    |mul=>rw[VO];exact h
    |lss=>rw[VP];exact h
    |leq=>rw[VQ];exact h
    |gtr=>rw[VR];exact h
    |geq=>rw[VS];exact h
    |eql=>rw[VT];exact h
    |neq=>rw[VU];exact h
    |quo=>
     simp only at h;split at h
     .cases h
     .rename_i hb;rw[VV hb];exact h
    |rem=>
     simp only at h;split at h
     .cases h
     .rename_i hb;rw[VW hb];exact h
    |_=>cases h
   .cases h
  .cases h
 .cases h
def A8(a b:Nat):Nat:=bif Nat.ble a b then b else a
def mj(a b:Nat):Nat:=bif Nat.ble a b then a else b
theorem xz(a b:Nat):a<=A8 a b:=by
 unfold A8;cases h:Nat.ble a b with
 |true=>exact cm h
 |false=>exact Nat.le_refl _
theorem xA(a b:Nat):b<=A8 a b:=by
 unfold A8;cases h:Nat.ble a b with
 |true=>exact Nat.le_refl _
 |false=>
  have:¬a<=b:=λx=>by rw[Nat.ble_eq_true_of_le x] at h;cases h
  simp only[aM];omega
theorem pm(a b:Nat):mj a b<=a:=by
 unfold mj;cases h:Nat.ble a b with
 |true=>exact Nat.le_refl _
 |false=>
  have:¬a<=b:=λx=>by rw[Nat.ble_eq_true_of_le x] at h;cases h
  simp only[aM];omega
theorem q8(a b:Nat):mj a b<=b:=by
 unfold mj;cases h:Nat.ble a b with
 |true=>exact cm h
 |false=>exact Nat.le_refl _
def A9(f:G->Nat):List G->Nat
 |[]=>0
 |x::r=>A8 (f x) (A9 f r)
theorem Ba{f:G->Nat}{x:G}:∀{l:List G},x∈l->f x<=A9 f l
 |y::r,h=>by
  rcases List.mem_cons.1 h with rfl|h
  .exact xz _ _
  .exact Nat.le_trans (Ba h) (xA _ _)
def JJ(σ:aQ):Nat->G->Nat
 |0,_=>0
 |k+1,g=>match g with
  | .agg l=>A9 (JJ σ k) l
  | .tup l=>A9 (JJ σ k) l
  | .clo _ a b=>A8 (A9 (JJ σ k) a) (A9 (JJ σ k) b)
  | .ref i _=>match ag σ i with
   |some ob=>A8 (i+1) (A9 (JJ σ k) ob.l)
   |none=>i+1
  | .rsl i _ _=>match ag σ i with
   |some ob=>A8 (i+1) (A9 (JJ σ k) ob.l)
   |none=>i+1
  |_=>0
theorem iR{α β:Type}{f g:α->Option β}:∀{l:List α},(∀x∈l,f x=g x)->fc f l=fc g l
 |[],_=>rfl
 |x::r,h=>by unfold fc;rw[h x aC,iR λy hy=>h y (by simp[hy])]
theorem Bb{σ σ':aQ}:∀(k:Nat) (g:G),(∀i,i<JJ σ k g->ag σ' i=ag σ i)->kI P σ' k g=kI P σ k g
 |0,g,_=>rfl
 |k+1,g,h=>by
  have ih:=Bb (σ:=σ) (σ':=σ') k;have all:∀{l:List G},(∀i,i<A9 (JJ σ k) l->ag σ' i=ag σ i)->∀{m:List G},(∀x∈m,x∈l)->fc (kI P σ' k) m=fc (kI P σ k) m:=λh m hm=>iR λx hx=>ih x λi hi=>h i (Nat.lt_of_lt_of_le hi (Ba (hm x hx)));unfold kI;cases g with
  |agg l=>unfold JJ at h;simp only;rw[all h λ_ x=>x]
  |tup l=>unfold JJ at h;simp only;rw[all h λ_ x=>x]
  |clo fn a b=>unfold JJ at h;simp only;rw[all (l:=a) (λi hi=>h i (Nat.lt_of_lt_of_le hi (xz _ _))) λ_ x=>x,all (l:=b) (λi hi=>h i (Nat.lt_of_lt_of_le hi (xA _ _))) λ_ x=>x]
  |ref i o=>
   unfold JJ at h;simp only at h⊢;cases ho:ag σ i with
   |none=>rw[ho] at h;rw[h i aC,ho]
   |some ob=>rw[ho] at h;simp only at h;rw[h i (Nat.lt_of_lt_of_le (Nat.lt_succ_self i) (xz _ _)),ho];simp only;rw[all (l:=ob.l) (λj hj=>h j (Nat.lt_of_lt_of_le hj (xA _ _))) λ_ x=>x]
  |rsl i o n=>
   unfold JJ at h;simp only at h⊢;cases ho:ag σ i with
   |none=>rw[ho] at h;rw[h i aC,ho]
   |some ob=>
    rw[ho] at h;simp only at h;rw[h i (Nat.lt_of_lt_of_le (Nat.lt_succ_self i) (xz _ _)),ho];simp only;cases hs:bw P ob.t with
    |none=>rfl
    |some s=>simp only;rw[all (l:=ob.l) (λj hj=>h j (Nat.lt_of_lt_of_le hj (xA _ _))) (m:=(ob.l.drop o).take (n*s)) λx hx=>List.mem_of_mem_drop (List.mem_of_mem_take hx)]
  |_=>rfl
abbrev pW:=FuncId->List G->List (Nat×List G)->Option G
def dD(P:Program)(a:pW):Prop:=∀fid gs gl r,a fid gs gl=some r->ba P gl fid gs r/\zD r/\aK P fid=true
abbrev bR:=Code->St->Nat->Option (List (Exit×St×Nat))
structure Sm (st s:St):Prop where
 n:s.n=st.n
 gl:s.gl=st.gl
 σ:s.σ=st.σ
 c:s.c=st.c
 p:s.p=st.p
 r:s.r=st.r
 fr:∀i,aD s.fr i=aD st.fr i
theorem Sm.refl(st:St):Sm st st:=⟨rfl,rfl,rfl,rfl,rfl,rfl,λ_=>rfl⟩
theorem Sm.eqv{st s:St}(e:Sm st s):Eqv st s:=⟨e.n,e.gl,e.fr,λi=>by rw[e.σ],e.c,e.p,e.r⟩
def pn(l:List (Exit×St×Nat))(e:Exit)(s:St):Prop:=∃q∈l,e=q.1/\Eqv s q.2.1
structure RunOk (P:Program) (run:bR):Prop where
 tr:∀c s low l,run c s low=some l->Tr P c s (pn l)
 inv:∀c s low l,run c s low=some l->∀q∈l,q.2.1.gl=s.gl/\q.2.2<=low/\∀i,i<q.2.2->ag q.2.1.σ i=ag s.σ i
structure XEnv where
 pf:FuncId->Bool
 tp:pW
 kc:FuncId->List G->List (Nat×List G)->aQ->Nat->Option (List (G×aQ×Nat×Nat)):=λ_ _ _ _ _=>none
 fv:Bool:=true
 kcF:FuncId->List G->List (Nat×List G)->List Nat->aQ->Nat->Option (G×aQ×List Nat×Bool×Nat):=λ_ _ _ _ _ _=>none
 pc:Operand->Array Operand->Array TypeId->Bool:=λ_ _ _=>false
theorem Eqv.le{a b:St}(h:Eqv a b):Le P a b:=λcx x w r=>h.rel r
theorem Tr.eqv{c:Code}{st:St}{Q:Exit->St->Prop}(h:Tr P c st (λe s=>∃s',Eqv s s'/\Q e s')):Tr P c st Q:=λcx a w R r k=>h cx a w R r λe s b w' ⟨s',h1,h2⟩ r'=>k e s' b w' h2 (h1.rel r')
def Hd:Nat:=1000000000000
def gZ{α β:Type}(f:α->Option (List β)):List α->Option (List β)
 |[]=>some []
 |[x]=>f x
 |x::r=>match f x with
  |some l=>match gZ f r with
   |some m=>some (l++m)
   |none=>none
  |none=>none
theorem bW{α β:Type}{f:α->Option (List β)}:∀{l:List α} {m:List β},gZ f l=some m->(∀x∈l,∃r,f x=some r/\∀y∈r,y∈m)/\∀y∈m,∃x∈l,∃r,f x=some r/\y∈r
 |[],m,h=>by simp[gZ] at h;subst h;simp
 |[x],m,h=>by simp only[gZ] at h;exact⟨λy hy=>by obtain rfl:=List.mem_singleton.1 hy;exact⟨m,h,λ_ z=>z⟩,λy hy=>⟨x,aC,m,h,hy⟩⟩
 |x::x'::r,m,h=>by
  unfold gZ at h;split at h
  .rename_i l hl;split at h
   .rename_i c hm;cases h;obtain⟨h1,h2⟩:=bW hm;refine⟨λy hy=>?_,λy hy=>?_⟩
    .rcases List.mem_cons.1 hy with rfl|hy
     .exact⟨l,hl,λz hz=>List.mem_append_left _ hz⟩
     .obtain⟨q,hq,a⟩:=h1 y hy;exact⟨q,hq,λz hz=>List.mem_append_right _ (a z hz)⟩
    .rcases List.mem_append.1 hy with hy|hy
     .exact⟨x,aC,l,hl,hy⟩
     .obtain⟨z,hz,q,hq,b⟩:=h2 y hy;exact⟨z,by simp[hz],q,hq,b⟩
   .cases h
  .cases h
def tc:Exit->Bool
 | .normal| .ret=>true
 |_=>false
theorem eO{e:Exit}(h:tc e=true):e= .normal\/e= .ret:=by cases e<;>simp[tc] at h<;>simp
def vR(P:Program)(s:St):List ResultVar->Option (List G)
 |[]=>some []
 |r::rs=>match jV P s r,vR P s rs with
  |some g,some gs=>some (g::gs)
  |_,_=>none
theorem gh{s:St}:∀{rs:List ResultVar} {gs:List G},vR P s rs=some gs->rs.mapM (jV P s)=some gs
 |[],gs,h=>by simp[vR] at h;subst h;rfl
 |r::rs,gs,h=>by
  simp only[vR] at h;split at h
  .rename_i g a h1 h2;cases h;simp[List.mapM_cons,h1,gh h2]
  .cases h
theorem Eqv.gev{st s:St}(e:Eqv st s):aB s=aB st:=by
 funext x;cases x with
 |tmp t=>exact e.fr t
 |const v=>rfl
 |global g=>simp only[aB,e.gl]
 |func f=>rfl
theorem Nj{σ σ':aQ}(h:∀i,ag σ' i=ag σ i)(t:TypeId)(g:G):jU P σ' t g=jU P σ t g:=by
 unfold jU;split
 .rw[h]
 .rfl
 .rfl
theorem Eqv.res{st s:St}(e:Eqv st s):jV P s=jV P st:=by
 funext r;cases r with
 |tmp t=>simp only[jV,e.fr]
 |cell a t=>simp only[jV,e.fr];exact Nj e.σ t _
def lE(E:XEnv):Op->Bool
 | .buildSlice .. | .box .. | .alloc .. | .store .. | .makeSlice .. | .makeMap .. | .mapUpdate .. | .insert .. | .mapEntry .. | .entryStore .. | .range .. | .next .. =>false
 | .call {callee:= .value (.func fid),.. }=>E.pf fid
 | .call {callee:= .value x,args:=xs,argTypes:=ts}=>E.pc x xs ts
 | .call {callee:= .builtin .append,.. }| .call {callee:= .builtin .delete,.. }| .call {callee:= .builtin .clear,.. }| .call {callee:= .builtin .copy,.. }=>false
 |_=>true
def Bc(P:Program)(E:XEnv)(run:bR):pW:=λfid gs gl=>match E.tp fid gs gl with
 |some r=>some r
 |none=>match P.funcs[fid]? with
  |some fn=>match fn.body with
   |some body=>bif aK P fid&&Nat.ble gs.length fn.ntmps then
     match run body (St.enter fn gl gs) Hd with
     |some [(e,s,_)]=>match tc e,vR P s fn.results.toList with
      |true,some gs'=>bif DQ 20 (iU gs') then some (iU gs') else none
      |_,_=>none
     |_=>none
    else none
   |none=>none
  |none=>none
theorem He{e:Exit}{e':Exit}{s':St}(h:pn [(e,s,lo)] e' s'):e'=e/\Eqv s' s:=by obtain⟨q,hq,h1,h2⟩:=h;obtain rfl:=List.mem_singleton.1 hq;exact⟨h1,h2⟩
theorem xB{E:XEnv}{run:bR}(hr:RunOk P run)(ht:dD P E.tp):dD P (Bc P E run):=by
 intro fid gs gl r h;unfold Bc at h;split at h
 .rename_i r' b;cases h;exact ht fid gs gl _ b
 .split at h
  .rename_i fn c;split at h
   .rename_i body hb;cases hcond:(aK P fid&&Nat.ble gs.length fn.ntmps) with
    |false=>rw[hcond] at h;cases h
    |true=>
     rw[hcond] at h;simp only[bA] at hcond;simp only[ax] at h;split at h
     .rename_i e s lo hc;split at h
      .rename_i a h1 h2;cases hfl:DQ 20 (iU a) with
       |false=>rw[hfl] at h;cases h
       |true=>rw[hfl] at h;cases h;obtain⟨f1,f2⟩:=jQ 20 _ hfl;refine⟨HL c hb (cm hcond.2) ?_,f1,hcond.1⟩;refine(hr.tr _ _ _ _ hc).mono λe' s' hp=>?_;obtain⟨rfl,he⟩:=He hp;unfold tH;exact⟨eO h1,a,by rw[<-he.res];exact gh h2,jB f2⟩
      .cases h
     .cases h
   .cases h
  .cases h
def iE(P:Program)(E:XEnv)(run:bR)(o:Oper)(st:St):Option G:=
 match o.op with
 | .build t parts=>match uH P t (parts.toList.map λq=>(q.1,aB st q.2)) with
  |some g=>some g
  |none=>FO P t (parts.toList.map λq=>(q.1,aB st q.2))
 | .slice t x (some lo) (some hi) (some mx)=>sJ P t (aB st x) (aB st lo) (aB st hi) (aB st mx)
 | .call {callee:= .value x,args:=xs,argTypes:=_}=>match aB st x with
  | .clo (.func fid) fst cap=>match fc (kI P st.σ 30) (fst++xs.toList.map (aB st)++cap) with
   |some gs=>Bc P E run fid gs st.gl
   |none=>none
  |_=>none
 | .convert s t x=>iQ P st.σ s t (aB st x)
 | .call {callee:= .builtin .min,args:=⟨[x,y]⟩,argTypes:=_}=>Qb (aB st x) (aB st y)
 | .call {callee:= .builtin .max,args:=⟨[x,y]⟩,argTypes:=_}=>Qc (aB st x) (aB st y)
 | .call {callee:= .builtin .len,args:=⟨[x]⟩,argTypes:=⟨[t]⟩}=>match ou P st.σ t (aB st x) with
  |some g=>some g
  |none=>aX P (aB st) st.σ o
 | .binOp op t x y _=>match lD op (aB st x) (aB st y) with
  |some g=>some g
  |none=>match FL P op t (aB st x) (aB st y) with
   |some g=>some g
   |none=>aX P (aB st) st.σ o
 | .lookup t x y ok=>bL P st.σ t ok (aB st x) (aB st y)
 | .entry x=>jr st.σ (aB st x)
 |_=>aX P (aB st) st.σ o
theorem Bd{s:TypeId}(ho:o.op= .convert s t x)(hd:H_d o st.n)(h:iQ P st.σ s t (aB st x)=some g):GS P o st (st.put o.dst g):=by
 obtain⟨a,c,ty,d,i,j⟩:=o;obtain rfl:c= .convert s t x:=ho;unfold iQ at h;split at h
 .rename_i k n hg;exact fM hd (Qe (by rw[hg];exact h))
 .rename_i b hg;split at h
  .rename_i e he;split at h
   .rename_i hi;cases hc:(nu P s&&Nat.ble b.data.toList.length 9223372036854775807) with
    |false=>rw[hc] at h;cases h
    |true=>rw[hc] at h;simp only[bA] at hc;cases h;exact Kd (s:=b.data.toList) rfl hd hc.1 he hi (by rw[hg]) (cm hc.2)
   .cases h
  .cases h
 .split at h
  .rename_i e he;split at h
   .rename_i hi;split at h
    .rename_i l m hv;split at h
     .rename_i f hy;cases hc:(nu P t&&Nat.beq f.length m) with
      |false=>rw[hc] at h;cases h
      |true=>rw[hc] at h;simp only[bA] at hc;cases h;have hm:=bc hc.2;exact HT rfl hd he hi hc.1 (by rw[hv,A6 hy,hm])
     .cases h
    .cases h
   .cases h
  .cases h
theorem mD{E:XEnv}{run:bR}(hr:RunOk P run)(ht:dD P E.tp)(hd:H_d o st.n)(h:iE P E run o st=some g):GS P o st (st.put o.dst g):=by
 obtain⟨b,c,ty,d,e,f⟩:=o;unfold iE at h;dsimp only at h;split at h
 .split at h
  .rename_i a hg;cases h;exact BO rfl hd hg
  .exact NO rfl hd h
 .exact En rfl hd h
 .split at h
  .rename_i fid fst cap hx;split at h
   .rename_i gs hz;obtain⟨h1,h2,h3⟩:=xB hr ht _ _ _ _ h;refine Ai (gs:=gs) rfl hd hx h3 (jP hz).1 (λi g a hg hg'=>?_) h1 h2;exact A7 30 g a st ((jP hz).2 i g a hg hg')
   .cases h
  .cases h
 .exact Bd rfl hd h
 .exact fM hd (S4 h)
 .exact fM hd (S5 h)
 .split at h
  .rename_i a hg;cases h;exact Ta rfl hd hg
  .exact fM hd h
 .rename_i c t x y j;split at h
  .rename_i a hg;cases h;exact fM hd (by rw[rA];exact jo hg)
  split at h
  .rename_i a hg;cases h;exact NL rfl hd hg
  .exact fM hd h
 .exact xS rfl hd h
 .exact H3 rfl hd h
 .exact fM hd h
def q9:G->Nat
 | .ref i _=>i+1
 | .rsl i _ _=>i+1
 | .mref i=>i+1
 |_=>0
def yJ(st:St)(o:Oper):Nat:=match o.op with
 | .load _ x=>q9 (aB st x)
 | .lookup _ x _ _=>q9 (aB st x)
 | .entry x=>match gR st.σ (aB st x) with
  |some (_,_,some j,_,_,_)=>A8 (j+1) (q9 (aB st x))
  |_=>q9 (aB st x)
 | .convert _ _ x=>q9 (aB st x)
 | .call {callee:= .builtin .len,args:=⟨[x]⟩,argTypes:=_}=>q9 (aB st x)
 | .call {callee:= .value x,args:=xs,argTypes:=_}=>match aB st x with
  | .clo (.func _) fst cap=>A9 (JJ st.σ 30) (fst++xs.toList.map (aB st)++cap)
  |_=>0
 |_=>0
theorem Hf{σ σ':aQ}(h:∀i,i<q9 g->ag σ' i=ag σ i):jU P σ' t g=jU P σ t g:=by
 unfold jU;split
 .rw[h _ (Nat.lt_succ_self _)]
 .rfl
 .rfl
theorem uw{σ σ':aQ}(h:∀i,i<q9 g->ag σ' i=ag σ i):gn σ' g=gn σ g:=by
 unfold gn;split
 .rw[h _ (Nat.lt_succ_self _)]
 .rfl
theorem Hg{σ σ':aQ}{s:Nat}(h:∀i,i<q9 g->ag σ' i=ag σ i):fO σ' s g=fO σ s g:=by
 cases g with
 |rsl j o m=>show(ag σ' j).bind _=(ag σ j).bind _;rw[h _ (Nat.lt_succ_self _)]
 |lit v=>unfold fO;split<;>first|rfl|simp_all
 |_=>rfl
theorem Hh{σ σ':aQ}(h:∀i,i<q9 g->ag σ' i=ag σ i):gR σ' g=gR σ g:=by
 unfold gR;split
 .rw[h _ (Nat.lt_succ_self _)]
 .rfl
theorem Hi{σ σ':aQ}(h:∀i,i<q9 g->ag σ' i=ag σ i):ou P σ' t g=ou P σ t g:=by
 have e:=uw h;unfold ou;split
 .split
  .rfl
  .rfl
  .rw[e]
 .rfl
theorem Dk{σ σ':aQ}{k:G}(h:∀i,i<q9 g->ag σ' i=ag σ i):bL P σ' t ok g k=bL P σ t ok g k:=by
 have e:=uw h;unfold bL;split
 .split
  .rfl
  .rfl
  .rw[e]
 .rfl
theorem Hj{ρ:Operand->G}{σ σ':aQ}(h:∀t x,o.op= .load t x->∀i,i<q9 (ρ x)->ag σ' i=ag σ i):aX P ρ σ' o=aX P ρ σ o:=by
 obtain⟨d,e,ty,f,g,j⟩:=o;unfold aX;cases e with
 |slice t x lo hi mx=>cases mx<;>rfl
 |call c=>
  obtain⟨a,args,ats⟩:=c;cases a with
  |builtin b=>cases b<;>rfl
  |value x=>rfl
  |invoke r m=>rfl
 |load t x=>exact Hf (h t x rfl)
 |_=>rfl
theorem Ac(h:∀x∈parts.map (·.2),aB st' x=aB st x):(parts.toList.map λq=>(q.1,aB st' q.2))=parts.toList.map λq=>(q.1,aB st q.2):=
 List.map_congr_left λq hq=>by rw[h q.2 (Array.mem_map.2 ⟨q,by simpa using hq,rfl⟩)]
theorem Ad(h:∀x∈xs,aB st' x=aB st x):xs.toList.map (aB st')=xs.toList.map (aB st):=
 List.map_congr_left λx hx=>h x (by simpa using hx)
theorem Be{E:XEnv}{run:bR}(hgl:st'.gl=st.gl)(a:∀i,i<yJ st o->ag st'.σ i=ag st.σ i)(hx:∀x∈o.op.operands,aB st' x=aB st x):iE P E run o st'=iE P E run o st:=by
 have hev:(∀t x,o.op= .load t x->∀i,i<q9 (aB st x)->ag st'.σ i=ag st.σ i)->aX P (aB st') st'.σ o=aX P (aB st) st.σ o:=λh=>by rw[jW hx,Hj h]
 obtain⟨b,e,ty,c,l,m⟩:=o;unfold iE;dsimp only;split
 .rename_i t d;rw[Ac (λx hx'=>hx x (by simpa[Op.operands] using hx'))]
 .rename_i t x lo hi mx;rw[hx x fK,hx lo fK,hx hi fK,hx mx fK]
 .rename_i x xs ats;have e1:aB st' x=aB st x:=hx x zG;rw[e1];split
  .rename_i fid fst cap hg;rw[Ad (λy hy=>hx y (by simp[Op.operands,Call.operands,hy])),hgl];have hf:yJ st ⟨b,.call {callee:= .value x,args:=xs,argTypes:=ats},ty,c,l,m⟩=A9 (JJ st.σ 30) (fst++xs.toList.map (aB st)++cap):=by unfold yJ;simp only[hg]
   rw[hf] at a;rw[iR (f:=kI P st'.σ 30) (g:=kI P st.σ 30) λy hy=>Bb 30 y λi hi=>a i (Nat.lt_of_lt_of_le hi (Ba hy))]
  .rfl
 .rename_i s t x;have e1:aB st' x=aB st x:=hx x fK;rw[e1];have hσ':∀i,i<q9 (aB st x)->ag st'.σ i=ag st.σ i:=a;unfold iQ;split
  .rfl
  .rfl
  .rw[Hg hσ']
 .rename_i x y ats;rw[hx x zG,hx y zG]
 .rename_i x y ats;rw[hx x zG,hx y zG]
 .rename_i x t;have e1:aB st' x=aB st x:=hx x zG;have hσ':∀i,i<q9 (aB st x)->ag st'.σ i=ag st.σ i:=a;rw[e1,hev (λ_ _ h=>by cases h)];rw[Hi hσ']
 .rename_i e t x y n;rw[hx x fK,hx y fK,hev (λ_ _ h=>by cases h)]
 .rename_i t x y ok;have hσ':∀i,i<q9 (aB st x)->ag st'.σ i=ag st.σ i:=a;rw[hx x fK,hx y fK];rw[Dk hσ']
 .rename_i x;have e1:aB st' x=aB st x:=hx x fK;rw[e1];have hi:gR st'.σ (aB st x)=gR st.σ (aB st x):=Hh λi hi=>a i (by
   unfold yJ;simp only;split
   .exact Nat.lt_of_lt_of_le hi (xA _ _)
   .exact hi)
  unfold jr;rw[hi];split
  .rename_i i t j since seen last hg;have hm:gn st'.σ (.mref j)=gn st.σ (.mref j):=uw λk hk=>a k (by unfold yJ;simp only[hg];exact Nat.lt_of_lt_of_le hk (xz _ _))
   rw[hm]
  .rfl
 .rename_i h1 h2 h3 h4 h5 h6 h7 h8 h9;refine hev λt x ht i hi=>?_;have ht':e= .load t x:=ht;subst ht';exact a i hi
def ZP(ob:Ob):List G:=match ob.x with
 |none=>ob.l
 |some (.map es _)=>es.map (·.2.1)
 |some (.iter (some j) _ _ _)=>[.mref j]
 |some (.iter none _ _ _)=>[]
 |some (.loop _ _ _ fr _ _ _)=>fr.map (·.2)
 |some .resv=>[]
def eV(σ:aQ)(c0:Nat):Nat->List G->List Nat->List Nat
 |0,_,m=>m
 |_+1,[],m=>m
 |k+1,g::r,m=>match g with
  | .agg l=>eV σ c0 k (l++r) m
  | .tup l=>eV σ c0 k (l++r) m
  | .clo _ a b=>eV σ c0 k (a++(b++r)) m
  | .ifc _ g=>eV σ c0 k (g::r) m
  | .ref i _=>bif Nat.ble c0 i&& !(m.any (Nat.beq i)) then(match ag σ i with|some ob=>eV σ c0 k (ZP ob++r) (i::m)|none=>eV σ c0 k r m) else eV σ c0 k r m
  | .rsl i _ _=>bif Nat.ble c0 i&& !(m.any (Nat.beq i)) then(match ag σ i with|some ob=>eV σ c0 k (ZP ob++r) (i::m)|none=>eV σ c0 k r m) else eV σ c0 k r m
  | .mref i=>bif Nat.ble c0 i&& !(m.any (Nat.beq i)) then(match ag σ i with|some ob=>eV σ c0 k (ZP ob++r) (i::m)|none=>eV σ c0 k r m) else eV σ c0 k r m
  | .yld i=>bif Nat.ble c0 i&& !(m.any (Nat.beq i)) then(match ag σ i with|some ob=>eV σ c0 k (ZP ob++r) (i::m)|none=>eV σ c0 k r m) else eV σ c0 k r m
  |_=>eV σ c0 k r m
def DR(σ σ0:aQ):List Nat->aQ
 |[]=>σ0
 |i::r=>(i,ag σ i)::DR σ σ0 r
def Xh(c0:Nat)(g:G)(σ0 σ:aQ)(low:Nat):aQ:=bif Nat.ble c0 low then DR σ σ0 (eV σ c0 1000000 [g] []) else σ
theorem po{σ σ0:aQ}:∀(m:List Nat) (i:Nat),ag (DR σ σ0 m) i=ag σ i\/ag (DR σ σ0 m) i=ag σ0 i
 |[],i=> .inr rfl
 |j::r,i=>by
  unfold DR;rw[am];split
  .subst_vars;exact .inl rfl
  .exact po r i
theorem SE{c0:Nat}{σ0 σ:aQ}(h:∀i,i<low->ag σ i=ag σ0 i):∀i,i<low->ag (Xh c0 g σ0 σ low) i=ag σ0 i:=λi hi=>by
 unfold Xh;cases Nat.ble c0 low with
 |false=>exact h i hi
 |true=>
  rcases po (σ:=σ) (σ0:=σ0) (eV σ c0 1000000 [g] []) i with e|e
  .exact e.trans (h i hi)
  .exact e
theorem SF{c0:Nat}{σ0 σ:aQ}(h:∀i,i<low->ag σ i=ag σ0 i)(hb:∀i o,ag σ0 i=some o->i<c0):∀i o,ag (Xh c0 g σ0 σ low) i=some o->ag σ i=some o:=λi o ho=>by
 unfold Xh at ho;cases hc:Nat.ble c0 low with
 |false=>rw[hc] at ho;exact ho
 |true=>
  rw[hc] at ho;rcases po (σ:=σ) (σ0:=σ0) (eV σ c0 1000000 [g] []) i with e|e
  .rw[<-e];exact ho
  .have h0:ag σ0 i=some o:=by rw[<-e];exact ho
   rw[h i (Nat.lt_of_lt_of_le (hb i o h0) (cm hc))];exact h0
structure Sub (st st':St):Prop where
 n:st'.n=st.n
 gl:st'.gl=st.gl
 fr:∀i,aD st'.fr i=aD st.fr i
 σ:∀i o,ag st'.σ i=some o->ag st.σ i=some o
 c:st'.c=st.c
 p:st'.p=st.p
 r:st'.r=st.r
theorem Sub.rel{st st':St}(e:Sub st st'){cx:Cx}{a:Act}{w:World}(h:mh P cx st a w):mh P cx st' a w:=by
 obtain⟨β,h⟩:=h;have hS:∀d,d<w.heap.size->Av cx.S0 β st'.σ d->Av cx.S0 β st.σ d:=by
  rintro d _ (hx|⟨i,o,D,ho,hx⟩)
  .exact .inl hx
  .exact .inr ⟨i,o,D,e.σ i o ho,hx⟩
 refine⟨β,?_⟩;exact{
  size:=by rw[e.n];exact h.size
  defers:=h.defers
  loose:=h.loose
  rnd:=by rw[e.r];exact h.rnd
  fr:=λi=>by rw[e.fr];exact(h.fr i).step (λ_ _ x=>x) hS (Keeps.refl _ _)
  ob:=λi o ho=>(h.ob i o (e.σ i o ho)).step (λ_ _ x=>x) hS (Keeps.refl _ _) (λ_ _ _=>rfl)
  inj:=λi j o f b C D h1 h2=>h.inj i j o f b C D (e.σ i o h1) (e.σ j f h2)
  own:=λi o b C h1=>h.own i o b C (e.σ i o h1)
  sep:=λi o b C h1=>h.sep i o b C (e.σ i o h1)
  fresh:=λi hi=>h.fresh i (by rw[<-e.c];exact hi)
  glob:=λg l hl=>(h.glob g l (by rw[<-e.gl];exact hl)).sub hS
  keep:=h.keep
  old:=h.old
  pin:=λi x hx=>by rw[e.p];exact h.pin i x hx}
theorem th.sub{o:Oper}{st:St}{S T:St->Prop}(h:th P o st S)(e:(∀i o,ag st.σ i=some o->i<st.c)->∀s,S s->∃s',T s'/\Sub s s'):th P o st T:=λcx a w K R r k=>h cx a w K R r λs hs f w' r'=>by
 obtain⟨s',h1,h2⟩:=e (λi ob ho=>by
  obtain⟨β,d⟩:=r;rcases Nat.lt_or_ge i st.c with hlt|hge
  .exact hlt
  .have hf:=d.fresh i hge;rcases(d.ob i ob ho).at with h1|⟨b,C,_,h1,_⟩<;>rw[hf] at h1<;>cases h1) s hs
 exact k s' h1 f w' (h2.rel r')
abbrev XR:=G×aQ×Nat×Nat
def Nk:List XR->List XR
 |[]=>[]
 |x::r=>(λm=>bif m.any (PC 16 x) then m else x::m) (Nk r)
def Fl(l:List XR):List XR:=match l with
 |[]=>[]
 |[x]=>[x]
 |l=>Nk l
theorem Hk:∀{l:List XR},(∀x∈Nk l,x∈l)/\∀x∈l,x∈Nk l
 |[]=>⟨λx h=>h,λx h=>h⟩
 |x::r=>by
  obtain⟨h1,h2⟩:=Hk (l:=r);unfold Nk;dsimp only;cases hc:(Nk r).any (PC 16 x) with
  |true=>
   refine⟨λy hy=>List.mem_cons_of_mem _ (h1 y hy),λy hy=>?_⟩;rcases List.mem_cons.1 hy with rfl|hy
   .obtain⟨z,hz,e⟩:=List.any_eq_true.1 hc;rw[DZ e];exact hz
   .exact h2 y hy
  |false=>
   refine⟨λy hy=>?_,λy hy=>?_⟩
   .rcases List.mem_cons.1 hy with rfl|hy
    .exact List.mem_cons_self
    .exact List.mem_cons_of_mem _ (h1 y hy)
   .rcases List.mem_cons.1 hy with rfl|hy
    .exact List.mem_cons_self
    .exact List.mem_cons_of_mem _ (h2 y hy)
theorem Bf{l:List XR}:(∀x∈Fl l,x∈l)/\∀x∈l,x∈Fl l:=by
 unfold Fl;split
 .exact⟨λx h=>h,λx h=>h⟩
 .exact⟨λx h=>h,λx h=>h⟩
 .exact Hk
def ra(P:Program)(run:bR)(fid:FuncId)(gs:List G)(gl:List (Nat×List G))(σ:aQ)(c:Nat):Option (List XR):=match P.funcs[fid]? with
 |some fn=>match fn.body with
  |some body=>bif aK P fid&&Nat.ble gs.length fn.ntmps then
    match run body ⟨fn.ntmps,gl,bQ 0 gs,σ,c,c,false⟩ Hd with
    |some l=>(gZ (λq=>match tc q.1,vR P q.2.1 fn.results.toList with
     |true,some gs'=>some [(iU gs',Xh c (iU gs') σ q.2.1.σ q.2.2,q.2.1.c,q.2.2)]
     |_,_=>none) l).map Fl
    |none=>none
   else none
  |none=>none
 |none=>none
def Xi(n:Nat):List Nat->Bool
 |[]=>true
 |p::r=>bif Nat.ble (p+1) n then Xi n r else false
theorem Hl{n:Nat}:∀{l:List Nat},Xi n l=true->∀p∈l,p<n
 |p::r,h,q,hq=>by
  unfold Xi at h;cases hb:Nat.ble (p+1) n with
  |false=>rw[hb] at h;cases h
  |true=>
   rw[hb] at h;rcases List.mem_cons.1 hq with rfl|hq
   .exact cm hb
   .exact Hl h q hq
def vS(P:Program)(run:bR)(i:Nat)(xs:List G)(gl:List (Nat×List G))(σ:aQ)(c:Nat):Option (List XR):=match ag σ i with
 |some ⟨_,[],some (.loop .ready _ n fr ps az9 bd)⟩=>bif Nat.beq xs.length ps.size&&Xi n ps.toList then
   match run az9 ⟨n,gl,xU (ps.toList.zip xs) fr,σ,c,c,true⟩ Hd with
   |some l=>gZ (λq=>match q.1,ag q.2.1.σ i with
    | .normal,some ⟨t',[],some (.loop .ready pe' n' fr' ps' as' bd')⟩=>
     match run bd {q.2.1 with σ:=jO q.2.1.σ i (some ⟨t',[],some (.loop .busy pe' n' fr' ps' as' bd')⟩)} q.2.2 with
     |some l2=>gZ (λa=>match Qo a.1,ag a.2.1.σ i with
      |some j,some ⟨t2,[],some (.loop _ _ n2 fr2 ps2 as2 bd2)⟩=>some [(.lit (.bool j.isNone),jO a.2.1.σ i (some ⟨t2,[],some (.loop (if j.isNone then .ready else .done) j n2 fr2 ps2 as2 bd2)⟩),a.2.1.c,mj i a.2.2)]
      |_,_=>none) l2
     |none=>none
    |_,_=>none) l
   |none=>none
  else none
 |_=>none
def od(P:Program)(run:bR)(o:Oper)(st:St):Option (List XR):=
 match o.op with
 | .buildSlice t m parts=>(Yd P t m (parts.toList.map λq=>(q.1,aB st q.2))).map λ(e,l)=>[(.rsl st.c 0 m,(st.c,some ⟨e,l,none⟩)::st.σ,st.c+1,st.c)]
 | .makeSlice t x y=>(tI P t (aB st x) (aB st y)).map λ(e,l,n)=>[(.rsl st.c 0 n,(st.c,some ⟨e,l,none⟩)::st.σ,st.c+1,st.c)]
 | .box t x=>(S6 P t (aB st x)).map λl=>[(.ref st.c 0,(st.c,some ⟨t,l,none⟩)::st.σ,st.c+1,st.c)]
 | .alloc t=>(FJ P t).map λl=>[(.ref st.c 0,(st.c,some ⟨t,l,none⟩)::st.σ,st.c+1,st.c)]
 | .store t x y=>(FK P st.σ t (aB st x) (aB st y)).map λ(i,ob)=>[(.lit undef,jO st.σ i (some ob),st.c,i)]
 | .call {callee:= .value x,args:=xs,argTypes:=_}=>match aB st x with
  | .clo (.func fid) fst cap=>ra P run fid (fst++xs.toList.map (aB st)++cap) st.gl st.σ st.c
  | .yld i=>vS P run i (xs.toList.map (aB st)) st.gl st.σ st.c
  |_=>none
 | .call {callee:= .builtin .append,args:=⟨[x,y]⟩,argTypes:=⟨[t,u]⟩}=>(if t=u then wu P st.σ st.c t (aB st x) (aB st y) else Hc P st.σ st.c t u (aB st x) (aB st y)).map λ(e,i,m,l)=>[(.rsl st.c 0 m,(st.c,some ⟨e,l,none⟩)::vQ st.σ i,st.c+1,mj i st.c)]
 | .call {callee:= .builtin .delete,args:=⟨[x,y]⟩,argTypes:=⟨[t,_]⟩}=>(FN P st.σ t (aB st x) (aB st y)).map λ(i,ob)=>[(.tup [],jO st.σ i (some ob),st.c,i)]
 | .call {callee:= .builtin .clear,args:=⟨[x]⟩,argTypes:=⟨[t]⟩}=>(rF P st.σ t (aB st x)).map λ(i,ob)=>[(.tup [],jO st.σ i (some ob),st.c,i)]
 | .call {callee:= .builtin .copy,args:=⟨[x,y]⟩,argTypes:=⟨[t,_]⟩}=>(Qq P st.σ t (aB st x) (aB st y)).map λ(i,ob,n)=>[(.lit (.int .i64 (n:Int)),jO st.σ i (some ob),st.c,i)]
 | .makeMap t r=>bif rC P t (r.map (aB st)) then some [(.mref st.c,(st.c,some ⟨t,[],some (.map [] 0)⟩)::st.σ,st.c+1,st.c)] else none
 | .mapUpdate t x y z=>(dZ P st.σ t (aB st x) (aB st y) (aB st z)).map λ(i,ob)=>[(.lit undef,jO st.σ i (some ob),st.c,i)]
 | .insert t x y z=>(dZ P st.σ t (aB st x) (aB st y) (aB st z)).map λ(i,ob)=>[(.lit undef,jO st.σ i (some ob),st.c,i)]
 | .mapEntry t x y=>(ov P st.σ t (aB st x) (aB st y)).map λ(i,ob,g)=>[(g,jO st.σ i (some ob),st.c,i)]
 | .entryStore _ x y z=>(jX st.σ (aB st x) (aB st y) (aB st z)).map λ(i,ob)=>[(.lit undef,jO st.σ i (some ob),st.c,i)]
 | .range t x=>(B9 P st.σ t (aB st x)).map λob=>[(.ref st.c 0,(st.c,some ⟨t,[],some ob⟩)::st.σ,st.c+1,st.c)]
 | .next x false=>match gR st.σ (aB st x) with
  |some (_,_,none,_,_,_)=>some [(.tup [.lit (.bool false)],st.σ,st.c,st.c)]
  |some (i,t,some j,since,seen,last)=>match gn st.σ (.mref j) with
   |some (_,_,es,clock)=>bif pD es seen last then
     some ((rD es since seen).map λq=>match q with
      |none=>(.tup [.lit (.bool false)],st.σ,st.c,st.c)
      |some (k,g,n)=>(.tup [.lit (.bool true),db k,g],jO st.σ i (some ⟨t,[],some (.iter (some j) since (seen++[n]) clock)⟩),st.c,i))
    else none
   |none=>none
  |none=>none
 |_=>none
def SG(st:St)(d:Option Tmp)(l:List XR)(s:St):Prop:=∃q∈l,s={st with σ:=q.2.1,c:=q.2.2.1}.put d q.1
theorem Ae{st s:St}(e:Eqv st s)(d:Option Tmp)(g:G):Eqv (st.put d g) (s.put d g):=by
 cases d with
 |none=>exact e
 |some d=>exact⟨e.n,e.gl,λi=>by show aD ((d,g)::s.fr) i=aD ((d,g)::st.fr) i;rw[aO,aO,e.fr],e.σ,e.c,e.p,e.r⟩
theorem Af{st:St}{σ σ':aQ}(h1:∀i,ag σ' i=ag σ i)(h2:c'=c):Eqv {st with σ:=σ,c:=c} {st with σ:=σ',c:=c'}:=⟨rfl,rfl,λ_=>rfl,h1,h2,rfl,rfl⟩
theorem LM{st:St}{σ σ':aQ}(h1:∀i o,ag σ' i=some o->ag σ i=some o)(h2:c'=c):Sub {st with σ:=σ,c:=c} {st with σ:=σ',c:=c'}:=⟨rfl,rfl,λ_=>rfl,h1,h2,rfl,rfl⟩
theorem LN{st s:St}(e:Sub st s)(d:Option Tmp)(g:G):Sub (st.put d g) (s.put d g):=by
 cases d with
 |none=>exact e
 |some d=>exact⟨e.n,e.gl,λi=>by show aD ((d,g)::s.fr) i=aD ((d,g)::st.fr) i;rw[aO,aO,e.fr],e.σ,e.c,e.p,e.r⟩
theorem dY{σ σ':aQ}(h:GS P o st ({st with σ:=σ,c:=c}.put d g))(a:∀i,ag σ' i=ag σ i):th P o st (SG st d [(g,σ',c,lo)]):=
 h.gsn.eqv λs hs=>⟨_,⟨_,List.mem_singleton.2 rfl,rfl⟩,by rw[hs];exact Ae (Af a rfl) _ _⟩
theorem gi(σ:aQ)(i:Nat)(ob:Option Ob)(j:Nat):ag (jO σ i ob) j=ag ((i,ob)::σ) j:=by rw[lh,am]
theorem JK{run:bR}(hr:RunOk P run){l:List XR}(ho:o.op= .call {callee:= .value x,args:=xs,argTypes:=ats})(hd:H_d o st.n)(hx:aB st x= .clo (.func fid) fst cap)
  (h:ra P run fid (fst++xs.toList.map (aB st)++cap) st.gl st.σ st.c=some l):th P o st (SG st o.dst l):=by
 unfold ra at h
 split at h
 .rename_i fn j
  split at h
  .rename_i body hb
   cases hcond:(aK P fid&&Nat.ble (fst++xs.toList.map (aB st)++cap).length fn.ntmps) with
   |false=>rw[hcond] at h;cases h
   |true=>
    rw[hcond] at h
    simp only[bA] at hcond
    simp only[ax] at h
    split at h
    .rename_i m hm
     obtain⟨l0,h',hl⟩:=Option.map_eq_some_iff.1 h
     obtain⟨h1',_⟩:=bW h'
     have h1:∀x∈m,∃r,(match tc x.1,vR P x.2.1 fn.results.toList with
       |true,some a=>some [(iU a,Xh st.c (iU a) st.σ x.2.1.σ x.2.2,x.2.1.c,x.2.2)]
       |_,_=>(none:Option (List XR)))=some r/\∀y∈r,y∈l:=λx hx=>by
      obtain⟨r,hr1,d⟩:=h1' x hx
      exact⟨r,hr1,λy hy=>by rw[<-hl];exact Bf.2 y (d y hy)⟩
     have hq:∀e s,pn m e s->(e= .normal\/e= .ret)/\s.gl=st.gl/\∃a,fn.results.toList.mapM (jV P s)=some a/\∃q∈l,q.1=iU a/\((∀i o,ag st.σ i=some o->i<st.c)->∀i o,ag q.2.1 i=some o->ag s.σ i=some o)/\q.2.2.1=s.c:=by
      rintro e s ⟨q,f,rfl,he⟩;obtain⟨r,hr1,d⟩:=h1 q f;obtain⟨hgl,_,g⟩:=hr.inv _ _ _ _ hm q f;split at hr1
      .rename_i a h2 h3;cases hr1;refine⟨eO h2,he.gl.symm.trans hgl,a,by rw[<-he.res];exact gh h3,_,d _ (List.mem_singleton.2 rfl),rfl,λhb i o ho=>?_,he.c⟩;rw[<-he.σ];exact SF g hb i o ho
      .cases hr1
     refine(NN ho hd hx hcond.1 j hb (cm hcond.2) (hr.tr _ _ _ _ hm) (λe s hp=>⟨(hq e s hp).1,(hq e s hp).2.1,_,(hq e s hp).2.2.choose_spec.1⟩)).sub ?_
     rintro hb s' ⟨e,s,a,hp,hgs,rfl⟩
     obtain⟨_,_,v,b,q,k,p,t,u⟩:=hq e s hp
     rw[hgs] at b
     cases b
     refine⟨_,⟨q,k,rfl⟩,?_⟩
     rw[p]
     exact LN (LM (t hb) u) _ _
    .cases h
  .cases h
 .cases h
theorem Hm{run:bR}(hr:RunOk P run){l:List XR}(ho:o.op= .call {callee:= .value x,args:=xs,argTypes:=ats})(hd:H_d o st.n)(hx:aB st x= .yld i)
  (h:vS P run i (xs.toList.map (aB st)) st.gl st.σ st.c=some l):th P o st (SG st o.dst l):=by
 unfold vS at h
 split at h
 .rename_i t pe n fr ps az9 bd hob
  cases hcond:(Nat.beq (xs.toList.map (aB st)).length ps.size&&Xi n ps.toList) with
  |false=>rw[hcond] at h;cases h
  |true=>
   rw[hcond] at h
   simp only[bA] at hcond
   simp only[ax] at h
   have hsz:xs.size=ps.size:=by have:=bc hcond.1;simpa using this
   split at h
   .rename_i m hm
    obtain⟨h1,_⟩:=bW h
    refine(Em (S:=λj x y s=>∃q∈l,q.1= .lit (.bool j.isNone)/\(∀k,ag q.2.1 k=ag ((i,some ⟨y,[],some x⟩)::s.σ) k)/\q.2.2.1=s.c) ho hd hx hob hsz (Hl hcond.2) ?_).eqv ?_
    .refine(hr.tr _ _ _ _ hm).mono ?_
     rintro e s ⟨q,z,rfl,he⟩
     obtain⟨r,hr1,E⟩:=h1 q z
     have hgl:=(hr.inv _ _ _ _ hm q z).1
     split at hr1
     .rename_i y f N g u v w F A
      split at hr1
      .rename_i l2 B
       obtain⟨g1,_⟩:=bW hr1
       refine⟨F,he.gl.symm.trans hgl,y,f,N,g,u,v,w,by rw[<-he.σ];exact A,?_⟩
       have hle:Le P {s with σ:=(i,some ⟨y,[],some (.loop .busy f N g u v w)⟩)::s.σ} {q.2.1 with σ:=jO q.2.1.σ i (some ⟨y,[],some (.loop .busy f N g u v w)⟩)}:=
        Eqv.le ⟨he.n,he.gl,he.fr,λk=>by show ag (jO q.2.1.σ i _) k=ag ((i,_)::s.σ) k;rw[lh,am,he.σ],he.c,he.p,he.r⟩
       refine Tr.le ((hr.tr _ _ _ _ B).mono ?_) hle
       rintro e2 s2 ⟨H,b,rfl,a⟩
       obtain⟨X,d,I⟩:=g1 H b
       have C:=(hr.inv _ _ _ _ B H b).1
       split at d
       .rename_i j t2 O Q n2 R U V W hj D
        cases d
        refine⟨a.gl.symm.trans (C.trans hgl),j,t2,O,Q,n2,R,U,V,W,hj,by rw[<-a.σ];exact D,_,E _ (I _ (List.mem_singleton.2 rfl)),rfl,λk=>?_,a.c⟩
        show ag (jO H.2.1.σ i _) k=_
        rw[lh,am,a.σ]
       .cases d
      .cases hr1
     .cases hr1
    .rintro s' ⟨j,x,y,s,⟨q,J,K,L,M⟩,rfl⟩
     refine⟨_,⟨q,J,rfl⟩,?_⟩
     rw[K]
     exact Ae (Af L M) _ _
   .cases h
 .cases h
theorem Bg{run:bR}(hr:RunOk P run){l:List XR}(hd:H_d o st.n)(h:od P run o st=some l):th P o st (SG st o.dst l):=by
 obtain⟨d,q,ty,f,v,w⟩:=o;unfold od at h;dsimp only at h;split at h
 .rename_i t m b;simp only[cn] at h;obtain⟨⟨e,l⟩,hg,rfl⟩:=h;exact dY (Ye rfl hd hg) λ_=>rfl
 .rename_i t x y;simp only[cn] at h;obtain⟨⟨e,l,n⟩,hg,rfl⟩:=h;exact dY (S9 rfl hd hg) λ_=>rfl
 .rename_i t x;simp only[cn] at h;obtain⟨l,hg,rfl⟩:=h;simp only[S6,Option.bind_eq_some_iff] at hg;obtain⟨A,h1,s,h2,hg⟩:=hg;split at hg
  .simp only[bg] at hg;subst hg;exact dY (VG rfl hd h1 (by rw[rv h2];assumption)) λ_=>rfl
  .cases hg
 .rename_i t;simp only[cn] at h;obtain⟨l,hg,rfl⟩:=h;simp only[FJ,Option.bind_eq_some_iff] at hg;obtain⟨zs,h1,s,h2,hg⟩:=hg;split at hg
  .simp only[bg] at hg;subst hg;exact dY (P2 rfl hd h1 (by rw[rv h2];assumption)) λ_=>rfl
  .cases hg
 .rename_i t x y;simp only[cn] at h;obtain⟨⟨i,ob⟩,hg,rfl⟩:=h;exact dY (Qg rfl hd hg) (gi _ _ _)
 .rename_i x xs ats;split at h
  .rename_i fid fst cap hx;exact JK hr rfl hd hx h
  .rename_i i hx;exact Hm hr rfl hd hx h
  .cases h
 .rename_i x y t u;simp only[cn] at h;obtain⟨⟨e,i,m,l⟩,hg,rfl⟩:=h;have e0:∀j,ag ((st.c,some ⟨e,l,none⟩)::vQ st.σ i) j=ag ((st.c,some ⟨e,l,none⟩)::(i,none)::st.σ) j:=λj=>by rw[am,am,am,li]
  split at hg
  .rename_i a;subst a;exact dY (V2 rfl hd hg) e0
  .exact dY (Pp rfl hd hg) e0
 .rename_i x y t u;simp only[cn] at h;obtain⟨⟨i,ob⟩,hg,rfl⟩:=h;exact dY (NM rfl hd hg) (gi _ _ _)
 .rename_i x t;simp only[cn] at h;obtain⟨⟨i,ob⟩,hg,rfl⟩:=h;exact dY (Qp rfl hd hg) (gi _ _ _)
 .rename_i x y t u;simp only[cn] at h;obtain⟨⟨i,ob,n⟩,hg,rfl⟩:=h;exact dY (Tc rfl hd hg) (gi _ _ _)
 .rename_i t r;cases hg:rC P t (r.map (aB st)) with
  |false=>rw[hg] at h;cases h
  |true=>rw[hg] at h;cases h;exact dY (B8 rfl hd hg) λ_=>rfl
 .rename_i t x y z;simp only[cn] at h;obtain⟨⟨i,ob⟩,hg,rfl⟩:=h;exact dY (iW (.inl rfl) hd hg) (gi _ _ _)
 .rename_i t x y z;simp only[cn] at h;obtain⟨⟨i,ob⟩,hg,rfl⟩:=h;exact dY (iW (.inr rfl) hd hg) (gi _ _ _)
 .rename_i t x y;simp only[cn] at h;obtain⟨⟨i,ob,g⟩,hg,rfl⟩:=h;exact dY (yU rfl hd hg) (gi _ _ _)
 .rename_i t x y z;simp only[cn] at h;obtain⟨⟨i,ob⟩,hg,rfl⟩:=h;exact dY (tJ rfl hd hg) (gi _ _ _)
 .rename_i t x;simp only[cn] at h;obtain⟨ob,hg,rfl⟩:=h;exact dY (H2 rfl hd hg) λ_=>rfl
 .rename_i x;split at h
  .rename_i i t since seen last hi;cases h;exact dY (Qn rfl hd hi) λ_=>rfl
  .rename_i i t j since seen last hi;split at h
   .rename_i p ty es clock hm;obtain rfl:p=j:=by
     unfold gn at hm;simp only at hm;split at hm
     .cases hm;rfl
     .cases hm
    cases hok:pD es seen last with
    |false=>rw[hok] at h;cases h
    |true=>
     rw[hok] at h;cases h;refine(Mf rfl hd hi hm hok).eqv ?_;rintro s (⟨hc,rfl⟩|⟨k,g,n,hc,rfl⟩)
     .exact⟨_,⟨_,List.mem_map.2 ⟨none,hc,rfl⟩,rfl⟩,Eqv.refl _⟩
     .exact⟨_,⟨_,List.mem_map.2 ⟨some (k,g,n),hc,rfl⟩,rfl⟩,Ae (Af (st:=st) (gi _ _ _) rfl) _ _⟩
   .cases h
  .cases h
 .cases h
end
section
variable {P:Program}
def zz(f:G->List Nat):List G->List Nat
 |[]=>[]
 |x::r=>f x++zz f r
theorem Bo{f:G->List Nat}{x:G}{i:Nat}:∀{l:List G},x∈l->i∈f x->i∈zz f l
 |y::r,h,hi=>by
  unfold zz;rcases List.mem_cons.1 h with rfl|h
  .exact List.mem_append_left _ hi
  .exact List.mem_append_right _ (Bo h hi)
def uz(σ:aQ):Nat->G->List Nat
 |0,_=>[]
 |k+1,g=>match g with
  | .agg l=>zz (uz σ k) l
  | .tup l=>zz (uz σ k) l
  | .clo _ a b=>zz (uz σ k) a++zz (uz σ k) b
  | .ref i _=>match ag σ i with
   |some ob=>i::zz (uz σ k) ob.l
   |none=>[i]
  | .rsl i _ _=>match ag σ i with
   |some ob=>i::zz (uz σ k) ob.l
   |none=>[i]
  |_=>[]
theorem yK{σ σ':aQ}:∀(k:Nat) (g:G),(∀i,i∈uz σ k g->ag σ' i=ag σ i)->kI P σ' k g=kI P σ k g
 |0,g,_=>rfl
 |k+1,g,h=>by
  have ih:=yK (σ:=σ) (σ':=σ') k;have all:∀{l:List G},(∀i,i∈zz (uz σ k) l->ag σ' i=ag σ i)->∀{m:List G},(∀x∈m,x∈l)->fc (kI P σ' k) m=fc (kI P σ k) m:=λh m hm=>iR λx hx=>ih x λi hi=>h i (Bo (hm x hx) hi);unfold kI;cases g with
  |agg l=>unfold uz at h;simp only;rw[all h λ_ x=>x]
  |tup l=>unfold uz at h;simp only;rw[all h λ_ x=>x]
  |clo fn a b=>unfold uz at h;simp only;rw[all (l:=a) (λi hi=>h i (List.mem_append_left _ hi)) λ_ x=>x,all (l:=b) (λi hi=>h i (List.mem_append_right _ hi)) λ_ x=>x]
  |ref i o=>
   unfold uz at h;simp only at h⊢;cases ho:ag σ i with
   |none=>rw[ho] at h;rw[h i aC,ho]
   |some ob=>rw[ho] at h;simp only at h;rw[h i aC,ho];simp only;rw[all (l:=ob.l) (λj hj=>h j (List.mem_cons_of_mem _ hj)) λ_ x=>x]
  |rsl i o n=>
   unfold uz at h;simp only at h⊢;cases ho:ag σ i with
   |none=>rw[ho] at h;rw[h i aC,ho]
   |some ob=>
    rw[ho] at h;simp only at h;rw[h i aC,ho];simp only;cases hs:bw P ob.t with
    |none=>rfl
    |some s=>simp only;rw[all (l:=ob.l) (λj hj=>h j (List.mem_cons_of_mem _ hj)) (m:=(ob.l.drop o).take (n*s)) λx hx=>List.mem_of_mem_drop (List.mem_of_mem_take hx)]
  |_=>rfl
def fR:G->List Nat
 | .ref i _=>[i]
 | .rsl i _ _=>[i]
 | .mref i=>[i]
 |_=>[]
def dF(st:St)(o:Oper):List Nat:=match o.op with
 | .load _ x=>fR (aB st x)
 | .lookup _ x _ _=>fR (aB st x)
 | .entry x=>match gR st.σ (aB st x) with
  |some (_,_,some j,_,_,_)=>j::fR (aB st x)
  |_=>fR (aB st x)
 | .convert _ _ x=>fR (aB st x)
 | .call {callee:= .builtin .len,args:=⟨[x]⟩,argTypes:=_}=>fR (aB st x)
 | .call {callee:= .value x,args:=xs,argTypes:=_}=>match aB st x with
  | .clo (.func _) fst cap=>zz (uz st.σ 30) (fst++xs.toList.map (aB st)++cap)
  |_=>[]
 |_=>[]
theorem iw(h:cG o=true):dF st o=[]:=by
 obtain⟨d,e,ty,f,g,i⟩:=o;unfold cG at h;unfold dF;cases e with
 |call c=>
  obtain⟨a,args,ats⟩:=c;cases a with
  |builtin b=>cases b<;>simp_all
  |value x=>simp at h
  |invoke r m=>simp at h
 |_=>simp_all
theorem Fq{σ σ':aQ}(h:∀i,i∈fR g->ag σ' i=ag σ i):jU P σ' t g=jU P σ t g:=by
 unfold jU;split
 .rw[h _ (List.mem_singleton.2 rfl)]
 .rfl
 .rfl
theorem fW{σ σ':aQ}(h:∀i,i∈fR g->ag σ' i=ag σ i):gn σ' g=gn σ g:=by
 unfold gn;split
 .rw[h _ (List.mem_singleton.2 rfl)]
 .rfl
theorem kK{σ σ':aQ}{s:Nat}(h:∀i,i∈fR g->ag σ' i=ag σ i):fO σ' s g=fO σ s g:=by
 cases g with
 |rsl j o m=>show(ag σ' j).bind _=(ag σ j).bind _;rw[h _ (List.mem_singleton.2 rfl)]
 |lit v=>unfold fO;split<;>first|rfl|simp_all
 |_=>rfl
theorem Fs{σ σ':aQ}(h:∀i,i∈fR g->ag σ' i=ag σ i):gR σ' g=gR σ g:=by
 unfold gR;split
 .rw[h _ (List.mem_singleton.2 rfl)]
 .rfl
theorem Ft{σ σ':aQ}(h:∀i,i∈fR g->ag σ' i=ag σ i):ou P σ' t g=ou P σ t g:=by
 have e:=fW h;unfold ou;split
 .split
  .rfl
  .rfl
  .rw[e]
 .rfl
theorem rh{σ σ':aQ}{k:G}(h:∀i,i∈fR g->ag σ' i=ag σ i):bL P σ' t ok g k=bL P σ t ok g k:=by
 have e:=fW h;unfold bL;split
 .split
  .rfl
  .rfl
  .rw[e]
 .rfl
theorem vZ{ρ:Operand->G}{σ σ':aQ}(h:∀t x,o.op= .load t x->∀i,i∈fR (ρ x)->ag σ' i=ag σ i):aX P ρ σ' o=aX P ρ σ o:=by
 obtain⟨d,e,ty,f,g,j⟩:=o;unfold aX;cases e with
 |slice t x lo hi mx=>cases mx<;>rfl
 |call c=>
  obtain⟨a,args,ats⟩:=c;cases a with
  |builtin b=>cases b<;>rfl
  |value x=>rfl
  |invoke r m=>rfl
 |load t x=>exact Fq (h t x rfl)
 |_=>rfl
theorem mJ{E:XEnv}{run:bR}(hgl:st'.gl=st.gl)(a:∀i,i∈dF st o->ag st'.σ i=ag st.σ i)(hx:∀x∈o.op.operands,aB st' x=aB st x):iE P E run o st'=iE P E run o st:=by
 have hev:(∀t x,o.op= .load t x->∀i,i∈fR (aB st x)->ag st'.σ i=ag st.σ i)->aX P (aB st') st'.σ o=aX P (aB st) st.σ o:=λh=>by rw[jW hx,vZ h]
 obtain⟨b,e,ty,c,l,m⟩:=o;unfold iE;dsimp only;split
 .rename_i t d;rw[Ac (λx hx'=>hx x (by simpa[Op.operands] using hx'))]
 .rename_i t x lo hi mx;rw[hx x fK,hx lo fK,hx hi fK,hx mx fK]
 .rename_i x xs ats;have e1:aB st' x=aB st x:=hx x zG;rw[e1];split
  .rename_i fid fst cap hg;rw[Ad (λy hy=>hx y (by simp[Op.operands,Call.operands,hy])),hgl];have hf:dF st ⟨b,.call {callee:= .value x,args:=xs,argTypes:=ats},ty,c,l,m⟩=zz (uz st.σ 30) (fst++xs.toList.map (aB st)++cap):=by unfold dF;simp only[hg]
   rw[hf] at a;rw[iR (f:=kI P st'.σ 30) (g:=kI P st.σ 30) λy hy=>yK 30 y λi hi=>a i (Bo hy hi)]
  .rfl
 .rename_i s t x;have e1:aB st' x=aB st x:=hx x fK;rw[e1];have hσ':∀i,i∈fR (aB st x)->ag st'.σ i=ag st.σ i:=a;unfold iQ;split
  .rfl
  .rfl
  .rw[kK hσ']
 .rename_i x y ats;rw[hx x zG,hx y zG]
 .rename_i x y ats;rw[hx x zG,hx y zG]
 .rename_i x t;have e1:aB st' x=aB st x:=hx x zG;have hσ':∀i,i∈fR (aB st x)->ag st'.σ i=ag st.σ i:=a;rw[e1,hev (λ_ _ h=>by cases h)];rw[Ft hσ']
 .rename_i e t x y n;rw[hx x fK,hx y fK,hev (λ_ _ h=>by cases h)]
 .rename_i t x y ok;have hσ':∀i,i∈fR (aB st x)->ag st'.σ i=ag st.σ i:=a;rw[hx x fK,hx y fK];rw[rh hσ']
 .rename_i x;have e1:aB st' x=aB st x:=hx x fK;rw[e1];have hi:gR st'.σ (aB st x)=gR st.σ (aB st x):=Fs λi hi=>a i (by
   unfold dF;simp only;split
   .exact List.mem_cons_of_mem _ hi
   .exact hi)
  unfold jr;rw[hi];split
  .rename_i i t j since seen last hg;have hm:gn st'.σ (.mref j)=gn st.σ (.mref j):=fW λk hk=>a k (by unfold dF;simp only[hg];obtain rfl:=List.mem_singleton.1 hk;exact List.mem_cons_self)
   rw[hm]
  .rfl
 .rename_i h1 h2 h3 h4 h5 h6 h7 h8 h9;refine hev λt x ht i hi=>?_;have ht':e= .load t x:=ht;subst ht';exact a i hi
def VA(a b:G):Bool:=match a,b with
 | .lit (.int k x),.lit (.int k' y)=>decide (k=k'/\x=y)
 | .lit (.bool x),.lit (.bool y)=>x==y
 |_,_=>false
theorem Nt{a b:G}(h:VA a b=true):a=b:=by
 unfold VA at h;split at h
 .obtain⟨rfl,rfl⟩:=of_decide_eq_true h;rfl
 .have:=beq_iff_eq.1 h;rw[this]
 .cases h
abbrev XF:=G×aQ×List Nat×Bool×Nat
def fX(o:Option Ob):Bool:=match o with
 |some ⟨_,_,some .resv⟩=>true
 |_=>false
def aai(o:Oper):Bool:=match o.op with
 | .alloc _| .box .. | .buildSlice .. | .makeSlice .. =>true
 | .call {callee:= .builtin .append,.. }=>true
 |_=>false
def LT(c:Nat)(g:G)(σ1:aQ)(lo:Nat)(R:List Nat):aQ:=bif Nat.ble c lo then DR σ1 [] (eV σ1 c 1000000 [g] []) else(σ1.filter λq=>Nat.ble lo q.1)++(R.filter λi=>Nat.ble lo i).map λi=>(i,none)
def yL(P:Program)(rs:List ResultVar)(R:List Nat)(c:Nat)(q:Exit×St×Nat):Option XF:=match tc q.1,vR P q.2.1 rs with
 |true,some gs'=>some (iU gs',LT c (iU gs') q.2.1.σ q.2.2 R,R,true,q.2.1.c)
 |_,_=>none
def JU(x y:XF):Bool:=dE (Nat.beq x.2.2.2.2 y.2.2.2.2) (dE (iF 16 x.1 y.1) (dE (fe (re 16) x.2.1 y.2.1) (dE (Bn x.2.2.1 y.2.2.1) (bif x.2.2.2.1 then y.2.2.2.1 else !y.2.2.2.1))))
theorem Hx{x y:XF}(h:JU x y=true):x=y:=by obtain⟨h1,h2⟩:=aZ h;obtain⟨h2,h3⟩:=aZ h2;obtain⟨h3,h4⟩:=aZ h3;obtain⟨h4,h5⟩:=aZ h4;obtain⟨a,b,c,d,e⟩:=x;obtain⟨g,i,c',f,e'⟩:=y;refine Prod.ext (cc 16 _ _ h2) (Prod.ext (bi (λ_ _=>jS) h3) (Prod.ext (rf h4) (Prod.ext ?_ (bc h1))));show d=f;dsimp only at h5;cases d<;>cases f<;>simp_all
def PD(P:Program)(rs:List ResultVar)(R:List Nat)(c:Nat)(l:List (Exit×St×Nat)):Option XF:=match l with
 |[]=>none
 |[q]=>yL P rs R c q
 |q::r=>match yL P rs R c q with
  |some x=>bif r.all λa=>match yL P rs R c a with
   |some y=>JU y x
   |none=>false then some x else none
  |none=>none
theorem uA{rs:List ResultVar}{l:List (Exit×St×Nat)}{x:XF}(h:PD P rs R c l=some x):∀q∈l,yL P rs R c q=some x:=by
 unfold PD at h;split at h
 .cases h
 .intro q hq;obtain rfl:=List.mem_singleton.1 hq;exact h
 .rename_i q r _;split at h
  .rename_i d hx;cases hc:r.all (λb=>match yL P rs R c b with
    |some y=>JU y d
    |none=>false) with
   |false=>rw[hc] at h;cases h
   |true=>
    rw[hc] at h;cases h;intro b a;rcases List.mem_cons.1 a with rfl|a
    .exact hx
    .have:=List.all_eq_true.1 hc b a;split at this
     .rename_i y hy;rw[hy,Hx this]
     .cases this
  .cases h
def mK(P:Program)(run:bR)(fid:FuncId)(gs:List G)(gl:List (Nat×List G))(R:List Nat)(σR:aQ)(c:Nat):Option XF:=match P.funcs[fid]? with
 |some fn=>match fn.body with
  |some body=>bif aK P fid&&Nat.ble gs.length fn.ntmps then
    (match run body ⟨fn.ntmps,gl,bQ 0 gs,σR,c,c,false⟩ Hd with
    |some l=>PD P fn.results.toList R c l
    |none=>none)
   else none
  |none=>none
 |none=>none
def Bp(P:Program)(run:bR)(fid:FuncId)(gs:List G)(st:St):Option XF:=(λR=>mK P run fid gs st.gl R (R.map λi=>(i,ag st.σ i)) st.c) (eV st.σ 0 1000000 gs [])
def tA(P:Program)(run:bR)(o:Oper)(st:St)(k:Nat):Option XF:=
 match o.op with
 | .buildSlice t m parts=>bif fX (ag st.σ k)&&Nat.ble st.p k then(Yd P t m (parts.toList.map λq=>(q.1,aB st q.2))).map λ(e,l)=>(.rsl k 0 m,[(k,some ⟨e,l,none⟩)],[k],false,st.c) else none
 | .makeSlice t x y=>bif fX (ag st.σ k)&&Nat.ble st.p k then(tI P t (aB st x) (aB st y)).map λ(e,l,n)=>(.rsl k 0 n,[(k,some ⟨e,l,none⟩)],[k],false,st.c) else none
 | .box t x=>bif fX (ag st.σ k)&&Nat.ble st.p k then(S6 P t (aB st x)).map λl=>(.ref k 0,[(k,some ⟨t,l,none⟩)],[k],false,st.c) else none
 | .alloc t=>bif fX (ag st.σ k)&&Nat.ble st.p k then(FJ P t).map λl=>(.ref k 0,[(k,some ⟨t,l,none⟩)],[k],false,st.c) else none
 | .call {callee:= .builtin .append,args:=⟨[x,y]⟩,argTypes:=⟨[t,u]⟩}=>bif fX (ag st.σ k)&&Nat.ble st.p k then(match aB st x with
  | .rsl i 0 _=>if t=u then(wu P st.σ st.c t (aB st x) (aB st y)).map λ(e,i',m,l)=>(.rsl k 0 m,[(k,some ⟨e,l,none⟩),(i',none)],k::i::fR (aB st y),false,st.c) else none
  | .lit (.slice none 0 0)=>if t=u then(wu P st.σ st.c t (aB st x) (aB st y)).map λ(e,_,m,l)=>(.rsl k 0 m,[(k,some ⟨e,l,none⟩)],k::fR (aB st y),false,st.c) else none
  |_=>none) else none
 | .store t x y=>(FK P st.σ t (aB st x) (aB st y)).map λ(i,ob)=>(.lit undef,[(i,some ob)],fR (aB st x),false,st.c)
 | .call {callee:= .value x,args:=xs,argTypes:=_}=>match aB st x with
  | .clo (.func fid) fst cap=>Bp P run fid (fst++xs.toList.map (aB st)++cap) st
  |_=>none
 | .mapUpdate t x y z=>(dZ P st.σ t (aB st x) (aB st y) (aB st z)).map λ(i,ob)=>(.lit undef,[(i,some ob)],fR (aB st x),false,st.c)
 | .insert t x y z=>(dZ P st.σ t (aB st x) (aB st y) (aB st z)).map λ(i,ob)=>(.lit undef,[(i,some ob)],fR (aB st x),false,st.c)
 | .mapEntry t x y=>(ov P st.σ t (aB st x) (aB st y)).map λ(i,ob,g)=>(g,[(i,some ob)],fR (aB st x),false,st.c)
 | .entryStore _ x y z=>(jX st.σ (aB st x) (aB st y) (aB st z)).map λ(i,ob)=>(.lit undef,[(i,some ob)],fR (aB st x),false,st.c)
 |_=>none
def X6(P:Program)(o:Oper)(st:St)(g:G)(U:aQ)(R:List Nat)(cu:Bool)(c:Nat):Prop:=∀a,a.n=st.n->a.gl=st.gl->a.pr=st.pr->(cu=true->a.c=st.c)->(∀x∈R,ag a.σ x=ag st.σ x)->(∀x∈o.op.operands,aB a x=aB st x)->GS P o a ({a with σ:=U++a.σ,c:=if cu then c else a.c}.put o.dst g)
theorem nl{σ:aQ}{U:aQ}(h:GS P o st ({st with σ:=σ,c:=st.c}.put d g))(a:∀i,ag (U++st.σ) i=ag σ i):GS P o st ({st with σ:=U++st.σ,c:=if false then c else st.c}.put d g):=
 h.eqv (Ae (Af a rfl) _ _)
theorem Hy{o:Option Ob}(h:fX o=true):∃ob,o=some ob/\ob.x=some .resv:=by
 unfold fX at h;split at h
 .exact⟨_,rfl,rfl⟩
 .cases h
theorem sw{st st'':St}(h:(fX (ag st.σ k)&&Nat.ble st.p k)=true)(hp:st''.pr=st.pr)(hk:ag st''.σ k=ag st.σ k):zB st'' (some k):=by simp only[bA] at h;simp only[St.pr,Prod.mk.injEq] at hp;obtain⟨ob,h1,h2⟩:=Hy h.1;exact⟨by rw[hp.1];exact cm h.2,ob,by rw[hk];exact h1,h2⟩
theorem wb{σ:aQ}{ob:Option Ob}(i:Nat):ag ([(k,ob)]++σ) i=ag ((k,ob)::(k,none)::σ) i:=by simp only[List.singleton_append,am];split<;>rfl
theorem lL{f:Nat->Option Ob}{i:Nat}:∀{l:List Nat},ag (l.map λi=>(i,f i)) i=if i∈l then f i else none
 |[]=>by simp[ag]
 |x::r=>by
  rw[List.map_cons,am];by_cases e:x=i
  .subst e;simp
  .rw[if_neg e,lL (l:=r)];have:i≠x:=λh=>e h.symm;simp[this]
theorem Hz{σ:aQ}{o:Ob}(h:ag (σ.filter λq=>Nat.ble lo q.1) i=some o):ag σ i=some o:=by
 induction σ with
 |nil=>exact h
 |cons x r ih=>
  obtain⟨d,ob⟩:=x;rw[List.filter_cons] at h;rw[am];split at h
  .rw[am] at h;split
   .rename_i e;rw[if_pos e] at h;exact h
   .rename_i e;rw[if_neg e] at h;exact ih h
  .rename_i hf;split
   .rename_i e;subst e;exfalso;have:∀(τ:aQ),ag (τ.filter λq=>Nat.ble lo q.1) d=some o->Nat.ble lo d=true:=by
     intro τ;induction τ with
     |nil=>intro h;cases h
     |cons y s ih2=>
      intro h;rw[List.filter_cons] at h;split at h
      .rename_i hb;rw[am] at h;split at h
       .rename_i e;rw[<-e];exact hb
       .exact ih2 h
      .exact ih2 h
    exact hf (this r h)
   .exact ih h
theorem D0{run:bR}(hr:RunOk P run){g:G}{U:aQ}{R:List Nat}{cu:Bool}{c:Nat}(ho:o.op= .call {callee:= .value x,args:=xs,argTypes:=ats})(hd:H_d o st.n)(hx:aB st x= .clo (.func fid) fst cap)
  (h:Bp P run fid (fst++xs.toList.map (aB st)++cap) st=some (g,U,R,cu,c)):X6 P o st g U R cu c:=by
 unfold Bp mK at h
 dsimp only at h
 split at h
 .rename_i fn e
  split at h
  .rename_i body hb
   cases hcond:(aK P fid&&Nat.ble (fst++xs.toList.map (aB st)++cap).length fn.ntmps) with
   |false=>rw[hcond] at h;cases h
   |true=>
    rw[hcond] at h
    simp only[bA] at hcond
    simp only[ax] at h
    split at h
    .rename_i m hm
     generalize hRR:eV st.σ 0 1000000 (fst++xs.toList.map (aB st)++cap) []=p at hm h
     have hall:=uA h
     have hne:∃q,q∈m:=by
      cases m with
      |nil=>cases h
      |cons q r=>exact⟨q,List.mem_cons_self⟩
     have one:∀q∈m,∃b,tc q.1=true/\vR P q.2.1 fn.results.toList=some b/\g=iU b/\U=LT st.c (iU b) q.2.1.σ q.2.2 p/\R=p/\cu=true/\c=q.2.1.c:=λq hq=>by
      have:=hall q hq;unfold yL at this;split at this
      .rename_i b h1 h2;simp only[bg,Prod.mk.injEq] at this;obtain⟨a1,a2,a3,a4,a5⟩:=this;exact⟨b,h1,h2,a1.symm,a2.symm,a3.symm,a4.symm,a5.symm⟩
      .cases this
     obtain⟨q0,j⟩:=hne
     obtain⟨_,_,_,_,_,s,hcu,_⟩:=one q0 j
     subst s hcu
     intro a e1 e2 e3 e4 e5 e6
     have k:=e4 rfl
     have hop:∀y∈o.op.operands,aB a y=aB st y:=e6
     have hx'':aB a x= .clo (.func fid) fst cap:=(e6 x (by rw[ho];simp[Op.operands,Call.operands])).trans hx
     have hargs:xs.toList.map (aB a)=xs.toList.map (aB st):=Ad λy hy=>e6 y (by rw[ho];simp[Op.operands,Call.operands,hy])
     have hσR:(R.map λi=>(i,ag a.σ i))=R.map λi=>(i,ag st.σ i):=List.map_congr_left λi hi=>by rw[e5 i hi]
     have hT:=hr.tr _ _ _ _ hm
     refine(Nz (st:=a) (T:=λ_ _ τ=>τ=U++a.σ) (R.map λi=>(i,ag a.σ i)) (λi ob hi=>?_) ho (by rw[e1];exact hd) hx'' hcond.1 e hb (by rw[hargs];exact cm hcond.2) (by rw[hargs,hσR,e2,k];exact hT) (λe' s' hp=>?_) (λl e' s' hp=>?_)).gs ?_
     .rw[lL] at hi
      split at hi
      .exact hi
      .cases hi
     .obtain⟨q,hq,rfl,he⟩:=hp
      obtain⟨b,h1,h2,_⟩:=one q hq
      refine⟨eO h1,?_,b,by rw[<-he.res];exact gh h2⟩
      have:=(hr.inv _ _ _ _ hm q hq).1
      rw[e2]
      exact he.gl.symm.trans this
     .obtain⟨⟨e0,s1,lo⟩,hq,rfl,he⟩:=hp
      obtain⟨b,h1,h2,_,hU,_⟩:=one _ hq
      obtain⟨_,_,d⟩:=hr.inv _ _ _ _ hm _ hq
      dsimp only at he hU d
      refine⟨_,rfl,λi ob hi=>?_⟩
      rw[hU] at hi
      rcases og hi with hi|⟨hni,hi⟩
      .left
       rw[<-he.σ]
       unfold LT at hi
       cases hb2:Nat.ble st.c lo with
       |true=>
        rw[hb2] at hi
        rcases po (σ:=s1.σ) (σ0:=[]) (eV s1.σ st.c 1000000 [iU b] []) i with h7|h7
        .rw[<-h7];exact hi
        .simp only[ax] at hi
         rw[h7] at hi;cases hi
       |false=>
        rw[hb2] at hi
        simp only[aM] at hi
        rcases og hi with hi|⟨_,hi⟩
        .exact Hz hi
        .rw[lL (f:=λ_=>none)] at hi
         split at hi<;>cases hi
      .by_cases hiR:i∈R
       .left
        have hlt:i<lo:=by
         unfold LT at hni;cases hb2:Nat.ble st.c lo with
         |true=>have:=l i ob hi;have:=cm hb2;omega
         |false=>
          rw[hb2] at hni;rcases Nat.lt_or_ge i lo with h8|h8
          .exact h8
          .exfalso;apply hni;simp only[aM,List.map_append,List.map_map];refine List.mem_append_right _ (List.mem_map.2 ⟨i,List.mem_filter.2 ⟨hiR,Nat.ble_eq_true_of_le h8⟩,rfl⟩)
        rw[<-he.σ]
        rw[d i hlt]
        show ag (R.map λi=>(i,ag st.σ i)) i=some ob
        rw[lL,if_pos hiR,<-e5 i hiR]
        exact hi
       .right
        refine⟨hi,?_⟩
        rw[lL,if_neg hiR]
     .rintro s' ⟨e',s2,t,τ,hp,hgs,rfl,rfl⟩
      obtain⟨q,hq,rfl,he⟩:=hp
      obtain⟨b,h1,h2,hg,_,_,_,hc⟩:=one q hq
      rw[<-he.res,gh h2] at hgs
      cases hgs
      rw[hg,hc,he.c]
      rfl
    .cases h
  .cases h
 .cases h
theorem PE{σ σ':aQ}(hx:gx= .lit (.slice none 0 0))(d:∀j,j∈fR gy->ag σ' j=ag σ j)(h:wu P σ c t gx gy=some (e,i,m,l)):wu P σ' c' t gx gy=some (e,c',m,l):=by
 subst hx;simp only[wu,Option.bind_eq_some_iff] at h⊢;obtain⟨e',he,s,hs,zs,hz,b,hb,⟨g,n,k⟩,hg,⟨a,f⟩,hv,h⟩:=h;simp only[xO,bg,Prod.mk.injEq] at hg;obtain⟨rfl,rfl,rfl⟩:=hg;refine⟨e',he,s,hs,zs,hz,b,hb,(c',0,[]),rfl,(a,f),by rw[kK d];exact hv,?_⟩;split at h
 .rename_i hc;rw[if_pos hc];cases h;rfl
 .cases h
theorem PH{σ σ':aQ}{c c':Nat}{j:Nat}(hx:gx= .rsl j 0 n)(hj:ag σ' j=ag σ j)(a:∀j,j∈fR gy->ag σ' j=ag σ j):wu P σ' c' t gx gy=wu P σ c t gx gy:=by
 subst hx;have e:∀e s,xO σ' c' e s (.rsl j 0 n)=xO σ c e s (.rsl j 0 n):=λe s=>by simp only[xO,hj]
 unfold wu;simp only[e,kK a]
theorem GS.bound{o:Oper}{st s s':St}(h:GS P o st s)(hs:(∀i ob,ag st.σ i=some ob->i<st.c)->Sub s s'):GS P o st s':=
 (th.sub (S:=λx=>x=s) (T:=λx=>x=s') h.gsn λhb x hx=>⟨s',rfl,by rw[hx];exact hs hb⟩).gs λx hx=>hx
theorem jT{run:bR}(hr:RunOk P run){k:Nat}{U:aQ}{cu:Bool}(hd:H_d o st.n)(h:tA P run o st k=some (g,U,R,cu,c)):X6 P o st g U R cu c/\(cu=false->c=st.c):=by
 obtain⟨v,A,ty,w,B,C⟩:=o;unfold tA at h;dsimp only at h;split at h
 .rename_i t m d;cases hk:(fX (ag st.σ k)&&Nat.ble st.p k) with
  |false=>rw[hk] at h;cases h
  |true=>rw[hk] at h;simp only[ax,cn] at h;obtain⟨⟨e,l⟩,hg,h⟩:=h;cases h;refine⟨λa e1 e2 e3 e4 e5 e6=>?_,λ_=>rfl⟩;exact nl (P9 (pl:=some k) rfl (by rw[e1];exact hd) (by rw[Ac (λx hx'=>e6 x (by simpa[Op.operands] using hx'))];exact hg) (sw hk e3 (e5 k aC))) wb
 .rename_i t x y;cases hk:(fX (ag st.σ k)&&Nat.ble st.p k) with
  |false=>rw[hk] at h;cases h
  |true=>rw[hk] at h;simp only[ax,cn] at h;obtain⟨⟨e,l,n⟩,hg,h⟩:=h;cases h;refine⟨λa e1 e2 e3 e4 e5 e6=>?_,λ_=>rfl⟩;exact nl (HV (pl:=some k) rfl (by rw[e1];exact hd) (by rw[e6 x fK,e6 y fK];exact hg) (sw hk e3 (e5 k aC))) wb
 .rename_i t x;cases hk:(fX (ag st.σ k)&&Nat.ble st.p k) with
  |false=>rw[hk] at h;cases h
  |true=>
   rw[hk] at h;simp only[ax,cn] at h;obtain⟨l,hg,h⟩:=h;cases h;simp only[S6,Option.bind_eq_some_iff] at hg;obtain⟨D,h1,s,h2,hg⟩:=hg;split at hg
   .simp only[bg] at hg;subst hg;refine⟨λa e1 e2 e3 e4 e5 e6=>?_,λ_=>rfl⟩;exact nl (L5 (pl:=some k) rfl (by rw[e1];exact hd) (by rw[e6 x fK];exact h1) (by rw[rv h2];assumption) (sw hk e3 (e5 k aC))) wb
   .cases hg
 .rename_i t;cases hk:(fX (ag st.σ k)&&Nat.ble st.p k) with
  |false=>rw[hk] at h;cases h
  |true=>
   rw[hk] at h;simp only[ax,cn] at h;obtain⟨l,hg,h⟩:=h;cases h;simp only[FJ,Option.bind_eq_some_iff] at hg;obtain⟨zs,h1,s,h2,hg⟩:=hg;split at hg
   .simp only[bg] at hg;subst hg;refine⟨λa e1 e2 e3 e4 e5 e6=>?_,λ_=>rfl⟩;exact nl (Ed (pl:=some k) rfl (by rw[e1];exact hd) h1 (by rw[rv h2];assumption) (sw hk e3 (e5 k aC))) wb
   .cases hg
 .rename_i x y t u;cases hk:(fX (ag st.σ k)&&Nat.ble st.p k) with
  |false=>rw[hk] at h;cases h
  |true=>
   rw[hk] at h;simp only[ax] at h;split at h
   .rename_i i n hx;split at h
    .rename_i b;subst b;simp only[cn] at h;obtain⟨⟨e,f,m,l⟩,hg,h⟩:=h;cases h;refine⟨λa e1 e2 e3 e4 e5 e6=>?_,λ_=>rfl⟩;have f1:=e6 x zG;have f2:=e6 y zG;refine nl (FI (pl:=some k) rfl (by rw[e1];exact hd) (i:=f) (l:=l) (m:=m) (e:=e) ?_ (sw hk e3 (e5 k aC))) λj=>?_
     .rw[f1,f2,PH (σ:=st.σ) (c:=st.c) hx (e5 i aC) (λj hj=>e5 j (by simp[hj]))];exact hg
     .rfl
    .cases h
   .rename_i hx;split at h
    .rename_i b;subst b;simp only[cn] at h;obtain⟨⟨e,f,m,l⟩,hg,h⟩:=h;cases h;refine⟨λa e1 e2 e3 e4 e5 e6=>?_,λ_=>rfl⟩;have f1:=e6 x zG;have f2:=e6 y zG;refine GS.bound (FI (pl:=some k) rfl (by rw[e1];exact hd) (i:=a.c) (l:=l) (m:=m) (e:=e) ?_ (sw hk e3 (e5 k aC))) λhb=>LN (LM (st:=a) (λj ob hj=>?_) rfl) _ _
     .rw[f1,f2];exact PE hx (λj hj=>e5 j (by simp[hj])) hg
     .have hj':ag ([(k,some ⟨e,l,none⟩)]++a.σ) j=some ob:=hj;show ag ((k,some ⟨e,l,none⟩)::(a.c,none)::a.σ) j=some ob;rw[List.singleton_append,am] at hj';rw[am];split
      .rename_i ej;rw[if_pos ej] at hj';exact hj'
      .rename_i ej;rw[if_neg ej] at hj';rw[am,if_neg (λE=>by have:=hb j ob hj';omega)];exact hj'
    .cases h
   .cases h
 .rename_i t x y;simp only[cn] at h;obtain⟨⟨i,ob⟩,hg,h⟩:=h;cases h;refine⟨λa e1 e2 e3 e4 e5 e6=>?_,λ_=>rfl⟩;refine nl (Qg (i:=i) (ob:=ob) rfl (by rw[e1];exact hd) ?_) λ_=>rfl;rw[e6 x fK,e6 y fK];have:FK P a.σ t (aB st x) (aB st y)=FK P st.σ t (aB st x) (aB st y):=by
   unfold FK;split
   .rename_i i k hx;rw[e5 i (by rw[hx];exact List.mem_singleton.2 rfl)]
   .rfl
  rw[this];exact hg
 .rename_i x xs ats;split at h
  .rename_i fid fst cap hx;have hcu:cu=true:=by
    unfold Bp mK at h;dsimp only at h;split at h
    .split at h
     .cases hcond:(aK P fid&&Nat.ble (fst++xs.toList.map (aB st)++cap).length _) with
      |false=>rw[hcond] at h;cases h
      |true=>
       rw[hcond] at h;simp only[ax] at h;split at h
       .rename_i m _;have hall:=uA h;cases m with
        |nil=>cases h
        |cons q r=>
         have:=hall q List.mem_cons_self;unfold yL at this;split at this
         .simp only[bg,Prod.mk.injEq] at this;exact this.2.2.2.1.symm
         .cases this
       .cases h
     .cases h
    .cases h
   exact⟨D0 hr rfl hd hx h,λhf=>by rw[hcu] at hf;cases hf⟩
  .cases h
 .rename_i t x y z;simp only[cn] at h;obtain⟨⟨i,ob⟩,hg,h⟩:=h;cases h;refine⟨λa e1 e2 e3 e4 e5 e6=>?_,λ_=>rfl⟩;refine nl (iW (i:=i) (ob:=ob) (.inl rfl) (by rw[e1];exact hd) ?_) λ_=>rfl;rw[e6 x fK,e6 y fK,e6 z fK];unfold dZ at hg⊢;rw[fW (λj hj=>e5 j hj)];exact hg
 .rename_i t x y z;simp only[cn] at h;obtain⟨⟨i,ob⟩,hg,h⟩:=h;cases h;refine⟨λa e1 e2 e3 e4 e5 e6=>?_,λ_=>rfl⟩;refine nl (iW (i:=i) (ob:=ob) (.inr rfl) (by rw[e1];exact hd) ?_) λ_=>rfl;rw[e6 x fK,e6 y fK,e6 z fK];unfold dZ at hg⊢;rw[fW (λj hj=>e5 j hj)];exact hg
 .rename_i t x y;simp only[cn] at h;obtain⟨⟨i,ob,F⟩,hg,h⟩:=h;cases h;refine⟨λa e1 e2 e3 e4 e5 e6=>?_,λ_=>rfl⟩;refine nl (yU (i:=i) (ob:=ob) rfl (by rw[e1];exact hd) ?_) λ_=>rfl;rw[e6 x fK,e6 y fK];unfold ov at hg⊢;rw[fW (λj hj=>e5 j hj)];exact hg
 .rename_i t x y z;simp only[cn] at h;obtain⟨⟨i,ob⟩,hg,h⟩:=h;cases h;refine⟨λa e1 e2 e3 e4 e5 e6=>?_,λ_=>rfl⟩;refine nl (tJ (i:=i) (ob:=ob) rfl (by rw[e1];exact hd) ?_) λ_=>rfl;rw[e6 x fK,e6 y fK,e6 z fK];unfold jX at hg⊢;rw[fW (λj hj=>e5 j hj)];exact hg
 .cases h
end
section
variable {P:Program}
noncomputable def Nu(fr:Fr)(i:Nat):G:=List.rec G.junk (λq _ ih=>bif Nat.beq q.1 i then q.2 else ih) fr
theorem Ag:∀(fr:Fr) (i:Nat),Nu fr i=aD fr i
 |[],i=>rfl
 |(d,g)::r,i=>by show(bif Nat.beq d i then g else Nu r i)=(bif Nat.beq d i then g else aD r i);rw[Ag r i]
noncomputable def SM(fr:Fr)(d:Nat)(g:G):Fr:=List.rec [(d,g)] (λq r ih=>bif Nat.beq q.1 d then(d,g)::r else q::ih) fr
theorem LU:∀(fr:Fr) (d:Nat) (g:G),SM fr d g=Po fr d g
 |[],d,g=>rfl
 |(e,h)::r,d,g=>by show(bif Nat.beq e d then(d,g)::r else(e,h)::SM r d g)=(bif Nat.beq e d then(d,g)::r else(e,h)::Po r d g);rw[LU r d g]
noncomputable def Nv(lo:Nat)(fr:Fr):Fr:=List.rec [] (λq _ ih=>bif Nat.blt q.1 lo then q::ih else ih) fr
theorem xE(lo:Nat):∀(fr:Fr) (i:Nat),aD (Nv lo fr) i=if i<lo then aD fr i else .junk
 |[],i=>by show G.junk=_;split<;>rfl
 |(d,g)::r,i=>by
  show aD (bif Nat.blt d lo then(d,g)::Nv lo r else Nv lo r) i=_;cases h:Nat.blt d lo with
  |true=>
   have hd:d<lo:=cm h;rw[ax,aO,aO,xE lo r i];by_cases e:d=i
   .subst e;simp[hd]
   .simp[e]
  |false=>
   have hd:¬d<lo:=λx=>by rw[show Nat.blt d lo=true from Nat.ble_eq_true_of_le x] at h;cases h
   rw[aM,xE lo r i,aO];by_cases e:d=i
   .subst e;simp[hd]
   .simp[e]
noncomputable def HA(b:List Tmp)(a:Fr):Fr->Fr:=List.rec (λfr=>fr) (λk _ ih fr=>ih (SM fr k (Nu a k))) b
theorem Bq(a:Fr)(i:Nat):∀(ks:List Tmp) (fr:Fr),aD (HA ks a fr) i=if i∈ks then aD a i else aD fr i
 |[],fr=>by show aD fr i=_;simp
 |k::r,fr=>by
  show aD (HA r a (SM fr k (Nu a k))) i=_;rw[Bq a i r,LU,DP,Ag];by_cases e:k=i
  .subst e;simp
  .have:i≠k:=λx=>e x.symm;simp[e,this]
noncomputable def Fu{α:Type}(fr:Fr):(Fr->α)->α:=List.rec (λk=>k []) (λq _ ih k=>ih λr=>k (q::r)) fr
theorem Br{α:Type}:∀(fr:Fr) (k:Fr->α),Fu fr k=k fr
 |[],k=>rfl
 |q::r,k=>by show Fu r (λr=>k (q::r))=k (q::r);rw[Br r]
noncomputable def SN(d:Nat)(fr:Fr):Fr:=List.rec [] (λq _ ih=>bif Nat.beq q.1 d then ih else q::ih) fr
theorem xF(d:Nat):∀(fr:Fr) (i:Nat),aD (SN d fr) i=if d=i then .junk else aD fr i
 |[],i=>by show G.junk=_;split<;>rfl
 |(e,g)::r,i=>by
  show aD (bif Nat.beq e d then SN d r else(e,g)::SN d r) i=_;by_cases h:e=d
  .subst h;rw[Nat.beq_refl,ax,xF e r i,aO];split<;>rfl
  .have:Nat.beq e d=false:=by
    cases hb:Nat.beq e d with
    |false=>rfl
    |true=>exact absurd (bc hb) h
   rw[this,aM,aO,xF d r i,aO];by_cases h1:e=i
   .subst h1;have:¬d=e:=λx=>h x.symm;simp[this]
   .simp[h1]
theorem LV{st:St}{fr:Fr}(h:∀i,aD fr i=aD st.fr i\/aD fr i= .junk):Le P st {st with fr:=fr}:=by
 rintro cx a w ⟨β,r⟩;refine⟨β,{r with fr:=λi=>?_}⟩;rcases h i with e|e
 .show RV β _ w (aD fr i) _;rw[e];exact r.fr i
 .show RV β _ w (aD fr i) _;rw[e];exact .junk _
def X7:Op->Bool
 | .assign _| .alloc _| .box .. | .range .. =>true
 |_=>false
def SO(l:List Oper)(d:Tmp):Bool:=l.any λo=>o.op.operands.any λx=>match x with
 | .tmp t=>Nat.beq t d
 |_=>false
def VB(l:List Oper):Bool:=l.any λo=>match o.op with
 | .move (.const _)=>true
 |_=>false
def xG(all:Bool):List Oper->List Tmp
 |[]=>[]
 |o::r=>match o.dst with
  |some d=>bif all||X7 o.op|| !SO r d then(bif(xG all r).any (Nat.beq d) then xG all r else d::xG all r) else xG all r
  |none=>xG all r
def lM(l:List Oper):List Tmp:=xG (VB l) l
def D3(l:List Oper)(a:List Tmp):Nat:=l.foldl (λm o=>match o.dst with
 |some d=>bif a.any (Nat.beq d) then m else mj d m
 |none=>m) 1000000
def Fv(l:List Oper)(a:List Tmp)(lo:Nat):Bool:=l.all λo=>match o.dst with
 |some d=>a.any (Nat.beq d)||Nat.ble lo d
 |none=>true
noncomputable def Bt(l:List Oper)(b a:Fr):Fr:=(λc=>(λlo=>bif Fv l c lo then HA c a (Nv lo b) else a) (D3 l c)) (lM l)
theorem Bu{l:List Oper}{fr0 fr1:Fr}(h:∀i,(∀o∈l,o.dst≠some i)->aD fr1 i=aD fr0 i)(i:Nat):aD (Bt l fr0 fr1) i=aD fr1 i\/aD (Bt l fr0 fr1) i= .junk:=by
 show aD (bif Fv l (lM l) (D3 l (lM l)) then HA (lM l) fr1 (Nv (D3 l (lM l)) fr0) else fr1) i=_\/aD (bif Fv l (lM l) (D3 l (lM l)) then HA (lM l) fr1 (Nv (D3 l (lM l)) fr0) else fr1) i=_;cases ht:Fv l (lM l) (D3 l (lM l)) with
 |false=>exact .inl rfl
 |true=>
  simp only[ax];rw[Bq,xE];split
  .exact .inl rfl
  .rename_i hk;split
   .rename_i hlt;refine .inl (h i λo ho hd=>?_).symm;have:=List.all_eq_true.1 ht o ho;rw[hd] at this;simp only[Bool.or_eq_true] at this;rcases this with h1|h1
    .obtain⟨x,hx,hb⟩:=List.any_eq_true.1 h1;rw[bc hb] at hk;exact hk hx
    .have:=cm h1;omega
   .exact .inr rfl
def JV{α:Type}(g:G)(k:G->α):α:=match g with
 | .lit v=>(match v with
  | .int t n=>Pq n λn=>k (.lit (.int t n))
  | .bool b=>(match b with
   |true=>k (.lit (.bool true))
   |false=>k (.lit (.bool false)))
  |v=>k (.lit v))
 | .agg l=>k (.agg l)
 | .tup l=>k (.tup l)
 | .ptr l o=>dm o λo=>k (.ptr l o)
 | .sl l n=>dm n λn=>k (.sl l n)
 | .clo f a b=>k (.clo f a b)
 | .ifc t g=>k (.ifc t g)
 | .ref i o=>dm i λi=>dm o λo=>k (.ref i o)
 | .rsl i o n=>dm i λi=>dm o λo=>dm n λn=>k (.rsl i o n)
 | .mref i=>dm i λi=>k (.mref i)
 | .mp ks vs ns c=>k (.mp ks vs ns c)
 | .yld i=>k (.yld i)
 | .junk=>k .junk
theorem Nw(g:G)(k:G->α):JV g k=k g:=by
 unfold JV;split
 .rename_i v;split
  .rw[Ni]
  .rename_i b;cases b<;>rfl
  .rfl
 all_goals simp only[bo]
def fG{α:Type}(E:XEnv)(g:G)(k:G->α):α:=bif E.fv then JV g k else k g
theorem LW(E:XEnv)(g:G)(k:G->α):fG E g k=k g:=by
 unfold fG;cases E.fv with
 |true=>exact Nw g k
 |false=>rfl
noncomputable def tf(gl:List (Nat×List G))(fr:Fr):Operand->G
 | .tmp t=>Nu fr t
 | .const v=>db v
 | .global g=>(match gl.lookup g with|some l=> .ptr l 0|none=> .junk)
 | .func f=> .clo (.func f) [] []
theorem g7(s:St)(fr:Fr)(x:Operand):tf s.gl fr x=aB {s with fr:=fr} x:=by
 cases x with
 |tmp t=>exact Ag fr t
 |const v=>rfl
 |global g=>rfl
 |func f=>rfl
noncomputable def LX(σ:aQ)(i:Nat):Option Ob:=List.rec none (λq _ ih=>bif Nat.beq q.1 i then q.2 else ih) σ
theorem HB:∀(σ:aQ) (i:Nat),LX σ i=ag σ i
 |[],i=>rfl
 |(d,g)::r,i=>by show(bif Nat.beq d i then g else LX r i)=(bif Nat.beq d i then g else ag r i);rw[HB r i]
noncomputable def PI(l:List G):Nat->Option G:=List.rec (λ_=>none) (λx _ ih n=>Nat.rec (some x) (λm _=>ih m) n) l
theorem Fw:∀(l:List G) (n:Nat),PI l n=l[n]?
 |[],n=>by simp[PI]
 |x::r,0=>rfl
 |x::r,n+1=>by show PI r n=_;rw[Fw r n];rfl
noncomputable def D4(P:Program)(t:TypeId)(l:List G)(o:Nat):Option G:=match fg P t with
 |some false=>PI l o
 |_=>dN P t l o
theorem Bv(t:TypeId)(l:List G)(o:Nat):D4 P t l o=dN P t l o:=by
 unfold D4;split
 .rename_i h;unfold dN;rw[h,Fw]
 .rfl
noncomputable def UR(P:Program)(σ:aQ)(t:TypeId):G->Option G
 | .ref i o=>match LX σ i with
  |some ob=>D4 P t ob.l o
  |none=>none
 | .ptr l o=>D4 P t l o
 |_=>none
theorem PJ(σ:aQ)(t:TypeId)(g:G):UR P σ t g=jU P σ t g:=by
 cases g with
 |ref i o=>
  show(match LX σ i with|some ob=>D4 P t ob.l o|none=>none)=(ag σ i).bind _;rw[HB];cases ag σ i with
  |none=>rfl
  |some ob=>exact Bv t ob.l o
 |ptr l o=>exact Bv t l o
 |_=>rfl
def PL(P:Program)(t:TypeId)(k:Nat):Option Nat:=(ru P t k).bind λ(off,ft)=>(bw P ft).bind λn=>if n=0 then none else some off
def PM(a:Option Nat)(g:G):Option G:=match a with
 |some k=>(match g with
  | .ref i o=>some (.ref i (o+k))
  | .ptr l o=>some (.ptr l (o+k))
  |_=>none)
 |none=>none
theorem PN{x:G}(h:PM (PL P t k) x=some g):BX P t k x=some g:=by
 unfold PM at h;split at h
 .rename_i b ho;unfold PL at ho;simp only[Option.bind_eq_some_iff] at ho;obtain⟨⟨a,c⟩,h1,n,h2,h3⟩:=ho;split at h3
  .cases h3
  .rename_i hn;cases h3;unfold BX;rw[h1];simp only[aL,h2,if_neg hn];unfold wo;exact h
 .cases h
def ZQ(P:Program)(t:TypeId):Option Nat:=(dp P t).bind λe=>bw P e
def JW(P:Program)(t:TypeId)(x i:G):Option G:=match i with
 | .lit (.int _ (.ofNat m))=>(match x with
  | .rsl j o n=>(match ZQ P t with
   |some s=>bif Nat.blt m n then some (.ref j (o+m*s)) else none
   |none=>none)
  | .sl l n=>(match ZQ P t with
   |some s=>bif Nat.blt m n then(bif Nat.blt (m*s) l.length then some (.ptr l (m*s)) else none) else none
   |none=>none)
  |_=>none)
 |_=>none
theorem JX{a b:Nat}(h:Nat.blt a b=true):a<b:=cm h
theorem Ny{x i:G}(h:JW P t x i=some g):(xL i).bind (λk=>fh P t x k)=some g:=by
 unfold JW at h;split at h
 .rename_i k m;show fh P t x (Int.ofNat m)=some g;split at h
  .rename_i j o n;split at h
   .rename_i s hs;simp only[ZQ,Option.bind_eq_some_iff] at hs;obtain⟨e,he,hs⟩:=hs;cases hb:Nat.blt m n with
    |false=>rw[hb] at h;cases h
    |true=>rw[hb] at h;have hlt:=JX hb;unfold fh;rw[he];simp only[hs,aL];rw[if_pos ⟨Int.natCast_nonneg m,Int.ofNat_lt.2 hlt⟩];exact h
   .cases h
  .rename_i l n;split at h
   .rename_i s hs;simp only[ZQ,Option.bind_eq_some_iff] at hs;obtain⟨e,he,hs⟩:=hs;cases hb:Nat.blt m n with
    |false=>rw[hb] at h;cases h
    |true=>
     rw[hb] at h;simp only[ax] at h;cases hb2:Nat.blt (m*s) l.length with
     |false=>rw[hb2] at h;cases h
     |true=>rw[hb2] at h;have hlt:=JX hb;have hlt2:=JX hb2;unfold fh;rw[he];simp only[hs,aL];rw[if_pos ⟨Int.natCast_nonneg m,Int.ofNat_lt.2 hlt,hlt2⟩];exact h
   .cases h
  .cases h
 .cases h
def X8(P:Program)(t:TypeId)(g:G):Option G:=match dp P t with
 |some _=>(match g with
  | .rsl _ _ n=>some (.lit (.int .i64 (Int.ofNat n)))
  | .sl _ n=>some (.lit (.int .i64 (Int.ofNat n)))
  |_=>none)
 |none=>none
def X9:G->Option G
 | .lit (.bool b)=>some (.lit (.bool (!b)))
 |_=>none
def US(c x y:G):Option G:=match c with
 | .lit (.bool b)=>some (match b with
  |true=>x
  |false=>y)
 |_=>none
noncomputable def Ya(k:Nat)(g:G):Option G:=match g with
 | .tup l=>PI l k
 |_=>none
noncomputable def PO(P:Program)(t:TypeId)(k:Nat)(g:G):Option G:=match g with
 | .agg l=>(match ru P t k with
  |some q=>D4 P q.2 l q.1
  |none=>none)
 |_=>none
inductive PK where
 |mv (x:Operand)
 |bin (op:BinOp) (x y:Operand)
 |ld (t:TypeId) (x:Operand)
 |fa (off:Option Nat) (x:Operand)
 |ia (t:TypeId) (x y:Operand)
 |ex (k:Nat) (x:Operand)
 |ln (t:TypeId) (x:Operand)
 |nt (x:Operand)
 |pk (c x y:Operand)
 |fd (t:TypeId) (k:Nat) (x:Operand)
 |val
def HC(P:Program):Op->PK
 | .move x=> .mv x
 | .assign x=> .mv x
 | .binOp op _ x y _=> .bin op x y
 | .load t x=> .ld t x
 | .fieldAddr t x k=> .fa (PL P t k) x
 | .indexAddr t x y=> .ia t x y
 | .extract x k=> .ex k x
 | .call {callee:= .builtin .len,args:=⟨[x]⟩,argTypes:=⟨[t]⟩}=> .ln t x
 | .unOp .not _ x=> .nt x
 | .pick c x y=> .pk c x y
 | .field t x k=> .fd t k x
 |_=> .val
noncomputable def wc(P:Program)(gl:List (Nat×List G))(fr:Fr)(σ:aQ):PK->Option G
 | .mv x=>some (tf gl fr x)
 | .bin op x y=>lD op (tf gl fr x) (tf gl fr y)
 | .ld t x=>UR P σ t (tf gl fr x)
 | .fa off x=>PM off (tf gl fr x)
 | .ia t x y=>JW P t (tf gl fr x) (tf gl fr y)
 | .ex k x=>Ya k (tf gl fr x)
 | .ln t x=>X8 P t (tf gl fr x)
 | .nt x=>X9 (tf gl fr x)
 | .pk c x y=>US (tf gl fr c) (tf gl fr x) (tf gl fr y)
 | .fd t k x=>PO P t k (tf gl fr x)
 | .val=>none
theorem xH{E:XEnv}{run:bR}(h:wc P s.gl fr s.σ (HC P o.op)=some g):iE P E run o {s with fr:=fr}=some g:=by
 obtain⟨a,f,ty,d,j,m⟩:=o;unfold HC at h;dsimp only at h;split at h
 .simp only[wc,g7] at h;exact h
 .simp only[wc,g7] at h;exact h
 .simp only[wc,g7] at h;unfold iE;simp only[h]
 .simp only[wc,g7,PJ] at h;exact h
 .simp only[wc,g7] at h;exact PN h
 .simp only[wc,g7] at h;exact Ny h
 .rename_i x k;simp only[wc,g7] at h;show(match aB {s with fr:=fr} x with| .tup l=>l[k]? |_=>none)=some g;unfold Ya at h;split at h
  .rename_i l hx;rw[Fw] at h;exact h
  .cases h
 .rename_i x t;simp only[wc,g7] at h;unfold iE;dsimp only;unfold X8 at h;split at h
  .rename_i e he;split at h
   .rename_i i o n hx;rw[hx];have:ou P s.σ t (.rsl i o n)=none:=by unfold ou;split<;>rfl
    rw[this];simp only;rw[Ka,hx,he];exact h
   .rename_i l n hx;rw[hx];have:ou P s.σ t (.sl l n)=none:=by unfold ou;split<;>rfl
    rw[this];simp only;rw[Ka,hx,he];exact h
   .cases h
  .cases h
 .rename_i t x;simp only[wc,g7] at h;unfold iE;dsimp only;rw[Yc];unfold X9 at h;split at h
  .rename_i b hx;rw[hx,VX];exact h
  .cases h
 .rename_i c x y;simp only[wc,g7] at h;show(Ea (aB {s with fr:=fr} c)).map _=some g;unfold US at h;split at h
  .rename_i b hc;rw[hc];cases b with
   |true=>exact h
   |false=>exact h
  .cases h
 .rename_i t x k;simp only[wc,g7] at h;show(match aB {s with fr:=fr} x with| .agg l=>(ru P t k).bind λ(off,ft)=>dN P ft l off|_=>none)=some g;unfold PO at h;split at h
  .rename_i l hx;split at h
   .rename_i q hq;rw[hq];rw[Bv] at h;exact h
   .cases h
  .cases h
 .cases h
noncomputable def Bw(P:Program)(E:XEnv)(run:bR)(o:Oper)(s:St):Option G:=match wc P s.gl s.fr s.σ (HC P o.op) with
 |some g=>fG E g some
 |none=>iE P E run o s
theorem pq{E:XEnv}{run:bR}(h:Bw P E run o s=some g):iE P E run o s=some g:=by
 unfold Bw at h;split at h
 .rename_i a hg;rw[LW] at h;cases h;exact xH hg
 .exact h
theorem HD{E:XEnv}{run:bR}:Bw P E run o s=iE P E run o s:=by
 unfold Bw;split
 .rename_i g hg;rw[LW];exact(xH hg).symm
 .rfl
inductive PG where
 |no
 |out
 |at(d:Tmp) (want:Bool)
structure XQO where
 g:PG
 d:Option Tmp
 k:PK
 o:Oper
def Dl(ops:Array Oper)(o:Oper):PG:=match o.guard with
 |none=> .no
 |some (j,want)=>match(ops[j]?).bind (·.dst) with
  |some d=> .at d want
  |none=> .out
def nr(P:Program)(ops:Array Oper)(l:List Oper):List XQO:=l.map λo=>⟨Dl ops o,o.dst,HC P o.op,o⟩
noncomputable def D5(fr:Fr):PG->Option Bool
 | .no=>some true
 | .out=>some false
 | .at d want=>match Nu fr d with
  | .lit (.bool b)=>some (b==want)
  | .lit _=>some false
  |_=>none
theorem Bx(s:St)(fr:Fr)(ops:Array Oper)(o:Oper):D5 fr (Dl ops o)=ce {s with fr:=fr} ops o:=by
 unfold Dl ce;cases o.guard with
 |none=>rfl
 |some q=>
  obtain⟨j,a⟩:=q;dsimp only;cases(ops[j]?).bind (·.dst) with
  |none=>rfl
  |some d=>simp only[D5,Ag];rfl
def tB(d:Option Tmp)(g:G)(fr:Fr):Fr:=match d with
 |some d=>(d,g)::fr
 |none=>fr
theorem wd(s:St)(fr:Fr)(d:Option Tmp)(g:G):{s with fr:=tB d g fr}=({s with fr:=fr}:St).xput d g:=by cases d<;>rfl
def UT(P:Program)(E:XEnv)(run:bR)(s:St)(o:Oper)(fr:Fr)(k:G->Option Fr):Option Fr:=match iE P E run o {s with fr:=fr} with
 |some g=>fG E g k
 |none=>none
noncomputable def Xj(P:Program)(E:XEnv)(run:bR)(s:St)(x:XQO)(fr:Fr)(k:G->Option Fr):Option Fr:=match wc P s.gl fr s.σ x.k with
 |some g=>fG E g k
 |none=>UT P E run s x.o fr k
noncomputable def tC(P:Program)(E:XEnv)(run:bR)(s:St)(l:List XQO):Fr->Option Fr:=List.rec (λfr=>some fr) (λx _ ih fr=>match D5 fr x.g with
 |some true=>Xj P E run s x fr λg=>ih (tB x.d g fr)
 |some false=>ih (tB x.d (.lit undef) fr)
 |none=>none) l
theorem Bz{E:XEnv}{run:bR}{ops:Array Oper}{k:G->Option Fr}{r:Fr}(h:Xj P E run s ⟨Dl ops o,o.dst,HC P o.op,o⟩ fr k=some r):∃g,iE P E run o {s with fr:=fr}=some g/\k g=some r:=by
 unfold Xj at h;split at h
 .rename_i g hg;rw[LW] at h;exact⟨g,xH hg,h⟩
 .unfold UT at h;split at h
  .rename_i g hg;rw[LW] at h;exact⟨g,hg,h⟩
  .cases h
theorem rj{E:XEnv}{run:bR}{s:St}{ops:Array Oper}:∀(l:List Oper) (fr fr1:Fr),tC P E run s (nr P ops l) fr=some fr1->∀i,(∀o∈l,o.dst≠some i)->aD fr1 i=aD fr i
 |[],fr,fr1,h,i,hi=>by have h:some fr=some fr1:=h;cases h;rfl
 |o::r,fr,fr1,h,i,hi=>by
  have h:(match D5 fr (Dl ops o) with
   |some true=>Xj P E run s ⟨Dl ops o,o.dst,HC P o.op,o⟩ fr λg=>tC P E run s (nr P ops r) (tB o.dst g fr)
   |some false=>tC P E run s (nr P ops r) (tB o.dst (.lit undef) fr)
   |none=>none)=some fr1:=h
  have hq:∀g,aD (tB o.dst g fr) i=aD fr i:=λg=>by
   cases hd:o.dst with
   |none=>rfl
   |some d=>show aD ((d,g)::fr) i=_;rw[aO,if_neg (λe=>hi o aC (by rw[hd,e]))]
  split at h
  .obtain⟨g,_,h2⟩:=Bz h;exact(rj r _ _ h2 i λo ho=>hi o (by simp[ho])).trans (hq g)
  .exact(rj r _ _ h i λo ho=>hi o (by simp[ho])).trans (hq _)
  .cases h
def we(E:XEnv)(l:List Oper):Bool:=l.all λo=>lE E o.op
def BA(n:Nat)(l:List Oper):Bool:=l.all λo=>pj n o.dst
end
section
variable {P:Program}
theorem H4{f:Operand}(ho:o.op= .call {callee:= .value f,args:=xs,argTypes:=ats})(hd:H_d o st.n)(hf:aB st f= .clo (.func fid) fst cap)(hc:aK P fid=true)
  (hl:gs.length=(fst++xs.toList.map (aB st)++cap).length) (hi:∀(i:Nat) (g g':G),(fst++xs.toList.map (aB st)++cap)[i]?=some g->gs[i]?=some g'->ve P st g g') (hF:iV P st.gl fid gs t m l) (d:∀g∈l,∃v,g= .lit v):
  GS P o st ({st with σ:=(st.c,some ⟨t,l,none⟩)::st.σ,c:=st.c+1}.put o.dst (.rsl st.c 0 m)):=by
 intro cx a w K R ⟨β,h⟩ q
 obtain⟨vs,hrun,hsz,hv⟩:=lQ h ho hf hc
 refine h.loose.oper (λc hc=>by rw[ho] at hc;cases hc) ?_
 unfold Oper.wp
 rw[hrun]
 have hav:∀b,Av cx.S0 (λ_=>none) [] b->cx.S0 b:=by
  rintro b (hx|⟨i,ob,C,hob,_⟩)
  .exact hx
  .cases hob
 refine(hF w (λ_=>none) cx.S0 vs (λb hb=>h.keep.lt (h.old b hb)) (λ_ _=>rfl) (λg l hl=>(h.glob g l hl).sub λb _ x=> .inl (hav b x)) ⟨λi o ho=>by(cases ho),λi j o p b C D ho=>by(cases ho),λi o b C ho=>by(cases ho)⟩ aa (λi g u hg hu=>?_)).mono ?_
 .have hlt:=(cr hg).1
  have hx:(fst++xs.toList.map (aB st)++cap)[i]?=some ((fst++xs.toList.map (aB st)++cap)[i]'aa):=by rw[cv]
  exact .imm _ _ ((hi i _ g hx hg cx a w β h u (hv i _ u hx hu)).sub λb _ x=>hav b x)
 .rintro e w' ⟨v,r,rfl,hp⟩
  have hkeep:Keeps (λ_=>False) w w':=hp.keep.mono (by rintro k _ ⟨i,ob,C,hob,_⟩;cases hob)
  have hob:=hp.rs.ob 0 _ rfl
  have hval:=hp.val
  rcases hob with⟨h1,h2,_⟩|⟨b,x,p,h1,_⟩|⟨b,C,cur,_,h1,h2,h3,h4,h5,h6⟩
  .obtain⟨hv0,hm0⟩:v= .slice none 0 0/\m=0:=by
    rcases hval.rsl_form with⟨_,e1,e2⟩|⟨b,C,p,cap,e1,_⟩
    .exact⟨e1,e2⟩
    .rw[h1] at e1;cases e1
   subst hv0;subst hm0
   have hl0:l=[]:=h2
   subst hl0
   exact q _ _ ⟨_,((h.world hkeep).virt t (Nat.le_refl _)).put o.dst hd (.rsl0 _ _ aC)⟩
  .cases h1
  .have hb:w.heap.size<=b:=by
    rcases hp.old b ⟨0,_,C,rfl,h1⟩ with⟨i,ob,D,hob,_⟩|hb
    .cases hob
    .exact hb
   have hrel:=h.alloc (k:=st.c) (ob:=⟨t,l,none⟩) hkeep hb h2 h3 h4 h5 rfl (λj g hj=>by obtain⟨u,hu,h7,h8⟩:=h6 j g hj;obtain⟨s,rfl⟩:=d g (bO hj);exact⟨u,hu,h7,by rw[h8.lit_eq];exact .imm _ _ (.lit _)⟩) (Nat.le_refl _)
   refine q _ _ ⟨_,hrel.put o.dst hd ?_⟩
   rcases hval.rsl_form with⟨_,rfl,rfl⟩|⟨y,C',p,cap,e1,rfl,e3,e4,e5,e6⟩
   .exact .rsl0 _ _ aC
   .rw[h1] at e1
    cases e1
    exact .rsl _ _ _ b C p cap aC e3 e4 e5 e6
def Qt(P:Program)(fid:FuncId)(gs:List G)(gl:List (Nat×List G))(R:List Nat)(σR:aQ)(c:Nat)(x:XF):Prop:=
 ∀(o:Oper) (st:St) (y:Operand) (xs:Array Operand) (ats:Array TypeId) (fst cap:List G),o.op= .call {callee:= .value y,args:=xs,argTypes:=ats}->(∀d,o.dst=some d->d<st.n)->aB st y= .clo (.func fid) fst cap->fst++xs.toList.map (aB st)++cap=gs->st.gl=gl->eV st.σ 0 1000000 gs []=R->(R.map λi=>(i,ag st.σ i))=σR->st.c=c->
  X6 P o st x.1 x.2.1 x.2.2.1 x.2.2.2.1 x.2.2.2.2/\x.2.2.2.1=true
theorem Ko{run:bR}{R:List Nat}{σR:aQ}{c:Nat}{x:XF}(h:mK P run fid gs gl R σR c=some x):x.2.2.2.1=true:=by
 unfold mK at h;split at h
 .split at h
  .cases hcond:(aK P fid&&Nat.ble gs.length _) with
   |false=>rw[hcond] at h;cases h
   |true=>
    rw[hcond] at h;simp only[ax] at h;split at h
    .rename_i m _;have hall:=uA h;cases m with
     |nil=>cases h
     |cons q r=>
      have:=hall q List.mem_cons_self;unfold yL at this;split at this
      .simp only[bg] at this;rw[<-this]
      .cases this
    .cases h
  .cases h
 .cases h
theorem NS{run:bR}(hr:RunOk P run){R:List Nat}{σR:aQ}{c:Nat}{x:XF}(h:mK P run fid gs gl R σR c=some x):Qt P fid gs gl R σR c x:=by intro o st y xs ats fst cap ho hd hy hgs hgl a b hc;subst hgs;subst hgl;subst hc;subst a;subst b;exact⟨D0 (g:=x.1) (U:=x.2.1) (R:=x.2.2.1) (cu:=x.2.2.2.1) (c:=x.2.2.2.2) hr ho hd hy (by unfold Bp;exact h),Ko h⟩
end
end Go.Proofs.YtnpdibmpndhkjaaGreatDoor
