/- Texts. -/
import Derived.Laws.Bits64b
import Derived.Test.YtlijnaneopediaaGreatDoorD10
namespace Go.Proofs.YtlijnaneopediaaGreatDoor
set_option linter.unusedSectionVars false
set_option linter.unusedVariables false
set_option linter.unusedSimpArgs false
open Go.RowKit Tryz
variable (gl:Cd)
variable {α:Type}{o:Oper}{t:Tmp}{i:Ab}{D:Dn}{b j k n since:Nat}{x x':AA}{seen:Bq}{a d m:Int}{g:G}{st:St}{fi_a1 fi_may fid:FuncId}{ops:Array Oper}{rest:Iu}{R R':Ad}{l:List (Nat×Ob)}{P:Br}{y:Dk}{fa_a1 fa_may fc_a1 fc_may:Bj}
section
variable {P:Br}
def rk(o:Oper)(t:Tmp):Bool:=match o.dst with
 |some d=>Nat.beq d t
 |none=>false
theorem xJ:rk o t=true↔o.dst=some t:=by grind [rk,bc,Nat.beq_refl]
def PT(l:Iu)(i:Nat)(t:Tmp):Bool:=match l[i]? with
 |some o=>rk o t
 |none=>false
theorem JY{l:Iu}{i:Nat}(h:PT l i t=true):bX l i=some t:=by grind [PT,bX,xJ]
def rl(o:Oper):Option Value:=match o.op with
 | .insert _ _ (.const k) _=>some k
 |_=>none
def Fx(d:TypeDesc)(a b:Value):Bool:=match Instr.sameNow d a b with
 |some false=>true
 |_=>false
theorem yN{d:TypeDesc}{a b:Value}(h:Fx d a b=true):Instr.sameNow d a b=some false:=by grind [Fx]
def LY(d:TypeDesc)(o a:Oper):Bool:=match rl o,rl a with
 |some k,some k'=>Fx d k k'&&Fx d k' k
 |_,_=>true
def rn(d:TypeDesc):Iu->Bool
 |[]=>true
 |o::r=>r.all (LY d o)&&rn d r
theorem tD{d:TypeDesc}:∀{l:Iu},rn d l=true->∀(i j:Nat) (o a:Oper) (k k':Value),i≠j->l[i]?=some o->l[j]?=some a->rl o=some k->rl a=some k'->Instr.sameNow d k k'=some false
 |[],_,i,j,o,a,k,k',_,h,_,_,_=>by cases h
 |x::r,h,i,j,o,a,k,k',hne,hi,hj,hk,hk'=>by
  simp only[rn,bA] at h;have key:∀(i:Nat) (a:Oper) (k k':Value),r[i]?=some a->rl x=some k->rl a=some k'->Instr.sameNow d k k'=some false/\Instr.sameNow d k' k=some false:=by intro i a k k' hi hk hk';have:=Hd.1 h.1 a (bO hi);grind [LY,yN]
  cases i with
  |zero=>grind
  |succ i=>
   cases j with
   |zero=>grind
   |succ j=>exact tD h.2 i j o a k k' aa (by grind) (by grind) hk hk'
def BD:Iu->Bool
 |[]=>true
 |o::r=>(match o.dst with
  |some d=>r.all λa=> !rk a d
  |none=>true)&&BD r
def PU(l:Iu)(o:Oper):Dk->Bool
 | .tmp t=>(o.after.toList.any λe=>Region.binds .any e&&PT l e.on t)||l.all λa=> !rk a t
 |_=>true
theorem fJ{i:Nat}(h:Ab6 o i=true):∃e∈o.after,Region.binds .any e=true/\e.on=i:=by obtain⟨e,he,hb⟩:=List.any_eq_true.1 h;simp only[bA] at hb;exact⟨e,by simpa using he,hb.1,bc hb.2⟩
def wh(o:Oper):Nat->Bool
 |0=>true
 |n+1=>Ab6 o n&&wh o n
theorem RX{o:Oper}:∀{n:Nat},wh o n=true->∀i,i<n->Ab6 o i=true
 |n+1,h,i,hi=>by
  simp only[wh,bA] at h;rcases HU i n with h1|h1
  .exact RX h.2 i h1
  grind
def VD(P:Br)(n:Nat)(T kt:Bn)(l:Iu)(N1:Nat)(j:Nat)(o:Oper):Bool:=
 o.guard.isNone&&(o.after.toList.all λe=> !Region.binds .any e||Nat.blt e.on j)&&pj n o.dst&&(o.op.operands.toList.all (PU l o))&&(match o.op with
 | .makeMap t none=>Nat.beq j 0&&Nat.beq t T&&o.dst.isSome
 | .insert t _ (.const k) _=>Nat.beq t T&&o.dst.isNone&&Ab6 o 0&&rB P false kt k&&(match k with
  | .int .. =>true
  |_=>false)
 | .range t _=>Nat.beq j N1&&Nat.beq t T&&o.dst.isSome&&Ab6 o (N1-1)
 | .makeMap .. | .insert .. =>false
 |_=>o.dst.isSome)
def LZ(P:Br)(n:Nat)(T kt:Bn)(l:Iu)(N1:Nat):Nat->Iu->Bool
 |_,[]=>true
 |j,o::r=>VD P n T kt l N1 j o&&LZ P n T kt l N1 (j+1) r
theorem BE{n:Nat}{T kt:Bn}{l:Iu}{N1:Nat}:∀{m:Iu} {j:Nat},LZ P n T kt l N1 j m=true->∀(i:Nat) (o:Oper),m[i]?=some o->VD P n T kt l N1 (j+i) o=true
 |[],j,_,i,o,h=>by cases h
 |x::r,j,h,i,o,hi=>by
  simp only[LZ,bA] at h;cases i with
  |zero=>grind
  |succ i=>have:=BE h.2 i o (by grind);grind
def wi(o:Oper):Bool:=match o.op with
 | .makeMap _ none=>true
 |_=>false
def HF(o:Oper):Bool:=match o.op with
 | .range .. =>true
 |_=>false
def JZ(P:Br)(n:Nat)(T kt et:Bn)(l:Iu)(N1:Nat):Bool:=
 (match pB P T with
 |some (k,e)=>Nat.beq k kt&&Nat.beq e et
 |none=>false)&&(match P.underlying kt with
 |some d=>rn d l
 |none=>false)&&BD l&&LZ P n T kt l N1 0 l&&Nat.beq l.length (N1+1)&&Nat.blt 0 N1&&(match l[0]?,l[N1]? with
 |some o,some o'=>wi o&&HF o'
 |_,_=>false)&&(match l[N1-1]? with
 |some o=>wh o (N1-1)
 |none=>false)
def VE(P:Br)(a:St)(mi:Nat)(o:Oper):Prop:=∃d,o.dst=some d/\∀s:St,s.n=a.n->s.gl=a.gl->s.pr=a.pr->(∀x∈o.op.operands,aB s x=aB a x)->(∀i,i≠mi->i≠mi+1->ag s.σ i=ag a.σ i)->GS P o s (s.put (some d) (aD a.fr d))
def lN(P:Br)(a:St)(mi:Nat)(o:Oper):Prop:=match o.op with
 | .makeMap .. =>(match o.dst with
  |some d=>iF 16 (aD a.fr d) (.mref mi)
  |none=>false)=true
 | .insert _ x _ _=>iF 16 (aB a x) (.mref mi)=true
 | .range _ x=>(iF 16 (aB a x) (.mref mi)&&(match o.dst with
  |some d=>iF 16 (aD a.fr d) (.ref (mi+1) 0)
  |none=>false))=true
 |_=>VE P a mi o
def mM(a:St)(o:Oper):Option (Value×G):=match o.op with
 | .insert _ _ (.const k) y=>some (k,aB a y)
 |_=>none
structure YA (ents:List (Value×G)) (es:List (Value×G×Nat)) (clock:Nat):Prop where
 sub:∀e∈es,(e.1,e.2.1)∈ents
 sup:∀q∈ents,∃n,(q.1,q.2,n)∈es
 lt:∀e∈es,e.2.2<clock
 nd:(es.map (·.2.2)).Nodup
section lit
variable {l:Iu} {st:St} {T kt et:Bn} {N1:Nat} {vals:Fr}
abbrev iH(st:St)(vals:Fr):St:={st with fr:=vals++st.fr}
structure Su (st:St) (T:Bn) (l:Iu) (N1:Nat) (vals:Fr) (D:Dn) (s:St):Prop where
 n:s.n=st.n
 gl:s.gl=st.gl
 pr:s.pr=st.pr
 f1:∀j t,D j=true->bX l j=some t->aD s.fr t=aD (iH st vals).fr t
 f2:∀t,(∀j,D j=true->bX l j≠some t)->aD s.fr t=aD st.fr t
 σ:∀i,i≠st.c->i≠st.c+1->ag s.σ i=ag st.σ i
 c:s.c=if D N1 then st.c+2 else if D 0 then st.c+1 else st.c
 ins:∀j o q,D j=true->l[j]?=some o->mM (iH st vals) o=some q->D 0=true
 last:D N1=true->∀j,j<N1->D j=true
 pen:D (N1-1)=true->∀j,j<N1-1->D j=true
 m:D 0=true->∃es clock,ag s.σ st.c=some ⟨T,[],some (.map es clock)⟩/\(∀e∈es,∃j o,D j=true/\l[j]?=some o/\mM (iH st vals) o=some (e.1,e.2.1))/\(∀j o q,D j=true->l[j]?=some o->mM (iH st vals) o=some q->∃n,(q.1,q.2,n)∈es)/\(∀e∈es,e.2.2<clock)/\(es.map (·.2.2)).Nodup/\
  (D N1=true->ag s.σ (st.c+1)=some ⟨T,[],some (.iter (some st.c) clock [] clock)⟩)
theorem BF(s:St)(d:Option Tmp)(g:G):(s.put d g).σ=s.σ/\(s.put d g).c=s.c/\(s.put d g).n=s.n/\(s.put d g).gl=s.gl/\(s.put d g).pr=s.pr:=by cases d<;>exact⟨rfl,rfl,rfl,rfl,rfl⟩
theorem HG(s:St)(d:Option Tmp)(g:G)(t:Tmp):aD (s.put d g).fr t=if d=some t then g else aD s.fr t:=by cases d<;>grind [St.put]
theorem L1{d:TypeDesc}{k:Value}:∀{ks:List Value} {n:Nat},(∀u∈ks,Instr.sameNow d k u=some false)->B6 d k ks n=some none
 |[],n,h=>rfl
 |u::r,n,h=>by unfold B6;rw[h u aC];exact L1 (by grind)
theorem tF{i:Nat}(h:D i=true):D.add j i=true:=by grind [Dn.add]
theorem HH:D.add j j=true:=by simp[Dn.add]
theorem L2{i:Nat}(h:D.add j i=true):i=j\/D i=true:=by grind [Dn.add]
theorem ro{i:Nat}(h:i≠j):D.add j i=D i:=by grind [Dn.add]
theorem Su.frames{D:Dn}{s:St}(h:Su st T l N1 vals D s)(hp:BD l=true){j:Nat}{o:Oper}(ho:l[j]?=some o){g:G}(hg:∀t,o.dst=some t->g=aD (iH st vals).fr t)(s':St)(hs:s'.fr=s.fr):
  (∀i t,D.add j i=true->bX l i=some t->aD (s'.put o.dst g).fr t=aD (iH st vals).fr t)/\∀t,(∀i,D.add j i=true->bX l i≠some t)->aD (s'.put o.dst g).fr t=aD st.fr t:=by
 refine⟨λi t hi ht=>?_,λt ht=>?_⟩
 .grind [HG,L2,bX,f1]
 .rw[HG,hs,BU (λe=>ht j HH (by simp[bX,ho,e]))]
  grind [f2,tF]
theorem SR{s:St}(h:Su st T l N1 vals D s)(hv:∀q∈vals,∃o∈l,rk o q.1=true)(hr:∀e∈o.after,Region.binds .any e=true->D e.on=true){x:Dk}(hx:PU l o x=true):aB s x=aB (iH st vals) x:=by
 cases x with
 |const v=>rfl
 |global g=>simp only[aB,h.gl]
 |func f=>rfl
 |tmp t=>
  show aD s.fr t=aD (vals++st.fr) t;simp only[PU,Bool.or_eq_true,List.any_eq_true,bA,Hd,Bool.not_eq_true'] at hx;rcases hx with⟨e,he,hb,hd⟩|hx
  .exact h.f1 e.on t (by grind) (JY hd)
  .have hn:∀j,bX l j≠some t:=λj hj=>by have hj:(l[j]?).bind (·.dst)=some t:=hj;rw[GE] at hj;obtain⟨a,ho',hd'⟩:=hj;have:=hx a (bO ho');grind [xJ]
   rw[h.f2 t (by grind)];have:∀(V:Fr),(∀q∈V,∃o∈l,rk o q.1=true)->aD (V++st.fr) t=aD st.fr t:=by
    intro V;induction V with
    |nil=>intro _;rfl
    |cons q r ih=>
     intro hV;rw[List.cons_append,aO,BU (λe=>by obtain⟨a,ho',hd'⟩:=hV q aC;grind)]
     grind
   grind
theorem PV(hv:∀q∈vals,∃o∈l,rk o q.1=true)(hn:∀j,bX l j≠some t):aD (vals++st.fr) t=aD st.fr t:=by
 have:∀(V:Fr),(∀q∈V,∃o∈l,rk o q.1=true)->aD (V++st.fr) t=aD st.fr t:=by
  intro V;induction V with
  |nil=>intro _;rfl
  |cons q r ih=>
   intro hV;rw[List.cons_append,aO,BU (λe=>by obtain⟨a,ho',hd'⟩:=hV q aC;rw[e] at hd';obtain⟨j,hj⟩:=List.mem_iff_getElem?.1 ho';exact hn j (by grind [bX,xJ]))]
   grind
 grind
theorem L3{σ:aQ}{i:Nat}{T:Bn}{es:List (Value×G×Nat)}{clock:Nat}(h:ag σ i=some ⟨T,[],some (.map es clock)⟩):Lo σ (.mref i)=some (i,T,es,clock):=by grind [Lo]
theorem NA{sA:St}{q:Value×G}(h:mM sA o=some q):rl o=some q.1:=by grind [mM,rl]
theorem J0(hm:P.follows .mixedOrders=true){id:Nat}(hs:JZ P st.n T kt et l N1=true)(hv0:(vals.all λq=>l.any λo=>rk o q.1)=true)(hd:∀o∈l,lN P (iH st vals) st.c o){Q:Exit->St->Prop}
  (hQ:∀es clock,YA (l.filterMap (mM (iH st vals))) es clock->Q .normal {st with fr:=vals++st.fr,σ:=(st.c+1,some ⟨T,[],some (.iter (some st.c) clock [] clock)⟩)::(st.c,some ⟨T,[],some (.map es clock)⟩)::st.σ,c:=st.c+2}):Tr P (.region id l.toArray true) st Q:=by
 unfold JZ at hs
 simp only[bA] at hs
 obtain⟨⟨⟨⟨⟨⟨⟨h1,h2⟩,h3⟩,h4⟩,h5⟩,h6⟩,h7⟩,h8⟩:=hs
 have hN0:=bc h5
 have hNp:0<N1:=E7 h6
 have hT:pB P T=some (kt,et):=by grind [bc]
 obtain⟨d,S,hkp⟩:∃d,P.underlying kt=some d/\rn d l=true:=by grind
 obtain⟨o0,oN,U,V,hk0,W⟩:∃o0 oN,l[0]?=some o0/\l[N1]?=some oN/\wi o0=true/\HF oN=true:=by grind
 have C:=λj o (ho:l[j]?=some o)=>by have:=BE h4 j o ho;rw[Nat.zero_add] at this;unfold VD at this;simp only[bA] at this;exact this
 have hv:=hv0
 simp only[Hd,List.any_eq_true] at hv
 have hval:∀j o,l[j]?=some o->lN P (iH st vals) st.c o:=λj o ho=>hd o (bO ho)
 refine Tr.eqv (XK hm (Su st T l N1 vals) (λj o ho=>?_) (λj o ho e he hb=>?_) ?_ (λD s j o I ho hD hre=>?_) (λD s I hall=>?_))
 .have:=(C j o ho).1.1.1.1
  simp_all
 .have:=Hd.1 (C j o ho).1.1.1.2 e (by simpa using he)
  simp_all
 .constructor<;>try grind [Su.m]
 .obtain⟨⟨⟨⟨-,-⟩,X⟩,L⟩,f⟩:=C j o ho
  have hdk':∀d,o.dst=some d->d<s.n:=by rw[I.n];exact eN X
  have hx:∀x∈o.op.operands,aB s x=aB (iH st vals) x:=λx hx=>SR I hv hre (Hd.1 L x (by simpa using hx))
  have hjl:j<N1+1:=by grind
  have v:=hval j o ho
  have h0:wi o=false->j≠0:=λh e=>by subst e;rw[U] at ho;cases ho;rw[hk0] at h;cases h
  have hN:HF o=false->j≠N1:=λh e=>by subst e;rw[V] at ho;cases ho;rw[W] at h;cases h
  have hDN:D N1=false:=by grind [Su]
  have hpen:D.add j (N1-1)=true->∀i,i<N1-1->D.add j i=true:=λh i hi=>by
   rcases L2 h with e|h
   .rw[e,ho] at h8;obtain⟨e',he,hb,z⟩:=fJ (RX h8 i aa);grind [tF]
   grind [tF,Su.pen]
  obtain⟨w,op,ty,pos,K,gd⟩:=o
  have entj:∀{i:Nat} {p:Oper} {q:Value×G},mM (iH st vals) ⟨w,op,ty,pos,K,gd⟩=none->l[i]?=some p->mM (iH st vals) p=some q->D.add j i=true->D i=true:=λhno ho' hq hi=>by
   rcases L2 hi with rfl|hi
   .rw[ho] at ho';cases ho';rw[hno] at hq;cases hq
   .exact hi
  have value:wi ⟨w,op,ty,pos,K,gd⟩=false->HF ⟨w,op,ty,pos,K,gd⟩=false->mM (iH st vals) ⟨w,op,ty,pos,K,gd⟩=none->VE P (iH st vals) st.c ⟨w,op,ty,pos,K,gd⟩->th P ⟨w,op,ty,pos,K,gd⟩ s (λs'=>Su st T l N1 vals (D.add j) s'):=by
   intro hk hg hno hvv;obtain⟨d,Y,M⟩:=hvv;obtain rfl:w=some d:=Y;focus
    generalize hgd:aD (iH st vals).fr d=g at M
    refine(M s I.n I.gl I.pr hx I.σ).gsn.eqv λs' hs'=>⟨s',?_,Xh.refl _⟩
    subst hs'
    obtain⟨f1,f2⟩:=I.frames h3 ho (g:=g) (λt e=>by cases e;exact hgd.symm) s rfl
    have E:=h0 hk
    have A:=hN hg
    obtain⟨F,Z,N,O,R⟩:=BF s (some d) g
    refine{n:=N.trans I.n,gl:=O.trans I.gl,pr:=R.trans I.pr,f1:=f1,f2:=f2,σ:=λi h1 h2=>by rw[F];exact I.σ i h1 h2,c:=by grind [ro,Su.c],ins:=λi p q hi ho' hq=>tF (I.ins i p q (entj hno ho' hq hi) ho' hq),last:=(λh=>by rw[ro (Ne.symm A),hDN] at h;cases h),pen:=hpen,m:=λh=>?_}
    rw[ro (Ne.symm E)] at h
    obtain⟨es,clock,m1,m2,m3,B,H,m6⟩:=I.m h
    refine⟨es,clock,by grind,λe he=>?_,λi p q hi ho' hq=>m3 i p q (entj hno ho' hq hi) ho' hq,B,H,(λh=>by rw[ro (Ne.symm A),hDN] at h;cases h)⟩
    obtain⟨i,p,hi,ho',hq⟩:=m2 e he
    grind [tF]
  dsimp only at f
  split at f
  ·
   rename_i t
   simp only[bA] at f
   obtain rfl:=bc f.1.1
   obtain rfl:=bc f.1.2
   obtain⟨d,rfl⟩:=Vm.1 f.2
   have hsc:s.c=st.c:=by grind [Su.c]
   refine(B8 (t:=t) (r:=none) rfl hdk' rfl).gsn.eqv λs' hs'=>⟨s',?_,Xh.refl _⟩
   subst hs'
   rw[hsc]
   obtain⟨f1,f2⟩:=I.frames h3 ho (g:= .mref st.c) (λt e=>by cases e;unfold lN at v;exact(GI 16 _ _ v).symm) {s with σ:=(st.c,some ⟨t,[],some (.map [] 0)⟩)::s.σ,c:=st.c+1} rfl
   obtain⟨F,Z,N,O,R⟩:=BF {s with σ:=(st.c,some ⟨t,[],some (.map [] 0)⟩)::s.σ,c:=st.c+1} (some d) (.mref st.c)
   have hadd:D.add 0 N1=false:=by grind [ro]
   refine{n:=N.trans I.n,gl:=O.trans I.gl,pr:=R.trans I.pr,f1:=f1,f2:=f2,σ:=λi h1 h2=>?_,c:=by grind [HH],ins:=λi p q hi ho' hq=>HH,last:=(λh=>by rw[hadd] at h;cases h),pen:=hpen,m:=λ_=>?_}
   .grind [Su.σ]
   .refine⟨[],0,by rw[F,Bc,Bz rfl],(λe he=>by cases he),λi p q hi ho' hq=>?_,(λe he=>by cases he),aC,(λh=>by rw[hadd] at h;cases h)⟩
    have:=I.ins i p q (entj rfl ho' hq hi) ho' hq
    grind
  ·
   rename_i t x k y
   simp only[bA] at f
   obtain⟨⟨⟨⟨k1,k2⟩,k3⟩,k4⟩,k5⟩:=f
   obtain rfl:=bc k1
   obtain rfl:w=none:=by simp_all
   have E:=h0 rfl
   have A:=hN rfl
   have hD0:D 0=true:=by obtain⟨e,he,hb,z⟩:=fJ k3;rw[<-z];exact hre e he hb
   obtain⟨es,clock,m1,m2,m3,B,H,m6⟩:=I.m hD0
   have hxm:aB s x= .mref st.c:=(hx x fK).trans (GI 16 _ _ v)
   have hy:aB s y=aB (iH st vals) y:=hx y fK
   have hgk:cD (aB s (.const k))=some k:=by
    split at k5
    .rfl
    .cases k5
   have hent:mM (iH st vals) ⟨none,.insert t x (.const k) y,ty,pos,K,gd⟩=some (k,aB (iH st vals) y):=rfl
   have hkey:B7 P kt k (es.map (·.1))=some none:=by unfold B7;rw[S];simp only;rw[L1 λu hu=>?_];obtain⟨e,he,rfl⟩:=Fl.1 hu;obtain⟨i,p,hi,ho',hq⟩:=m2 e he;exact tD hkp j i _ p k e.1 (λe=>by subst e;rw[hD] at hi;cases hi) ho ho' rfl (NA hq)
   have hput:dZ P s.σ t (aB s x) (aB s (.const k)) (aB s y)=some (st.c,⟨t,[],some (.map (es++[(k,aB (iH st vals) y,clock)]) (clock+1))⟩):=by unfold dZ;rw[hT,hgk,hxm,L3 m1];simp only[k4,ax,hkey,hy]
   refine(iW (.inr rfl) hdk' hput).gsn.eqv λs' hs'=>⟨s',?_,Xh.refl _⟩
   subst hs'
   obtain⟨f1,f2⟩:=I.frames h3 ho (g:= .lit undef) (λt e=>by cases e) {s with σ:=(st.c,some ⟨t,[],some (.map (es++[(k,aB (iH st vals) y,clock)]) (clock+1))⟩)::s.σ} rfl
   have hadd:D.add j N1=false:=by rw[ro (Ne.symm A)];exact hDN
   refine{n:=I.n,gl:=I.gl,pr:=I.pr,f1:=f1,f2:=f2,σ:=λi h1 h2=>?_,c:=(by show s.c=_;rw[hadd,ro (Ne.symm E)];have:=I.c;rw[hDN] at this;exact this),ins:=λi p q hi ho' hq=>tF hD0,last:=(λh=>by rw[hadd] at h;cases h),pen:=hpen,m:=λ_=>?_}
   .show ag ((st.c,_)::s.σ) i=_
    rw[Bc,BU (λe=>h1 e.symm)]
    exact I.σ i h1 h2
   .refine⟨es++[(k,aB (iH st vals) y,clock)],clock+1,?_,λe he=>?_,λi p q hi ho' hq=>?_,λe he=>?_,?_,(λh=>by rw[hadd] at h;cases h)⟩
    .show ag ((st.c,_)::s.σ) st.c=_
     rw[Bc,Bz rfl]
    .rcases Jo.1 he with he|he
     .obtain⟨i,p,hi,ho',hq⟩:=m2 e he
      exact⟨i,p,tF hi,ho',hq⟩
     .obtain rfl:=List.mem_singleton.1 he
      exact⟨j,_,HH,ho,hent⟩
    .rcases L2 hi with rfl|hi
     .rw[ho] at ho'
      cases ho'
      rw[hent] at hq
      cases hq
      exact⟨clock,aC⟩
     .obtain⟨n,hn⟩:=m3 i p q hi ho' hq
      exact⟨n,List.mem_append_left _ hn⟩
    .rcases Jo.1 he with he|he
     .have:=B e he;omega
     .obtain rfl:=List.mem_singleton.1 he
      exact Nat.lt_succ_self _
    .rw[List.map_append,List.nodup_append]
     refine⟨H,aC,λa ha b hb e=>?_⟩
     simp only[Fa,List.map_nil,List.mem_singleton] at hb
     obtain⟨e',he',rfl⟩:=Fl.1 ha
     have:=B e' he'
     omega
  ·
   rename_i t x
   simp only[bA] at f
   obtain⟨⟨⟨k1,k2⟩,k3⟩,k4⟩:=f
   obtain rfl:=bc k1
   obtain rfl:=bc k2
   obtain⟨d,rfl⟩:=Vm.1 k3
   have hp1:D (j-1)=true:=by obtain⟨e,he,hb,z⟩:=fJ k4;rw[<-z];exact hre e he hb
   have hall:∀i,i<j->D i=true:=λi hi=>by
    rcases HU i (j-1) with h|h
    .exact I.pen hp1 i h
    .obtain rfl:i=j-1:=aa;exact hp1
   have hD0:=hall 0 hNp
   obtain⟨es,clock,m1,m2,m3,B,H,m6⟩:=I.m hD0
   have hva':iF 16 (aB (iH st vals) x) (.mref st.c)=true/\iF 16 (aD (iH st vals).fr d) (.ref (st.c+1) 0)=true:=by unfold lN at v;simpa only[bA] using v
   have hxm:aB s x= .mref st.c:=(hx x fK).trans (GI 16 _ _ hva'.1)
   have hsc:s.c=st.c+1:=by rw[I.c,hDN,hD0];rfl
   have hrg:B9 P s.σ t (aB s x)=some (.iter (some st.c) clock [] clock):=by unfold B9;rw[hT,hxm];simp only[L3 m1]
   refine(H2 rfl hdk' hrg).gsn.eqv λs' hs'=>⟨s',?_,Xh.refl _⟩
   subst hs'
   rw[hsc]
   obtain⟨f1,f2⟩:=I.frames h3 ho (g:= .ref (st.c+1) 0) (λt e=>by cases e;exact(GI 16 _ _ hva'.2).symm) {s with σ:=(st.c+1,some ⟨t,[],some (.iter (some st.c) clock [] clock)⟩)::s.σ,c:=st.c+1+1} rfl
   obtain⟨F,Z,N,O,R⟩:=BF {s with σ:=(st.c+1,some ⟨t,[],some (.iter (some st.c) clock [] clock)⟩)::s.σ,c:=st.c+1+1} (some d) (.ref (st.c+1) 0)
   refine{n:=N.trans I.n,gl:=O.trans I.gl,pr:=R.trans I.pr,f1:=f1,f2:=f2,σ:=λi h1 h2=>?_,c:=by rw[Z,HH];rfl,ins:=λi p q hi ho' hq=>tF hD0,last:=λ_ i hi=>tF (hall i hi),pen:=hpen,m:=λ_=>?_}
   .rw[F,Bc,BU (λe=>h2 e.symm)]
    exact I.σ i h1 h2
   .refine⟨es,clock,?_,λe he=>?_,λi p q hi ho' hq=>m3 i p q (entj rfl ho' hq hi) ho' hq,B,H,λ_=>?_⟩
    .rw[F,Bc,BU aa];exact m1
    .obtain⟨i,p,hi,ho',hq⟩:=m2 e he
     exact⟨i,p,tF hi,ho',hq⟩
    .rw[F,Bc,Bz rfl]
  .cases f
  .cases f
  .rename_i c1 c2 c3 c4 c5
   refine value ?_ ?_ ?_ ?_
   .unfold wi
    dsimp only
    split
    .rename_i a;exact absurd rfl (c1 a)
    .rfl
   .unfold HF
    dsimp only
    split
    .rename_i a b;exact absurd rfl (c3 a b)
    .rfl
   .unfold mM
    dsimp only
    split
    .rename_i a b c d;exact absurd rfl (c2 a b c d)
    .rfl
   .unfold lN at v
    dsimp only at v
    split at v
    .rename_i a b;exact absurd rfl (c4 a b)
    .rename_i a b c d;exact absurd rfl (c5 a b c d)
    .rename_i a b;exact absurd rfl (c3 a b)
    .exact v
 .have hD0:D 0=true:=hall 0 aa
  have hDN:D N1=true:=hall N1 aa
  obtain⟨es,clock,m1,m2,m3,B,H,m6⟩:=I.m hD0
  refine⟨_,?_,hQ es clock {sub:=λe he=>?_,sup:=λq hq=>?_,lt:=B,nd:=H}⟩
  .have J:=I.pr
   simp only[St.pr,Fu] at J
   refine⟨I.n.symm,I.gl.symm,λi=>?_,λi=>?_,?_,J.1.symm,J.2.symm⟩
   .by_cases hx:∃j,bX l j=some i
    .grind [bX,Su.f1]
    .rw[I.f2 i λj _ hj=>hx ⟨j,hj⟩]
     exact PV hv λj hj=>hx ⟨j,hj⟩
   all_goals grind [Su.σ,Su.c]
  .grind
  .obtain⟨p,ho',hq'⟩:=List.mem_filterMap.1 hq
   grind [List.mem_iff_getElem?]
end lit
end
abbrev oE:=List (Value×G×Nat)
def Wa(k:Value):Nat:=match k with
 | .int _ (.ofNat n)=>n
 |_=>0
def Yq(g:G):Bool:=match g with
 | .lit (.bool true)=>true
 |_=>false
def If(k:Value)(g:G):Nat:=bif Yq g then Wa k else 0
def iC(seen:Bq):oE->Nat
 |[]=>0
 |e::r=>(bif seen.contains e.2.2 then If e.1 e.2.1 else 0)|||iC seen r
def Ck:oE->Nat
 |[]=>0
 |e::r=>If e.1 e.2.1|||Ck r
theorem jd{m:Nat}:(seen++[n]).contains m=(seen.contains m||(m==n)):=by rw[Bool.eq_iff_iff];simp
theorem Eu{seen:Bq}{n:Nat}:∀{es:oE},n∉es.map (·.2.2)->iC (seen++[n]) es=iC seen es
 |[],_=>rfl
 |e::r,h=>by
  simp only[Fa,EH,not_or] at h;unfold iC;rw[Eu h.2,jd];have:(e.2.2==n)=false:=by rw[beq_eq_false_iff_ne];exact λx=>h.1 x.symm
  rw[this,Bool.or_false]
theorem Ev{seen:Bq}{k:Value}{g:G}{n:Nat}(hn:n∉seen):∀{es:oE},(k,g,n)∈es->(es.map (·.2.2)).Nodup->iC (seen++[n]) es=iC seen es|||If k g
 |e::r,h,hd=>by
  simp only[Fa,LE] at hd;unfold iC;have hs:seen.contains n=false:=by
   cases hc:seen.contains n with
   |false=>rfl
   |true=>exact absurd (by simpa using hc) hn
  rcases EH.1 h with rfl|h
  .rw[Eu hd.1,jd];simp only[hs,Bool.false_or,BEq.rfl,ax,AQ,Nat.zero_or];rw[Nat.or_comm]
  .have hne:e.2.2≠n:=λx=>hd.1 (by rw[x];exact Fl.2 ⟨_,h,rfl⟩);rw[Ev hn h hd.2,jd];have:(e.2.2==n)=false:=by rw[beq_eq_false_iff_ne];exact hne
   rw[this,Bool.or_false,Nat.or_assoc]
theorem Ew{seen:Bq}:∀{es:oE},(∀e∈es,e.2.2∈seen)->iC seen es=Ck es
 |[],_=>rfl
 |e::r,h=>by
  unfold iC Ck;rw[Ew λe he=>h e (by simp[he])];have:seen.contains e.2.2=true:=by simpa using h e aC
  rw[this];rfl
theorem Ex:∀{es:oE},iC [] es=0
 |[]=>rfl
 |e::r=>by unfold iC;rw[Ex];simp
theorem Ig{seen:Bq}{b:Nat}:∀{es:oE},(∀e∈es,Wa e.1<2^b)->iC seen es<2^b
 |[],_=>Nat.two_pow_pos b
 |e::r,h=>by
  unfold iC;refine Nat.or_lt_two_pow ?_ (Ig λe he=>h e (by simp[he]));have:=h e aC;cases seen.contains e.2.2 with
  |false=>exact Nat.two_pow_pos b
  |true=>
   show If e.1 e.2.1<2^b;unfold If;cases Yq e.2.1 with
   |false=>exact Nat.two_pow_pos b
   |true=>exact this
theorem Ih{es:oE}(hb:∀e∈es,e.2.2<since)(h:none∈rD es since seen):∀e∈es,e.2.2∈seen:=by
 intro e he;unfold rD at h;simp only[Jo,Fl] at h;rcases h with h|⟨x,_,hx⟩
 .split at h
  .rename_i hemp;rw[List.isEmpty_iff,List.filter_eq_nil_iff] at hemp;by_cases hs:e.2.2∈seen
   .exact hs
   .exfalso;refine hemp e (GV.2 ⟨he,by simpa using hs⟩) (by simpa using hb e he)
  .cases h
 .cases hx
theorem Ii{es:oE}{k:Value}(h:some (k,g,n)∈rD es since seen):(k,g,n)∈es/\n∉seen:=by
 unfold rD at h;simp only[Jo,Fl] at h;rcases h with h|⟨x,hx,a⟩
 .split at h
  .simp at h
  .cases h
 .cases a;have hm:(k,g,n)∈es.filter λe=> !seen.contains e.2.2:=by
   rcases hx with hx|hx
   .exact(GV.1 hx).1
   .exact(GV.1 hx).1
  obtain⟨h1,h2⟩:=GV.1 hm;refine⟨h1,λhs=>?_⟩;simp[hs] at h2
section
variable {P:Br}
theorem NB{es:oE}{k:Value}(h:(k,g,n)∈es)(hn:n∉seen):(es.filter λe=> !(seen++[n]).contains e.2.2).length<(es.filter λe=> !seen.contains e.2.2).length:=by
 induction es with
 |nil=>cases h
 |cons e r ih=>
  have mono:∀(r:oE),(r.filter λe=> !(seen++[n]).contains e.2.2).length<=(r.filter λe=> !seen.contains e.2.2).length:=by intro r;induction r<;>grind
  grind
theorem J1{it a b iti mi clock since id b0:Nat}{T ty ty1 ty2:Bn}{pos1 pos2:String}{af1 af2:Array Edge}{bd:Code}{es:oE}{S:Bq->St}{Q:Exit->St->Prop}(I:Bq->Prop)(hI:I [])
  (hlt:∀e∈es,e.2.2<clock) (d:since=clock) (h0:Le P st (S [])) (f:∀seen,gR (S seen).σ (aB (S seen) (.tmp it))=some (iti,T,some mi,since,seen,clock)) (hmap:∀seen,Lo (S seen).σ (.mref mi)=some (mi,ty,es,clock))
  (hn:∀seen,a<(S seen).n/\b<(S seen).n)
  (body:∀seen k g n,I seen->(k,g,n)∈es->n∉seen->Tr P bd {S seen with fr:=(b,.lit (.bool true))::(a,.tup [.lit (.bool true),db k,g])::(S seen).fr,σ:=(iti,some ⟨T,[],some (.iter (some mi) since (seen++[n]) clock)⟩)::(S seen).σ} (uE (λs=>I (seen++[n])/\Le P s (S (seen++[n]))) (pu b0 Q)))
  (fin:∀seen,I seen->(∀e∈es,e.2.2∈seen)->Q .normal {S seen with fr:=(b,.lit (.bool false))::(a,.tup [.lit (.bool false)])::(S seen).fr}):
  Tr P (.block b0 (.loop (.seq (.region id #[⟨some a,.next (.tmp it) false,ty1,pos1,af1,none⟩,⟨some b,.extract (.tmp a) 0,ty2,pos2,af2,none⟩] false) (.seq (.cond (.tmp b) .skip (.exit b0)) bd)))) st Q:=by
 refine BI (L4 (λq:{seen:Bq//I seen}=>S q.1) (λq=>(es.filter λe=> !q.1.contains e.2.2).length) ⟨[],hI⟩ h0 λ⟨seen,c⟩=>?_)
 dsimp only
 have hok:pD es seen clock=true:=by unfold pD;cases es<;>grind
 refine BH (lG (l:=[⟨some a,.next (.tmp it) false,ty1,pos1,af1,none⟩,⟨some b,.extract (.tmp a) 0,ty2,pos2,af2,none⟩]) (.inl ⟨rfl,?_⟩))
 refine(Mf rfl (by grind) (f seen) (hmap seen) hok).eqv λs hs=>⟨s,?_,Xh.refl _⟩
 have ext:∀(g:G) (r:Bj) (s1:St),s1.n=(S seen).n->aD s1.fr a= .tup (g::r)->∀{K:St->Prop},K (s1.put (some b) g)->vU P #[⟨some a,.next (.tmp it) false,ty1,pos1,af1,none⟩,⟨some b,.extract (.tmp a) 0,ty2,pos2,af2,none⟩] K [⟨some b,.extract (.tmp a) 0,ty2,pos2,af2,none⟩] s1:=by intro g r s1 h1 h2 K j;refine .inl ⟨rfl,((fM (g:=g) (by grind) ?_).gsn).eqv λs2 i=>⟨s2,by rw[i];exact j,Xh.refl _⟩⟩;rw[J9];show HS 0 (aD s1.fr a)=some g;rw[h2];rfl
 rcases hs with⟨hc,rfl⟩|⟨k,g,n,hc,rfl⟩
 .refine ext (.lit (.bool false)) [] _ ?_ ?_ ?_
  .rfl
  .show aD ((a,_)::_) a=_
   grind
  refine wm (BH (wk (t:=false) ?_ (Fz ?_)))
  .show aD ((b,_)::_) b=_
   grind
  refine DU aC (DU aC ?_)
  simp only[pu,Bz]
  exact fin seen c (Ih (by grind) hc)
 .obtain⟨h1,h2⟩:=Ii hc
  refine ext (.lit (.bool true)) [db k,g] _ ?_ ?_ ?_
  .rfl
  .show aD ((a,_)::_) a=_
   grind
  refine wm (BH (wk (t:=true) ?_ (Fy ?_)))
  .show aD ((b,_)::_) b=_
   grind
  exact wm (Tr.mono (body seen k g n c h1 h2) λe s hs=>Hu (λs h=>⟨⟨seen++[n],h.1⟩,h.2,NB h1 h2⟩) (by grind) hs)
end
section
variable {P:Br} {sA:St} {mi:Nat} {hs:List Hn}
def YT(d:Nat){σ:aQ}{x g:G}(h:jr σ x=some g):HP:=⟨some (.m d g),jr (Uz σ (Aa5 σ x)) x=some g,by rw[(Vo λi hi=>(Ho i hi).symm).1];exact h⟩
theorem EK{n:Nat}{k:Value}{g:G}:∀{es:oE},(es.map (·.2.2)).Nodup->(k,g,n)∈es->es.find? (λe=>Nat.beq e.2.2 n)=some (k,g,n)
 |[],_,h=>by cases h
 |e::r,hd,h=>by
  rw[Fa,LE] at hd;rcases EH.1 h with rfl|h
  .simp
  .have hne:e.2.2≠n:=λe2=>hd.1 (by rw[e2];exact Fl.2 ⟨_,h,rfl⟩);have hb:Nat.beq e.2.2 n=false:=by
    cases hb:Nat.beq e.2.2 n with
    |true=>exact absurd (bc hb) hne
    |false=>rfl
   rw[List.find?_cons,hb];exact EK hd.2 h
theorem yo{σ:aQ}{iti mi since clock n:Nat}{T ty:Bn}{seen:Bq}{es:oE}{k:Value}{v:G}(hi:gR σ g=some (iti,T,some mi,since,seen++[n],clock))(hm:Lo σ (.mref mi)=some (mi,ty,es,clock))(hd:(es.map (·.2.2)).Nodup)(h:(k,v,n)∈es):jr σ g=some (.tup [db k,v]):=by unfold jr;rw[hi];simp only[hm,List.getLast?_append,List.getLast?_singleton,Option.some_or,Nat.beq_refl,ax,EK hd h]
def ZY(P:Br)(hs:List Hn)(sA:St)(o:Oper):Option (Ll×G):=match syO P o sA hs 0 with
 |some (C,g,[],[],none)=>some (C.toList,g)
 |_=>none
theorem Wr{C:Ll}{d:Nat}(h:ZY P hs sA o=some (C,g))(hC:∀p∈C,p)(hd:o.dst=some d)(hn:d<sA.n)(hg:aD sA.fr d=g):VE P sA mi o:=by
 refine⟨d,hd,λs e1 e2 e3 e4 e5=>?_⟩;unfold ZY at h;split at h
 .rename_i C' a hx;cases h;have:=(Acj (X:=True) (λx hx=>by rw[hd] at hx;cases hx;exact hn) hx (by cases C' with|none=>trivial|some p=>exact⟨hC p aC,trivial⟩)).1 s ⟨e1,e2,e3,λh=>(by cases h),λi hi=>(by cases hi),e4⟩;rw[hg,<-hd];exact this
 .cases h
def IC(P:Br)(hs:List Hn)(mi:Nat):Iu->St->Fr->Option Fr
 |[],s,V=>some V
 |o::r,s,V=>match o.op with
  | .makeMap .. =>(match o.dst with
   |some d=>IC P hs mi r {s with fr:=(d,.mref mi)::s.fr} ((d,.mref mi)::V)
   |none=>none)
  | .insert .. =>IC P hs mi r s V
  | .range .. =>(match o.dst with
   |some d=>IC P hs mi r {s with fr:=(d,.ref (mi+1) 0)::s.fr} ((d,.ref (mi+1) 0)::V)
   |none=>none)
  |_=>(match o.dst,ZY P hs s o with
   |some d,some (_,g)=>IC P hs mi r {s with fr:=(d,g)::s.fr} ((d,g)::V)
   |_,_=>none)
def U3(P:Br)(hs:List Hn)(st:St)(l:Iu):Fr:=(IC P hs st.c l st []).getD []
def EL(P:Br)(hs:List Hn)(sA:St)(mi:Nat):Iu->Option (Ll×Bj×Bj)
 |[]=>some ([],[],[])
 |o::r=>match EL P hs sA mi r with
  |none=>none
  |some (C,a,b)=>match o.op with
   | .makeMap .. =>bif(match o.dst with
    |some d=>iF 16 (aD sA.fr d) (.mref mi)
    |none=>false)then some (C,a,b)else none
   | .insert _ x _ _=>bif iF 16 (aB sA x) (.mref mi)then some (C,a,b)else none
   | .range _ x=>bif(iF 16 (aB sA x) (.mref mi)&&(match o.dst with
    |some d=>iF 16 (aD sA.fr d) (.ref (mi+1) 0)
    |none=>false))then some (C,a,b)else none
   |_=>match o.dst with
    |some d=>bif Nat.blt d sA.n then(match ZY P hs sA o with
     |some (D,g)=>some (D++C,g::a,aD sA.fr d::b)
     |none=>none)else none
    |none=>none
theorem KR{c:Bool}{a r:α}(h:(bif c then some a else none)=some r):c=true/\a=r:=by
 cases c
 .cases h
 .cases h;exact⟨rfl,rfl⟩
theorem IE:∀(l:Iu) (C:Ll) (a b:Bj),EL P hs sA mi l=some (C,a,b)->(∀p∈C,p)->a=b->∀o∈l,lN P sA mi o
 |[],C,a,b,h,_,_,o,ho=>by cases ho
 |x::r,C,a,b,h,hC,c,o,ho=>by
  unfold EL at h;split at h
  .cases h
  rename_i f a1 b1 h1;have rest:(∀p∈f,p)->a1=b1->o∈r->lN P sA mi o:=λhc he hm=>IE r f a1 b1 h1 hc he o hm;split at h
  .rename_i e;obtain⟨hb,hq⟩:=KR h;cases hq;rcases EH.1 ho with rfl|ho
   .unfold lN;rw[e];exact hb
   .exact rest hC c ho
  .rename_i e;obtain⟨hb,hq⟩:=KR h;cases hq;rcases EH.1 ho with rfl|ho
   .unfold lN;rw[e];exact hb
   .exact rest hC c ho
  .rename_i e;obtain⟨hb,hq⟩:=KR h;cases hq;rcases EH.1 ho with rfl|ho
   .unfold lN;rw[e];exact hb
   .exact rest hC c ho
  .rename_i c1 c2 c3;split at h
   .rename_i d hd;cases hk:Nat.blt d sA.n with
    |false=>rw[hk] at h;cases h
    |true=>
     rw[hk] at h;simp only[ax] at h;split at h
     .rename_i D g hv;cases h;simp only[List.cons.injEq] at c;rcases EH.1 ho with rfl|ho
      .unfold lN;split
       .rename_i e;exact absurd e (c1 _ _)
       .rename_i e;exact absurd e (c2 _ _ _ _)
       .rename_i e;exact absurd e (c3 _ _)
       .exact Wr hv (λp hp=>hC p (List.mem_append_left _ hp)) hd (E7 hk) c.1.symm
      .exact rest (λp hp=>hC p (List.mem_append_right _ hp)) c.2 ho
     .cases h
   .cases h
end
section
variable {P:Br} [M:Mix P] {st:St} {Q:Exit->St->Prop} {fn:Func} {Bs:List (St->Prop)} {m:Bool} {p:Bq}
def Ws(x:Option (Ll×Bj×Bj)):Bj:=match x with|some (_,a,_)=>a|none=>[]
def IF:Code->Iu
 | .region _ ops true=>ops.toList
 |_=>[]
def aaG:Code->Bool
 | .region _ _ true=>true
 |_=>false
theorem dMl(T kt et:Bn)(a:Nat)(A:List HP)
  (hQ:∀es clock,YA ((IF (bq p (ai fn))).filterMap (mM (iH st (U3 P (bK A) st (IF (bq p (ai fn))))))) es clock->Gp P fn Q Bs true p {st with fr:=U3 P (bK A) st (IF (bq p (ai fn)))++st.fr,σ:=(st.c+1,some ⟨T,[],some (.iter (some st.c) clock [] clock)⟩)::(st.c,some ⟨T,[],some (.map es clock)⟩)::st.σ,c:=st.c+2})
  (hc:EL P (bK A) (iH st (U3 P (bK A) st (IF (bq p (ai fn))))) st.c (IF (bq p (ai fn)))=some (pR A,Ws (EL P (bK A) (iH st (U3 P (bK A) st (IF (bq p (ai fn))))) st.c (IF (bq p (ai fn)))),Ws (EL P (bK A) (iH st (U3 P (bK A) st (IF (bq p (ai fn))))) st.c (IF (bq p (ai fn))))):=by kernel_rfl)
  (hs:JZ P st.n T kt et (IF (bq p (ai fn))) a=true:=by kernel_rfl) (hv:((U3 P (bK A) st (IF (bq p (ai fn)))).all λq=>(IF (bq p (ai fn))).any λo=>rk o q.1)=true:=by kernel_rfl) (hi:aaG (bq p (ai fn))=true:=by kernel_rfl):Gp P fn Q Bs false p st:=by
 show Tr P (bq p (ai fn)) st (dz P (bE p (ai fn) Bs []) Q)
 generalize hcd:bq p (ai fn)=c at hQ hc hs hv hi⊢
 generalize Ws _=gs at hc
 cases c with
 |region id ops d=>
  cases d with
  |false=>cases hi
  |true=>
   have:=J0 (id:=id) M.mx hs hv (IE _ _ _ _ hc (wR A) rfl) (Q:=dz P (bE p (ai fn) Bs []) Q) hQ
   rw[show ops=(IF (.region id ops true)).toArray from Array.toArray_toList.symm]
   exact this
 |_=>cases hi
theorem dRe(J:St)(O:List HP)(kk:Gp P fn Q Bs false p J)(vs:List Bn:=[])(ρ:DD:=[])(kd:List (Nat×Rk):=[])(e:Iw P vs ρ kd J st=some (pR O,J):=by kernel_rfl):Gp P fn Q Bs false p st:=Tr.le kk (sR e (wR O))
def U4(c a b:Nat):Iu->Bool
 |[⟨some a1,.next (.tmp it1) false,_,_,_,none⟩,⟨some b1,.extract (.tmp a2) 0,_,_,_,none⟩]=>Nat.beq a1 a&&Nat.beq it1 c&&Nat.beq b1 b&&Nat.beq a2 a
 |_=>false
def Wt(c a b b0:Nat):Code->Bool
 | .block b1 (.loop (.seq (.region _ ops false) (.seq (.cond (.tmp b') .skip (.exit b2)) _)))=>Nat.beq b1 b0&&Nat.beq b2 b0&&Nat.beq b' b&&U4 c a b ops.toList
 |_=>false
def YU:Code->Code
 | .block _ (.loop (.seq _ (.seq _ bd)))=>bd
 |_=> .skip
theorem Ty{it a b0:Nat}{c:Code}(h:Wt it a b b0 c=true):∃id i j f g af1 k,c= .block b0 (.loop (.seq (.region id #[⟨some a,.next (.tmp it) false,i,f,af1,none⟩,⟨some b,.extract (.tmp a) 0,j,g,k,none⟩] false) (.seq (.cond (.tmp b) .skip (.exit b0)) (YU c)))):=by
 unfold Wt at h;split at h
 .rename_i b1 id ops b' b2 bd;simp only[bA] at h;obtain⟨⟨⟨h1,h2⟩,h3⟩,h4⟩:=h;obtain rfl:=bc h1;obtain rfl:=bc h2;obtain rfl:=bc h3;unfold U4 at h4;split at h4
  .rename_i a1 s l n f1 o a2 t2 q f2 d;simp only[bA] at h4;obtain⟨⟨⟨k1,k2⟩,k3⟩,r⟩:=h4;obtain rfl:=bc k1;obtain rfl:=bc k2;obtain rfl:=bc k3;obtain rfl:=bc r;have e:=congrArg List.toArray d;rw[Array.toArray_toList] at e;refine⟨id,l,t2,n,q,f1,f2,?_⟩;rw[e];rfl
  .cases h4
 .cases h
theorem dMw(j a b b0:Nat){iti mi clock since:Nat}{T ty:Bn}{es:oE}(S:Bq->St)(I:Bq->Prop)(hI:I [])
  (hlt:∀e∈es,e.2.2<clock) (c:since=clock) (h0:Le P st (S [])) (f:∀seen,gR (S seen).σ (aB (S seen) (.tmp j))=some (iti,T,some mi,since,seen,clock)) (hmap:∀seen,Lo (S seen).σ (.mref mi)=some (mi,ty,es,clock))
  (hn:∀seen,a<(S seen).n/\b<(S seen).n)
  (body:∀(B:St->Prop) seen k g n,I seen->(k,g,n)∈es->n∉seen->(I (seen++[n])->B (S (seen++[n])))->Gp P fn Q (Bs++[B]) false (p++[2,2,1,1]) {S seen with fr:=(b,.lit (.bool true))::(a,.tup [.lit (.bool true),db k,g])::(S seen).fr,σ:=(iti,some ⟨T,[],some (.iter (some mi) since (seen++[n]) clock)⟩)::(S seen).σ})
  (fin:∀seen,I seen->(∀e∈es,e.2.2∈seen)->Gp P fn Q Bs true p {S seen with fr:=(b,.lit (.bool false))::(a,.tup [.lit (.bool false)])::(S seen).fr})
  (d:Wt j a b b0 (bq p (ai fn))=true:=by kernel_rfl) (i:YU (bq p (ai fn))=bq (p++[2,2,1,1]) (ai fn):=by kernel_rfl)
  (q:∀B,bE (p++[2,2,1,1]) (ai fn) (Bs++[B]) []= .lp B:: .blk b0::bE p (ai fn) Bs []:=by intro B;kernel_rfl):Gp P fn Q Bs false p st:=by
 show Tr P (bq p (ai fn)) st (dz P (bE p (ai fn) Bs []) Q)
 obtain⟨id,r,s,l,o,af1,v,hcd⟩:=Ty d
 rw[hcd,i]
 refine J1 (iti:=iti) (mi:=mi) (clock:=clock) (since:=since) (T:=T) (ty:=ty) (es:=es) (S:=S) I hI hlt c h0 f hmap hn (λseen k g n hi hm hns=>?_) λseen hi hs=>fin seen hi hs
 have:=body (λt=>t=S (seen++[n])/\I (seen++[n])) seen k g n hi hm hns λh=>⟨rfl,h⟩
 unfold Gp at this
 rw[q] at this
 refine Tr.mono this λe t ht=>?_
 unfold dz at ht
 cases e with
 |normal=>
  unfold uE at ht⊢
  obtain⟨u,hu,rfl,hx⟩:=ht
  exact⟨hx,hu⟩
 |_=>unfold uE at ht⊢;exact ht
end
section
variable {P:Br}
def U5(P:Br)(gl:Cd)(fid:FuncId)(gs:Bj)(σR:aQ)(c:Nat){ι:Type}(g:ι->G)(U:ι->aQ)(c':ι->Nat):Prop:=∀(o:Oper) (st:St) (y:Dk) (xs:Array Dk) (ats:Array Bn) (fst cap:Bj),o.op= .call {callee:= .value y,args:=xs,argTypes:=ats}->(∀d,o.dst=some d->d<st.n)->aB st y= .clo (.func fid) fst cap->fst++xs.toList.map (aB st)++cap=gs->st.gl=gl->(∀q∈σR,ag st.σ q.1=q.2)->st.c=c->th P o st (λs=>∃x,s={st with σ:=U x++st.σ,c:=c' x}.put o.dst (g x))
theorem U6{gl:Cd}{gs0 gs:Bj}{ι:Type}{σ0 σR:aQ}{σ1:ι->aQ}{r g:ι->G}{c:Nat}{c1 c':ι->Nat}(L:Bq)(U:ι->aQ)(hM:Xx P gl fid gs0 σ0 L.length r σ1 c1)
  (hin:w6 (vi L) σR σ0 0 L) (d:∀x,oI (G4 L c) (σ1 x) (U x)) (hlt:L.all (λi=>Nat.blt i c)=true:=by kernel_rfl) (hnd:decide L.Nodup=true:=by kernel_rfl) (hgs:gs.map (qg (vi L) 20)=gs0:=by kernel_rfl)
  (hk0:σ0.all (λq=>Nat.blt q.1 L.length)=true:=by kernel_rfl) (hcov:∀x,(List.range L.length).all (λk=>(U x).any λq=>Nat.beq q.1 k)=true) (hg:∀x,qg (G4 L c) 20 (r x)=g x) (hc:∀x,c+(c1 x-L.length)=c' x) (hR:σR.all (λq=>q.2.isSome)=true:=by kernel_rfl):U5 P gl fid gs σR c g (λx=>zO L c (U x)) c':=by
 intro o st y xs ats fst cap ho hd hf a hgl hq hsc
 have j:=hin.get
 have hgetR:∀i o,ag σR i=some o->ag st.σ i=some o:=λi o hh=>by
  have:∀l:aQ,(∀q∈l,q∈σR)->ag l i=some o->ag st.σ i=some o:=by
   intro l;induction l with
   |nil=>intro _ h;cases h
   |cons q t ih=>grind
  grind
 have key:=MC (o:=o) (st:=st) (f:=y) (xs:=xs) (ats:=ats) (fid:=fid) (fst:=fst) (cap:=cap) L (gs0:=gs0) (σ0:=σ0) (r:=r) (σ1:=σ1) (c1:=c1) ho hd hf (by rw[hgl];exact hM) (λk i hk=>by
   have:=Hd.1 hlt i (bO hk);simp_all) (DS hnd) (by rw[a,hgs]) (by grind) (λk o hkk=>by
   have:∀l:aQ,(∀q∈l,q∈σ0)->ag l k=some o->k<L.length:=by
    intro l;induction l with
    |nil=>intro _ h;cases h
    |cons q t ih=>
     intro hs h;rw[show(q::t:aQ)=(q.1,q.2)::t from rfl,Bc] at h;split at h
     .rename_i e;subst e;exact E7 (Hd.1 hk0 q (by grind))
     grind
   grind) (λx=>zO L c (U x)++st.σ) (λx i o hh=>by
   have:∀l:aQ,(∀q∈l,q∈U x)->ag (zO L c l++st.σ) i=some o->(∃k,(k,some o)∈U x/\G4 L c k=some i)\/(ag st.σ i=some o/\∀q∈l,G4 L c q.1≠some i):=by intro l;induction l<;>grind [zO,G4]
   rcases this (U x) (λ_ h=>h) hh with⟨k,b,h1⟩|⟨h1,h2⟩
   .grind [oI.get]
   .refine .inr ⟨h1,λhi=>?_⟩;obtain⟨k,hk⟩:=He hi;have hkl:=(cr hk).1;obtain⟨q,b,he⟩:=List.any_eq_true.1 (Hd.1 (hcov x) k (List.mem_range.2 hkl));refine h2 q b ?_;rw[bc he];unfold G4;rw[hk])
 grind
end
section
variable {P:Br} [M:Mix P] {st:St} {Q:Exit->St->Prop} {fn:Func} {Bs:List (St->Prop)} {m:Bool} {p:Bq} {ι:Type}
def YV(a b d:Nat):Code->Bool
 | .region _ ops false=>match ops.toList with
  |[⟨some a',.move _,_,_,_,none⟩,⟨some b',.call {callee:= .value _,args:=_,argTypes:=_},_,_,_,none⟩,⟨some d',.assign (.tmp b2),_,_,_,none⟩]=>Nat.beq a' a&&Nat.beq b' b&&Nat.beq d' d&&Nat.beq b2 b
  |_=>false
 |_=>false
def Z0:Code->Dk
 | .region _ ops _=>match ops.toList with
  |[⟨_,.move x,_,_,_,_⟩,_,_]=>x
  |_=> .tmp 0
 |_=> .tmp 0
def c3Y:Code->Dk
 | .region _ ops _=>match ops.toList with
  |[_,⟨_,.call {callee:= .value y,args:=_,argTypes:=_},_,_,_,_⟩,_]=>y
  |_=> .tmp 0
 |_=> .tmp 0
def c3A:Code->List Dk
 | .region _ ops _=>match ops.toList with
  |[_,⟨_,.call {callee:= .value _,args:=xs,argTypes:=_},_,_,_,_⟩,_]=>xs.toList
  |_=>[]
 |_=>[]
theorem U7{K:St->Prop}{st st1:St}(hg:o.guard=none)(hs:GS P o st st1)(h:vU P ops K rest st1):vU P ops K (o::rest) st:= .inl ⟨by simp[ce,hg],hs.gsn.eqv (by grind [Xh.refl])⟩
theorem YW{K:St->Prop}{st:St}{S:St->Prop}(hg:o.guard=none)(hs:th P o st S)(h:∀s,S s->vU P ops K rest s):vU P ops K (o::rest) st:= .inl (by grind [ce,th.eqv,Xh.refl])
theorem dCl(a b d:Nat){gs:Bj}{σR:aQ}{g:ι->G}{U:ι->aQ}{c':ι->Nat}{fst cap:Bj}(hF:U5 P st.gl fid gs σR st.c g U c')
  (h:∀x,Gp P fn Q Bs true p {st with fr:=(d,g x)::(b,g x)::(a,aB st (Z0 (bq p (ai fn))))::st.fr,σ:=U x++st.σ,c:=c' x})
  (hi:YV a b d (bq p (ai fn))=true:=by kernel_rfl) (hy:aB {st with fr:=(a,aB st (Z0 (bq p (ai fn))))::st.fr} (c3Y (bq p (ai fn)))= .clo (.func fid) fst cap:=by kernel_rfl)
  (hx:fst++(c3A (bq p (ai fn))).map (aB {st with fr:=(a,aB st (Z0 (bq p (ai fn))))::st.fr})++cap=gs:=by kernel_rfl)
  (hR:σR.map (λq=>ag st.σ q.1)=σR.map (·.2):=by kernel_rfl) (hn:(Nat.blt a st.n&&Nat.blt b st.n&&Nat.blt d st.n)=true:=by kernel_rfl):Gp P fn Q Bs false p st:=by
 show Tr P (bq p (ai fn)) st (dz P (bE p (ai fn) Bs []) Q)
 replace h:∀x,dz P (bE p (ai fn) Bs []) Q .normal _:=h
 revert hi hy hx h
 generalize bq p (ai fn)=c
 intro hi hy hx h
 unfold YV at hi
 split at hi
 .rename_i id ops
  split at hi
  .rename_i a' x k o f1 b' y xs ats t2 r f2 A b2 t u v f
   simp only[bA] at hi hn
   obtain⟨⟨⟨k1,k2⟩,k3⟩,i⟩:=hi
   obtain⟨⟨n1,n2⟩,j⟩:=hn
   obtain rfl:=bc k1
   obtain rfl:=bc k2
   obtain rfl:=bc k3
   obtain rfl:=bc i
   have e:=congrArg List.toArray f
   rw[Array.toArray_toList] at e
   subst e
   simp only[Z0,c3Y,c3A] at h hy hx
   refine lG (U7 rfl (fM (g:=aB st x) (λz hz=>by cases hz;exact E7 n1) rfl) (YW rfl (hF _ _ y xs ats fst cap rfl (λz hz=>by cases hz;exact E7 n2) hy hx rfl (λq hq=>?_) rfl) ?_))
   .have:∀l:aQ,l.map (λq=>ag st.σ q.1)=l.map (·.2)->∀q∈l,ag st.σ q.1=q.2:=by simp_all
    exact this σR hR q hq
   .rintro s ⟨z,rfl⟩
    refine U7 rfl (fM (g:=g z) (λw hw=>by cases hw;exact E7 j) ?_) (h z)
    exact congrArg some ((aO ..).trans (Bz rfl))
  .cases hi
 .cases hi
def YX(P:Br)(fn:Func)(gl:Cd){ι:Type}(r:ι->G)(σ1:ι->aQ)(c1:ι->Nat)(e:Exit)(s:St):Prop:=(e= .normal\/e= .ret)/\s.gl=gl/\∃x,(∀k o,ag (σ1 x) k=some o->ag s.σ k=some o)/\s.c=c1 x/\∃a,fn.results.toList.mapM (jV P s)=some a/\r x=iU a
theorem YY{gl:Cd}{r:ι->G}{σ1:ι->aQ}{c1:ι->Nat}{ex:Exit}{S0:St}(x:ι)(h:Ok P fn gl (r x) (σ1 x) (c1 x) ex S0):YX P fn gl r σ1 c1 ex S0:=by obtain⟨h1,h2,h3,h4,h5⟩:=h;exact⟨h1,h2,x,h3,h4,h5⟩
theorem dMF{gl:Cd}{f:FuncId}{gs:Bj}{σ0:aQ}{c0:Nat}{r:ι->G}{σ1:ι->aQ}{c1:ι->Nat}(hf:P.funcs[f]?=some fn)(h:Gp P fn (YX P fn gl r σ1 c1) [] false [] ⟨fn.ntmps,gl,bQ 0 gs,σ0,c0,c0,false⟩)(hc:aK P f=true:=by kernel_rfl)(hb:fn.body.isSome=true:=by kernel_rfl)(hn:Nat.ble gs.length fn.ntmps=true:=by kernel_rfl):Xx P gl f gs σ0 c0 r σ1 c1:=by
 obtain⟨body,hb'⟩:=Vm.1 hb;refine⟨hc,fn,body,hf,hb',E7 hn,?_⟩;have e:ai fn=body:=by grind [ai]
 rw[<-e];exact Tr.leQ h
end
section
attribute [local irreducible] Tr dz Gp
section
variable {P:Br}
theorem AfD{st:St}{ρ:DD}:∀{l:aQ},(∀q∈l,∃j,dq ρ q.1=some j/\XU (I1 ρ) (ag st.σ j) q.2)->Dp P st ρ l
 |[],_=>BT
 |(i,o)::r,h=>by obtain⟨j,h1,h2⟩:=h (i,o) aC;exact Abh h1 h2 (AfD (by grind))
def Gf(f:Nat->Nat):DD:=L0.map λk=>(k,f k)
def okF(f:Nat->Nat):Bool:=L0.all λk=>(match I1 (Gf f) (f k) with|some j=>Nat.beq j k|none=>false)&&(match dq (Gf f) k with|some j=>Nat.beq j (f k)|none=>false)
theorem AfE{f:Nat->Nat}(h:okF f=true)(hk:k<14):I1 (Gf f) (f k)=some k/\dq (Gf f) k=some (f k):=by have:=Hd.1 h k (by have:k∈List.range 14:=List.mem_range.2 hk;exact this);grind [bc]
def rlD(P:Br)(hs:List Hn)(m:Code⊕Exit)(K:List Kf)(fn:Func)(f:Nat->Nat)(R':Ad)(r:G)(st:St):Option (Prop×Bq×Ll):=match sy P hs 1000000 1000 m K st with
 |some (C,u,.fin e s)=>match tc e,vR P s fn.results.toList with
  |true,some gs=>bif ER (Gf f) s.p then some (C,u,(iU gs=r/\bB r)::L0.map λk=>∀ob,Bv f R' k=some ob->ag s.σ (f k)=some ob)else none
  |_,_=>none
 |_=>none
section
variable [M:Mix P] {fn:Func} {r:G} {Bs:List (St->Prop)} {m:Bool} {p:Bq} {st:St}
theorem Hp(f:Nat->Nat)(R':Ad)(hR:Bh R')(A O:List HP)(hf:okF f=true:=by kernel_rfl)(hk:TF A (rlD P (bK A) (Lv m p (ai fn)) (bE p (ai fn) Bs []) fn f R' r st) (pR O):=by exact⟨aH,aH⟩):Gp P fn (zE P fn r (BG f0 R')) Bs m p st:=by
 obtain⟨C,u,hC,e⟩:=hk.out;unfold Gp;unfold rlD at e;split at e
 .rename_i b c x s h1;split at e
  .rename_i gs hx hg;cases hb:ER (Gf f) s.p with
   |false=>rw[hb] at e;cases e
   |true=>
    rw[hb] at e;simp only[ax,Fk,Fu] at e;obtain⟨rfl,rfl,hL⟩:=e;have hp:∀q∈(iU gs=r/\bB r)::L0.map λk=>∀ob,Bv f R' k=some ob->ag s.σ (f k)=some ob,q:=by rw[hL];exact wR O
    obtain⟨rfl,hi⟩:=hp _ (List.mem_cons_self ..);simp only[ER,bA] at hb;obtain⟨⟨k1,k2⟩,k3⟩:=hb;refine oK M.mx (out:= .fin x s) ⟨s,Le.refl _,eO hx,gs,Gf f,gh hg,λi hi=>?_,λi d j h1 h2=>?_,ry hi,AfD λq hq=>?_⟩ 1000 _ _ _ _ _ h1 hC
    .grind [bc]
    .have:=Hd.1 (Hd.1 k2 _ (Gt h1)) _ (Gt h2);grind [Nat.beq_refl,bc]
    .rw[Hw] at hq;obtain⟨k,hk,rfl⟩:=Fl.1 hq;have hk':=List.mem_range.1 hk;obtain⟨g1,g2⟩:=AfE hf hk';refine⟨f k,g2,λa h=>?_⟩;obtain⟨ob,h2,h3⟩:=PL (λk ⟨ob,h⟩=>(AfE hf (DY h)).1) hR k a h;exact⟨ob,hp (∀ob,Bv f R' k=some ob->ag s.σ (f k)=some ob) (List.mem_cons_of_mem _ (Fl.2 ⟨k,hk,rfl⟩)) ob h2,h3⟩
  .cases e
 .cases e
def hme(d:Nat)(R:Bq)(c:Nat){σ:aQ}{t:Bn}{gm gk g:G}{i:Nat}{ob:Ob}(h:ov P σ t gm gk=some (i,ob,g)):HP:=⟨some (.e d g i ob),ov P (Uz σ (fR gm)) t gm gk=some (i,ob,g),(Afa Ho).symm.trans h⟩
def hms(d:Nat)(R:Bq)(c:Nat){σ:aQ}{gm gs g:G}{i:Nat}{ob:Ob}(h:jX σ gm gs g=some (i,ob)):HP:=⟨some (.e (2000000+d) (.lit undef) i ob),jX (Uz σ (fR gm)) gm gs g=some (i,ob),(Aiy Ho).symm.trans h⟩
def KJ(d:Nat){σ:aQ}{t:Bn}{ok:Bool}{i:Nat}{gk g:G}(h:bL P σ t ok (.mref i) gk=some g):HP:=⟨some (.m d g),bL P σ t ok (.mref i) gk=some g,h⟩
def hmp(c:Nat){σ:aQ}{t:Bn}{gm gk g:G}{i:Nat}{ob:Ob}(h:dZ P σ t gm gk g=some (i,ob)):HP:=⟨some (.e 999999998 (.lit undef) i ob),dZ P (Uz σ (fR gm)) t gm gk g=some (i,ob),(aab Ho).symm.trans h⟩
def hmd(c:Nat){σ:aQ}{t:Bn}{gm gk:G}{i:Nat}{ob:Ob}(h:FN P σ t gm gk=some (i,ob)):HP:=⟨some (.e 999999998 (.tup []) i ob),FN P (Uz σ (fR gm)) t gm gk=some (i,ob),(Afb Ho).symm.trans h⟩
end
end
def Dl(R:Ad)(d:Int):Int:=(DV (R.cards.get d)).Member
def D3(R:Ad)(d:Int):Bool:=decide (0<Dl R d)&& !(Hf (R.was.get d))
def O4(R:Ad)(d:Int):Bool:=Hf (R.in_.get d)
def MI(R:Ad)(m:Int):Int:=match R.members.get m with
 |none=>0
 |some x=>x.role
theorem Adn(k:Int):Instr.sameBits 10000 (JM k) (JM k)=true:=by simp[JM,Instr.sameBits]
def JO(m:FM Int AA):FM Int JI:=⟨m.es.map λe=>(e.1,some e.1,e.2.2),m.clk⟩
def vgM(f:Nat->Nat):JI->G
 |none=>Acs
 |some k=> .ref (f (nM k)) 0
theorem Y4(m:FM Int AA)(k:Int):(JO m).get k=(m.get k).map λ_=>some k:=by unfold FM.get JO;dsimp only;induction m.es<;>grind
theorem QM(f:Nat->Nat)(R:Ad):Sf f R=Nh V2 JM (vgM f) (JO R.members):=by show(⟨_,_,some (.map _ _)⟩:Ob)=⟨_,_,some (.map _ _)⟩;unfold JO XI Wf;dsimp only;rw[It];rfl
theorem Ad5(m:FM Int AA)(k:Int):Si (JO m) k=JO (Si m k):=by
 unfold Si;have:(JO m).es.map (·.1)=m.es.map (·.1):=by unfold JO;rw[It];rfl
 grind [JO,Aar]
def ptM(R:Ad)(m:Int):G:=if(R.members.get m).isSome then .ref (nM m) 0 else Acs
theorem AfF(R:Ad)(m:Int){σ:aQ}(h:ag σ 4=some (Sf f0 R)):bL prog σ V2 false (.mref 4) (iG m)=some (ptM R m):=by rw[QM] at h;rw[SW (P:=prog) (t:=V2) (kt:=3) (et:=183) PC aH (k:=m) rfl h,FM.look1 (et:=183) PC (v0:=none) aH aH (JO R.members) m rfl,Y4];unfold ptM;cases R.members.get m<;>rfl
theorem AjG(R:Ad)(m:Int):bL prog [(4,some (Sf f0 R))] V2 false (.mref 4) (iG m)=some (ptM R m):=AfF R m rfl
theorem Sg{R:Ad}(hm:R.members.get m=some x):bL prog [(4,some (Sf f0 R))] V2 false (.mref 4) (iG m)=some (.ref (nM m) 0):=(AfF R m rfl).trans (by unfold ptM;rw[hm];rfl)
theorem Wg{R:Ad}{m:Int}(hm:R.members.get m=none):bL prog [(4,some (Sf f0 R))] V2 false (.mref 4) (iG m)=some Acs:=(AfF R m rfl).trans (by unfold ptM;rw[hm];rfl)
abbrev inR(R:Ad)(d:Int):Ad:={R with in_:=C6 R.in_ d true,was:=C6 R.was d true}
def Jd(R:Ad)(d role:Int):Ad:=bif D3 R d then{R with in_:=C6 R.in_ d true,was:=C6 R.was d true,members:=bif(R.members.get (Dl R d)).isSome then R.members else C6 R.members (Dl R d) ⟨role,none⟩} else R
theorem Abv(R:Ad)(d:Int):ba prog gl 135 [.ptr (CB R) 0,iG d] (iG (Dl R d)):=Pw gl rfl
theorem Abw(R:Ad)(d:Int):ba prog gl 136 [.ptr (CB R) 0,iG d] (bG (D3 R d)):=SB gl (by unfold Px D3 Dl;show Option.bind (bif 0<(DV (R.cards.get d)).Member then _ else _) _=_;grind)
theorem Ahy:∀x∈[iG a],bB x:=by grind [mN]
abbrev hof(d:Nat){R:Ad}(hR:Bh R)(x:Int)(c:Nat:=14):HP:=hrl d f0 c hR (Abv gl R x) Ahy (lR _)
abbrev AfG(d:Nat){R:Ad}(hR:Bh R){x y:Int}(h:Dl R x=y)(c:Nat:=14):HP:=hrl d f0 c hR (h▸Abv gl R x) Ahy (lR _)
abbrev hfr(d:Nat){R:Ad}(hR:Bh R){x:Int}{b:Bool}(h:D3 R x=b)(c:Nat:=14):HP:=hrl d f0 c hR (h▸Abw gl R x) Ahy (lR _)
abbrev N3:List (Nat×Rk):=L0.map λk=>(k,.any)
def okR(ρ:DD)(f:Nat->Nat):Bool:=L0.all λk=>match I1 ρ (f k) with|some j=>Nat.beq j k|none=>false
theorem Aai{ρ:DD}{f:Nat->Nat}(h:okR ρ f=true)(hk:k<14):I1 ρ (f k)=some k:=by have:=Hd.1 h k (by have:k∈List.range 14:=List.mem_range.2 hk;exact this);grind [bc]
abbrev rlB(ρ:DD)(f:Nat->Nat){R:Ad}(hR:Bh R)(h:okR ρ f=true:=by kernel_rfl):List HP:=L0.map λk=>hc (PL (κ:=I1 ρ) (f:=f) (f':=f0) (λk ⟨ob,hk⟩=>Aai h (DY hk)) hR k)
abbrev rlA{R:Ad}(hR:Bh R):List HP:=rlB (Gf f0) f0 hR
abbrev rlK(R:Ad):List HP:=hc (⟨rfl,L7 aC⟩:iU []=iU []/\bB (iU []))::L0.map λk=>hc (λob h=>h:∀ob,Bv f0 R k=some ob->Bv f0 R k=some ob)
theorem Ahz(hR:Bh R)(h:R.members.get m=some x):m=1\/m=2\/m=3:=by grind [Bh,GL]
theorem AfH(h:D3 R d=true):0<Dl R d:=by grind [D3]
theorem AfI(hR:Bh R)(hf:D3 R d=true):Bh (inR R d):=⟨Ow hR.ci true,Ow hR.cw true,hR.cm,hR.m3,hR.c3,hR.cv,hR.gm,hR.gN,hR.vb,λe he=>by have hk:e.1∈(C6 R.in_ d true).es.map (·.1):=Fl.2 ⟨e,he,rfl⟩;rw[Q1] at hk;have hd:=hR.c6 d (AfH hf);grind [Bh],hR.c6,hR.gn⟩
theorem AjH(hR:Bh R)(hm:1<=m/\m<=3)(role:Int):Bh {R with members:=C6 R.members m ⟨role,none⟩}:=⟨hR.ci,hR.cw,Ow hR.cm _,(by grind [Bh,C6]),hR.c3,(by grind [BA,Bh.cv]),(by grind [BA,Bh.gm]),(by grind [Bh,BA]),(by grind [Bh,BA]),hR.i6,hR.c6,(by grind [BA,Bh.gn])⟩
theorem I4{R:Ad}(hR:Bh R)(d role:Int):Bh (Jd R d role):=by
 unfold Jd;cases hf:D3 R d with
 |false=>exact hR
 |true=>
  cases(R.members.get (Dl R d)).isSome with
  |true=>exact AfI hR hf
  |false=>refine AjH (AfI hR hf) ?_ role;grind [Bh,D3,Dl]
def fN(a b k:Nat):Nat:=bif Nat.beq k a then b else k
theorem AhA{R:Ad}(hR:Bh R){m:Nat}(hm:R.members.get (m:Int)=none)(h3:m=1\/m=2\/m=3)(x:AA){σ:aQ}(h:ag σ 4=some (Sf f0 R)):dZ prog σ V2 (.mref 4) (iG (m:Int)) (.ref 14 0)=some (4,Sf (fN (4+m) 14) {R with members:=C6 R.members (m:Int) x}):=by
 rw[QM] at h;have hk:bu (m:Int) ((JO R.members).es.map (·.1))=none:=by
  cases hk:bu (m:Int) ((JO R.members).es.map (·.1)) with
  |none=>rfl
  |some j=>obtain⟨e,_,_,h2⟩:=MJ hk;rw[Y4,hm] at h2;cases h2
 have hk':bu (m:Int) (R.members.es.map (·.1))=none:=by rw[show R.members.es.map (·.1)=(JO R.members).es.map (·.1) by unfold JO;rw[It];rfl];exact hk
 unfold dZ;rw[show pB prog V2=some (3,183) from by kernel_rfl,show cD (iG (m:Int))=some (JM (m:Int)) from rfl,QN h];dsimp only;rw[PC.chk,ax,PO,PC.key,hk];unfold Sf Wf C6;rw[hk'];dsimp only;rw[List.map_append];congr 5;show XI JM (vgM f0) (JO R.members)++_=_;unfold XI JO;rw[It];congr 1
 .refine List.map_congr_left λe he=>?_;obtain⟨h1,h2⟩:=hR.mem he;have hne:Nat.beq (nM e.1) (4+m)=false:=by grind [nM,bc]
  show(JM e.1,G.ref (nM e.1) 0,e.2.2)=(JM e.1,G.ref (fN (4+m) 14 (nM e.1)) 0,e.2.2);unfold fN;rw[hne];rfl
 grind [fN,nM,Nat.beq_refl]
abbrev SO(R:Ad)(m:Nat)(role:Int):Ad:={R with members:=C6 R.members (m:Int) ⟨role,none⟩}
theorem Wq{R:Ad}{m:Nat}{role:Int}(k:Int):(SO R m role).members.get k=if k=(m:Int)then some ⟨role,none⟩else R.members.get k:=BA _ _
theorem AlC{R:Ad}{m:Nat}(hm:R.members.get (m:Int)=none)(h3:m=1\/m=2\/m=3)(role:Int)(k:Nat)(hk:k≠4)(hk':k≠4+m):Bv f0 R k=Bv (fN (4+m) 14) (SO R m role) k:=by
 have hM:∀j,j=1\/j=2\/j=3->j≠m->roM f0 R j=roM (fN (4+m) 14) (SO R m role) j:=λj hj hne=>by unfold roM;rw[Wq,BU aa];rcases h3 with rfl|rfl|rfl<;>rcases hj with rfl|rfl|rfl<;>rfl
 have hB:∀j:Nat,(SO R m role).members.get (j:Int)=none\/True->((SO R m role).members.get (j:Int)).bind (·.guard)=(R.members.get (j:Int)).bind (·.guard):=by grind [Wq]
 have hG:∀j,j=1\/j=2\/j=3->roG f0 R j=roG (fN (4+m) 14) (SO R m role) j:=λj hj=>by unfold roG;rw[hB j (.inr trivial)];rcases h3 with rfl|rfl|rfl<;>rcases hj with rfl|rfl|rfl<;>rfl
 have hV:∀j,roV R j=roV (SO R m role) j:=by grind [roV]
 rcases HU k 14 with hlt|hge
 .match k,hlt with
  |0,_=>rcases h3 with rfl|rfl|rfl<;>rfl
  |1,_=>rfl
  |2,_=>rfl
  |3,_=>rfl
  |4,_=>exact absurd rfl hk
  |5,_=>exact hM 1 aa aa
  |6,_=>exact hM 2 aa aa
  |7,_=>exact hM 3 aa aa
  |8,_=>exact hG 1 aa
  |9,_=>exact hG 2 aa
  |10,_=>exact hG 3 aa
  |11,_=>exact hV 1
  |12,_=>exact hV 2
  |13,_=>exact hV 3
 .obtain⟨j,rfl⟩:∃j,k=j+14:=⟨k-14,aa⟩;rfl
theorem AjI{R:Ad}{m:Nat}(h3:m=1\/m=2\/m=3)(role:Int):some ⟨tMe,[iG role,Acs],none⟩=Bv (fN (4+m) 14) (SO R m role) (4+m):=by have h:=Wq (R:=R) (m:=m) (role:=role) m;rw[Bz rfl] at h;rcases h3 with rfl|rfl|rfl<;>exact(by show _=Option.map _ _;rw[h];rfl)
abbrev rlN{R:Ad}{m:Nat}(hm:R.members.get (m:Int)=none)(h3:m=1\/m=2\/m=3)(role:Int):List HP:=hc (⟨rfl,L7 aC⟩:iU []=iU []/\bB (iU []))::L0.map λk=>if h:k=4 then hc (λob h=>h:∀ob,Bv (fN (4+m) 14) (SO R m role) 4=some ob->some (Sf (fN (4+m) 14) (SO R m role))=some ob)else if h':k=4+m then hc (λob h=>(AjI (R:=R) h3 role).trans h:∀ob,Bv (fN (4+m) 14) (SO R m role) (4+m)=some ob->some ⟨tMe,[iG role,Acs],none⟩=some ob)else hc (λob h2=>(AlC hm h3 role k h h').trans h2:∀ob,Bv (fN (4+m) 14) (SO R m role) k=some ob->Bv f0 R k=some ob)
theorem R3{i:Nat}{o:Option Ob}:ag [(i,o)] i=o:=by simp[Bc]
abbrev hst(a b i:Nat){m:FM Int Bool}(k:Int)(h:FxOk m):HP:=hme a [i] 14 (AjP (P:=prog) (σ:=[(i,some (Nh Y3 JM bG m))]) (t:=Y3) (t':=Y3) (et:=4) (v0:=false) PC Adn aH aH (k:=k) (gk:=iG k) rfl R3)
abbrev AlD(b a i:Nat){m:FM Int Bool}(k:Int)(h:FxOk m):HP:=hms a [i] 14 (AjQ (σ:=[(i,some (Nh Y3 JM bG (C6 m k ((m.get k).getD false))))]) (i:=i) (t':=Y3) (kv:=JM) (vg:=bG) (m:=m) (k:=k) (v0:=(m.get k).getD false) h R3 true)
theorem Wv{R:Ad}(hR:Bh R)(d role:Int):SE prog gl 137 [.ref 0 0,iG d,iG role] (BG f0 R) 14 5 (iU []) (BG f0 (Jd R d role)):=by
 have hok:=I4 hR d role;refine dFP func137 ?_;unfold Jd at hok⊢;cases hb:D3 R d with
 |false=>exact Hp f0 R hR [hfr gl 9 hR hb] (rlK R)
 |true=>
  rw[hb] at hok;rw[ax] at hok⊢;have h1:=AfI hR hb;have h3:1<=Dl R d/\Dl R d<=3:=by unfold D3 at hb;simp only[bA,decide_eq_true_eq] at hb;exact⟨aa,(hR.c3 d).2⟩
  refine pO 1110 (s0 43 gl [(0,.ref 0 0),(1,iG d),(2,iG role)] (BG f0 (inR R d)) 14 5) [hfr gl 9 hR hb,hst 21 22 2 d hR.ci.1,AlD 21 22 2 d hR.ci.1,hst 23 24 3 d hR.cw.1,AlD 23 24 3 d hR.cw.1] (rlA h1) ?_ (ρ:=Gf f0) (kd:=N3);cases hm:R.members.get (Dl R d) with
  |some x=>exact Hp f0 _ h1 [hof gl 27 h1 d,KJ 33 (Sg (R:=inR R d) hm)] (rlK (inR R d))
  |none=>
   rw[hm] at hok;obtain⟨m,hd,a⟩:∃m:Nat,Dl R d=(m:Int)/\(m=1\/m=2\/m=3):=⟨(Dl R d).toNat,aa,aa⟩;rw[hd] at hm hok⊢;have h2:Bh (SO (inR R d) m role):=hok;have hg:=AhA h1 (m:=m) hm a ⟨role,none⟩ (σ:=(14,some ⟨tMe,[iG role,Acs],none⟩)::BG f0 (inR R d)) rfl;have fin:∀(_:okF (fN (4+m) 14)=true) (e1),Gp prog Tryz.f137 (zE prog Tryz.f137 (iU []) (BG f0 (SO (inR R d) m role))) [] false [1,1,0] (s0 43 gl [(0,.ref 0 0),(1,iG d),(2,iG role)] (BG f0 (inR R d)) 14 5):=λh e1=>Hp (fN (4+m) 14) _ h2 [AfG gl 27 h1 hd,KJ 33 (Wg (R:=inR R d) hm),hmp 15 hg] (rlN (R:=inR R d) hm a role) h e1;rcases a with rfl|rfl|rfl
   all_goals exact fin aH ⟨aH,aH⟩
abbrev I5(R:Ad)(d:Int):Ad:={R with in_:=Si R.in_ d}
abbrev Sh(R:Ad)(m:Int):Ad:={R with members:=Si R.members m}
def LS(R:Ad)(m:Int):Bool:=R.in_.es.any λe=>decide (Dl R e.1=m)
def G9(R:Ad)(d:Int):Ad:=bif O4 R d then(bif LS (I5 R d) (Dl R d)then I5 R d else Sh (I5 R d) (Dl R d))else R
theorem Aaj(hR:Bh R)(d:Int):Bh (I5 R d):=⟨UT hR.ci,hR.cw,hR.cm,hR.m3,hR.c3,hR.cv,hR.gm,hR.gN,hR.vb,λe he=>hR.i6 e (AbD he),hR.c6,hR.gn⟩
theorem Ny(hR:Bh R)(k:Int):(Sh R m).members.get k=if k=m then none else R.members.get k:=NP hR.cm _
theorem AfJ(hR:Bh R)(m:Int):Bh (Sh R m):=⟨hR.ci,hR.cw,UT hR.cm,λe he=>hR.m3 e (AbD he),hR.c3,(by grind [Ny,Bh.cv]),(by grind [Ny,Bh.gm]),(by grind [Bh,Ny]),(by grind [Bh,Ny]),hR.i6,hR.c6,(by grind [Ny,Bh.gn])⟩
theorem KE{R:Ad}(hR:Bh R)(d:Int):Bh (G9 R d):=by
 unfold G9;cases O4 R d with
 |false=>exact hR
 |true=>
  rw[ax];cases LS (I5 R d) (Dl R d) with
  |true=>exact Aaj hR d
  |false=>exact AfJ (Aaj hR d) _
theorem AlE(hR:Bh R){m:Int}(k:Nat)(hk:k≠4):∀ob,Bv f0 (Sh R m) k=some ob->Bv f0 R k=some ob:=λob h=>by
 have hg:∀j x,(Sh R m).members.get j=some x->R.members.get j=some x:=by grind [Ny]
 have hM:∀j ob,roM f0 (Sh R m) j=some ob->roM f0 R j=some ob:=by grind [roM,DF]
 have hB:∀j x,((Sh R m).members.get j).bind (·.guard)=some x->(R.members.get j).bind (·.guard)=some x:=by grind [GE]
 have hG:∀j ob,roG f0 (Sh R m) j=some ob->roG f0 R j=some ob:=by grind [roG,DF]
 have hV:∀j ob,roV (Sh R m) j=some ob->roV R j=some ob:=by grind [roV,DF]
 match k,DY h with
 |0,_=>exact h
 |1,_=>exact h
 |2,_=>exact h
 |3,_=>exact h
 |4,_=>exact absurd rfl hk
 |5,_=>exact hM _ _ h
 |6,_=>exact hM _ _ h
 |7,_=>exact hM _ _ h
 |8,_=>exact hG _ _ h
 |9,_=>exact hG _ _ h
 |10,_=>exact hG _ _ h
 |11,_=>exact hV _ _ h
 |12,_=>exact hV _ _ h
 |13,_=>exact hV _ _ h
abbrev Anh{R:Ad}(hR:Bh R)(m:Int):List HP:=hc (⟨rfl,L7 aC⟩:iU []=iU []/\bB (iU []))::L0.map λk=>if h:k=4 then hc (λob h=>h:∀ob,Bv f0 (Sh R m) 4=some ob->some (Sf f0 (Sh R m))=some ob)else hc (AlE hR (m:=m) k h)
theorem Nz{α β:Type}{f:α->β}:∀{l:List α},(l.map f).Nodup->∀{x y:α},x∈l->y∈l->f x=f y->x=y
 |[],_,x,_,h,_,_=>by cases h
 |a::r,hd,x,y,hx,hy,e=>by
  rw[Fa,LE] at hd;rcases EH.1 hx with h1|h1<;>rcases EH.1 hy with h2|h2
  .rw[h1,h2]
  .grind
  .grind
  .exact Nz hd.2 h1 h2 e
theorem AhB(R:Ad)(d:Int):bL prog [(2,some (Nh Y3 JM bG R.in_))] Y3 false (.mref 2) (iG d)=some (bG (O4 R d)):=(SW (et:=4) PC aH (k:=d) rfl rfl).trans (Sx R.in_ d _)
abbrev Aak(t:Bn)(i clk:Nat)(seen:Bq):Option Ob:=some ⟨t,[],some (.iter (some i) clk seen clk)⟩
abbrev stW(R:Ad)(seen:Bq):aQ:=BG f0 R++[(14,Aak Y3 2 R.in_.clk seen)]
theorem Aal{R:Ad}(hR:Bh R)(d:Int):SE prog gl 138 [.ref 0 0,iG d] (BG f0 R) 14 5 (iU []) (BG f0 (G9 R d)):=by
 refine dFP func138 ?_;have lk:=AhB R d;unfold G9;cases hb:O4 R d with
 |false=>rw[hb] at lk;exact Hp f0 R hR [KJ 11 lk] (rlK R)
 |true=>
  rw[hb] at lk;rw[ax];have h1:=Aaj hR d;have hd:=AlN (P:=prog) (σ:=BG f0 R) (i:=2) (t:=Y3) (t':=Y3) (vg:=bG) (et:=4) PC aH (k:=d) (gk:=iG d) rfl (m:=R.in_) rfl;refine pO 111100 (s0 40 gl [(0,.ref 0 0),(1,iG d),(4,iG (Dl R d))] (BG f0 (I5 R d)) 14 5) [KJ 11 lk,hmd 14 hd,hof gl 20 h1 d] (rlA h1) ?_ (ρ:=Gf f0) (kd:=N3);refine yl (Bs':=[]) [1,1,1,0,0] (J:=(s0 40 gl [(0,.ref 0 0),(1,iG d),(4,iG (Dl R d)),(25,.ref 14 0)] (stW (I5 R d) []) 15 5)) [] (rlB (Gf f0++[(14,14)]) f0 h1) ?_ (ρ:=Gf f0++[(14,14)]) (kd:=N3);refine dNx 111101 ?_;generalize hm:Dl R d=m;have hmm:∀e,Dl (I5 R d) e=Dl R e:=λe=>rfl;refine dMw 25 26 27 0 (iti:=14) (mi:=2) (clock:=(I5 R d).in_.clk) (since:=(I5 R d).in_.clk) (T:=Y3) (ty:=Y3) (es:=XI JM bG (I5 R d).in_) (λseen=>(s0 40 gl [(0,.ref 0 0),(1,iG d),(4,iG m),(25,.ref 14 0)] (stW (I5 R d) seen) 15 5)) (λseen=>∀e∈(I5 R d).in_.es,e.2.2∈seen->Dl R e.1≠m) (λe _ h=>by cases h) (λe he=>by obtain⟨x,hx,rfl⟩:=Fl.1 he;exact h1.ci.lt x hx) rfl (Le.refl _) (λseen=>aH) (λseen=>aH) (by grind) (λB seen k g n hI hme hns b=>?_) (λseen hI hs=>?_)
  .obtain⟨e,he,a⟩:=Fl.1 hme;simp only[Fu] at a;obtain⟨rfl,rfl,rfl⟩:=a;have hge:jr ((14,Aak Y3 2 (I5 R d).in_.clk (seen++[e.2.2]))::stW (I5 R d) seen) (.ref 14 0)=some (.tup [db (JM e.1),bG e.2.1]):=yo (iti:=14) (mi:=2) (since:=(I5 R d).in_.clk) (clock:=(I5 R d).in_.clk) (T:=Y3) (ty:=Y3) (seen:=seen) aH aH (by rw[It];exact h1.ci.nd) hme;by_cases hk:Dl R e.1=m
   .rw[show LS (I5 R d) m=true from List.any_eq_true.2 ⟨e,he,CM hk⟩,ax];exact Hp f0 _ h1 [YT 28 hge,hof gl 32 h1 e.1 15,hr 34 (show decide (Dl R e.1=m)=true from CM hk)] (rlK (I5 R d))
   .refine jw [YT 28 hge,hof gl 32 h1 e.1 15,hr 34 (show decide (Dl R e.1=m)=false from C5 hk)] (rlB (Gf f0++[(14,14)]) f0 h1) (b λx hx h=>?_) (ρ:=Gf f0++[(14,14)]) (kd:=N3);rcases Jo.1 h with h|h
    .exact hI x hx h
    .rw[List.mem_singleton] at h;have:x=e:=Nz h1.ci.nd hx he h;rw[this];exact hk
  .have hst:LS (I5 R d) m=false:=by
    cases hst:LS (I5 R d) m with
    |false=>rfl
    |true=>obtain⟨e,he,h⟩:=List.any_eq_true.1 hst;exact absurd (DS h) (hI e he (hs (JM e.1,bG e.2.1,e.2.2) (Fl.2 ⟨e,he,rfl⟩)))
   rw[hst,AQ];have h4:=AlN (P:=prog) (σ:=stW (I5 R d) seen) (i:=4) (t:=V2) (t':=V2) (vg:=vgM f0) (et:=183) PC aH (k:=m) (gk:=iG m) rfl (m:=JO R.members) (by rw[<-QM];kernel_rfl);rw[Ad5,show Nh V2 JM (vgM f0) (JO (Si R.members m))=Sf f0 (Sh (I5 R d) m) from(QM f0 (Sh (I5 R d) m)).symm] at h4;exact Hp f0 _ (AfJ h1 m) [hmd 15 h4] (Anh h1 m)
abbrev oOp(o:Bi):Option Ob:=some ⟨63,aJ o,none⟩
abbrev Xj(i:Ab):Option Ob:=some ⟨36,aj i,none⟩
abbrev AfK(R:Ad)(o:Bi)(i:Ab):aQ:=BG f0 R++[(14,oOp o),(15,Xj i)]
abbrev UD(R:Ad)(o:Bi)(i:Ab)(R':Ad):Prop:=SE prog gl 69 [.ref 0 0,.agg (aJ o),.agg (aj i)] (BG f0 R) 14 5 (iU []) (BG f0 R')
theorem PM{R:Ad}(hR:Bh R){o:Bi}(h:Gp prog Tryz.f69 (zE prog Tryz.f69 (iU []) (BG f0 R')) [] false [1,1,0] (s0 259 gl [(0,.ref 0 0),(4,.ref 14 0),(5,.ref 15 0)] (AfK R o i) 16 5)):UD gl R o i R':=by refine dFP func69 ?_;exact pO 1110 (s0 259 gl [(0,.ref 0 0),(4,.ref 14 0),(5,.ref 15 0)] (AfK R o i) 16 5) [hof gl 24 hR o.By 16,KJ 25 (AjG R (Dl R o.By))] (rlB (Gf f0++[(14,14),(15,15)]) f0 hR) h (ρ:=Gf f0++[(14,14),(15,15)]) (kd:=N3)
abbrev f16:Nat->Nat:=fW f0 16
abbrev rlX{f:Nat->Nat}{R:Ad}:List HP:=hc (⟨rfl,L7 aC⟩:iU []=iU []/\bB (iU []))::L0.map λk=>hc (λob h=>h:∀ob,Bv f R k=some ob->Bv f R k=some ob)
theorem AjJ{R:Ad}(hR:Bh R){o:Bi}(hk:o.Kind=2):UD gl R o i (Jd R o.Device o.Role):=by refine PM gl hR ?_;exact Hp f16 _ (I4 hR _ _) [hr 29 (show decide (o.Kind=1)=false by rw[hk];rfl),hr 52 (show decide (o.Kind=2)=true by rw[hk];rfl),hrw 58 f0 16 [iG o.Device,iG o.Role] hR (I4 hR _ _) (Wv gl hR o.Device o.Role)] (rlX (f:=f16) (R:=Jd R o.Device o.Role))
theorem Ad6{R:Ad}(hR:Bh R){o:Bi}(hk:o.Kind=3)(hd:o.Device≠0):UD gl R o i (G9 R o.Device):=by refine PM gl hR ?_;exact Hp f16 _ (KE hR _) [hr 29 (show decide (o.Kind=1)=false by rw[hk];rfl),hr 52 (show decide (o.Kind=2)=false by rw[hk];rfl),hr 60 (show decide (o.Kind=3)=true by rw[hk];rfl),hr 63 (show decide (o.Device≠0)=true from CM hd),hrw 67 f0 16 [iG o.Device] hR (KE hR _) (Aal gl hR o.Device)] (rlX (f:=f16) (R:=G9 R o.Device))
theorem AhC{R:Ad}(hR:Bh R){o:Bi}(h1:o.Kind≠1)(h2:o.Kind≠2)(h3:o.Kind≠3)(h5:o.Kind≠5)(h9:o.Kind≠9)(h11:o.Kind≠11)(h12:o.Kind≠12)(h13:o.Kind≠13):UD gl R o i R:=by refine PM gl hR ?_;exact Hp f0 _ hR [hr 29 (C5 h1),hr 52 (C5 h2),hr 60 (C5 h3),hr 86 (C5 h5),hr 102 (C5 h9),hr 120 (C5 h11),hr 168 (C5 h12),hr 213 (C5 h13)] (rlX (f:=f0) (R:=R))
abbrev AlF(t:Nat->Option Ob):aQ:=L0.map λk=>(k,t k)
abbrev frJ(a b:Nat){R:Ad}{k:Int}{x:AA}(_:R.members.get k=some x):Fr:=[(a,iG k),(b,.ref (nM k) 0)]
def tg(R:Ad)(l:List (Nat×Ob))(k:Nat):Option Ob:=match l.find? λq=>Nat.beq q.1 k with
 |some q=>some q.2
 |none=>Bv f0 R k
theorem Y5(h:∀q∈l,Bv f0 R q.1=some q.2)(k:Nat):tg R l k=Bv f0 R k:=by grind [tg,bc]
abbrev stT{R:Ad}{l:List (Nat×Ob)}(_:∀q∈l,Bv f0 R q.1=some q.2):aQ:=AlF (tg R l)
abbrev rlT(ρ:DD)(f:Nat->Nat){R:Ad}(hR:Bh R){l:List (Nat×Ob)}(hl:∀q∈l,Bv f0 R q.1=some q.2)(h:okR ρ f=true:=by kernel_rfl):List HP:=L0.map λk=>hc (show XU (I1 ρ) (Bv f R k) (tg R l k) from(Y5 hl k).symm▸PL (κ:=I1 ρ) (f:=f) (f':=f0) (λk ⟨ob,hk⟩=>Aai h (DY hk)) hR k)
abbrev AlG(ρ:DD){R:Ad}(hR:Bh R){l:List (Nat×Ob)}(hl:∀q∈l,Bv f0 R q.1=some q.2)(h:okR ρ f0=true:=by kernel_rfl):List HP:=L0.map λk=>hc (show XU (I1 ρ) (tg R l k) (Bv f0 R k) from(Y5 hl k).symm▸PL (κ:=I1 ρ) (f:=f0) (f':=f0) (λk ⟨ob,hk⟩=>Aai h (DY hk)) hR k)
abbrev HC(R:Ad){r:G}(hr:bB r):List HP:=hc (⟨rfl,hr⟩:r=r/\bB r)::L0.map λk=>hc (λob h=>h:∀ob,Bv f0 R k=some ob->Bv f0 R k=some ob)
abbrev Ww{R:Ad}{l:List (Nat×Ob)}(hl:∀q∈l,Bv f0 R q.1=some q.2){r:G}(hr:bB r):List HP:=hc (⟨rfl,hr⟩:r=r/\bB r)::L0.map λk=>hc (λob h=>(Y5 hl k).trans h:∀ob,Bv f0 R k=some ob->tg R l k=some ob)
abbrev eM(k:Nat)(x:AA):Nat×Ob:=(4+k,⟨tMe,[iG x.role,gpG f0 k x],none⟩)
abbrev eG(k:Nat)(g:CA):Nat×Ob:=(7+k,⟨tGu,guC f0 k g,none⟩)
abbrev eV(k:Nat)(g:CA):Nat×Ob:=(10+k,Nh tMv BX iG g.vouches)
theorem Ado(h3:k=1\/k=2\/k=3)(h:R.members.get (k:Int)=some x):Bv f0 R (eM k x).1=some (eM k x).2:=by rcases h3 with rfl|rfl|rfl<;>exact(by show Option.map _ _=_;rw[h];rfl)
theorem AfL{g:CA}(h3:k=1\/k=2\/k=3)(h:R.members.get (k:Int)=some x)(hg:x.guard=some g):Bv f0 R (eG k g).1=some (eG k g).2:=by rcases h3 with rfl|rfl|rfl<;>exact(by show(Option.bind _ _).map _=_;grind)
theorem AlH{g:CA}(h3:k=1\/k=2\/k=3)(h:R.members.get (k:Int)=some x)(hg:x.guard=some g):Bv f0 R (eV k g).1=some (eV k g).2:=by rcases h3 with rfl|rfl|rfl<;>exact(by show(Option.bind _ _).map _=_;grind)
def K3(x:AA)(i:Ab):Bool:=match x.guard with
 |none=>false
 |some g=>decide (g.id=i)
def Hx(R:Ad)(i:Ab):Int:=match R.members.es.find? λe=>K3 e.2.1 i with
 |some e=>e.1
 |none=>0
theorem Bh.uni{R:Ad}(hR:Bh R){k k':Int}{x x':AA}{i:Ab}(h:R.members.get k=some x)(h':R.members.get k'=some x')(g:K3 x i=true)(a:K3 x' i=true):k=k':=by grind [Bh,K3]
theorem AfM(hR:Bh R){e:Int×AA×Nat}(he:e∈R.members.es){i:Ab}(h:K3 e.2.1 i=true):Hx R i=e.1:=by
 unfold Hx;split
 .rename_i q hq;exact hR.uni (hR.mem (List.mem_of_find?_eq_some hq)).1 (hR.mem he).1 (by have:=List.find?_some hq;exact this) h
 grind
theorem Ad7(h:∀e∈R.members.es,K3 e.2.1 i=false):Hx R i=0:=by grind [Hx]
abbrev stU(R:Ad)(i:Ab)(seen:Bq):aQ:=BG f0 R++[(14,Xj i),(15,Aak V2 4 R.members.clk seen)]
abbrev frU:Fr:=[(0,.ref 0 0),(3,.ref 14 0),(11,.ref 15 0)]
abbrev ρ15:DD:=Gf f0++[(14,14),(15,15)]
theorem Abz(hR:Bh R)(i:Ab):SE prog gl 141 [.ref 0 0,.agg (aj i)] (BG f0 R) 14 14 (iG (Hx R i)) (BG f0 R):=by
 refine dFP func141 ?_;refine pO 1100 (s0 34 gl [(0,.ref 0 0),(3,.ref 14 0)] (BG f0 R++[(14,Xj i)]) 15 14) [] (rlB (Gf f0++[(14,14)]) f0 hR) ?_ (ρ:=Gf f0++[(14,14)]) (kd:=N3);refine yl (Bs':=[]) [1,0,0] (J:=(s0 34 gl frU (stU R i []) 16 14)) [] (rlB ρ15 f0 hR) ?_ (kd:=N3);refine dNx 1101 ?_;refine dMw 11 12 13 0 (iti:=15) (mi:=4) (clock:=R.members.clk) (since:=R.members.clk) (T:=V2) (ty:=V2) (es:=Wf f0 R.members) (λseen=>(s0 34 gl frU (stU R i seen) 16 14)) (λseen=>∀e∈R.members.es,e.2.2∈seen->K3 e.2.1 i=false) (λe _ h=>by cases h) (λe he=>by obtain⟨x,hx,rfl⟩:=Fl.1 he;exact hR.cm.lt x hx) rfl (Le.refl _) (λseen=>aH) (λseen=>aH) (λseen=>⟨show 12<34 by decide,show 13<34 by decide⟩) (λB seen k g n hI hme hns a=>?_) (λseen hI hs=>?_)
 .obtain⟨e,he,c⟩:=Fl.1 hme;simp only[Fu] at c;obtain⟨rfl,rfl,rfl⟩:=c;have hge:jr ((15,Aak V2 4 R.members.clk (seen++[e.2.2]))::stU R i seen) (.ref 15 0)=some (.tup [db (JM e.1),.ref (nM e.1) 0]):=yo (iti:=15) (mi:=4) (since:=R.members.clk) (clock:=R.members.clk) (T:=V2) (ty:=V2) (seen:=seen) aH aH (by rw[It];exact hR.cm.nd) hme;obtain⟨hm,h3⟩:=hR.mem he;have hI':K3 e.2.1 i=false->∀x∈R.members.es,x.2.2∈seen++[e.2.2]->K3 x.2.1 i=false:=λhk x hx h=>by
   rcases Jo.1 h with h|h
   .exact hI x hx h
   .rw[List.mem_singleton] at h;rw[Nz hR.cm.nd hx he h];exact hk
  have hw:=AfM hR he (i:=i);obtain⟨k,x,n⟩:=e;dsimp only at hge hm h3 hI' hw a;obtain⟨j,rfl,b⟩:∃j:Nat,k=(j:Int)/\(j=1\/j=2\/j=3):=⟨k.toNat,aa,aa⟩;obtain⟨role,gd⟩:=x;have e1:=Ado b hm;cases gd with
  |none=>
   have a:=a (hI' rfl);have hl:∀q∈[eM j ⟨role,none⟩],Bv f0 R q.1=some q.2:=λq hq=>by rw[List.mem_singleton.1 hq];exact e1
   rcases b with rfl|rfl|rfl
   all_goals
    refine pO 11012211210 (s0 34 gl (frJ 5 6 hm++frU) (stT hl++[(14,Xj i),(15,Aak V2 4 R.members.clk (seen++[n]))]) 16 14) [YT 14 hge] (rlT ρ15 f0 hR hl) ?_ (ρ:=ρ15) (kd:=N3)
    exact jw [] (AlG ρ15 hR hl) a (kd:=N3)
  |some g=>
   have e2:=AfL b hm rfl;have hl:∀q∈[eM j ⟨role,some g⟩,eG j g],Bv f0 R q.1=some q.2:=λq hq=>by
    rcases EH.1 hq with rfl|hq
    .exact e1
    .rw[List.mem_singleton.1 hq];exact e2
   cases hd:decide (g.id=i) with
   |false=>
    have a:=a (hI' hd);rcases b with rfl|rfl|rfl
    all_goals
     refine pO 11012211210 (s0 34 gl (frJ 5 6 hm++frU) (stT hl++[(14,Xj i),(15,Aak V2 4 R.members.clk (seen++[n]))]) 16 14) [YT 14 hge] (rlT ρ15 f0 hR hl) ?_ (ρ:=ρ15) (kd:=N3)
     exact jw [hV 31 (dU g.id i hd)] (AlG ρ15 hR hl) a (kd:=N3)
   |true=>
    rw[show Hx R i=(j:Int) from hw hd];have hr:bB (iG (j:Int)):=mN _;rcases b with rfl|rfl|rfl
    all_goals
     refine pO 11012211210 (s0 34 gl (frJ 5 6 hm++frU) (stT hl++[(14,Xj i),(15,Aak V2 4 R.members.clk (seen++[n]))]) 16 14) [YT 14 hge] (rlT ρ15 f0 hR hl) ?_ (ρ:=ρ15) (kd:=N3)
     exact Hp f0 _ hR [hV 31 (dU g.id i hd)] (Ww hl hr)
 .rw[Ad7 λe he=>hI e he (hs (JM e.1,.ref (nM e.1) 0,e.2.2) (Fl.2 ⟨e,he,rfl⟩))];exact Hp f0 _ hR [] (HC R (mN (.int .i64 0)))
end
def T{α:Type}(x:Option α)(Q:α->Prop):Prop:=∃v,x=some v/\Q v
section
variable {α β γ σ ρ:Type}
theorem T.mono{x:Option α}{Q R:α->Prop}(h:T x Q)(k:∀v,Q v->R v):T x R:=by obtain⟨v,e,q⟩:=h;exact⟨v,e,k v q⟩
theorem T.some{v:α}{Q:α->Prop}(h:Q v):T (some v) Q:=⟨v,rfl,h⟩
theorem T.bind{x:Option α}{f:α->Option β}{Q:β->Prop}(h:T x λv=>T (f v) Q):T (x.bind f) Q:=by obtain⟨v,e,w,e2,q⟩:=h;exact⟨w,by grind,q⟩
theorem T.eqb{x:Option α}{f:α->Option β}{Q:β->Prop}{v:α}(e:x= .some v)(h:T (f v) Q):T (x.bind f) Q:=by grind
theorem T.ite{c:Bool}{a b:Option α}{Q:α->Prop}(h1:c=true->T a Q)(h2:c=false->T b Q):T (bif c then a else b) Q:=by grind
theorem T.dec{p:Prop}[Decidable p]{a b:Option α}{Q:α->Prop}(h1:p->T a Q)(h2:¬p->T b Q):T (bif decide p then a else b) Q:=by grind
theorem T.eq{x:Option α}{v:α}(h:T x λw=>w=v):x= .some v:=by obtain⟨w,e,rfl⟩:=h;exact e
theorem T.of{x:Option α}{v:α}{Q:α->Prop}(h:x= .some v)(q:Q v):T x Q:=⟨v,h,q⟩
theorem T.ix{l:List α}{i:Int}{Q:α->Prop}{x:α}(h0:0<=i)(hx:l[i.toNat]?= .some x)(h:Q x):T (aS l i) Q:=⟨x,by grind [aS],h⟩
theorem T.ixl{l:List α}{i:Int}{Q:α->Prop}(h0:0<=i)(h1:i<l.length)(h:∀x,l[i.toNat]?= .some x->x∈l->Q x):T (aS l i) Q:=by have hx:l[i.toNat]?= .some (l[i.toNat]'aa):=Ef _;grind [ix]
theorem T.app{b:Nat}{l r:List α}{Q:List α->Prop}(h:(l.length+r.length)*b<=140737488355328)(q:Q (l++r)):T (aT b l r) Q:=⟨_,by grind [aT],q⟩
theorem T.rem{a b:Int}{Q:Int->Prop}(h:b≠0)(q:Q (a.tmod b)):T (u9 a b) Q:=⟨_,by grind [u9],q⟩
theorem T.quo{a b:Int}{Q:Int->Prop}(h:b≠0)(q:Q (IntKind.i64.wrap (a.tdiv b))):T (Gg a b) Q:=⟨_,by grind [Gg],q⟩
theorem T.set{l:List α}{i:Int}{x:α}{Q:List α->Prop}(h0:0<=i)(h1:i<l.length)(q:Q (l.set i.toNat x)):T (ji l i x) Q:=⟨_,by grind [ji],q⟩
theorem T.pre{l:List α}{i:Int}{Q:List α->Prop}(h0:0<=i)(h1:i<=l.length)(q:Q (l.take i.toNat)):T (tq l i) Q:=⟨_,by grind [tq],q⟩
theorem T.suf{l:List α}{i:Int}{Q:List α->Prop}(h0:0<=i)(h1:i<=l.length)(q:Q (l.drop i.toNat)):T (mc l i) Q:=⟨_,by grind [mc],q⟩
theorem T.make{b:Nat}{z:α}{n:Int}{Q:List α->Prop}(h0:0<=n)(h1:b*n.toNat<=281474976710656)(h2:n<=9223372036854775807)(q:Q (List.replicate n.toNat z)):T (rP b z n) Q:=⟨_,by grind [rP],q⟩
def Rd(N:σ->Prop)(Q:ρ->Prop):σ⊕ρ->Prop
 | .inl s=>N s
 | .inr r=>Q r
theorem T.lpN{step:σ->Option (σ⊕ρ)}{Q:ρ->Prop}(I:σ->Prop)(μ:σ->Nat)(h:∀s,I s->T (step s) (Rd (λs'=>I s'/\μ s'<μ s) Q)):∀(n:Nat) (s:σ),μ s<n->I s->T (KN step n s) Q
 |0,s,hn,_=>(by grind)
 |n+1,s,hn,hi=>by
  obtain⟨r,e,q⟩:=h s hi;unfold KN;rw[e];cases r with
  |inl s'=>exact T.lpN I μ h n s' (by have:=q.2;omega) q.1
  |inr r=>exact⟨r,rfl,q⟩
theorem T.loop{step:σ->Option (σ⊕ρ)}{Q:ρ->Prop}{s:σ}(I:σ->Prop)(μ:σ->Nat)(hi:I s)(hm:μ s<4611686018427387904)(h:∀s,I s->T (step s) (Rd (λs'=>I s'/\μ s'<μ s) Q)):T (AH step s) Q:=T.lpN I μ h _ s hm hi
theorem T.forA{step:σ×Int->Option ((σ×Int)⊕ρ)}{Q:ρ->Prop}{a:σ}(n:Nat)(J:Nat->σ->Prop)(hn:n<2305843009213693952)(h0:J 0 a)(h:∀k acc,k<n->J k acc->T (step (acc,(k:Int))) (Rd (λs'=>s'.2=((k+1:Nat):Int)/\J (k+1) s'.1) Q))(he:∀acc,J n acc->T (step (acc,(n:Int))) (Rd (λ_=>False) Q)):T (AH step (a,0)) Q:=by
 refine T.loop (λs=>∃k:Nat,k<=n/\s.2=(k:Int)/\J k s.1) (λs=>n-s.2.toNat) (by grind) cq ?_;rintro⟨acc,i⟩ ⟨k,hk,hik,hj⟩;simp only at hik hj;subst hik;rcases HU k n with hlt|hge
 .refine(h k acc hlt hj).mono λr hr=>?_;cases r with
  |inl s'=>refine⟨⟨k+1,aa,hr.1,hr.2⟩,?_⟩;rw[hr.1];simp;omega
  |inr r=>exact hr
 grind
theorem T.forI{step:Int->Option (Int⊕ρ)}{Q:ρ->Prop}(n:Nat)(J:Ft)(hn:n<2305843009213693952)(h0:J 0)(h:∀k,k<n->J k->T (step (k:Int)) (Rd (λs'=>s'=((k+1:Nat):Int)/\J (k+1)) Q))(he:J n->T (step (n:Int)) (Rd (λ_=>False) Q)):T (AH step 0) Q:=by
 refine T.loop (λs=>∃k:Nat,k<=n/\s=(k:Int)/\J k) (λs=>n-s.toNat) (by grind) cq ?_;rintro i ⟨k,hk,hik,hj⟩;subst hik;rcases HU k n with hlt|hge
 .refine(h k hlt hj).mono λr hr=>?_;cases r with
  |inl s'=>refine⟨⟨k+1,aa,hr.1,hr.2⟩,?_⟩;rw[hr.1];simp;omega
  |inr r=>exact hr
 grind
theorem bM{z:Int}(h1: -9223372036854775808<=z)(h2:z<=9223372036854775807):wI z=z:=by grind [wI,IntKind.wrap_i64]
theorem aq(h:k<2305843009213693952):wI ((k:Int)+1)=((k+1:Nat):Int):=by grind [bM]
theorem rM(h:n<18446744073709551616):wU (n:Int)=n:=by grind [wU,IntKind.wrap_u64]
theorem au{l:List α}{k:Nat}:aS l (k:Int)=l[k]? :=by grind [aS]
theorem eA{l:List α}{k:Nat}(h:k<l.length):decide ((k:Int)<ah l)=true:=by grind [ah]
theorem eF{l:List α}:decide ((l.length:Int)<ah l)=false:=by grind [ah]
theorem T.forE{step:List β×Int->Option ((List β×Int)⊕List β)}(l:List α)(a:List β)(enc:α->List β)(c:Nat)(hn:l.length<2305843009213693952)(hc:∀x∈l,(enc x).length<=c)(h:∀(k:Nat) (acc:List β) (x:α),l[k]?= .some x->x∈l->k<l.length->acc.length<=a.length+k*c->T (step (acc,(k:Int))) (Rd (λs'=>s'.2=((k+1:Nat):Int)/\s'.1=acc++enc x) (λ_=>False)))(he:∀acc,step (acc,(l.length:Int))= .some (.inr acc)):T (AH step (a,0)) (λr=>r=a++l.flatMap enc):=by
 refine T.forA l.length (λk acc=>acc=a++(l.take k).flatMap enc/\acc.length<=a.length+k*c) hn aC (λk acc hk hj=>?_) λacc hj=>?_
 .have hx:l[k]?= .some (l[k]'hk):=Ef hk;refine(h k acc _ hx (by simp_all) hk hj.2).mono λr hr=>?_;cases r with
  |inr r=>exact hr.elim
  |inl s'=>obtain⟨h1,h2⟩:=hr;constructor<;>grind [Hr]
 .rw[he];refine .some ?_;show acc=_;grind
theorem d8{l:List α}{enc:α->List β}{c:Nat}(hc:∀x∈l,(enc x).length<=c):(l.flatMap enc).length<=l.length*c:=by induction l<;>grind [Nat.succ_mul]
theorem T.appL{l r:List α}{n m:Nat}{Q:List α->Prop}(h1:l.length<=n)(h2:r.length<=m)(hnm:n+m<=140737488355328)(q:(l++r).length<=n+m->Q (l++r)):T (aT 1 l r) Q:=by grind [app]
theorem T.then{x:Option α}{f:α->Option β}{v:α}{Q:β->Prop}(h:T x λw=>w=v)(q:T (f v) Q):T (x.bind f) Q:=by grind [bind,mono]
end
section
attribute [local irreducible] Tr D8 GS Le Wk ve ba bB XL J6 Dp
section
variable {P:Br} {t:Bn} {x y:Dk}
theorem SS{a:Nat}(ha:a<2^63)(hb:b<2^63):b8 P .or t x y (.lit (.int .i64 (a:Int))) (.lit (.int .i64 (b:Int)))=some (.lit (.int .i64 ((a|||b:Nat):Int))):=by
 have h:b8 P .or t x y (.lit (.int .i64 (a:Int))) (.lit (.int .i64 (b:Int)))=some (.lit (.int .i64 (IntKind.i64.wrap ((BitVec.ofInt IntKind.i64.bits (a:Int)|||BitVec.ofInt IntKind.i64.bits (b:Int)).toNat:Nat)))):=by simp[b8,cD,eqGuard,binOp,Op.intBits,bz,db]
 have h1:(BitVec.ofInt IntKind.i64.bits (a:Int)|||BitVec.ofInt IntKind.i64.bits (b:Int)).toNat=a|||b:=by show(BitVec.ofInt 64 (a:Int)|||BitVec.ofInt 64 (b:Int)).toNat=a|||b;rw[BitVec.ofInt_natCast,BitVec.ofInt_natCast,BitVec.toNat_or,BitVec.toNat_ofNat,BitVec.toNat_ofNat,MZ aa,MZ aa]
 have h2:a|||b<2^63:=Nat.or_lt_two_pow ha hb;rw[h,h1,w64 aa]
end
section
variable {P:Br} {ops:Array Oper} {K:St->Prop} {rest:Iu} {n:Nat} {gl:Cd} {fr:Fr} {σ:aQ} {c p:Nat} {rr:Bool} {d:Tmp} {ty:Bn} {pos:String} {af:Array Edge}
end
end
section
variable {P:Br} {x y:Dk} {t:Bn}
end
theorem im1{a:G}(ha:bB a):∀g∈[a],bB g:=λg hg=>by simp only[EH,Lu,or_false] at hg;subst hg;exact ha
theorem im2{a b:G}(ha:bB a)(hb:bB b):∀g∈[a,b],bB g:=λg hg=>by
 simp only[EH,Lu,or_false] at hg;rcases hg with rfl|rfl
 .exact ha
 .exact hb
abbrev gU'(n:Nat):G:= .lit (.int .u64 (n:Int))
def nb(k:Nat):CO:=if h:k<128 then[UInt8.ofNat k]else UInt8.ofNat (k%128+128)::nb (k/128)
 termination_by k
 decreasing_by omega
theorem H6(h:k<128):nb k=[UInt8.ofNat k]:=by rw[nb,dif_pos h]
theorem Er(h:¬k<128):nb k=UInt8.ofNat (k%128+128)::nb (k/128):=by rw[nb,dif_neg h]
theorem Qu:∀(f k:Nat),k<128^(f+1)->(nb k).length<=f+1
 |0,k,h=>by grind [H6]
 |f+1,k,h=>by
  by_cases h1:k<128
  .rw[H6 h1];simp
  .rw[Er h1];have:=Qu f (k/128) (by grind);simp;omega
theorem ow(h:k<18446744073709551616):(nb k).length<=10:=Qu 9 k (by grind)
theorem Yj(k:Nat):nb k≠[]:=by grind [H6,Er]
theorem Yk(h:n<256):gY (UInt8.ofNat n)= .lit (.int .u8 (n:Int)):=by
 have:(UInt8.ofNat n).toNat=n:=by simp;omega
 grind
set_option maxRecDepth 100000 in
theorem V4:∀a:Fin 256,a.1|||128=a.1%128+128:=B5
theorem Yl{x:Dk}{t:Bn}{k:IntKind}{b:Int}:b8 P .or t x y (.lit (.int k a)) (.lit (.int k b))=some (.lit (.int k (k.wrap ((BitVec.ofInt k.bits a|||BitVec.ofInt k.bits b).toNat:Nat)))):=by simp[b8,cD,eqGuard,binOp,Op.intBits,bz,db]
theorem V5{x:Dk}{t:Bn}{k:IntKind}{b:Int}:b8 P .xor t x y (.lit (.int k a)) (.lit (.int k b))=some (.lit (.int k (k.wrap ((BitVec.ofInt k.bits a^^^BitVec.ofInt k.bits b).toNat:Nat)))):=by simp[b8,cD,eqGuard,binOp,Op.intBits,bz,db]
theorem V6{x:Dk}{t:Bn}:b8 P .or t x y (.lit (.int .u8 (n:Int))) (.lit (.int .u8 128))=some (.lit (.int .u8 ((n%128+128:Nat):Int))):=by
 rw[Yl];have h:(BitVec.ofInt IntKind.u8.bits (n:Int)|||BitVec.ofInt IntKind.u8.bits 128).toNat=n%128+128:=by show(BitVec.ofInt 8 (n:Int)|||BitVec.ofInt 8 ((128:Nat):Int)).toNat=_;rw[BitVec.ofInt_natCast,BitVec.ofInt_natCast,BitVec.toNat_or,BitVec.toNat_ofNat,BitVec.toNat_ofNat];have:=V4 ⟨n%256,aa⟩;grind
 grind [wu8]
def Mk(n:Int):Nat:=if n<0 then(-(n+1)).toNat*2+1 else n.toNat*2
theorem FQ{n:Int}(h: -9223372036854775808<=n/\n<=9223372036854775807):Mk n<18446744073709551616:=by grind [Mk]
theorem Ym{x:Dk}{t:Bn}{n:Int}(h: -9223372036854775808<=n/\n<=9223372036854775807):b8 P .xor t x y (.lit (.int .u64 (IntKind.u64.wrap (IntKind.u64.wrap n*2^1)))) (.lit (.int .u64 (IntKind.u64.wrap (n.fdiv (2^63)))))=some (gU' (Mk n)):=by
 rw[V5];have h64:∀z:Int,IntKind.u64.wrap z=z%18446744073709551616:=λz=>IntKind.wrap_u64 z;congr 3;by_cases hn:n<0
 .have e1:n.fdiv (2^63)= -1:=by grind
  have e2:IntKind.u64.wrap (IntKind.u64.wrap n*2^1)=(((18446744073709551616+2*n)%18446744073709551616).toNat:Int):=by grind
  rw[e1,e2,h64 (-1)];show IntKind.u64.wrap ((BitVec.ofInt 64 _^^^BitVec.ofInt 64 ((18446744073709551615:Nat):Int)).toNat:Nat)=_;rw[BitVec.ofInt_natCast,BitVec.ofInt_natCast];have e3:BitVec.ofNat 64 18446744073709551615=BitVec.allOnes 64:=B5;rw[e3,BitVec.xor_allOnes,BitVec.toNat_not,BitVec.toNat_ofNat,h64];grind [Mk]
 .have e1:n.fdiv (2^63)=0:=by grind
  have e2:IntKind.u64.wrap (IntKind.u64.wrap n*2^1)=((n.toNat*2:Nat):Int):=by grind
  rw[e1,e2,h64 0];show IntKind.u64.wrap ((BitVec.ofInt 64 _^^^BitVec.ofInt 64 ((0:Nat):Int)).toNat:Nat)=_;rw[BitVec.ofInt_natCast,BitVec.ofInt_natCast];grind [Mk]
theorem AjN(h:k<4611686018427387904):wI ((k:Int)+1)=((k+1:Nat):Int):=by unfold wI;rw[IntKind.wrap_i64];omega
theorem AjO{s:List α}(p:α->Bool)(hn:s.length<2305843009213693952){step:Int->Option (Int⊕(Unit⊕Int))}(hs:∀(k:Nat) (x:α),s[k]?=some x->step (k:Int)=some (if p x=true then .inr (.inr (k:Int))else .inl (wI ((k:Int)+1))))(he:step (s.length:Int)=some (.inr (.inl ()))):∃r:Unit⊕Int,AH step 0=some r/\((r= .inl ()/\s.any p=false)\/∃j:Nat,r= .inr (j:Int)/\s.any p=true/\s.findIdx? p=some j):=by
 obtain⟨r,h1,h2⟩:T (AH step 0) λr=>(r= .inl ()/\s.any p=false)\/∃j:Nat,r= .inr (j:Int)/\s.any p=true/\s.findIdx? p=some j:=by
  refine T.forI s.length (λk=>∀j,j<k->∀x,s[j]?=some x->p x=false) hn (λj h=>aa) (λk hk a=>?_) λa=>?_
  .obtain⟨x,hx⟩:∃x,s[k]?=some x:=⟨_,Ef hk⟩;rw[hs k x hx];cases hp:p x with
   |true=>refine⟨_,rfl,.inr ⟨k,rfl,(by grind),?_⟩⟩;grind [List.findIdx?_eq_some_iff_getElem]
   |false=>refine⟨_,rfl,?_⟩;rw[BU B5];constructor<;>grind [AjN]
  .rw[he];refine⟨_,rfl,.inl ⟨rfl,?_⟩⟩;grind [He]
 exact⟨r,h1,h2⟩
theorem Bp{s:List α}{x:α}(h:s[k]?=some x):aS s (k:Int)=some x:=by grind [aS]
theorem C3{s:List α}{k:Nat}{x:α}(h:s[k]?=some x):decide ((k:Int)<ah s)=true:=by grind [ah]
theorem D4{s:List α}:decide ((s.length:Int)<ah s)=false:=C5 (by unfold ah;omega)
theorem Uw[DecidableEq α]{s:List α}(hn:s.length<2305843009213693952)(v:α):Acg s v=some (s.any λy=>decide (v=y)):=by
 obtain⟨r,h1,h2⟩:=AjO (s:=s) (λy=>decide (v=y)) hn (step:=aaa s v) (by grind [aaa,C3,Bp]) (by unfold aaa;rw[D4];rfl);unfold Acg ixT;rw[h1];rcases h2 with⟨rfl,h2⟩|⟨j,rfl,h2,_⟩<;>rw[h2]
 .rfl
 .show some (decide (0<=(j:Int)))=_;rw[CM aa]
theorem AbB{s:List α}{f:α->Fm}{p:α->Bool}(hn:s.length<2305843009213693952)(hf:∀x∈s,f x=some (p x)):Abf s f=some (s.any p):=by
 obtain⟨r,h1,h2⟩:=AjO (s:=s) p hn (step:=Ko s f) (by grind [Ko,C3,Bp]) (by unfold Ko;rw[D4];rfl);unfold Abf Vx;rw[h1];rcases h2 with⟨rfl,h2⟩|⟨j,rfl,h2,_⟩<;>rw[h2]
 .rfl
 .show some (decide (0<=(j:Int)))=_;rw[CM aa]
section
attribute [local irreducible] Tr dz Gp
def AfN(m:FM Int AA):FM Int (Option AA):=⟨m.es.map λe=>(e.1,some e.2.1,e.2.2),m.clk⟩
theorem AfO(m:FM Int AA)(k:Int):(AfN m).get k=(m.get k).map some:=by unfold FM.get AfN;dsimp only;induction m.es<;>grind
theorem AhE(R:Ad)(m:Int):∀σ,bL prog σ V2 false (FM.g JM (λx=> .ptr (Fv x) 0) R.members) (iG m)=some (npG Fv (R.members.get m)):=λσ=>by
 have h:=FM.look1 (et:=183) PC (t:=V2) (vg:=npG Fv) (v0:=none) aH aH (AfN R.members) m (gk:=iG m) rfl σ;have e:(AfN R.members).g JM (npG Fv)=FM.g JM (λx=> .ptr (Fv x) 0) R.members:=by unfold FM.g AfN;simp only[It];rfl
 rw[e,AfO] at h;rw[h];cases R.members.get m<;>rfl
abbrev frI(a:Nat){R:Ad}{k:Int}{x:AA}(_:R.members.get k=some x):Fr:=[(a,iG k)]
theorem US(R:Ad)(m:Int):ba prog gl 142 [.ptr (CB R) 0,iG m] (iG (MI R m)):=by
 have h:=AhE R m;unfold MI;cases hx:R.members.get m with
 |none=>rw[hx] at h;exact Gh func142 (Ar [hm 11 h] [])
 |some x=>rw[hx] at h;exact Gh func142 (Ar [hm 11 h] [])
def Dd(R:Ad)(o:Bi):Int×Int:=match R.members.es.find? λe=>K3 e.2.1 o.Of with
 |none=>(0,25)
 |some e=>match e.2.1.guard with
  |none=>(0,25)
  |some g=>bif g.guards.any λy=>decide (o.By=y)then(e.1,0)else(0,14)
theorem T9(hR:Bh R)(o:Bi):SE prog gl 140 [.ref 0 0,.agg (aJ o)] (BG f0 R) 14 14 (.tup [iG (Dd R o).1,iG (Dd R o).2]) (BG f0 R):=by
 refine dFP func140 ?_;have hr2:∀a b:Int,bB (.tup [iG a,iG b]):=by grind [L7,mN]
 have hw:=Abz gl hR o.Of;unfold Dd;cases hfi:R.members.es.find? λe=>K3 e.2.1 o.Of with
 |none=>rw[show Hx R o.Of=0 by unfold Hx;rw[hfi]] at hw;have hr:=hr2 0 25;exact Hp f0 _ hR [hrr 10 f0 15 [.agg (aj o.Of)] hR hw] (HC R hr)
 |some e=>
  have he:=List.mem_of_find?_eq_some hfi;have hg:K3 e.2.1 o.Of=true:=by have:=List.find?_some hfi;exact this
  obtain⟨hx,h3⟩:=hR.mem he;rw[show Hx R o.Of=e.1 by unfold Hx;rw[hfi]] at hw;obtain⟨k,x,n⟩:=e;dsimp only at hx h3 hw hg⊢;obtain⟨j,rfl,c⟩:∃j:Nat,k=(j:Int)/\(j=1\/j=2\/j=3):=by grind
  obtain⟨role,gd⟩:=x;cases gd with
  |none=>cases hg
  |some g=>
   have e1:=Ado c hx;have e2:=AfL c hx rfl;have hl:∀q∈[eM j ⟨role,some g⟩,eG j g],Bv f0 R q.1=some q.2:=by grind
   have hlk:=Sg hx;have hct:=DH gl (Uw (Nat.lt_of_le_of_lt (hR.gn _ _ _ hx rfl) B5) o.By);dsimp only;cases hb:g.guards.any λy=>decide (o.By=y) with
   |false=>
    rw[hb] at hct;have hr:=hr2 0 14;rcases c with rfl|rfl|rfl
    all_goals
     refine pO 11102140 (s0 32 gl (frI 6 hx++[(0,.ref 0 0),(3,.ref 14 0)]) (stT hl++[(14,oOp o)]) 15 14) [hrr 10 f0 15 [.agg (aj o.Of)] hR hw] (rlT (Gf f0++[(14,14)]) f0 hR hl) ?_ (ρ:=Gf f0++[(14,14)]) (kd:=N3)
     exact Hp f0 _ hR [KJ 20 hlk,hf 29 hct] (Ww hl hr)
   |true=>
    rw[hb] at hct;have hr:=hr2 (j:Int) 0;rcases c with rfl|rfl|rfl
    all_goals
     refine pO 11102140 (s0 32 gl (frI 6 hx++[(0,.ref 0 0),(3,.ref 14 0)]) (stT hl++[(14,oOp o)]) 15 14) [hrr 10 f0 15 [.agg (aj o.Of)] hR hw] (rlT (Gf f0++[(14,14)]) f0 hR hl) ?_ (ρ:=Gf f0++[(14,14)]) (kd:=N3)
     exact Hp f0 _ hR [KJ 20 hlk,hf 29 hct] (Ww hl hr)
abbrev HE(R:Ad)(k:Int)(x:AA):Ad:={R with members:=C6 R.members k x}
theorem JF{R:Ad}{k:Int}{x:AA}(j:Int):(HE R k x).members.get j=if j=k then some x else R.members.get j:=BA _ _
theorem AjK{k:Int}(h:R.members.get k=some x):(HE R k x').members.es.map (·.1)=R.members.es.map (·.1):=by grind [Q1,GL]
theorem AhF{k:Int}(h:R.members.get k=some x)(f:Nat->Nat):Sf f (HE R k x')=Sf f R:=by
 show(⟨_,_,some (.map _ _)⟩:Ob)=⟨_,_,some (.map _ _)⟩;have key:Wf f (C6 R.members k x')=Wf f R.members/\(C6 R.members k x').clk=R.members.clk:=by
  unfold C6 Wf;cases hk:bu k (R.members.es.map (·.1)) with
  |none=>rw[S7 hk] at h;cases h
  |some j=>obtain⟨e,he,rfl,_⟩:=MJ hk;refine⟨?_,rfl⟩;dsimp only;rw[he,List.map_set];apply List.ext_getElem?;grind
 grind
theorem Aam(hR:Bh R){k:Int}(h:R.members.get k=some x)(hv:∀g,x'.guard=some g->RT g.vouches/\(DV (R.cards.get g.id.By)).Member=k/\g.guards.length<=1000000/\(1<=g.need/\g.need<=1000000)/\∀e∈g.vouches.es,1<=e.1.by_/\e.1.by_<=6):Bh (HE R k x'):=by
 have cas:∀(j:Int) (y:AA) (g:CA),(HE R k x').members.get j=some y->y.guard=some g->(j=k/\x'.guard=some g)\/(R.members.get j=some y):=by grind [JF]
 refine⟨hR.ci,hR.cw,Ow hR.cm _,λe he=>?_,hR.c3,λj y g h1 h2=>?_,λj y g h1 h2=>?_,λj y g h1 h2=>?_,λj y g h1 h2=>?_,hR.i6,hR.c6,λj y g h1 h2=>?_⟩
 .have hk:e.1∈(HE R k x').members.es.map (·.1):=Fl.2 ⟨e,he,rfl⟩;rw[AjK h] at hk;grind [Bh]
 .grind [Bh.cv]
 .grind [Bh.gm]
 .grind [Bh.gN]
 .rcases cas j y g h1 h2 with⟨rfl,h3⟩|h3
  .exact(hv g h3).2.2.2.2
  .exact hR.vb j y g h3 h2
 grind [Bh.gn]
theorem AfP(hx:R.members.get (k:Int)=some x)(q:Nat)(h4:q≠4+k)(h7:q≠7+k\/x'.guard=none)(h10:q≠10+k\/x'.guard=none):∀ob,Bv f0 (HE R (k:Int) x') q=some ob->Bv f0 R q=some ob:=λob h=>by
 have hM:∀j:Nat,j≠k->roM f0 (HE R (k:Int) x') j=roM f0 R j:=by grind [roM,JF]
 have hB:∀j:Nat,j≠k\/x'.guard=none->∀y,((HE R (k:Int) x').members.get (j:Int)).bind (·.guard)=some y->(R.members.get (j:Int)).bind (·.guard)=some y:=by grind [JF]
 have hG:∀j:Nat,j≠k\/x'.guard=none->∀ob,roG f0 (HE R (k:Int) x') j=some ob->roG f0 R j=some ob:=by grind [roG,DF]
 have hV:∀j:Nat,j≠k\/x'.guard=none->∀ob,roV (HE R (k:Int) x') j=some ob->roV R j=some ob:=by grind [roV,DF]
 match q,DY h with
 |0,_=>exact h
 |1,_=>exact h
 |2,_=>exact h
 |3,_=>exact h
 |4,_=>rw[<-h];exact congrArg some (AhF hx f0).symm
 |5,_=>rw[<-h];exact(hM 1 aa).symm
 |6,_=>rw[<-h];exact(hM 2 aa).symm
 |7,_=>rw[<-h];exact(hM 3 aa).symm
 |8,_=>exact hG 1 (h7.imp (λh=>aa) id) ob h
 |9,_=>exact hG 2 (h7.imp (λh=>aa) id) ob h
 |10,_=>exact hG 3 (h7.imp (λh=>aa) id) ob h
 |11,_=>exact hV 1 (h10.imp (λh=>aa) id) ob h
 |12,_=>exact hV 2 (h10.imp (λh=>aa) id) ob h
 |13,_=>exact hV 3 (h10.imp (λh=>aa) id) ob h
def tgU(R:Ad)(l a:List (Nat×Ob))(k:Nat):Option Ob:=match a.find? λq=>Nat.beq q.1 k with
 |some q=>some q.2
 |none=>tg R l k
theorem AjL{l':List (Nat×Ob)}(hl:∀q∈l,Bv f0 R q.1=some q.2)(a:∀q∈l',Bv f0 R' q.1=some q.2)(hs:∀q,(∀e∈l',e.1≠q)->∀ob,Bv f0 R' q=some ob->Bv f0 R q=some ob)(k:Nat):∀ob,Bv f0 R' k=some ob->tgU R l l' k=some ob:=by grind [tgU,bc,Y5,Nat.beq_refl]
abbrev rlU{R R':Ad}{l l':List (Nat×Ob)}(hl:∀q∈l,Bv f0 R q.1=some q.2)(a:∀q∈l',Bv f0 R' q.1=some q.2)(hs:∀q,(∀e∈l',e.1≠q)->∀ob,Bv f0 R' q=some ob->Bv f0 R q=some ob):List HP:=hc (⟨rfl,L7 aC⟩:iU []=iU []/\bB (iU []))::L0.map λk=>hc (AjL hl a hs k)
theorem hl1{x:AA}(h3:k=1\/k=2\/k=3)(h:R.members.get (k:Int)=some x):∀q∈[eM k x],Bv f0 R q.1=some q.2:=by grind [Ado]
theorem hl3{R:Ad}{role:Int}{g:CA}(h3:k=1\/k=2\/k=3)(h:R.members.get (k:Int)=some ⟨role,some g⟩):∀q∈[eM k ⟨role,some g⟩,eG k g,eV k g],Bv f0 R q.1=some q.2:=λq hq=>by
 simp only[EH,Lu,or_false] at hq;rcases hq with rfl|rfl|rfl
 .exact Ado h3 h
 all_goals grind [AfL,AlH]
theorem hs1{role:Int}(hx:R.members.get (k:Int)=some x):∀q,(∀e∈[eM k (⟨role,none⟩:AA)],e.1≠q)->∀ob,Bv f0 (HE R (k:Int) ⟨role,none⟩) q=some ob->Bv f0 R q=some ob:=λq hq=>AfP hx q (λe=>hq _ (List.mem_singleton.2 rfl) e.symm) (.inr rfl) (.inr rfl)
theorem hs3{R:Ad}{role:Int}{g:CA}(hx:R.members.get (k:Int)=some x):∀q,(∀e∈[eM k (⟨role,some g⟩:AA),eG k g,eV k g],e.1≠q)->∀ob,Bv f0 (HE R (k:Int) ⟨role,some g⟩) q=some ob->Bv f0 R q=some ob:=λq hq=>AfP hx q (λe=>(by simp_all)) (.inl λe=>hq (eG k g) aC e.symm) (.inl λe=>hq (eV k g) aC e.symm)
def Uv(R:Ad)(o:Bi):Ad:=match R.members.get o.Member with
 |none=>R
 |some x=>HE R o.Member ⟨o.Role,x.guard⟩
theorem Adp(hR:Bh R)(o:Bi):Bh (Uv R o):=by
 unfold Uv;split
 .exact hR
 .rename_i x hx;exact Aam hR hx (by grind [Bh])
abbrev frP(a:Nat){R:Ad}{k:Int}{x:AA}(_:R.members.get k=some x):Fr:=[(a,.ref (nM k) 0)]
abbrev ρD:DD:=Gf f0++[(14,14),(15,15)]
theorem Acv(hR:Bh R){o:Bi}(hk:o.Kind=5):UD gl R o i (Uv R o):=by
 have hok:=Adp hR o;refine PM gl hR ?_;have a1:decide (o.Kind=1)=false:=by rw[hk];rfl
 have a2:decide (o.Kind=2)=false:=by rw[hk];rfl
 have a3:decide (o.Kind=3)=false:=by rw[hk];rfl
 have a5:decide (o.Kind=5)=true:=by rw[hk];rfl
 unfold Uv at hok⊢;cases hx:R.members.get o.Member with
 |none=>exact Hp f0 _ hR [hr 29 a1,hr 52 a2,hr 60 a3,hr 86 a5,KJ 93 (Wg hx)] (rlX (f:=f0) (R:=R))
 |some x=>
  rw[hx] at hok;have hlk:=Sg hx;obtain⟨j,hj,b⟩:∃j:Nat,o.Member=(j:Int)/\(j=1\/j=2\/j=3):=by have:=Ahz hR hx;exact⟨o.Member.toNat,aa,aa⟩
  dsimp only at hok⊢;rw[hj] at hx hok⊢;rw[show(.ref (nM o.Member) 0:G)= .ref (nM (j:Int)) 0 by rw[hj]] at hlk;obtain⟨role,gd⟩:=x;have hg':(HE R (j:Int) ⟨o.Role,gd⟩).members.get (j:Int)=some ⟨o.Role,gd⟩:=by rw[JF,Bz rfl]
  cases gd with
  |none=>
   have hl:=hl1 b hx;have a:=hl1 b hg';have hs:=hs1 (role:=o.Role) hx;rcases b with rfl|rfl|rfl
   all_goals
    refine pO 1111214141413113 (s0 259 gl (frP 9 hx++[(4,.ref 14 0)]) (stT hl++[(14,oOp o),(15,Xj i)]) 16 5) [hr 29 a1,hr 52 a2,hr 60 a3,hr 86 a5,KJ 93 hlk] (rlT ρD f0 hR hl) ?_ (ρ:=ρD) (kd:=N3)
    exact Hp f0 _ hok [] (rlU hl a hs)
  |some g=>
   have hl:=hl3 b hx;have a:=hl3 b hg';have hs:=hs3 (role:=o.Role) (g:=g) hx;rcases b with rfl|rfl|rfl
   all_goals
    refine pO 1111214141413113 (s0 259 gl (frP 9 hx++[(4,.ref 14 0)]) (stT hl++[(14,oOp o),(15,Xj i)]) 16 5) [hr 29 a1,hr 52 a2,hr 60 a3,hr 86 a5,KJ 93 hlk] (rlT ρD f0 hR hl) ?_ (ρ:=ρD) (kd:=N3)
    exact Hp f0 _ hok [] (rlU hl a hs)
def Wx(R:Ad)(o:Bi):Ad:=match R.members.get (Dl R o.By) with
 |some ⟨role,some g⟩=>bif g.id=o.Of then HE R (Dl R o.By) ⟨role,some {g with objected:=true,last:=EZ g.last o.At}⟩else R
 |_=>R
theorem AfR(hR:Bh R)(o:Bi):Bh (Wx R o):=by
 unfold Wx;split
 .rename_i role g hx;cases decide (g.id=o.Of) with
  |false=>exact hR
  |true=>refine Aam hR hx λa hg=>?_;grind [Bh]
 .exact hR
theorem Ad8(hR:Bh R){o:Bi}(hk:o.Kind=12):UD gl R o i (Wx R o):=by
 have hok:=AfR hR o;have hrt:bB (iU []):=L7 aC;have a1:decide (o.Kind=1)=false:=by rw[hk];rfl
 have a2:decide (o.Kind=2)=false:=by rw[hk];rfl
 have a3:decide (o.Kind=3)=false:=by rw[hk];rfl
 have a5:decide (o.Kind=5)=false:=by rw[hk];rfl
 have a9:decide (o.Kind=9)=false:=by rw[hk];rfl
 have a11:decide (o.Kind=11)=false:=by rw[hk];rfl
 have a12:decide (o.Kind=12)=true:=by rw[hk];rfl
 refine dFP func69 ?_;unfold Wx at hok⊢;cases hx:R.members.get (Dl R o.By) with
 |none=>exact Hp f0 _ hR [hof gl 24 hR o.By 16,KJ 25 (Wg hx),hr 29 a1,hr 52 a2,hr 60 a3,hr 86 a5,hr 102 a9,hr 120 a11,hr 168 a12] (rlX (f:=f0) (R:=R))
 |some x=>
  rw[hx] at hok;have hlk:=Sg hx;obtain⟨j,hj,a⟩:∃j:Nat,Dl R o.By=(j:Int)/\(j=1\/j=2\/j=3):=by grind [Ahz]
  rw[hj] at hx hok hlk⊢;obtain⟨role,gd⟩:=x;cases gd with
  |none=>
   have hl:=hl1 a hx;rcases a with rfl|rfl|rfl
   all_goals
    refine pO 11112141414141414130 (s0 259 gl (frP 6 hx++[(4,.ref 14 0)]) (stT hl++[(14,oOp o),(15,Xj i)]) 16 5) [AfG gl 24 hR hj 16,KJ 25 hlk,hr 29 a1,hr 52 a2,hr 60 a3,hr 86 a5,hr 102 a9,hr 120 a11,hr 168 a12] (rlT ρD f0 hR hl) ?_ (ρ:=ρD) (kd:=N3)
    exact Hp f0 _ hR [] (Ww hl hrt)
  |some g=>
   have hl:=hl3 a hx;dsimp only at hok⊢;cases hd:decide (g.id=o.Of) with
   |false=>
    rcases a with rfl|rfl|rfl
    all_goals
     refine pO 11112141414141414130 (s0 259 gl (frP 6 hx++[(4,.ref 14 0)]) (stT hl++[(14,oOp o),(15,Xj i)]) 16 5) [AfG gl 24 hR hj 16,KJ 25 hlk,hr 29 a1,hr 52 a2,hr 60 a3,hr 86 a5,hr 102 a9,hr 120 a11,hr 168 a12] (rlT ρD f0 hR hl) ?_ (ρ:=ρD) (kd:=N3)
     exact Hp f0 _ hR [hV 188 (dU g.id o.Of hd)] (Ww hl hrt)
   |true=>
    rw[hd] at hok;rw[ax] at hok⊢;have b:=hl3 (R:=HE R (j:Int) ⟨role,some {g with objected:=true,last:=EZ g.last o.At}⟩) a (by rw[JF,Bz rfl]);have hs:=hs3 (role:=role) (g:={g with objected:=true,last:=EZ g.last o.At}) hx;rcases a with rfl|rfl|rfl
    all_goals
     refine pO 11112141414141414130 (s0 259 gl (frP 6 hx++[(4,.ref 14 0)]) (stT hl++[(14,oOp o),(15,Xj i)]) 16 5) [AfG gl 24 hR hj 16,KJ 25 hlk,hr 29 a1,hr 52 a2,hr 60 a3,hr 86 a5,hr 102 a9,hr 120 a11,hr 168 a12] (rlT ρD f0 hR hl) ?_ (ρ:=ρD) (kd:=N3)
     exact Hp f0 _ hok [hV 188 (dU g.id o.Of hd)] (rlU hl b hs)
theorem AlL(k:C4):Instr.sameBits 10000 (BX k) (BX k)=true:=by unfold BX Ht;simp[Instr.sameBits]
abbrev Wy(o:Bi):C4:=⟨o.By,o.Device⟩
def Aan(g:CA)(o:Bi):Bool:=match g.vouches.get (Wy o) with
 |none=>true
 |some a=>decide (o.At<a)
abbrev Acw(g:CA)(o:Bi):CA:={g with vouches:=C6 g.vouches (Wy o) o.At}
def XX(R:Ad)(o:Bi):Ad:=match R.members.es.find? λe=>K3 e.2.1 o.Of with
 |some (k,⟨role,some g⟩,_)=>bif(g.guards.any λy=>decide (o.By=y))&&Aan g o then HE R k ⟨role,some (Acw g o)⟩else R
 |_=>R
theorem AfS(hR:Bh R){o:Bi}(hb:1<=o.By/\o.By<=6):Bh (XX R o):=by
 unfold XX;split
 .rename_i k role g n hf;have hx:=(hR.mem (List.mem_of_find?_eq_some hf)).1;dsimp only at hx;cases(g.guards.any λy=>decide (o.By=y))&&Aan g o with
  |false=>exact hR
  |true=>
   refine Aam hR hx λa hg=>?_;cases hg;exact⟨Ow (hR.cv _ _ g hx rfl) _,hR.gm _ _ g hx rfl,hR.gn _ _ g hx rfl,hR.gN _ _ g hx rfl,λe he=>by
    have hk:e.1∈(C6 g.vouches (Wy o) o.At).es.map (·.1):=Fl.2 ⟨e,he,rfl⟩;rw[Q1] at hk;split at hk
    .grind [Bh]
    .rcases Jo.1 hk with hk|hk
     .obtain⟨y,hy,h⟩:=Fl.1 hk;grind [Bh]
     grind⟩
 .exact hR
theorem lkV(g:CA)(k:C4)(q:Nat):bL prog [(10+q,some (Nh tMv BX iG g.vouches))] tMv true (.mref (10+q)) (.agg (M5 k))=some (.tup [iG (LO (g.vouches.get k)),bG (g.vouches.get k).isSome]):=(SW (et:=3) KX aH (k:=k) rfl (by rw[R3])).trans (SA g.vouches k _)
def hmr(c:Nat){P:Br}{σ:aQ}{t:Bn}{gm gk g:G}{i:Nat}{ob:Ob}(h:dZ P σ t gm gk g=some (i,ob)):HP:=⟨some (.e 999999998 (.lit undef) i ob),dZ P (Uz σ (fR gm)) t gm gk g=some (i,ob),(aab Ho).symm.trans h⟩
theorem Anl(g:CA)(k:C4)(a:Int)(q:Nat):dZ prog [(10+q,some (Nh tMv BX iG g.vouches))] tMv (.mref (10+q)) (.agg (M5 k)) (iG a)=some (10+q,Nh tMv BX iG (C6 g.vouches k a)):=Af1 (et:=3) KX AlL aH rfl (by rw[R3]) a
theorem AfT(hR:Bh R){o:Bi}(hk:o.Kind=11)(hby:1<=o.By/\o.By<=6):UD gl R o i (XX R o):=by
 have hok:=AfS hR hby;have hrt:bB (iU []):=L7 aC;have a1:decide (o.Kind=1)=false:=by rw[hk];rfl
 have a2:decide (o.Kind=2)=false:=by rw[hk];rfl
 have a3:decide (o.Kind=3)=false:=by rw[hk];rfl
 have a5:decide (o.Kind=5)=false:=by rw[hk];rfl
 have a9:decide (o.Kind=9)=false:=by rw[hk];rfl
 have a11:decide (o.Kind=11)=true:=by rw[hk];rfl
 refine PM gl hR ?_;have hg:=T9 gl hR o;unfold XX at hok⊢;unfold Dd at hg;cases hf:R.members.es.find? λe=>K3 e.2.1 o.Of with
 |none=>rw[hf] at hg;exact Hp f0 _ hR [hr 29 a1,hr 52 a2,hr 60 a3,hr 86 a5,hr 102 a9,hr 120 a11,hrr 124 f0 16 [.agg (aJ o)] hR hg] (rlX (f:=f0) (R:=R))
 |some e=>
  have he:=List.mem_of_find?_eq_some hf;have hh:K3 e.2.1 o.Of=true:=by have:=List.find?_some hf;exact this
  obtain⟨hx,h3⟩:=hR.mem he;rw[hf] at hg hok;obtain⟨k,x,n⟩:=e;dsimp only at hx h3 hg hh hok⊢;obtain⟨j,rfl,c⟩:∃j:Nat,k=(j:Int)/\(j=1\/j=2\/j=3):=by grind
  obtain⟨role,gd⟩:=x;cases gd with
  |none=>cases hh
  |some g=>
   dsimp only at hg hok⊢;cases hb:g.guards.any λy=>decide (o.By=y) with
   |false=>rw[hb] at hg;exact Hp f0 _ hR [hr 29 a1,hr 52 a2,hr 60 a3,hr 86 a5,hr 102 a9,hr 120 a11,hrr 124 f0 16 [.agg (aJ o)] hR hg] (rlX (f:=f0) (R:=R))
   |true=>
    rw[hb] at hg hok;rw[Bool.true_and] at hok⊢;have hl:=hl3 c hx;have hlk:=Sg hx;have b:=lkV g (Wy o) j;have hpv:=Anl g (Wy o) o.At j;have d:=hl3 (R:=HE R (j:Int) ⟨role,some (Acw g o)⟩) c (by rw[JF,Bz rfl]);have hs:=hs3 (role:=role) (g:=Acw g o) hx;unfold Aan at hok⊢;cases hv:g.vouches.get (Wy o) with
    |none=>
     rw[hv] at hok b;rcases c with rfl|rfl|rfl
     all_goals
      refine pO 111121414141414131130 (s0 259 gl (frI 10 hx++[(0,.ref 0 0),(4,.ref 14 0)]) (stT hl++[(14,oOp o),(15,Xj i)]) 16 5) [hr 29 a1,hr 52 a2,hr 60 a3,hr 86 a5,hr 102 a9,hr 120 a11,hrr 124 f0 16 [.agg (aJ o)] hR hg] (rlT ρD f0 hR hl) ?_ (kd:=N3)
      exact Hp f0 _ hok [KJ 134 hlk,KJ 149 b,hmr 17 hpv] (rlU hl d hs)
    |some a=>
     rw[hv] at hok b;dsimp only at hok⊢;cases hat:decide (o.At<a) with
     |true=>
      rw[hat] at hok;rcases c with rfl|rfl|rfl
      all_goals
       refine pO 111121414141414131130 (s0 259 gl (frI 10 hx++[(0,.ref 0 0),(4,.ref 14 0)]) (stT hl++[(14,oOp o),(15,Xj i)]) 16 5) [hr 29 a1,hr 52 a2,hr 60 a3,hr 86 a5,hr 102 a9,hr 120 a11,hrr 124 f0 16 [.agg (aJ o)] hR hg] (rlT ρD f0 hR hl) ?_ (kd:=N3)
       exact Hp f0 _ hok [KJ 134 hlk,KJ 149 b,hr 158 hat,hmr 17 hpv] (rlU hl d hs)
     |false=>
      rcases c with rfl|rfl|rfl
      all_goals
       refine pO 111121414141414131130 (s0 259 gl (frI 10 hx++[(0,.ref 0 0),(4,.ref 14 0)]) (stT hl++[(14,oOp o),(15,Xj i)]) 16 5) [hr 29 a1,hr 52 a2,hr 60 a3,hr 86 a5,hr 102 a9,hr 120 a11,hrr 124 f0 16 [.agg (aJ o)] hR hg] (rlT ρD f0 hR hl) ?_ (kd:=N3)
       exact Hp f0 _ hR [KJ 134 hlk,KJ 149 b,hr 158 hat] (Ww hl hrt)
abbrev Anm(o:Bi)(i:Ab):CA:=⟨i,o.Guards,o.Need,o.Wait,⟨[],0⟩,false,0⟩
def Aao(R:Ad)(o:Bi)(i:Ab):Ad:=match R.members.get (Dl R o.By) with
 |none=>R
 |some x=>HE R (Dl R o.By) ⟨x.role,some (Anm o i)⟩
theorem AfU(hR:Bh R){o:Bi}(hi:i.By=o.By)(hg:o.Guards.length<=1000000)(hn:1<=o.Need/\o.Need<=1000000):Bh (Aao R o i):=by
 unfold Aao;split
 .exact hR
 .rename_i x hx;refine Aam hR hx λa h=>?_;cases h;exact⟨(by grind [RT,FxOk]),by show(DV (R.cards.get i.By)).Member=_;rw[hi];rfl,hg,hn,λe he=>by cases he⟩
def fGu(j q:Nat):Nat:=bif Nat.beq q (7+j)then 16 else bif Nat.beq q (10+j)then 17 else q
theorem AjM{q:Nat}(h1:q≠7+j)(h2:q≠10+j):fGu j q=q:=by grind [fGu,bc]
theorem AlM(a:∀e∈R.members.es,1<=e.1/\e.1<=3)(h3:j=1\/j=2\/j=3)(q:Nat)(h4:q≠4+j)(h7:q≠7+j)(h10:q≠10+j):Bv (fGu j) R q=Bv f0 R q:=by
 rcases HU q 14 with hlt|hge
 rotate_left
 .obtain⟨k,rfl⟩:∃k,q=k+14:=⟨q-14,aa⟩;rfl
 match q,hlt with
 |0,_=>rcases h3 with rfl|rfl|rfl<;>rfl
 |1,_=>rfl
 |2,_=>rfl
 |3,_=>rfl
 |4,_=>show some (⟨_,_,some (.map _ _)⟩:Ob)=some ⟨_,_,some (.map _ _)⟩;grind [List.map_congr_left,nM,AjM]
 |5,_=>rcases h3 with rfl|rfl|rfl<;>first|exact absurd rfl h4|rfl
 |6,_=>rcases h3 with rfl|rfl|rfl<;>first|exact absurd rfl h4|rfl
 |7,_=>rcases h3 with rfl|rfl|rfl<;>first|exact absurd rfl h4|rfl
 |8,_=>rcases h3 with rfl|rfl|rfl<;>first|exact absurd rfl h7|rfl
 |9,_=>rcases h3 with rfl|rfl|rfl<;>first|exact absurd rfl h7|rfl
 |10,_=>rcases h3 with rfl|rfl|rfl<;>first|exact absurd rfl h7|rfl
 |11,_=>rfl
 |12,_=>rfl
 |13,_=>rfl
abbrev fH{R:Ad}{k:Int}{x:AA}(_:R.members.get k=some x):Nat->Nat:=fGu k.toNat
abbrev rlG{R:Ad}{j:Nat}{x:AA}{g:CA}(h3:j=1\/j=2\/j=3)(hx:R.members.get (j:Int)=some x)(hok:Bh (HE R (j:Int) ⟨x.role,some g⟩))(hl:∀q∈[eM j x],Bv f0 R q.1=some q.2):List HP:=hc (⟨rfl,L7 aC⟩:iU []=iU []/\bB (iU []))::L0.map λq=>
 if h4:q=4+j then hc (λob h=>(by
  have:=JF (R:=R) (k:=(j:Int)) (x:=⟨x.role,some g⟩) j;rw[Bz rfl] at this;have e:Bv (fGu j) (HE R (j:Int) ⟨x.role,some g⟩) (4+j)=some ⟨tMe,[iG x.role,.ref 16 0],none⟩:=by rcases h3 with rfl|rfl|rfl<;>exact(by show Option.map _ _=_;rw[this];rfl)
  exact e.symm.trans h):∀ob,Bv (fGu j) (HE R (j:Int) ⟨x.role,some g⟩) (4+j)=some ob->some ⟨tMe,[iG x.role,.ref 16 0],none⟩=some ob)
 else if h7:q=7+j then hc (λob h=>(by
  have:=JF (R:=R) (k:=(j:Int)) (x:=⟨x.role,some g⟩) j;rw[Bz rfl] at this;have e:Bv (fGu j) (HE R (j:Int) ⟨x.role,some g⟩) (7+j)=some ⟨tGu,guC (fGu j) j g,none⟩:=by rcases h3 with rfl|rfl|rfl<;>exact(by show Option.map _ (Option.bind _ _)=_;rw[this];rfl)
  exact e.symm.trans h):∀ob,Bv (fGu j) (HE R (j:Int) ⟨x.role,some g⟩) (7+j)=some ob->some ⟨tGu,guC (fGu j) j g,none⟩=some ob)
 else if h10:q=10+j then hc (λob h=>(by
  have:=JF (R:=R) (k:=(j:Int)) (x:=⟨x.role,some g⟩) j;rw[Bz rfl] at this;have e:Bv (fGu j) (HE R (j:Int) ⟨x.role,some g⟩) (10+j)=some (Nh tMv BX iG g.vouches):=by rcases h3 with rfl|rfl|rfl<;>exact(by show Option.map _ (Option.bind _ _)=_;rw[this];rfl)
  exact e.symm.trans h):∀ob,Bv (fGu j) (HE R (j:Int) ⟨x.role,some g⟩) (10+j)=some ob->some (Nh tMv BX iG g.vouches)=some ob)
 else hc (λob h=>(by rw[AlM (λe he=>hok.m3 e he) h3 q h4 h7 h10] at h;exact(Y5 hl q).trans (AfP hx q h4 (.inl h7) (.inl h10) ob h)):∀ob,Bv (fGu j) (HE R (j:Int) ⟨x.role,some g⟩) q=some ob->tg R [eM j x] q=some ob)
theorem AfV(hR:Bh R){o:Bi}(hk:o.Kind=9)(hi:i.By=o.By)(hgl:o.Guards.length<=1000000)(hn:1<=o.Need/\o.Need<=1000000):UD gl R o i (Aao R o i):=by
 have hok:=AfU hR (o:=o) hi hgl hn;have a1:decide (o.Kind=1)=false:=by rw[hk];rfl
 have a2:decide (o.Kind=2)=false:=by rw[hk];rfl
 have a3:decide (o.Kind=3)=false:=by rw[hk];rfl
 have a5:decide (o.Kind=5)=false:=by rw[hk];rfl
 have a9:decide (o.Kind=9)=true:=by rw[hk];rfl
 have hcl:=rZ.fo (uK gl (s:=o.Guards) (r:=o.Guards) (by unfold fF aT;rw[Bz (by rw[List.length_nil];omega)];rfl));refine dFP func69 ?_;unfold Aao at hok⊢;cases hx:R.members.get (Dl R o.By) with
 |none=>exact Hp f0 _ hR [hof gl 24 hR o.By 16,KJ 25 (Wg hx),hr 29 a1,hr 52 a2,hr 60 a3,hr 86 a5,hr 102 a9] (rlX (f:=f0) (R:=R))
 |some x=>
  rw[hx] at hok;have hlk:=Sg hx;obtain⟨j,hj,a⟩:∃j:Nat,Dl R o.By=(j:Int)/\(j=1\/j=2\/j=3):=by have:=Ahz hR hx;exact⟨(Dl R o.By).toNat,aa,aa⟩
  rw[hj] at hx hok hlk⊢;have hl:=hl1 a hx;rcases a with rfl|rfl|rfl
  all_goals
   refine pO 11112141414141313 (s0 259 gl (frP 6 hx++[(4,.ref 14 0),(5,.ref 15 0)]) (stT hl++[(14,oOp o),(15,Xj i)]) 16 5) [AfG gl 24 hR hj 16,KJ 25 hlk,hr 29 a1,hr 52 a2,hr 60 a3,hr 86 a5,hr 102 a9] (rlT ρD f0 hR hl) ?_ (ρ:=ρD) (kd:=N3)
   exact Hp (fH hx) _ hok [hf 109 hcl] (rlG B5 hx hok hl)
abbrev AfW(R:Ad)(n:Int):Ad:={R with back:=n}
def AbA(R:Ad)(o:Bi):Ad:=bif decide ((R.was.es.length:Int)=0)&&D3 R o.By then AfW (Jd R o.By 3) o.Need else R
theorem AhG(hR:Bh R)(n:Int):Bh (AfW R n):=by grind [Bh]
theorem AfX(hR:Bh R)(o:Bi):Bh (AbA R o):=by grind [AbA,AhG,I4]
def Acx(R:Ad)(o:Bi):Bool:=bif Hx R o.Of>0 then(bif O4 R o.Old then(bif Dl R o.Old=Hx R o.Of then decide (Dl R o.Device=Hx R o.Of)else false)else false)else false
def Aap(R:Ad)(o:Bi):Ad:=bif Acx R o then G9 (Jd R o.Device (MI R (Dl R o.Device))) o.Old else R
theorem AfY(hR:Bh R)(o:Bi):Bh (Aap R o):=by grind [Aap,KE,I4]
abbrev hro(d:Nat){R:Ad}(hR:Bh R)(x:Int)(c:Nat:=14):HP:=hrl d f0 c hR (US gl R x) Ahy (lR _)
theorem Aea(hR:Bh R){o:Bi}(hk:o.Kind=1):UD gl R o i (AbA R o):=by
 have hok:=AfX hR o;have a1:decide (o.Kind=1)=true:=by rw[hk];rfl
 refine PM gl hR ?_;unfold AbA at hok⊢;have hle:decide (((XI JM bG R.was).length:Int)=0)=decide ((R.was.es.length:Int)=0):=by rw[Hq]
 cases hw:decide ((R.was.es.length:Int)=0) with
 |false=>exact Hp f0 _ hR [hr 29 a1,hr 35 (hle.trans hw)] (rlX (f:=f0) (R:=R))
 |true=>
  rw[hw] at hok;rw[Bool.true_and] at hok⊢;cases hf:D3 R o.By with
  |false=>exact Hp f0 _ hR [hr 29 a1,hr 35 (hle.trans hw),hfr gl 40 hR hf 16] (rlX (f:=f0) (R:=R))
  |true=>rw[hf] at hok;exact Hp f16 _ hok [hr 29 a1,hr 35 (hle.trans hw),hfr gl 40 hR hf 16,hrw 45 f0 16 [iG o.By,iG 3] hR (I4 hR _ _) (Wv gl hR o.By 3)] (rlX (f:=f16) (R:=AfW (Jd R o.By 3) o.Need))
theorem Acy(hR:Bh R){o:Bi}(hk:o.Kind=13):UD gl R o i (Aap R o):=by
 have hok:=AfY hR o;have a1:decide (o.Kind=1)=false:=by rw[hk];rfl
 have a2:decide (o.Kind=2)=false:=by rw[hk];rfl
 have a3:decide (o.Kind=3)=false:=by rw[hk];rfl
 have a5:decide (o.Kind=5)=false:=by rw[hk];rfl
 have a9:decide (o.Kind=9)=false:=by rw[hk];rfl
 have a11:decide (o.Kind=11)=false:=by rw[hk];rfl
 have a12:decide (o.Kind=12)=false:=by rw[hk];rfl
 have a13:decide (o.Kind=13)=true:=by rw[hk];rfl
 refine PM gl hR ?_;have hw:=Abz gl hR o.Of;have hin:=AhB R o.Old;unfold Aap Acx at hok⊢;generalize Hx R o.Of=w at hw hok⊢;cases b1:decide (w>0) with
 |false=>exact Hp f0 _ hR [hr 29 a1,hr 52 a2,hr 60 a3,hr 86 a5,hr 102 a9,hr 120 a11,hr 168 a12,hr 213 a13,hrr 217 f0 16 [.agg (aj o.Of)] hR hw,hr 219 b1] (rlX (f:=f0) (R:=R))
 |true=>
  rw[b1] at hok;cases b2:O4 R o.Old with
  |false=>rw[b2] at hin;exact Hp f0 _ hR [hr 29 a1,hr 52 a2,hr 60 a3,hr 86 a5,hr 102 a9,hr 120 a11,hr 168 a12,hr 213 a13,hrr 217 f0 16 [.agg (aj o.Of)] hR hw,hr 219 b1,KJ 227 hin] (rlX (f:=f0) (R:=R))
  |true=>
   rw[b2] at hin hok;cases b3:decide (Dl R o.Old=w) with
   |false=>exact Hp f0 _ hR [hr 29 a1,hr 52 a2,hr 60 a3,hr 86 a5,hr 102 a9,hr 120 a11,hr 168 a12,hr 213 a13,hrr 217 f0 16 [.agg (aj o.Of)] hR hw,hr 219 b1,KJ 227 hin,hof gl 233 hR o.Old 16,hr 235 b3] (rlX (f:=f0) (R:=R))
   |true=>
    rw[b3] at hok;cases b4:decide (Dl R o.Device=w) with
    |false=>exact Hp f0 _ hR [hr 29 a1,hr 52 a2,hr 60 a3,hr 86 a5,hr 102 a9,hr 120 a11,hr 168 a12,hr 213 a13,hrr 217 f0 16 [.agg (aj o.Of)] hR hw,hr 219 b1,KJ 227 hin,hof gl 233 hR o.Old 16,hr 235 b3,hof gl 241 hR o.Device 16,hr 243 b4] (rlX (f:=f0) (R:=R))
    |true=>rw[b4] at hok;have h1:=I4 hR o.Device (MI R (Dl R o.Device));exact Hp (fW f16 25) _ hok [hr 29 a1,hr 52 a2,hr 60 a3,hr 86 a5,hr 102 a9,hr 120 a11,hr 168 a12,hr 213 a13,hrr 217 f0 16 [.agg (aj o.Of)] hR hw,hr 219 b1,KJ 227 hin,hof gl 233 hR o.Old 16,hr 235 b3,hof gl 241 hR o.Device 16,hr 243 b4,hof gl 252 hR o.Device 16,hro gl 253 hR (Dl R o.Device) 16,hrw 254 f0 16 [iG o.Device,iG (MI R (Dl R o.Device))] hR h1 (Wv gl hR o.Device (MI R (Dl R o.Device))),hrw 258 f16 25 [iG o.Old] h1 (KE h1 _) (Aal gl h1 o.Old)] (rlX (f:=fW f16 25) (R:=G9 (Jd R o.Device (MI R (Dl R o.Device))) o.Old))
end
section
set_option maxHeartbeats 2000000
attribute [local irreducible] Tr dz Gp
def SD{α:Type}(a:α)(a1:α->Fm):Fm:=
 (a1 a).bind λv1=>some (!v1)
theorem Ce{x_:Hh}{a1:Hh->Fm}(a:R1 prog gl fi_a1 fa_a1 fc_a1 (λx:Hh=>[.agg (cz x)]) (λx:Bool=>bG x) a1):DC prog gl (SD x_ a1) 327 [.agg (cz x_),.ptr [.clo (.func fi_a1) fa_a1 fc_a1] 0] bG:=
 cy func327 λK=>ak λv1 e2=>aw [hz 6 [] (a.cs (c:=1) e2 (aY (aG 20 (.agg (cz x_)) aH) (bf)))]<|rv K
def Oa{α:Type}(l:List α)(a:α->Fm):Fm:=
 (Abf l (λz=>SD z a)).bind λv1=>some (!v1)
theorem wA{l:List Hh}{may:Hh->Fm}(a:R1 prog gl fi_may fa_may fc_may (λx:Hh=>[.agg (cz x)]) (λx:Bool=>bG x) may):DC prog gl (Oa l may) 241 [aE cz l,.clo (.func fi_may) fa_may fc_may] bG:=
 cy func241 λK=>cN [1,0] (sf [1] [(3,.ptr [.clo (.func fi_may) fa_may fc_may] 0)]) [hc (a.im),hc (aY (a.im) (bf))]<|ak λv1 e2=>aw [hz 7 [] (jf (c:=0) aH (Mh gl (⟨aH,bf,eB aH,λ_ _ e=>Ce gl a e⟩) e2) (aY (aG 20 (aE cz l) aH) (aY (aG 20 (.clo (.func 327) [] [.ptr [.clo (.func fi_may) fa_may fc_may] 0]) aH) (bf))))]<|rv K
def wB(b:Hh):Fm:=
 ((rJ b.To).bind λe=>bif e then((rJ b.Eph).bind λa=>bif a then((Kq b.Body).bind λc=>bif c then((Kq b.Tag).bind λd=>some d)else(some false))else(some false))else(some false)).bind λf=>some f
theorem Cf{b}:DC prog gl (wB b) 242 [.agg (cz b)] bG:=
 cy func242 λK=>cN [1,0] (sp [] [(1,.ref 0 0)] [ob 0 220 (cz b)] 1) []<|cC [1,0] (λa=>sk [] [(2,bG a)] [] 0) (λa=>rv K) λa k5=>ak λg e8=>kV (λc=>BW 9 (iz gl) λd=>aw [hf 5 (cF (iz gl e8) c)]<|aF 10 (BW 14 (Ak gl) λe=>aF 15 (BW 19 (Ak gl) λf=>rx k5)<|rx k5)<|rx k5) λc=>aw [hf 5 (cF (iz gl e8) c)]<|rx k5
def uP(n:Fp):Fm:=
 ((rJ n.Pub).bind λb=>bif b then((Oa n.Boxes (λz=>wB z)).bind λa=>some a)else(some false)).bind λc=>some c
theorem Du{n}:DC prog gl (uP n) 240 [.agg (bY n)] bG:=
 cy func240 λK=>cN [1,0] (sp [] [(1,.ref 0 0)] [ob 0 122 (bY n)] 1) []<|cC [1,0] (λa=>sk [] [(2,bG a)] [] 0) (λa=>rv K) λa k5=>ak λd e8=>kV (λb=>BW 9 (wA gl (⟨aH,bf,eB aH,λ_ _ e=>Cf gl e⟩)) λc=>aw [hf 5 (cF (iz gl e8) b)]<|rx k5) λb=>aw [hf 5 (cF (iz gl e8) b)]<|rx k5
def uQ(s:DR):Fm:=
 (Al s.Of).bind λv1=>some v1
theorem Dv{s}:DC prog gl (uQ s) 243 [.agg (bp s)] bG:=
 cy func243 λK=>BW 5 (pH gl) λv1=>rv K
def uR(n:Int):Fm:=
 (FV n 1 12).bind λv1=>some v1
theorem Dw{n}:DC prog gl (uR n) 244 [iG n] bG:=
 cy func244 λK=>BW 4 (eE gl) λv1=>rv K
theorem Cg{x_:Int}{a1:Int->Fm}(a:R1 prog gl fi_a1 fa_a1 fc_a1 (λx:Int=>[iG x]) (λx:Bool=>bG x) a1):DC prog gl (SD x_ a1) 329 [iG x_,.ptr [.clo (.func fi_a1) fa_a1 fc_a1] 0] bG:=
 cy func329 λK=>ak λv1 e2=>aw [hz 6 [] (a.cs (c:=0) e2 (aY (aG 20 (iG x_) aH) (bf)))]<|rv K
theorem FW{l:Bk}{may:Int->Fm}(a:R1 prog gl fi_may fa_may fc_may (λx:Int=>[iG x]) (λx:Bool=>bG x) may):DC prog gl (Oa l may) 245 [aE cZ l,.clo (.func fi_may) fa_may fc_may] bG:=
 cy func245 λK=>cN [1,0] (sf [1] [(3,.ptr [.clo (.func fi_may) fa_may fc_may] 0)]) [hc (a.im),hc (aY (a.im) (bf))]<|ak λv1 e2=>aw [hz 7 [] (jf (c:=0) aH (ml gl (⟨aH,bf,eB aH,λ_ _ e=>Cg gl a e⟩) e2) (aY (aG 20 (aE cZ l) aH) (aY (aG 20 (.clo (.func 329) [] [.ptr [.clo (.func fi_may) fa_may fc_may] 0]) aH) (bf))))]<|rv K
theorem mo:Ace prog gl cW (λx=>[uG x]) 372:=λs f fi_f fa_f fc_f a=>
 cy func372 λK=>OY 1101 (λg=>sg [] []) (λs1=>sf [] [(7,iG (ah s)),(8,iG s1)]) [hc (a.im)] K (λg=>rv K) λs1 k5 h k6=>aF 9 (CD 14 rW.ixZ 15 (rW.p1Y tW) λd=>ak λi e=>kV (λb=>aw [hz 16 [] (cS (a.cs (c:=0) e (aY (aG 20 (uG d) aH) (bf))) b)]<|aP c3 k6 []) λb=>aw [hz 16 [] (cS (a.cs (c:=0) e (aY (aG 20 (uG d) aH) (bf))) b)]<|cj k5 [hc (a.im)])<|aA c2 h []
theorem ku:Acf prog gl cW (λx=>[uG x]) 330:=λs f fi_f fa_f fc_f a=>
 cy func330 λK=>ak λv1 e2=>aw [hz 7 [] (jf (c:=0) aH (mo gl (a) e2) (aY (aG 20 (aE cW s) aH) (aY (a.im) (bf))))]<|rv K
theorem wC{x_:Nat}{a1:Nat->Fm}(a:R1 prog gl fi_a1 fa_a1 fc_a1 (λx:Nat=>[uG x]) (λx:Bool=>bG x) a1):DC prog gl (SD x_ a1) 331 [uG x_,.ptr [.clo (.func fi_a1) fa_a1 fc_a1] 0] bG:=
 cy func331 λK=>ak λv1 e2=>aw [hz 6 [] (a.cs (c:=0) e2 (aY (aG 20 (uG x_) aH) (bf)))]<|rv K
theorem zL{l:Bq}{may:Nat->Fm}(a:R1 prog gl fi_may fa_may fc_may (λx:Nat=>[uG x]) (λx:Bool=>bG x) may):DC prog gl (Oa l may) 246 [aE cW l,.clo (.func fi_may) fa_may fc_may] bG:=
 cy func246 λK=>cN [1,0] (sf [1] [(3,.ptr [.clo (.func fi_may) fa_may fc_may] 0)]) [hc (a.im),hc (aY (a.im) (bf))]<|ak λv1 e2=>aw [hz 7 [] (jf (c:=0) aH (ku gl (⟨aH,bf,eB aH,λ_ _ e=>wC gl a e⟩) e2) (aY (aG 20 (aE cW l) aH) (aY (aG 20 (.clo (.func 331) [] [.ptr [.clo (.func fi_may) fa_may fc_may] 0]) aH) (bf))))]<|rv K
theorem xY{x_:Ab}{a1:Ab->Fm}(a:R1 prog gl fi_a1 fa_a1 fc_a1 (λx:Ab=>[.agg (aj x)]) (λx:Bool=>bG x) a1):DC prog gl (SD x_ a1) 332 [.agg (aj x_),.ptr [.clo (.func fi_a1) fa_a1 fc_a1] 0] bG:=
 cy func332 λK=>ak λv1 e2=>aw [hz 6 [] (a.cs (c:=1) e2 (aY (aG 20 (.agg (aj x_)) aH) (bf)))]<|rv K
theorem Ch{l:A3}{may:Ab->Fm}(a:R1 prog gl fi_may fa_may fc_may (λx:Ab=>[.agg (aj x)]) (λx:Bool=>bG x) may):DC prog gl (Oa l may) 248 [aE aj l,.clo (.func fi_may) fa_may fc_may] bG:=
 cy func248 λK=>cN [1,0] (sf [1] [(3,.ptr [.clo (.func fi_may) fa_may fc_may] 0)]) [hc (a.im),hc (aY (a.im) (bf))]<|ak λv1 e2=>aw [hz 7 [] (jf (c:=0) aH (kP gl (⟨aH,bf,eB aH,λ_ _ e=>xY gl a e⟩) e2) (aY (aG 20 (aE aj l) aH) (aY (aG 20 (.clo (.func 332) [] [.ptr [.clo (.func fi_may) fa_may fc_may] 0]) aH) (bf))))]<|rv K
theorem oB:Ace prog gl bY (λx=>[.agg (bY x)]) 373:=λs f fi_f fa_f fc_f a=>
 cy func373 λK=>OY 1101 (λg=>sg [] []) (λs1=>sf [] [(7,iG (ah s)),(8,iG s1)]) [hc (a.im)] K (λg=>rv K) λs1 k5 h k6=>aF 9 (CD 14 bZ.ixZ 15 (bZ.ptZ Pc) λd=>ak λi e=>kV (λb=>aw [hz 16 [] (cS (a.cs (c:=0) e (aY (aG 20 (.agg (bY d)) aH) (bf))) b)]<|aP c3 k6 []) λb=>aw [hz 16 [] (cS (a.cs (c:=0) e (aY (aG 20 (.agg (bY d)) aH) (bf))) b)]<|cj k5 [hc (a.im)])<|aA c2 h []
theorem lV:Acf prog gl bY (λx=>[.agg (bY x)]) 333:=λs f fi_f fa_f fc_f a=>
 cy func333 λK=>ak λv1 e2=>aw [hz 7 [] (jf (c:=0) aH (oB gl (a) e2) (aY (aG 20 (aE bY s) aH) (aY (a.im) (bf))))]<|rv K
theorem zM{x_:Fp}{a1:Fp->Fm}(a:R1 prog gl fi_a1 fa_a1 fc_a1 (λx:Fp=>[.agg (bY x)]) (λx:Bool=>bG x) a1):DC prog gl (SD x_ a1) 334 [.agg (bY x_),.ptr [.clo (.func fi_a1) fa_a1 fc_a1] 0] bG:=
 cy func334 λK=>ak λv1 e2=>aw [hz 6 [] (a.cs (c:=1) e2 (aY (aG 20 (.agg (bY x_)) aH) (bf)))]<|rv K
theorem tK{l:List Fp}{may:Fp->Fm}(a:R1 prog gl fi_may fa_may fc_may (λx:Fp=>[.agg (bY x)]) (λx:Bool=>bG x) may):DC prog gl (Oa l may) 249 [aE bY l,.clo (.func fi_may) fa_may fc_may] bG:=
 cy func249 λK=>cN [1,0] (sf [1] [(3,.ptr [.clo (.func fi_may) fa_may fc_may] 0)]) [hc (a.im),hc (aY (a.im) (bf))]<|ak λv1 e2=>aw [hz 7 [] (jf (c:=0) aH (lV gl (⟨aH,bf,eB aH,λ_ _ e=>zM gl a e⟩) e2) (aY (aG 20 (aE bY l) aH) (aY (aG 20 (.clo (.func 334) [] [.ptr [.clo (.func fi_may) fa_may fc_may] 0]) aH) (bf))))]<|rv K
theorem mq:Ace prog gl bp (λx=>[.agg (bp x)]) 374:=λs f fi_f fa_f fc_f a=>
 cy func374 λK=>OY 1101 (λg=>sg [] []) (λs1=>sf [] [(7,iG (ah s)),(8,iG s1)]) [hc (a.im)] K (λg=>rv K) λs1 k5 h k6=>aF 9 (CD 14 bH.ixZ 15 (bH.ptZ GM) λd=>ak λi e=>kV (λb=>aw [hz 16 [] (cS (a.cs (c:=0) e (aY (aG 20 (.agg (bp d)) aH) (bf))) b)]<|aP c3 k6 []) λb=>aw [hz 16 [] (cS (a.cs (c:=0) e (aY (aG 20 (.agg (bp d)) aH) (bf))) b)]<|cj k5 [hc (a.im)])<|aA c2 h []
theorem kw:Acf prog gl bp (λx=>[.agg (bp x)]) 335:=λs f fi_f fa_f fc_f a=>
 cy func335 λK=>ak λv1 e2=>aw [hz 7 [] (jf (c:=0) aH (mq gl (a) e2) (aY (aG 20 (aE bp s) aH) (aY (a.im) (bf))))]<|rv K
theorem wD{x_:DR}{a1:DR->Fm}(a:R1 prog gl fi_a1 fa_a1 fc_a1 (λx:DR=>[.agg (bp x)]) (λx:Bool=>bG x) a1):DC prog gl (SD x_ a1) 336 [.agg (bp x_),.ptr [.clo (.func fi_a1) fa_a1 fc_a1] 0] bG:=
 cy func336 λK=>ak λv1 e2=>aw [hz 6 [] (a.cs (c:=1) e2 (aY (aG 20 (.agg (bp x_)) aH) (bf)))]<|rv K
theorem pY{l:List DR}{may:DR->Fm}(a:R1 prog gl fi_may fa_may fc_may (λx:DR=>[.agg (bp x)]) (λx:Bool=>bG x) may):DC prog gl (Oa l may) 250 [aE bp l,.clo (.func fi_may) fa_may fc_may] bG:=
 cy func250 λK=>cN [1,0] (sf [1] [(3,.ptr [.clo (.func fi_may) fa_may fc_may] 0)]) [hc (a.im),hc (aY (a.im) (bf))]<|ak λv1 e2=>aw [hz 7 [] (jf (c:=0) aH (kw gl (⟨aH,bf,eB aH,λ_ _ e=>wD gl a e⟩) e2) (aY (aG 20 (aE bp l) aH) (aY (aG 20 (.clo (.func 336) [] [.ptr [.clo (.func fi_may) fa_may fc_may] 0]) aH) (bf))))]<|rv K
def wE(n:Fp):Fm:=
 some (decide (ah n.Boxes<=12))
theorem H8{n}:DC prog gl (wE n) 251 [.agg (bY n)] bG:=
 cy func251 λK=>rv K
def wF(s:DR):Fm:=
 some (decide (ah s.Body<=208))
theorem H9{s}:DC prog gl (wF s) 252 [.agg (bp s)] bG:=
 cy func252 λK=>rv K
def FX(o:Bi):Fm:=
 (bif 12<ah o.Past then(some true)else(bif 5<ah o.Path then(some true)else((Oa o.Path (λz=>wE z)).bind λa=>bif(!a)then(some true)else(bif 208<ah o.Body then(some true)else(bif 8<ah o.Refs then(some true)else(bif 20<ah o.Hist then(some true)else((Oa o.Hist (λz=>wF z)).bind λb=>bif(!b)then(some true)else(some (decide (6<ah o.Guards)))))))))).bind λc=>bif c then(some true)else(bif o.Kind=7 then((FV (ah o.Body) 1 20).bind λd=>some (!d))else(bif o.Kind=9 then(some (decide (ah o.Boxes≠ah o.Guards)))else(bif o.Kind=10 then((FV (ah o.Boxes) 1 6).bind λe=>some (!e))else(bif o.Kind=11 then(some (decide (ah o.Boxes≠1)))else(some false)))))
theorem Es{o}:DC prog gl (FX o) 163 [.agg (aJ o)] bG:=
 cy func163 λK=>cN 111100 (sp [] [(1,.ref 0 0),(3,.clo (.func 251) [] []),(4,.clo (.func 252) [] [])] [ob 0 63 (aJ o)] 1) [hc (aG 20 (.clo (.func 251) [] []) aH),hc (aG 20 (.clo (.func 252) [] []) aH)]<|cC 111100 (λa=>sg [1] [(52,bG a)]) (λa=>eH [52] (rv K)<|aF 56 (BW 60 (eE gl) λd=>rv K)<|aF 63 (rv K)<|aF 72 (BW 76 (eE gl) λf=>rv K)<|aF 79 (rv K)<|rv K) λa k12=>aF 8 (rx k12)<|aF 14 (rx k12)<|BW 19 (tK gl (⟨aH,bf,eB aH,λ_ _ e=>H8 gl e⟩)) λb=>aF 21 (rx k12)<|aF 27 (rx k12)<|aF 33 (rx k12)<|aF 39 (rx k12)<|BW 44 (pY gl (⟨aH,bf,eB aH,λ_ _ e=>H9 gl e⟩)) λc=>aF 46 (rx k12)<|rx k12
def eR(n:Nat):Fs:=
 bif ((2305843009213693951:Nat):Int)<=((wU (((bD n 2305843009213693951:Nat):Int)+((Jq n 61:Nat):Int)):Nat):Int)then(some (wU (((wU (((bD n 2305843009213693951:Nat):Int)+((Jq n 61:Nat):Int)):Nat):Int)-((2305843009213693951:Nat):Int))))else(some (wU (((bD n 2305843009213693951:Nat):Int)+((Jq n 61:Nat):Int))))
theorem dr{n}:DC prog gl (eR n) 338 [uG n] (λr:Nat=>uG r):=
 cy func338 λK=>aw [hV 4 (ju (P:=prog) (t:=34) n 2305843009213693951),hV 6 (TD (P:=prog) (t:=34) (k':= .u64) n 61),hbb 7 (gV ((bD n 2305843009213693951:Nat):Int) ((Jq n 61:Nat):Int))]<|aF 9 (aw [hbb 11 (YH ((wU (((bD n 2305843009213693951:Nat):Int)+((Jq n 61:Nat):Int)):Nat):Int) ((2305843009213693951:Nat):Int))]<|rv K)<|rv K
def jZ(a:Nat)(b:Nat):Fs:=
 (eR a).bind λv1=>(eR b).bind λd=>(sL v1 d).bind λc=>(eR c.2).bind λe=>(eR (wU ((e:Int)+((IK c.1 3:Nat):Int)))).bind λf=>some f
theorem j0{a b}:DC prog gl (jZ a b) 273 [uG a,uG b] (λr:Nat=>uG r):=
 cy func273 λK=>BW 9 (dr gl) λv1=>BW 11 (dr gl) λe=>BW 12 (FY gl) λc=>BW 16 (dr gl) λd=>BW 20 (dr gl) λf=>aw [hV 18 (Ks (P:=prog) (t:=34) (k':= .u64) c.1 3),hbb 19 (gV (d:Int) ((IK c.1 3:Nat):Int))]<|rv K
def iB(n:Nat)(low:Nat)(a:Nat):Fm:=
 (bif (low:Int)<=(n:Int)then(some (decide ((n:Int)<=(a:Int))))else(some false)).bind λb=>some b
theorem GJ{n low a}:DC prog gl (iB n low a) 270 [uG n,uG low,uG a] bG:=
 cy func270 λK=>cN [1,0] (sf [] []) []<|cC [1,0] (λb=>sg [] [(6,bG b)]) (λb=>rv K) λb k3=>aF 9 (rx k3)<|rx k3
end
end Go.Proofs.YtlijnaneopediaaGreatDoor
