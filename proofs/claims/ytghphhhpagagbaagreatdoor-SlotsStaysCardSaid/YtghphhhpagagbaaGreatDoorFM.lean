/- Texts. -/
import Derived.Laws.Bits64b
import Derived.Test.YtghphhhpagagbaaGreatDoorD10
namespace Go.Proofs.YtghphhhpagagbaaGreatDoor
set_option linter.unusedSectionVars false
set_option linter.unusedVariables false
set_option linter.unusedSimpArgs false
open Go.RowKit Tryz
variable (gl:CB)
variable {α:Type}{o:Oper}{t:Tmp}{i:Ab}{D:Dn}{b j k n since:Nat}{x x':Az}{seen:Bq}{a d m:Int}{g:G}{st:St}{fid:FuncId}{ops:Array Oper}{rest:HA}{R R':Ad}{l:List (Nat×Ob)}{P:Br}{y:Dl}
section
variable {P:Br}
def rk(o:Oper)(t:Tmp):Bool:=match o.dst with
 |some d=>Nat.beq d t
 |none=>false
theorem xJ:rk o t=true↔o.dst=some t:=by grind [rk,bc,Nat.beq_refl]
def PT(l:HA)(i:Nat)(t:Tmp):Bool:=match l[i]? with
 |some o=>rk o t
 |none=>false
theorem JY{l:HA}{i:Nat}(h:PT l i t=true):bX l i=some t:=by grind [PT,bX,xJ]
def rl(o:Oper):Option Value:=match o.op with
 | .insert _ _ (.const k) _=>some k
 |_=>none
def Fx(d:TypeDesc)(a b:Value):Bool:=match Instr.sameNow d a b with
 |some false=>true
 |_=>false
theorem yN{d:TypeDesc}{a b:Value}(h:Fx d a b=true):Instr.sameNow d a b=some false:=by grind [Fx]
def LY(d:TypeDesc)(o a:Oper):Bool:=match rl o,rl a with
 |some k,some k'=>Fx d k k'&&Fx d k' k
 |_,_=>true
def rn(d:TypeDesc):HA->Bool
 |[]=>true
 |o::r=>r.all (LY d o)&&rn d r
theorem tD{d:TypeDesc}:∀{l:HA},rn d l=true->∀(i j:Nat) (o a:Oper) (k k':Value),i≠j->l[i]?=some o->l[j]?=some a->rl o=some k->rl a=some k'->Instr.sameNow d k k'=some false
 |[],_,i,j,o,a,k,k',_,h,_,_,_=>by cases h
 |x::r,h,i,j,o,a,k,k',hne,hi,hj,hk,hk'=>by
  simp only[rn,bA] at h;have key:∀(i:Nat) (a:Oper) (k k':Value),r[i]?=some a->rl x=some k->rl a=some k'->Instr.sameNow d k k'=some false/\Instr.sameNow d k' k=some false:=by intro i a k k' hi hk hk';have:=Ge.1 h.1 a (bO hi);grind [LY,yN]
  cases i with
  |zero=>grind
  |succ i=>
   cases j with
   |zero=>grind
   |succ j=>exact tD h.2 i j o a k k' aa (by grind) (by grind) hk hk'
def BD:HA->Bool
 |[]=>true
 |o::r=>(match o.dst with
  |some d=>r.all λa=> !rk a d
  |none=>true)&&BD r
def PU(l:HA)(o:Oper):Dl->Bool
 | .tmp t=>(o.after.toList.any λe=>Region.binds .any e&&PT l e.on t)||l.all λa=> !rk a t
 |_=>true
theorem fJ{i:Nat}(h:Aa2 o i=true):∃e∈o.after,Region.binds .any e=true/\e.on=i:=by obtain⟨e,he,hb⟩:=List.any_eq_true.1 h;simp only[bA] at hb;exact⟨e,by simpa using he,hb.1,bc hb.2⟩
def wh(o:Oper):Nat->Bool
 |0=>true
 |n+1=>Aa2 o n&&wh o n
theorem tE{o:Oper}:∀{n:Nat},wh o n=true->∀i,i<n->Aa2 o i=true
 |n+1,h,i,hi=>by
  simp only[wh,bA] at h;rcases HE i n with h1|h1
  .exact tE h.2 i h1
  grind
def VD(P:Br)(n:Nat)(T kt:Bo)(l:HA)(N1:Nat)(j:Nat)(o:Oper):Bool:=
 o.guard.isNone&&(o.after.toList.all λe=> !Region.binds .any e||Nat.blt e.on j)&&pj n o.dst&&(o.op.operands.toList.all (PU l o))&&(match o.op with
 | .makeMap t none=>Nat.beq j 0&&Nat.beq t T&&o.dst.isSome
 | .insert t _ (.const k) _=>Nat.beq t T&&o.dst.isNone&&Aa2 o 0&&rB P false kt k&&(match k with
  | .int .. =>true
  |_=>false)
 | .range t _=>Nat.beq j N1&&Nat.beq t T&&o.dst.isSome&&Aa2 o (N1-1)
 | .makeMap .. | .insert .. =>false
 |_=>o.dst.isSome)
def LZ(P:Br)(n:Nat)(T kt:Bo)(l:HA)(N1:Nat):Nat->HA->Bool
 |_,[]=>true
 |j,o::r=>VD P n T kt l N1 j o&&LZ P n T kt l N1 (j+1) r
theorem BE{n:Nat}{T kt:Bo}{l:HA}{N1:Nat}:∀{m:HA} {j:Nat},LZ P n T kt l N1 j m=true->∀(i:Nat) (o:Oper),m[i]?=some o->VD P n T kt l N1 (j+i) o=true
 |[],j,_,i,o,h=>by cases h
 |x::r,j,h,i,o,hi=>by
  simp only[LZ,bA] at h;cases i with
  |zero=>grind
  |succ i=>have:=BE h.2 i o (by grind);grind
def wi(o:Oper):Bool:=match o.op with
 | .makeMap _ none=>true
 |_=>false
def HF(o:Oper):Bool:=match o.op with
 | .range .. =>true
 |_=>false
def JZ(P:Br)(n:Nat)(T kt et:Bo)(l:HA)(N1:Nat):Bool:=
 (match pB P T with
 |some (k,e)=>Nat.beq k kt&&Nat.beq e et
 |none=>false)&&(match P.underlying kt with
 |some d=>rn d l
 |none=>false)&&BD l&&LZ P n T kt l N1 0 l&&Nat.beq l.length (N1+1)&&Nat.blt 0 N1&&(match l[0]?,l[N1]? with
 |some o,some o'=>wi o&&HF o'
 |_,_=>false)&&(match l[N1-1]? with
 |some o=>wh o (N1-1)
 |none=>false)
def VE(P:Br)(a:St)(mi:Nat)(o:Oper):Prop:=∃d,o.dst=some d/\∀s:St,s.n=a.n->s.gl=a.gl->s.pr=a.pr->(∀x∈o.op.operands,aB s x=aB a x)->(∀i,i≠mi->i≠mi+1->ag s.σ i=ag a.σ i)->GS P o s (s.put (some d) (aD a.fr d))
def lN(P:Br)(a:St)(mi:Nat)(o:Oper):Prop:=match o.op with
 | .makeMap .. =>(match o.dst with
  |some d=>iF 16 (aD a.fr d) (.mref mi)
  |none=>false)=true
 | .insert _ x _ _=>iF 16 (aB a x) (.mref mi)=true
 | .range _ x=>(iF 16 (aB a x) (.mref mi)&&(match o.dst with
  |some d=>iF 16 (aD a.fr d) (.ref (mi+1) 0)
  |none=>false))=true
 |_=>VE P a mi o
def mM(a:St)(o:Oper):Option (Value×G):=match o.op with
 | .insert _ _ (.const k) y=>some (k,aB a y)
 |_=>none
structure X3 (ents:List (Value×G)) (es:List (Value×G×Nat)) (clock:Nat):Prop where
 sub:∀e∈es,(e.1,e.2.1)∈ents
 sup:∀q∈ents,∃n,(q.1,q.2,n)∈es
 lt:∀e∈es,e.2.2<clock
 nd:(es.map (·.2.2)).Nodup
section lit
variable {l:HA} {st:St} {T kt et:Bo} {N1:Nat} {vals:Fr}
abbrev iH(st:St)(vals:Fr):St:={st with fr:=vals++st.fr}
structure R7 (st:St) (T:Bo) (l:HA) (N1:Nat) (vals:Fr) (D:Dn) (s:St):Prop where
 n:s.n=st.n
 gl:s.gl=st.gl
 pr:s.pr=st.pr
 f1:∀j t,D j=true->bX l j=some t->aD s.fr t=aD (iH st vals).fr t
 f2:∀t,(∀j,D j=true->bX l j≠some t)->aD s.fr t=aD st.fr t
 σ:∀i,i≠st.c->i≠st.c+1->ag s.σ i=ag st.σ i
 c:s.c=if D N1 then st.c+2 else if D 0 then st.c+1 else st.c
 ins:∀j o q,D j=true->l[j]?=some o->mM (iH st vals) o=some q->D 0=true
 last:D N1=true->∀j,j<N1->D j=true
 pen:D (N1-1)=true->∀j,j<N1-1->D j=true
 m:D 0=true->∃es clock,ag s.σ st.c=some ⟨T,[],some (.map es clock)⟩/\(∀e∈es,∃j o,D j=true/\l[j]?=some o/\mM (iH st vals) o=some (e.1,e.2.1))/\(∀j o q,D j=true->l[j]?=some o->mM (iH st vals) o=some q->∃n,(q.1,q.2,n)∈es)/\(∀e∈es,e.2.2<clock)/\(es.map (·.2.2)).Nodup/\
  (D N1=true->ag s.σ (st.c+1)=some ⟨T,[],some (.iter (some st.c) clock [] clock)⟩)
theorem BF(s:St)(d:Option Tmp)(g:G):(s.put d g).σ=s.σ/\(s.put d g).c=s.c/\(s.put d g).n=s.n/\(s.put d g).gl=s.gl/\(s.put d g).pr=s.pr:=by cases d<;>exact⟨rfl,rfl,rfl,rfl,rfl⟩
theorem HG(s:St)(d:Option Tmp)(g:G)(t:Tmp):aD (s.put d g).fr t=if d=some t then g else aD s.fr t:=by cases d<;>grind [St.put]
theorem L1{d:TypeDesc}{k:Value}:∀{ks:List Value} {n:Nat},(∀u∈ks,Instr.sameNow d k u=some false)->B6 d k ks n=some none
 |[],n,h=>rfl
 |u::r,n,h=>by unfold B6;rw[h u aC];exact L1 (by grind)
theorem tF{i:Nat}(h:D i=true):D.add j i=true:=by grind [Dn.add]
theorem HH:D.add j j=true:=by simp[Dn.add]
theorem AbI{i:Nat}(h:D.add j i=true):i=j\/D i=true:=by grind [Dn.add]
theorem ro{i:Nat}(h:i≠j):D.add j i=D i:=by grind [Dn.add]
theorem R7.frames{D:Dn}{s:St}(h:R7 st T l N1 vals D s)(hp:BD l=true){j:Nat}{o:Oper}(ho:l[j]?=some o){g:G}(hg:∀t,o.dst=some t->g=aD (iH st vals).fr t)(s':St)(hs:s'.fr=s.fr):
  (∀i t,D.add j i=true->bX l i=some t->aD (s'.put o.dst g).fr t=aD (iH st vals).fr t)/\∀t,(∀i,D.add j i=true->bX l i≠some t)->aD (s'.put o.dst g).fr t=aD st.fr t:=by
 refine⟨λi t hi ht=>?_,λt ht=>?_⟩
 .grind [HG,AbI,bX,f1]
 .rw[HG,hs,BA (λe=>ht j HH (by simp[bX,ho,e]))]
  grind [f2,tF]
theorem SR{s:St}(h:R7 st T l N1 vals D s)(hv:∀q∈vals,∃o∈l,rk o q.1=true)(hr:∀e∈o.after,Region.binds .any e=true->D e.on=true){x:Dl}(hx:PU l o x=true):aB s x=aB (iH st vals) x:=by
 cases x with
 |const v=>rfl
 |global g=>simp only[aB,h.gl]
 |func f=>rfl
 |tmp t=>
  show aD s.fr t=aD (vals++st.fr) t;simp only[PU,Bool.or_eq_true,List.any_eq_true,bA,Ge,Bool.not_eq_true'] at hx;rcases hx with⟨e,he,hb,hd⟩|hx
  .exact h.f1 e.on t (by grind) (JY hd)
  .have hn:∀j,bX l j≠some t:=λj hj=>by have hj:(l[j]?).bind (·.dst)=some t:=hj;rw[Gq] at hj;obtain⟨a,ho',hd'⟩:=hj;have:=hx a (bO ho');grind [xJ]
   rw[h.f2 t (by grind)];have:∀(V:Fr),(∀q∈V,∃o∈l,rk o q.1=true)->aD (V++st.fr) t=aD st.fr t:=by
    intro V;induction V with
    |nil=>intro _;rfl
    |cons q r ih=>
     intro hV;rw[List.cons_append,aO,BA (λe=>by obtain⟨a,ho',hd'⟩:=hV q aC;grind)]
     grind
   grind
theorem PV(hv:∀q∈vals,∃o∈l,rk o q.1=true)(hn:∀j,bX l j≠some t):aD (vals++st.fr) t=aD st.fr t:=by
 have:∀(V:Fr),(∀q∈V,∃o∈l,rk o q.1=true)->aD (V++st.fr) t=aD st.fr t:=by
  intro V;induction V with
  |nil=>intro _;rfl
  |cons q r ih=>
   intro hV;rw[List.cons_append,aO,BA (λe=>by obtain⟨a,ho',hd'⟩:=hV q aC;rw[e] at hd';obtain⟨j,hj⟩:=List.mem_iff_getElem?.1 ho';exact hn j (by grind [bX,xJ]))]
   grind
 grind
theorem L3{σ:aQ}{i:Nat}{T:Bo}{es:List (Value×G×Nat)}{clock:Nat}(h:ag σ i=some ⟨T,[],some (.map es clock)⟩):Lv σ (.mref i)=some (i,T,es,clock):=by grind [Lv]
theorem NA{sA:St}{q:Value×G}(h:mM sA o=some q):rl o=some q.1:=by grind [mM,rl]
theorem J0(hm:P.follows .mixedOrders=true){id:Nat}(hs:JZ P st.n T kt et l N1=true)(hv0:(vals.all λq=>l.any λo=>rk o q.1)=true)(hd:∀o∈l,lN P (iH st vals) st.c o){Q:Exit->St->Prop}
  (hQ:∀es clock,X3 (l.filterMap (mM (iH st vals))) es clock->Q .normal {st with fr:=vals++st.fr,σ:=(st.c+1,some ⟨T,[],some (.iter (some st.c) clock [] clock)⟩)::(st.c,some ⟨T,[],some (.map es clock)⟩)::st.σ,c:=st.c+2}):Tr P (.region id l.toArray true) st Q:=by
 unfold JZ at hs
 simp only[bA] at hs
 obtain⟨⟨⟨⟨⟨⟨⟨h1,h2⟩,h3⟩,h4⟩,h5⟩,h6⟩,h7⟩,h8⟩:=hs
 have hN0:=bc h5
 have hNp:0<N1:=E5 h6
 have hT:pB P T=some (kt,et):=by grind [bc]
 obtain⟨d,R,hkp⟩:∃d,P.underlying kt=some d/\rn d l=true:=by grind
 obtain⟨o0,oN,S,U,hk0,V⟩:∃o0 oN,l[0]?=some o0/\l[N1]?=some oN/\wi o0=true/\HF oN=true:=by grind
 have C:=λj o (ho:l[j]?=some o)=>by have:=BE h4 j o ho;rw[Nat.zero_add] at this;unfold VD at this;simp only[bA] at this;exact this
 have hv:=hv0
 simp only[Ge,List.any_eq_true] at hv
 have hval:∀j o,l[j]?=some o->lN P (iH st vals) st.c o:=λj o ho=>hd o (bO ho)
 refine Tr.eqv (Xg hm (R7 st T l N1 vals) (λj o ho=>?_) (λj o ho e he hb=>?_) ?_ (λD s j o I ho hD hre=>?_) (λD s I hall=>?_))
 .have:=(C j o ho).1.1.1.1
  simp_all
 .have:=Ge.1 (C j o ho).1.1.1.2 e (by simpa using he)
  simp_all
 .constructor<;>try grind [R7.m]
 .obtain⟨⟨⟨⟨-,-⟩,W⟩,K⟩,f⟩:=C j o ho
  have hdk':∀d,o.dst=some d->d<s.n:=by rw[I.n];exact R8 W
  have hx:∀x∈o.op.operands,aB s x=aB (iH st vals) x:=λx hx=>SR I hv hre (Ge.1 K x (by simpa using hx))
  have hjl:j<N1+1:=by grind
  have v:=hval j o ho
  have h0:wi o=false->j≠0:=λh e=>by subst e;rw[S] at ho;cases ho;rw[hk0] at h;cases h
  have hN:HF o=false->j≠N1:=λh e=>by subst e;rw[U] at ho;cases ho;rw[V] at h;cases h
  have hDN:D N1=false:=by grind [R7]
  have hpen:D.add j (N1-1)=true->∀i,i<N1-1->D.add j i=true:=λh i hi=>by
   rcases AbI h with e|h
   .rw[e,ho] at h8;obtain⟨e',he,hb,z⟩:=fJ (tE h8 i aa);grind [tF]
   grind [tF,R7.pen]
  obtain⟨w,op,ty,pos,J,gd⟩:=o
  have entj:∀{i:Nat} {p:Oper} {q:Value×G},mM (iH st vals) ⟨w,op,ty,pos,J,gd⟩=none->l[i]?=some p->mM (iH st vals) p=some q->D.add j i=true->D i=true:=λhno ho' hq hi=>by
   rcases AbI hi with rfl|hi
   .rw[ho] at ho';cases ho';rw[hno] at hq;cases hq
   .exact hi
  have value:wi ⟨w,op,ty,pos,J,gd⟩=false->HF ⟨w,op,ty,pos,J,gd⟩=false->mM (iH st vals) ⟨w,op,ty,pos,J,gd⟩=none->VE P (iH st vals) st.c ⟨w,op,ty,pos,J,gd⟩->th P ⟨w,op,ty,pos,J,gd⟩ s (λs'=>R7 st T l N1 vals (D.add j) s'):=by
   intro hk hg hno hvv;obtain⟨d,X,L⟩:=hvv;obtain rfl:w=some d:=X;focus
    generalize hgd:aD (iH st vals).fr d=g at L
    refine(L s I.n I.gl I.pr hx I.σ).gsn.eqv λs' hs'=>⟨s',?_,WY.refl _⟩
    subst hs'
    obtain⟨f1,f2⟩:=I.frames h3 ho (g:=g) (λt e=>by cases e;exact hgd.symm) s rfl
    have E:=h0 hk
    have A:=hN hg
    obtain⟨p1,p2,M,N,O⟩:=BF s (some d) g
    refine{n:=M.trans I.n,gl:=N.trans I.gl,pr:=O.trans I.pr,f1:=f1,f2:=f2,σ:=λi h1 h2=>by rw[p1];exact I.σ i h1 h2,c:=by grind [ro,R7.c],ins:=λi p q hi ho' hq=>tF (I.ins i p q (entj hno ho' hq hi) ho' hq),last:=(λh=>by rw[ro (Ne.symm A),hDN] at h;cases h),pen:=hpen,m:=λh=>?_}
    rw[ro (Ne.symm E)] at h
    obtain⟨es,clock,m1,m2,m3,B,F,Y⟩:=I.m h
    refine⟨es,clock,by grind,λe he=>?_,λi p q hi ho' hq=>m3 i p q (entj hno ho' hq hi) ho' hq,B,F,(λh=>by rw[ro (Ne.symm A),hDN] at h;cases h)⟩
    obtain⟨i,p,hi,ho',hq⟩:=m2 e he
    grind [tF]
  dsimp only at f
  split at f
  ·
   rename_i t
   simp only[bA] at f
   obtain rfl:=bc f.1.1
   obtain rfl:=bc f.1.2
   obtain⟨d,rfl⟩:=Uk.1 f.2
   have hsc:s.c=st.c:=by grind [R7.c]
   refine(B8 (t:=t) (r:=none) rfl hdk' rfl).gsn.eqv λs' hs'=>⟨s',?_,WY.refl _⟩
   subst hs'
   rw[hsc]
   obtain⟨f1,f2⟩:=I.frames h3 ho (g:= .mref st.c) (λt e=>by cases e;unfold lN at v;exact(GE 16 _ _ v).symm) {s with σ:=(st.c,some ⟨t,[],some (.map [] 0)⟩)::s.σ,c:=st.c+1} rfl
   obtain⟨p1,p2,M,N,O⟩:=BF {s with σ:=(st.c,some ⟨t,[],some (.map [] 0)⟩)::s.σ,c:=st.c+1} (some d) (.mref st.c)
   have hadd:D.add 0 N1=false:=by grind [ro]
   refine{n:=M.trans I.n,gl:=N.trans I.gl,pr:=O.trans I.pr,f1:=f1,f2:=f2,σ:=λi h1 h2=>?_,c:=by grind [HH],ins:=λi p q hi ho' hq=>HH,last:=(λh=>by rw[hadd] at h;cases h),pen:=hpen,m:=λ_=>?_}
   .grind [R7.σ]
   .refine⟨[],0,by rw[p1,A9,Bx rfl],(λe he=>by cases he),λi p q hi ho' hq=>?_,(λe he=>by cases he),aC,(λh=>by rw[hadd] at h;cases h)⟩
    have:=I.ins i p q (entj rfl ho' hq hi) ho' hq
    grind
  ·
   rename_i t x k y
   simp only[bA] at f
   obtain⟨⟨⟨⟨k1,k2⟩,k3⟩,Z⟩,k5⟩:=f
   obtain rfl:=bc k1
   obtain rfl:w=none:=by simp_all
   have E:=h0 rfl
   have A:=hN rfl
   have hD0:D 0=true:=by obtain⟨e,he,hb,z⟩:=fJ k3;rw[<-z];exact hre e he hb
   obtain⟨es,clock,m1,m2,m3,B,F,Y⟩:=I.m hD0
   have hxm:aB s x= .mref st.c:=(hx x fK).trans (GE 16 _ _ v)
   have hy:aB s y=aB (iH st vals) y:=hx y fK
   have hgk:cD (aB s (.const k))=some k:=by
    split at k5
    .rfl
    .cases k5
   have hent:mM (iH st vals) ⟨none,.insert t x (.const k) y,ty,pos,J,gd⟩=some (k,aB (iH st vals) y):=rfl
   have hkey:B7 P kt k (es.map (·.1))=some none:=by unfold B7;rw[R];simp only;rw[L1 λu hu=>?_];obtain⟨e,he,rfl⟩:=EP.1 hu;obtain⟨i,p,hi,ho',hq⟩:=m2 e he;exact tD hkp j i _ p k e.1 (λe=>by subst e;rw[hD] at hi;cases hi) ho ho' rfl (NA hq)
   have hput:dZ P s.σ t (aB s x) (aB s (.const k)) (aB s y)=some (st.c,⟨t,[],some (.map (es++[(k,aB (iH st vals) y,clock)]) (clock+1))⟩):=by unfold dZ;rw[hT,hgk,hxm,L3 m1];simp only[Z,ax,hkey,hy]
   refine(iW (.inr rfl) hdk' hput).gsn.eqv λs' hs'=>⟨s',?_,WY.refl _⟩
   subst hs'
   obtain⟨f1,f2⟩:=I.frames h3 ho (g:= .lit undef) (λt e=>by cases e) {s with σ:=(st.c,some ⟨t,[],some (.map (es++[(k,aB (iH st vals) y,clock)]) (clock+1))⟩)::s.σ} rfl
   have hadd:D.add j N1=false:=by rw[ro (Ne.symm A)];exact hDN
   refine{n:=I.n,gl:=I.gl,pr:=I.pr,f1:=f1,f2:=f2,σ:=λi h1 h2=>?_,c:=(by show s.c=_;rw[hadd,ro (Ne.symm E)];have:=I.c;rw[hDN] at this;exact this),ins:=λi p q hi ho' hq=>tF hD0,last:=(λh=>by rw[hadd] at h;cases h),pen:=hpen,m:=λ_=>?_}
   .show ag ((st.c,_)::s.σ) i=_
    rw[A9,BA (λe=>h1 e.symm)]
    exact I.σ i h1 h2
   .refine⟨es++[(k,aB (iH st vals) y,clock)],clock+1,?_,λe he=>?_,λi p q hi ho' hq=>?_,λe he=>?_,?_,(λh=>by rw[hadd] at h;cases h)⟩
    .show ag ((st.c,_)::s.σ) st.c=_
     rw[A9,Bx rfl]
    .rcases Jk.1 he with he|he
     .obtain⟨i,p,hi,ho',hq⟩:=m2 e he
      exact⟨i,p,tF hi,ho',hq⟩
     .obtain rfl:=List.mem_singleton.1 he
      exact⟨j,_,HH,ho,hent⟩
    .rcases AbI hi with rfl|hi
     .rw[ho] at ho'
      cases ho'
      rw[hent] at hq
      cases hq
      exact⟨clock,aC⟩
     .obtain⟨n,hn⟩:=m3 i p q hi ho' hq
      exact⟨n,List.mem_append_left _ hn⟩
    .rcases Jk.1 he with he|he
     .have:=B e he;omega
     .obtain rfl:=List.mem_singleton.1 he
      exact Nat.lt_succ_self _
    .rw[List.map_append,List.nodup_append]
     refine⟨F,aC,λa ha b hb e=>?_⟩
     simp only[E7,List.map_nil,List.mem_singleton] at hb
     obtain⟨e',he',rfl⟩:=EP.1 ha
     have:=B e' he'
     omega
  ·
   rename_i t x
   simp only[bA] at f
   obtain⟨⟨⟨k1,k2⟩,k3⟩,Z⟩:=f
   obtain rfl:=bc k1
   obtain rfl:=bc k2
   obtain⟨d,rfl⟩:=Uk.1 k3
   have hp1:D (j-1)=true:=by obtain⟨e,he,hb,z⟩:=fJ Z;rw[<-z];exact hre e he hb
   have hall:∀i,i<j->D i=true:=λi hi=>by
    rcases HE i (j-1) with h|h
    .exact I.pen hp1 i h
    .obtain rfl:i=j-1:=aa;exact hp1
   have hD0:=hall 0 hNp
   obtain⟨es,clock,m1,m2,m3,B,F,Y⟩:=I.m hD0
   have hva':iF 16 (aB (iH st vals) x) (.mref st.c)=true/\iF 16 (aD (iH st vals).fr d) (.ref (st.c+1) 0)=true:=by unfold lN at v;simpa only[bA] using v
   have hxm:aB s x= .mref st.c:=(hx x fK).trans (GE 16 _ _ hva'.1)
   have hsc:s.c=st.c+1:=by rw[I.c,hDN,hD0];rfl
   have hrg:B9 P s.σ t (aB s x)=some (.iter (some st.c) clock [] clock):=by unfold B9;rw[hT,hxm];simp only[L3 m1]
   refine(H2 rfl hdk' hrg).gsn.eqv λs' hs'=>⟨s',?_,WY.refl _⟩
   subst hs'
   rw[hsc]
   obtain⟨f1,f2⟩:=I.frames h3 ho (g:= .ref (st.c+1) 0) (λt e=>by cases e;exact(GE 16 _ _ hva'.2).symm) {s with σ:=(st.c+1,some ⟨t,[],some (.iter (some st.c) clock [] clock)⟩)::s.σ,c:=st.c+1+1} rfl
   obtain⟨p1,p2,M,N,O⟩:=BF {s with σ:=(st.c+1,some ⟨t,[],some (.iter (some st.c) clock [] clock)⟩)::s.σ,c:=st.c+1+1} (some d) (.ref (st.c+1) 0)
   refine{n:=M.trans I.n,gl:=N.trans I.gl,pr:=O.trans I.pr,f1:=f1,f2:=f2,σ:=λi h1 h2=>?_,c:=by rw[p2,HH];rfl,ins:=λi p q hi ho' hq=>tF hD0,last:=λ_ i hi=>tF (hall i hi),pen:=hpen,m:=λ_=>?_}
   .rw[p1,A9,BA (λe=>h2 e.symm)]
    exact I.σ i h1 h2
   .refine⟨es,clock,?_,λe he=>?_,λi p q hi ho' hq=>m3 i p q (entj rfl ho' hq hi) ho' hq,B,F,λ_=>?_⟩
    .rw[p1,A9,BA aa];exact m1
    .obtain⟨i,p,hi,ho',hq⟩:=m2 e he
     exact⟨i,p,tF hi,ho',hq⟩
    .rw[p1,A9,Bx rfl]
  .cases f
  .cases f
  .rename_i c1 c2 c3 c4 c5
   refine value ?_ ?_ ?_ ?_
   .unfold wi
    dsimp only
    split
    .rename_i a;exact absurd rfl (c1 a)
    .rfl
   .unfold HF
    dsimp only
    split
    .rename_i a b;exact absurd rfl (c3 a b)
    .rfl
   .unfold mM
    dsimp only
    split
    .rename_i a b c d;exact absurd rfl (c2 a b c d)
    .rfl
   .unfold lN at v
    dsimp only at v
    split at v
    .rename_i a b;exact absurd rfl (c4 a b)
    .rename_i a b c d;exact absurd rfl (c5 a b c d)
    .rename_i a b;exact absurd rfl (c3 a b)
    .exact v
 .have hD0:D 0=true:=hall 0 aa
  have hDN:D N1=true:=hall N1 aa
  obtain⟨es,clock,m1,m2,m3,B,F,Y⟩:=I.m hD0
  refine⟨_,?_,hQ es clock {sub:=λe he=>?_,sup:=λq hq=>?_,lt:=B,nd:=F}⟩
  .have H:=I.pr
   simp only[St.pr,FF] at H
   refine⟨I.n.symm,I.gl.symm,λi=>?_,λi=>?_,?_,H.1.symm,H.2.symm⟩
   .by_cases hx:∃j,bX l j=some i
    .grind [bX,R7.f1]
    .rw[I.f2 i λj _ hj=>hx ⟨j,hj⟩]
     exact PV hv λj hj=>hx ⟨j,hj⟩
   all_goals grind [R7.σ,R7.c]
  .grind
  .obtain⟨p,ho',hq'⟩:=List.mem_filterMap.1 hq
   grind [List.mem_iff_getElem?]
end lit
end
abbrev oE:=List (Value×G×Nat)
def Wa(k:Value):Nat:=match k with
 | .int _ (.ofNat n)=>n
 |_=>0
def Yq(g:G):Bool:=match g with
 | .lit (.bool true)=>true
 |_=>false
def If(k:Value)(g:G):Nat:=bif Yq g then Wa k else 0
def iC(seen:Bq):oE->Nat
 |[]=>0
 |e::r=>(bif seen.contains e.2.2 then If e.1 e.2.1 else 0)|||iC seen r
def Ck:oE->Nat
 |[]=>0
 |e::r=>If e.1 e.2.1|||Ck r
theorem jd{m:Nat}:(seen++[n]).contains m=(seen.contains m||(m==n)):=by rw[Bool.eq_iff_iff];simp
theorem Eu{seen:Bq}{n:Nat}:∀{es:oE},n∉es.map (·.2.2)->iC (seen++[n]) es=iC seen es
 |[],_=>rfl
 |e::r,h=>by
  simp only[E7,EG,not_or] at h;unfold iC;rw[Eu h.2,jd];have:(e.2.2==n)=false:=by rw[beq_eq_false_iff_ne];exact λx=>h.1 x.symm
  rw[this,Bool.or_false]
theorem Ev{seen:Bq}{k:Value}{g:G}{n:Nat}(hn:n∉seen):∀{es:oE},(k,g,n)∈es->(es.map (·.2.2)).Nodup->iC (seen++[n]) es=iC seen es|||If k g
 |e::r,h,hd=>by
  simp only[E7,LS] at hd;unfold iC;have hs:seen.contains n=false:=by
   cases hc:seen.contains n with
   |false=>rfl
   |true=>exact absurd (by simpa using hc) hn
  rcases EG.1 h with rfl|h
  .rw[Eu hd.1,jd];simp only[hs,Bool.false_or,BEq.rfl,ax,Be,Nat.zero_or];rw[Nat.or_comm]
  .have hne:e.2.2≠n:=λx=>hd.1 (by rw[x];exact EP.2 ⟨_,h,rfl⟩);rw[Ev hn h hd.2,jd];have:(e.2.2==n)=false:=by rw[beq_eq_false_iff_ne];exact hne
   rw[this,Bool.or_false,Nat.or_assoc]
theorem Ew{seen:Bq}:∀{es:oE},(∀e∈es,e.2.2∈seen)->iC seen es=Ck es
 |[],_=>rfl
 |e::r,h=>by
  unfold iC Ck;rw[Ew λe he=>h e (by simp[he])];have:seen.contains e.2.2=true:=by simpa using h e aC
  rw[this];rfl
theorem Ex:∀{es:oE},iC [] es=0
 |[]=>rfl
 |e::r=>by unfold iC;rw[Ex];simp
theorem Ig{seen:Bq}{b:Nat}:∀{es:oE},(∀e∈es,Wa e.1<2^b)->iC seen es<2^b
 |[],_=>Nat.two_pow_pos b
 |e::r,h=>by
  unfold iC;refine Nat.or_lt_two_pow ?_ (Ig λe he=>h e (by simp[he]));have:=h e aC;cases seen.contains e.2.2 with
  |false=>exact Nat.two_pow_pos b
  |true=>
   show If e.1 e.2.1<2^b;unfold If;cases Yq e.2.1 with
   |false=>exact Nat.two_pow_pos b
   |true=>exact this
theorem Ih{es:oE}(hb:∀e∈es,e.2.2<since)(h:none∈rD es since seen):∀e∈es,e.2.2∈seen:=by
 intro e he;unfold rD at h;simp only[Jk,EP] at h;rcases h with h|⟨x,_,hx⟩
 .split at h
  .rename_i hemp;rw[List.isEmpty_iff,List.filter_eq_nil_iff] at hemp;by_cases hs:e.2.2∈seen
   .exact hs
   .exfalso;refine hemp e (Hk.2 ⟨he,by simpa using hs⟩) (by simpa using hb e he)
  .cases h
 .cases hx
theorem Ii{es:oE}{k:Value}(h:some (k,g,n)∈rD es since seen):(k,g,n)∈es/\n∉seen:=by
 unfold rD at h;simp only[Jk,EP] at h;rcases h with h|⟨x,hx,a⟩
 .split at h
  .simp at h
  .cases h
 .cases a;have hm:(k,g,n)∈es.filter λe=> !seen.contains e.2.2:=by
   rcases hx with hx|hx
   .exact(Hk.1 hx).1
   .exact(Hk.1 hx).1
  obtain⟨h1,h2⟩:=Hk.1 hm;refine⟨h1,λhs=>?_⟩;simp[hs] at h2
section
variable {P:Br}
theorem NB{es:oE}{k:Value}(h:(k,g,n)∈es)(hn:n∉seen):(es.filter λe=> !(seen++[n]).contains e.2.2).length<(es.filter λe=> !seen.contains e.2.2).length:=by
 induction es with
 |nil=>cases h
 |cons e r ih=>
  have mono:∀(r:oE),(r.filter λe=> !(seen++[n]).contains e.2.2).length<=(r.filter λe=> !seen.contains e.2.2).length:=by intro r;induction r<;>grind
  grind
theorem J1{it a b iti mi clock since id b0:Nat}{T ty ty1 ty2:Bo}{pos1 pos2:String}{af1 af2:Array Edge}{bd:Code}{es:oE}{S:Bq->St}{Q:Exit->St->Prop}(I:Bq->Prop)(hI:I [])
  (hlt:∀e∈es,e.2.2<clock) (d:since=clock) (h0:Le P st (S [])) (f:∀seen,gR (S seen).σ (aB (S seen) (.tmp it))=some (iti,T,some mi,since,seen,clock)) (hmap:∀seen,Lv (S seen).σ (.mref mi)=some (mi,ty,es,clock))
  (hn:∀seen,a<(S seen).n/\b<(S seen).n)
  (body:∀seen k g n,I seen->(k,g,n)∈es->n∉seen->Tr P bd {S seen with fr:=(b,.lit (.bool true))::(a,.tup [.lit (.bool true),db k,g])::(S seen).fr,σ:=(iti,some ⟨T,[],some (.iter (some mi) since (seen++[n]) clock)⟩)::(S seen).σ} (uE (λs=>I (seen++[n])/\Le P s (S (seen++[n]))) (pu b0 Q)))
  (fin:∀seen,I seen->(∀e∈es,e.2.2∈seen)->Q .normal {S seen with fr:=(b,.lit (.bool false))::(a,.tup [.lit (.bool false)])::(S seen).fr}):
  Tr P (.block b0 (.loop (.seq (.region id #[⟨some a,.next (.tmp it) false,ty1,pos1,af1,none⟩,⟨some b,.extract (.tmp a) 0,ty2,pos2,af2,none⟩] false) (.seq (.cond (.tmp b) .skip (.exit b0)) bd)))) st Q:=by
 refine BI (L4 (λq:{seen:Bq//I seen}=>S q.1) (λq=>(es.filter λe=> !q.1.contains e.2.2).length) ⟨[],hI⟩ h0 λ⟨seen,c⟩=>?_)
 dsimp only
 have hok:pD es seen clock=true:=by unfold pD;cases es<;>grind
 refine BH (lG (l:=[⟨some a,.next (.tmp it) false,ty1,pos1,af1,none⟩,⟨some b,.extract (.tmp a) 0,ty2,pos2,af2,none⟩]) (.inl ⟨rfl,?_⟩))
 refine(Mf rfl (by grind) (f seen) (hmap seen) hok).eqv λs hs=>⟨s,?_,WY.refl _⟩
 have ext:∀(g:G) (r:Bn) (s1:St),s1.n=(S seen).n->aD s1.fr a= .tup (g::r)->∀{K:St->Prop},K (s1.put (some b) g)->vU P #[⟨some a,.next (.tmp it) false,ty1,pos1,af1,none⟩,⟨some b,.extract (.tmp a) 0,ty2,pos2,af2,none⟩] K [⟨some b,.extract (.tmp a) 0,ty2,pos2,af2,none⟩] s1:=by intro g r s1 h1 h2 K hK;refine .inl ⟨rfl,((fM (g:=g) (by grind) ?_).gsn).eqv λs2 i=>⟨s2,by rw[i];exact hK,WY.refl _⟩⟩;rw[J9];show HS 0 (aD s1.fr a)=some g;rw[h2];rfl
 rcases hs with⟨hc,rfl⟩|⟨k,g,n,hc,rfl⟩
 .refine ext (.lit (.bool false)) [] _ ?_ ?_ ?_
  .rfl
  .show aD ((a,_)::_) a=_
   grind
  refine wm (BH (wk (t:=false) ?_ (Fz ?_)))
  .show aD ((b,_)::_) b=_
   grind
  refine DU aC (DU aC ?_)
  simp only[pu,Bx]
  exact fin seen c (Ih (by grind) hc)
 .obtain⟨h1,h2⟩:=Ii hc
  refine ext (.lit (.bool true)) [db k,g] _ ?_ ?_ ?_
  .rfl
  .show aD ((a,_)::_) a=_
   grind
  refine wm (BH (wk (t:=true) ?_ (Fy ?_)))
  .show aD ((b,_)::_) b=_
   grind
  exact wm (Tr.mono (body seen k g n c h1 h2) λe s hs=>Hu (λs h=>⟨⟨seen++[n],h.1⟩,h.2,NB h1 h2⟩) (by grind) hs)
end
section
variable {P:Br} {sA:St} {mi:Nat} {hs:List Hn}
def YT(d:Nat){σ:aQ}{x g:G}(h:jr σ x=some g):HP:=⟨some (.m d g),jr (Un σ (abs σ x)) x=some g,by rw[(UM λi hi=>(Hi i hi).symm).1];exact h⟩
theorem EK{n:Nat}{k:Value}{g:G}:∀{es:oE},(es.map (·.2.2)).Nodup->(k,g,n)∈es->es.find? (λe=>Nat.beq e.2.2 n)=some (k,g,n)
 |[],_,h=>by cases h
 |e::r,hd,h=>by
  rw[E7,LS] at hd;rcases EG.1 h with rfl|h
  .simp
  .have hne:e.2.2≠n:=λe2=>hd.1 (by rw[e2];exact EP.2 ⟨_,h,rfl⟩);have hb:Nat.beq e.2.2 n=false:=by
    cases hb:Nat.beq e.2.2 n with
    |true=>exact absurd (bc hb) hne
    |false=>rfl
   rw[List.find?_cons,hb];exact EK hd.2 h
theorem yo{σ:aQ}{iti mi since clock n:Nat}{T ty:Bo}{seen:Bq}{es:oE}{k:Value}{v:G}(hi:gR σ g=some (iti,T,some mi,since,seen++[n],clock))(hm:Lv σ (.mref mi)=some (mi,ty,es,clock))(hd:(es.map (·.2.2)).Nodup)(h:(k,v,n)∈es):jr σ g=some (.tup [db k,v]):=by unfold jr;rw[hi];simp only[hm,List.getLast?_append,List.getLast?_singleton,Option.some_or,Nat.beq_refl,ax,EK hd h]
def ZY(P:Br)(hs:List Hn)(sA:St)(o:Oper):Option (JM×G):=match syO P o sA hs 0 with
 |some (C,g,[],[],none)=>some (C.toList,g)
 |_=>none
theorem Wr{C:JM}{d:Nat}(h:ZY P hs sA o=some (C,g))(a:∀p∈C,p)(hd:o.dst=some d)(hn:d<sA.n)(hg:aD sA.fr d=g):VE P sA mi o:=by
 refine⟨d,hd,λs e1 e2 e3 e4 e5=>?_⟩;unfold ZY at h;split at h
 .rename_i C' b hx;cases h;have:=(Aa9 (X:=True) (λx hx=>by rw[hd] at hx;cases hx;exact hn) hx (by cases C' with|none=>trivial|some p=>exact⟨a p aC,trivial⟩)).1 s ⟨e1,e2,e3,λh=>(by cases h),λi hi=>(by cases hi),e4⟩;rw[hg,<-hd];exact this
 .cases h
def IC(P:Br)(hs:List Hn)(mi:Nat):HA->St->Fr->Option Fr
 |[],s,V=>some V
 |o::r,s,V=>match o.op with
  | .makeMap .. =>(match o.dst with
   |some d=>IC P hs mi r {s with fr:=(d,.mref mi)::s.fr} ((d,.mref mi)::V)
   |none=>none)
  | .insert .. =>IC P hs mi r s V
  | .range .. =>(match o.dst with
   |some d=>IC P hs mi r {s with fr:=(d,.ref (mi+1) 0)::s.fr} ((d,.ref (mi+1) 0)::V)
   |none=>none)
  |_=>(match o.dst,ZY P hs s o with
   |some d,some (_,g)=>IC P hs mi r {s with fr:=(d,g)::s.fr} ((d,g)::V)
   |_,_=>none)
def U3(P:Br)(hs:List Hn)(st:St)(l:HA):Fr:=(IC P hs st.c l st []).getD []
def EL(P:Br)(hs:List Hn)(sA:St)(mi:Nat):HA->Option (JM×Bn×Bn)
 |[]=>some ([],[],[])
 |o::r=>match EL P hs sA mi r with
  |none=>none
  |some (C,a,b)=>match o.op with
   | .makeMap .. =>bif(match o.dst with
    |some d=>iF 16 (aD sA.fr d) (.mref mi)
    |none=>false)then some (C,a,b)else none
   | .insert _ x _ _=>bif iF 16 (aB sA x) (.mref mi)then some (C,a,b)else none
   | .range _ x=>bif(iF 16 (aB sA x) (.mref mi)&&(match o.dst with
    |some d=>iF 16 (aD sA.fr d) (.ref (mi+1) 0)
    |none=>false))then some (C,a,b)else none
   |_=>match o.dst with
    |some d=>bif Nat.blt d sA.n then(match ZY P hs sA o with
     |some (D,g)=>some (D++C,g::a,aD sA.fr d::b)
     |none=>none)else none
    |none=>none
theorem KR{c:Bool}{a r:α}(h:(bif c then some a else none)=some r):c=true/\a=r:=by
 cases c
 .cases h
 .cases h;exact⟨rfl,rfl⟩
theorem IE:∀(l:HA) (C:JM) (a b:Bn),EL P hs sA mi l=some (C,a,b)->(∀p∈C,p)->a=b->∀o∈l,lN P sA mi o
 |[],C,a,b,h,_,_,o,ho=>by cases ho
 |x::r,C,a,b,h,f,c,o,ho=>by
  unfold EL at h;split at h
  .cases h
  rename_i i a1 b1 h1;have rest:(∀p∈i,p)->a1=b1->o∈r->lN P sA mi o:=λhc he hm=>IE r i a1 b1 h1 hc he o hm;split at h
  .rename_i e;obtain⟨hb,hq⟩:=KR h;cases hq;rcases EG.1 ho with rfl|ho
   .unfold lN;rw[e];exact hb
   .exact rest f c ho
  .rename_i e;obtain⟨hb,hq⟩:=KR h;cases hq;rcases EG.1 ho with rfl|ho
   .unfold lN;rw[e];exact hb
   .exact rest f c ho
  .rename_i e;obtain⟨hb,hq⟩:=KR h;cases hq;rcases EG.1 ho with rfl|ho
   .unfold lN;rw[e];exact hb
   .exact rest f c ho
  .rename_i c1 c2 c3;split at h
   .rename_i d hd;cases hk:Nat.blt d sA.n with
    |false=>rw[hk] at h;cases h
    |true=>
     rw[hk] at h;simp only[ax] at h;split at h
     .rename_i D g hv;cases h;simp only[List.cons.injEq] at c;rcases EG.1 ho with rfl|ho
      .unfold lN;split
       .rename_i e;exact absurd e (c1 _ _)
       .rename_i e;exact absurd e (c2 _ _ _ _)
       .rename_i e;exact absurd e (c3 _ _)
       .exact Wr hv (λp hp=>f p (List.mem_append_left _ hp)) hd (E5 hk) c.1.symm
      .exact rest (λp hp=>f p (List.mem_append_right _ hp)) c.2 ho
     .cases h
   .cases h
end
section
variable {P:Br} [M:Mix P] {st:St} {Q:Exit->St->Prop} {fn:Func} {Bs:List (St->Prop)} {m:Bool} {p:Bq}
def Ws(x:Option (JM×Bn×Bn)):Bn:=match x with|some (_,a,_)=>a|none=>[]
def IF:Code->HA
 | .region _ ops true=>ops.toList
 |_=>[]
def aaG:Code->Bool
 | .region _ _ true=>true
 |_=>false
theorem dMl(T kt et:Bo)(a:Nat)(A:List HP)
  (hQ:∀es clock,X3 ((IF (bq p (ai fn))).filterMap (mM (iH st (U3 P (bK A) st (IF (bq p (ai fn))))))) es clock->Gp P fn Q Bs true p {st with fr:=U3 P (bK A) st (IF (bq p (ai fn)))++st.fr,σ:=(st.c+1,some ⟨T,[],some (.iter (some st.c) clock [] clock)⟩)::(st.c,some ⟨T,[],some (.map es clock)⟩)::st.σ,c:=st.c+2})
  (hc:EL P (bK A) (iH st (U3 P (bK A) st (IF (bq p (ai fn))))) st.c (IF (bq p (ai fn)))=some (pR A,Ws (EL P (bK A) (iH st (U3 P (bK A) st (IF (bq p (ai fn))))) st.c (IF (bq p (ai fn)))),Ws (EL P (bK A) (iH st (U3 P (bK A) st (IF (bq p (ai fn))))) st.c (IF (bq p (ai fn))))):=by kernel_rfl)
  (hs:JZ P st.n T kt et (IF (bq p (ai fn))) a=true:=by kernel_rfl) (hv:((U3 P (bK A) st (IF (bq p (ai fn)))).all λq=>(IF (bq p (ai fn))).any λo=>rk o q.1)=true:=by kernel_rfl) (hi:aaG (bq p (ai fn))=true:=by kernel_rfl):Gp P fn Q Bs false p st:=by
 show Tr P (bq p (ai fn)) st (dz P (bE p (ai fn) Bs []) Q)
 generalize hcd:bq p (ai fn)=c at hQ hc hs hv hi⊢
 generalize Ws _=gs at hc
 cases c with
 |region id ops d=>
  cases d with
  |false=>cases hi
  |true=>
   have:=J0 (id:=id) M.mx hs hv (IE _ _ _ _ hc (wR A) rfl) (Q:=dz P (bE p (ai fn) Bs []) Q) hQ
   rw[show ops=(IF (.region id ops true)).toArray from Array.toArray_toList.symm]
   exact this
 |_=>cases hi
theorem dRe(J:St)(O:List HP)(kk:Gp P fn Q Bs false p J)(vs:List Bo:=[])(ρ:DD:=[])(kd:List (Nat×Rk):=[])(e:Iw P vs ρ kd J st=some (pR O,J):=by kernel_rfl):Gp P fn Q Bs false p st:=Tr.le kk (sR e (wR O))
def U4(c a b:Nat):HA->Bool
 |[⟨some a1,.next (.tmp it1) false,_,_,_,none⟩,⟨some b1,.extract (.tmp a2) 0,_,_,_,none⟩]=>Nat.beq a1 a&&Nat.beq it1 c&&Nat.beq b1 b&&Nat.beq a2 a
 |_=>false
def Wt(c a b b0:Nat):Code->Bool
 | .block b1 (.loop (.seq (.region _ ops false) (.seq (.cond (.tmp b') .skip (.exit b2)) _)))=>Nat.beq b1 b0&&Nat.beq b2 b0&&Nat.beq b' b&&U4 c a b ops.toList
 |_=>false
def YU:Code->Code
 | .block _ (.loop (.seq _ (.seq _ bd)))=>bd
 |_=> .skip
theorem Ty{it a b0:Nat}{c:Code}(h:Wt it a b b0 c=true):∃id i j f g af1 k,c= .block b0 (.loop (.seq (.region id #[⟨some a,.next (.tmp it) false,i,f,af1,none⟩,⟨some b,.extract (.tmp a) 0,j,g,k,none⟩] false) (.seq (.cond (.tmp b) .skip (.exit b0)) (YU c)))):=by
 unfold Wt at h;split at h
 .rename_i b1 id ops b' b2 bd;simp only[bA] at h;obtain⟨⟨⟨h1,h2⟩,h3⟩,h4⟩:=h;obtain rfl:=bc h1;obtain rfl:=bc h2;obtain rfl:=bc h3;unfold U4 at h4;split at h4
  .rename_i a1 q l p1 f1 n a2 t2 p2 f2 d;simp only[bA] at h4;obtain⟨⟨⟨k1,k2⟩,k3⟩,o⟩:=h4;obtain rfl:=bc k1;obtain rfl:=bc k2;obtain rfl:=bc k3;obtain rfl:=bc o;have e:=congrArg List.toArray d;rw[Array.toArray_toList] at e;refine⟨id,l,t2,p1,p2,f1,f2,?_⟩;rw[e];rfl
  .cases h4
 .cases h
theorem dMw(j a b b0:Nat){iti mi clock since:Nat}{T ty:Bo}{es:oE}(S:Bq->St)(I:Bq->Prop)(hI:I [])
  (hlt:∀e∈es,e.2.2<clock) (c:since=clock) (h0:Le P st (S [])) (f:∀seen,gR (S seen).σ (aB (S seen) (.tmp j))=some (iti,T,some mi,since,seen,clock)) (hmap:∀seen,Lv (S seen).σ (.mref mi)=some (mi,ty,es,clock))
  (hn:∀seen,a<(S seen).n/\b<(S seen).n)
  (body:∀(B:St->Prop) seen k g n,I seen->(k,g,n)∈es->n∉seen->(I (seen++[n])->B (S (seen++[n])))->Gp P fn Q (Bs++[B]) false (p++[2,2,1,1]) {S seen with fr:=(b,.lit (.bool true))::(a,.tup [.lit (.bool true),db k,g])::(S seen).fr,σ:=(iti,some ⟨T,[],some (.iter (some mi) since (seen++[n]) clock)⟩)::(S seen).σ})
  (fin:∀seen,I seen->(∀e∈es,e.2.2∈seen)->Gp P fn Q Bs true p {S seen with fr:=(b,.lit (.bool false))::(a,.tup [.lit (.bool false)])::(S seen).fr})
  (d:Wt j a b b0 (bq p (ai fn))=true:=by kernel_rfl) (i:YU (bq p (ai fn))=bq (p++[2,2,1,1]) (ai fn):=by kernel_rfl)
  (hK:∀B,bE (p++[2,2,1,1]) (ai fn) (Bs++[B]) []= .lp B:: .blk b0::bE p (ai fn) Bs []:=by intro B;kernel_rfl):Gp P fn Q Bs false p st:=by
 show Tr P (bq p (ai fn)) st (dz P (bE p (ai fn) Bs []) Q)
 obtain⟨id,q,r,l,o,af1,s,hcd⟩:=Ty d
 rw[hcd,i]
 refine J1 (iti:=iti) (mi:=mi) (clock:=clock) (since:=since) (T:=T) (ty:=ty) (es:=es) (S:=S) I hI hlt c h0 f hmap hn (λseen k g n hi hm hns=>?_) λseen hi hs=>fin seen hi hs
 have:=body (λt=>t=S (seen++[n])/\I (seen++[n])) seen k g n hi hm hns λh=>⟨rfl,h⟩
 unfold Gp at this
 rw[hK] at this
 refine Tr.mono this λe t ht=>?_
 unfold dz at ht
 cases e with
 |normal=>
  unfold uE at ht⊢
  obtain⟨u,hu,rfl,hx⟩:=ht
  exact⟨hx,hu⟩
 |_=>unfold uE at ht⊢;exact ht
end
section
variable {P:Br}
def U5(P:Br)(gl:CB)(fid:FuncId)(gs:Bn)(σR:aQ)(c:Nat){ι:Type}(g:ι->G)(U:ι->aQ)(c':ι->Nat):Prop:=∀(o:Oper) (st:St) (y:Dl) (xs:Array Dl) (ats:Array Bo) (fst cap:Bn),o.op= .call {callee:= .value y,args:=xs,argTypes:=ats}->(∀d,o.dst=some d->d<st.n)->aB st y= .clo (.func fid) fst cap->fst++xs.toList.map (aB st)++cap=gs->st.gl=gl->(∀q∈σR,ag st.σ q.1=q.2)->st.c=c->th P o st (λs=>∃x,s={st with σ:=U x++st.σ,c:=c' x}.put o.dst (g x))
theorem U6{gl:CB}{gs0 gs:Bn}{ι:Type}{σ0 σR:aQ}{σ1:ι->aQ}{r g:ι->G}{c:Nat}{c1 c':ι->Nat}(L:Bq)(U:ι->aQ)(hM:Xx P gl fid gs0 σ0 L.length r σ1 c1)
  (hin:w6 (vi L) σR σ0 0 L) (d:∀x,oI (GL L c) (σ1 x) (U x)) (hlt:L.all (λi=>Nat.blt i c)=true:=by kernel_rfl) (hnd:decide L.Nodup=true:=by kernel_rfl) (hgs:gs.map (qg (vi L) 20)=gs0:=by kernel_rfl)
  (hk0:σ0.all (λq=>Nat.blt q.1 L.length)=true:=by kernel_rfl) (hcov:∀x,(List.range L.length).all (λk=>(U x).any λq=>Nat.beq q.1 k)=true) (hg:∀x,qg (GL L c) 20 (r x)=g x) (hc:∀x,c+(c1 x-L.length)=c' x) (hR:σR.all (λq=>q.2.isSome)=true:=by kernel_rfl):U5 P gl fid gs σR c g (λx=>zO L c (U x)) c':=by
 intro o st y xs ats fst cap ho hd hf a hgl hq hsc
 have j:=hin.get
 have hgetR:∀i o,ag σR i=some o->ag st.σ i=some o:=λi o hh=>by
  have:∀l:aQ,(∀q∈l,q∈σR)->ag l i=some o->ag st.σ i=some o:=by
   intro l;induction l with
   |nil=>intro _ h;cases h
   |cons q t ih=>grind
  grind
 have key:=MC (o:=o) (st:=st) (f:=y) (xs:=xs) (ats:=ats) (fid:=fid) (fst:=fst) (cap:=cap) L (gs0:=gs0) (σ0:=σ0) (r:=r) (σ1:=σ1) (c1:=c1) ho hd hf (by rw[hgl];exact hM) (λk i hk=>by
   have:=Ge.1 hlt i (bO hk);simp_all) (DL hnd) (by rw[a,hgs]) (by grind) (λk o hkk=>by
   have:∀l:aQ,(∀q∈l,q∈σ0)->ag l k=some o->k<L.length:=by
    intro l;induction l with
    |nil=>intro _ h;cases h
    |cons q t ih=>
     intro hs h;rw[show(q::t:aQ)=(q.1,q.2)::t from rfl,A9] at h;split at h
     .rename_i e;subst e;exact E5 (Ge.1 hk0 q (by grind))
     grind
   grind) (λx=>zO L c (U x)++st.σ) (λx i o hh=>by
   have:∀l:aQ,(∀q∈l,q∈U x)->ag (zO L c l++st.σ) i=some o->(∃k,(k,some o)∈U x/\GL L c k=some i)\/(ag st.σ i=some o/\∀q∈l,GL L c q.1≠some i):=by intro l;induction l<;>grind [zO,GL]
   rcases this (U x) (λ_ h=>h) hh with⟨k,b,h1⟩|⟨h1,h2⟩
   .grind [oI.get]
   .refine .inr ⟨h1,λhi=>?_⟩;obtain⟨k,hk⟩:=Gu hi;have hkl:=(cr hk).1;obtain⟨q,b,he⟩:=List.any_eq_true.1 (Ge.1 (hcov x) k (List.mem_range.2 hkl));refine h2 q b ?_;rw[bc he];unfold GL;rw[hk])
 grind
end
section
variable {P:Br} [M:Mix P] {st:St} {Q:Exit->St->Prop} {fn:Func} {Bs:List (St->Prop)} {m:Bool} {p:Bq} {ι:Type}
def YV(a b d:Nat):Code->Bool
 | .region _ ops false=>match ops.toList with
  |[⟨some a',.move _,_,_,_,none⟩,⟨some b',.call {callee:= .value _,args:=_,argTypes:=_},_,_,_,none⟩,⟨some d',.assign (.tmp b2),_,_,_,none⟩]=>Nat.beq a' a&&Nat.beq b' b&&Nat.beq d' d&&Nat.beq b2 b
  |_=>false
 |_=>false
def Z0:Code->Dl
 | .region _ ops _=>match ops.toList with
  |[⟨_,.move x,_,_,_,_⟩,_,_]=>x
  |_=> .tmp 0
 |_=> .tmp 0
def c3Y:Code->Dl
 | .region _ ops _=>match ops.toList with
  |[_,⟨_,.call {callee:= .value y,args:=_,argTypes:=_},_,_,_,_⟩,_]=>y
  |_=> .tmp 0
 |_=> .tmp 0
def c3A:Code->List Dl
 | .region _ ops _=>match ops.toList with
  |[_,⟨_,.call {callee:= .value _,args:=xs,argTypes:=_},_,_,_,_⟩,_]=>xs.toList
  |_=>[]
 |_=>[]
theorem U7{K:St->Prop}{st st1:St}(hg:o.guard=none)(hs:GS P o st st1)(h:vU P ops K rest st1):vU P ops K (o::rest) st:= .inl ⟨by simp[ce,hg],hs.gsn.eqv (by grind [WY.refl])⟩
theorem YW{K:St->Prop}{st:St}{S:St->Prop}(hg:o.guard=none)(hs:th P o st S)(h:∀s,S s->vU P ops K rest s):vU P ops K (o::rest) st:= .inl (by grind [ce,th.eqv,WY.refl])
theorem dCl(a b d:Nat){gs:Bn}{σR:aQ}{g:ι->G}{U:ι->aQ}{c':ι->Nat}{fst cap:Bn}(hF:U5 P st.gl fid gs σR st.c g U c')
  (h:∀x,Gp P fn Q Bs true p {st with fr:=(d,g x)::(b,g x)::(a,aB st (Z0 (bq p (ai fn))))::st.fr,σ:=U x++st.σ,c:=c' x})
  (hi:YV a b d (bq p (ai fn))=true:=by kernel_rfl) (hy:aB {st with fr:=(a,aB st (Z0 (bq p (ai fn))))::st.fr} (c3Y (bq p (ai fn)))= .clo (.func fid) fst cap:=by kernel_rfl)
  (hx:fst++(c3A (bq p (ai fn))).map (aB {st with fr:=(a,aB st (Z0 (bq p (ai fn))))::st.fr})++cap=gs:=by kernel_rfl)
  (hR:σR.map (λq=>ag st.σ q.1)=σR.map (·.2):=by kernel_rfl) (hn:(Nat.blt a st.n&&Nat.blt b st.n&&Nat.blt d st.n)=true:=by kernel_rfl):Gp P fn Q Bs false p st:=by
 show Tr P (bq p (ai fn)) st (dz P (bE p (ai fn) Bs []) Q)
 replace h:∀x,dz P (bE p (ai fn) Bs []) Q .normal _:=h
 revert hi hy hx h
 generalize bq p (ai fn)=c
 intro hi hy hx h
 unfold YV at hi
 split at hi
 .rename_i id ops
  split at hi
  .rename_i a' x k p1 f1 b' y xs ats t2 p2 f2 u b2 o r t f
   simp only[bA] at hi hn
   obtain⟨⟨⟨k1,k2⟩,k3⟩,i⟩:=hi
   obtain⟨⟨n1,n2⟩,j⟩:=hn
   obtain rfl:=bc k1
   obtain rfl:=bc k2
   obtain rfl:=bc k3
   obtain rfl:=bc i
   have e:=congrArg List.toArray f
   rw[Array.toArray_toList] at e
   subst e
   simp only[Z0,c3Y,c3A] at h hy hx
   refine lG (U7 rfl (fM (g:=aB st x) (λz hz=>by cases hz;exact E5 n1) rfl) (YW rfl (hF _ _ y xs ats fst cap rfl (λz hz=>by cases hz;exact E5 n2) hy hx rfl (λq hq=>?_) rfl) ?_))
   .have:∀l:aQ,l.map (λq=>ag st.σ q.1)=l.map (·.2)->∀q∈l,ag st.σ q.1=q.2:=by simp_all
    exact this σR hR q hq
   .rintro s ⟨z,rfl⟩
    refine U7 rfl (fM (g:=g z) (λw hw=>by cases hw;exact E5 j) ?_) (h z)
    exact congrArg some ((aO ..).trans (Bx rfl))
  .cases hi
 .cases hi
def YX(P:Br)(fn:Func)(gl:CB){ι:Type}(r:ι->G)(σ1:ι->aQ)(c1:ι->Nat)(e:Exit)(s:St):Prop:=(e= .normal\/e= .ret)/\s.gl=gl/\∃x,(∀k o,ag (σ1 x) k=some o->ag s.σ k=some o)/\s.c=c1 x/\∃a,fn.results.toList.mapM (jV P s)=some a/\r x=iU a
theorem YY{gl:CB}{r:ι->G}{σ1:ι->aQ}{c1:ι->Nat}{ex:Exit}{S0:St}(x:ι)(h:Ok P fn gl (r x) (σ1 x) (c1 x) ex S0):YX P fn gl r σ1 c1 ex S0:=by obtain⟨h1,h2,h3,h4,h5⟩:=h;exact⟨h1,h2,x,h3,h4,h5⟩
theorem dMF{gl:CB}{f:FuncId}{gs:Bn}{σ0:aQ}{c0:Nat}{r:ι->G}{σ1:ι->aQ}{c1:ι->Nat}(hf:P.funcs[f]?=some fn)(h:Gp P fn (YX P fn gl r σ1 c1) [] false [] ⟨fn.ntmps,gl,bQ 0 gs,σ0,c0,c0,false⟩)(hc:aK P f=true:=by kernel_rfl)(hb:fn.body.isSome=true:=by kernel_rfl)(hn:Nat.ble gs.length fn.ntmps=true:=by kernel_rfl):Xx P gl f gs σ0 c0 r σ1 c1:=by
 obtain⟨body,hb'⟩:=Uk.1 hb;refine⟨hc,fn,body,hf,hb',E5 hn,?_⟩;have e:ai fn=body:=by grind [ai]
 rw[<-e];exact Tr.leQ h
end
section
attribute [local irreducible] Tr dz Gp
section
variable {P:Br}
theorem Aej{st:St}{ρ:DD}:∀{l:aQ},(∀q∈l,∃j,dq ρ q.1=some j/\XL (It ρ) (ag st.σ j) q.2)->Dp P st ρ l
 |[],_=>BT
 |(i,o)::r,h=>by obtain⟨j,h1,h2⟩:=h (i,o) aC;exact Aaf h1 h2 (Aej (by grind))
def Gf(f:Nat->Nat):DD:=L0.map λk=>(k,f k)
def okF(f:Nat->Nat):Bool:=L0.all λk=>(match It (Gf f) (f k) with|some j=>Nat.beq j k|none=>false)&&(match dq (Gf f) k with|some j=>Nat.beq j (f k)|none=>false)
theorem Aek{f:Nat->Nat}(h:okF f=true)(hk:k<14):It (Gf f) (f k)=some k/\dq (Gf f) k=some (f k):=by have:=Ge.1 h k (by have:k∈List.range 14:=List.mem_range.2 hk;exact this);grind [bc]
def rlD(P:Br)(hs:List Hn)(m:Code⊕Exit)(K:List Kf)(fn:Func)(f:Nat->Nat)(R':Ad)(r:G)(st:St):Option (Prop×Bq×JM):=match sy P hs 1000000 1000 m K st with
 |some (C,u,.fin e s)=>match tc e,vR P s fn.results.toList with
  |true,some gs=>bif ER (Gf f) s.p then some (C,u,(iU gs=r/\bB r)::L0.map λk=>∀ob,Bu f R' k=some ob->ag s.σ (f k)=some ob)else none
  |_,_=>none
 |_=>none
section
variable [M:Mix P] {fn:Func} {r:G} {Bs:List (St->Prop)} {m:Bool} {p:Bq} {st:St}
theorem Hj(f:Nat->Nat)(R':Ad)(hR:Bj R')(A O:List HP)(hf:okF f=true:=by kernel_rfl)(hk:Ua A (rlD P (bK A) (LK m p (ai fn)) (bE p (ai fn) Bs []) fn f R' r st) (pR O):=by exact⟨aH,aH⟩):Gp P fn (zE P fn r (BG f0 R')) Bs m p st:=by
 obtain⟨C,u,b,e⟩:=hk.out;unfold Gp;unfold rlD at e;split at e
 .rename_i c d x s h1;split at e
  .rename_i gs hx hg;cases hb:ER (Gf f) s.p with
   |false=>rw[hb] at e;cases e
   |true=>
    rw[hb] at e;simp only[ax,Fk,FF] at e;obtain⟨rfl,rfl,hL⟩:=e;have hp:∀q∈(iU gs=r/\bB r)::L0.map λk=>∀ob,Bu f R' k=some ob->ag s.σ (f k)=some ob,q:=by rw[hL];exact wR O
    obtain⟨rfl,hi⟩:=hp _ (List.mem_cons_self ..);simp only[ER,bA] at hb;obtain⟨⟨k1,k2⟩,k3⟩:=hb;refine oK M.mx (out:= .fin x s) ⟨s,Le.refl _,eO hx,gs,Gf f,gh hg,λi hi=>?_,λi g j h1 h2=>?_,ry hi,Aej λq hq=>?_⟩ 1000 _ _ _ _ _ h1 b
    .grind [bc]
    .have:=Ge.1 (Ge.1 k2 _ (Gt h1)) _ (Gt h2);grind [Nat.beq_refl,bc]
    .rw[Hr] at hq;obtain⟨k,hk,rfl⟩:=EP.1 hq;have hk':=List.mem_range.1 hk;obtain⟨g1,g2⟩:=Aek hf hk';refine⟨f k,g2,λa h=>?_⟩;obtain⟨ob,h2,h3⟩:=Ps (λk ⟨ob,h⟩=>(Aek hf (DV h)).1) hR k a h;exact⟨ob,hp (∀ob,Bu f R' k=some ob->ag s.σ (f k)=some ob) (List.mem_cons_of_mem _ (EP.2 ⟨k,hk,rfl⟩)) ob h2,h3⟩
  .cases e
 .cases e
def hme(d:Nat)(R:Bq)(c:Nat){σ:aQ}{t:Bo}{gm gk g:G}{i:Nat}{ob:Ob}(h:ov P σ t gm gk=some (i,ob,g)):HP:=⟨some (.e d g i ob),ov P (Un σ (fR gm)) t gm gk=some (i,ob,g),(AdG Hi).symm.trans h⟩
def hms(d:Nat)(R:Bq)(c:Nat){σ:aQ}{gm gs g:G}{i:Nat}{ob:Ob}(h:jX σ gm gs g=some (i,ob)):HP:=⟨some (.e (2000000+d) (.lit undef) i ob),jX (Un σ (fR gm)) gm gs g=some (i,ob),(Ahf Hi).symm.trans h⟩
def KX(d:Nat){σ:aQ}{t:Bo}{ok:Bool}{i:Nat}{gk g:G}(h:bL P σ t ok (.mref i) gk=some g):HP:=⟨some (.m d g),bL P σ t ok (.mref i) gk=some g,h⟩
def hmp(c:Nat){σ:aQ}{t:Bo}{gm gk g:G}{i:Nat}{ob:Ob}(h:dZ P σ t gm gk g=some (i,ob)):HP:=⟨some (.e 999999998 (.lit undef) i ob),dZ P (Un σ (fR gm)) t gm gk g=some (i,ob),(ZH Hi).symm.trans h⟩
def hmd(c:Nat){σ:aQ}{t:Bo}{gm gk:G}{i:Nat}{ob:Ob}(h:FN P σ t gm gk=some (i,ob)):HP:=⟨some (.e 999999998 (.tup []) i ob),FN P (Un σ (fR gm)) t gm gk=some (i,ob),(AdH Hi).symm.trans h⟩
end
end
def Dq(R:Ad)(d:Int):Int:=(DS (R.cards.get d)).Member
def DY(R:Ad)(d:Int):Bool:=decide (0<Dq R d)&& !(Hg (R.was.get d))
def OI(R:Ad)(d:Int):Bool:=Hg (R.in_.get d)
def LW(R:Ad)(m:Int):Int:=match R.members.get m with
 |none=>0
 |some x=>x.role
theorem Acd(k:Int):Instr.sameBits 10000 (JN k) (JN k)=true:=by simp[JN,Instr.sameBits]
def JP(m:FM Int Az):FM Int JL:=⟨m.es.map λe=>(e.1,some e.1,e.2.2),m.clk⟩
def vgM(f:Nat->Nat):JL->G
 |none=>Abl
 |some k=> .ref (f (nM k)) 0
theorem Yi(m:FM Int Az)(k:Int):(JP m).get k=(m.get k).map λ_=>some k:=by unfold FM.get JP;dsimp only;induction m.es<;>grind
theorem PJ(f:Nat->Nat)(R:Ad):RU f R=MZ Vq JN (vgM f) (JP R.members):=by show(⟨_,_,some (.map _ _)⟩:Ob)=⟨_,_,some (.map _ _)⟩;unfold JP mEs Vr;dsimp only;rw[HR];rfl
theorem AcU(m:FM Int Az)(k:Int):RY (JP m) k=JP (RY m k):=by
 unfold RY;have:(JP m).es.map (·.1)=m.es.map (·.1):=by unfold JP;rw[HR];rfl
 grind [JP,aas]
def ptM(R:Ad)(m:Int):G:=if(R.members.get m).isSome then .ref (nM m) 0 else Abl
theorem Ael(R:Ad)(m:Int){σ:aQ}(h:ag σ 4=some (RU f0 R)):bL prog σ Vq false (.mref 4) (iG m)=some (ptM R m):=by rw[PJ] at h;rw[Sx (P:=prog) (t:=Vq) (kt:=3) (et:=198) O6 aH (k:=m) rfl h,FM.look1 (et:=198) O6 (v0:=none) aH aH (JP R.members) m rfl,Yi];unfold ptM;cases R.members.get m<;>rfl
theorem Aio(R:Ad)(m:Int):bL prog [(4,some (RU f0 R))] Vq false (.mref 4) (iG m)=some (ptM R m):=Ael R m rfl
theorem RW{R:Ad}(hm:R.members.get m=some x):bL prog [(4,some (RU f0 R))] Vq false (.mref 4) (iG m)=some (.ref (nM m) 0):=(Ael R m rfl).trans (by unfold ptM;rw[hm];rfl)
theorem Vv{R:Ad}{m:Int}(hm:R.members.get m=none):bL prog [(4,some (RU f0 R))] Vq false (.mref 4) (iG m)=some Abl:=(Ael R m rfl).trans (by unfold ptM;rw[hm];rfl)
abbrev inR(R:Ad)(d:Int):Ad:={R with in_:=C3 R.in_ d true,was:=C3 R.was d true}
def I6(R:Ad)(d role:Int):Ad:=bif DY R d then{R with in_:=C3 R.in_ d true,was:=C3 R.was d true,members:=bif(R.members.get (Dq R d)).isSome then R.members else C3 R.members (Dq R d) ⟨role,none⟩} else R
theorem Aav(R:Ad)(d:Int):ba prog gl 141 [.ptr (CA R) 0,iG d] (iG (Dq R d)):=OY gl rfl
theorem Aaw(R:Ad)(d:Int):ba prog gl 142 [.ptr (CA R) 0,iG d] (bG (DY R d)):=Se gl (by unfold O0 DY Dq;show Option.bind (bif 0<(DS (R.cards.get d)).Member then _ else _) _=_;grind)
theorem Agc:∀x∈[iG a],bB x:=by grind [mN]
abbrev hof(d:Nat){R:Ad}(hR:Bj R)(x:Int)(c:Nat:=14):HP:=hrl d f0 c hR (Aav gl R x) Agc (lR _)
abbrev Aem(d:Nat){R:Ad}(hR:Bj R){x y:Int}(h:Dq R x=y)(c:Nat:=14):HP:=hrl d f0 c hR (h▸Aav gl R x) Agc (lR _)
abbrev hfr(d:Nat){R:Ad}(hR:Bj R){x:Int}{b:Bool}(h:DY R x=b)(c:Nat:=14):HP:=hrl d f0 c hR (h▸Aaw gl R x) Agc (lR _)
abbrev Nh:List (Nat×Rk):=L0.map λk=>(k,.any)
def okR(ρ:DD)(f:Nat->Nat):Bool:=L0.all λk=>match It ρ (f k) with|some j=>Nat.beq j k|none=>false
theorem Z2{ρ:DD}{f:Nat->Nat}(h:okR ρ f=true)(hk:k<14):It ρ (f k)=some k:=by have:=Ge.1 h k (by have:k∈List.range 14:=List.mem_range.2 hk;exact this);grind [bc]
abbrev rlB(ρ:DD)(f:Nat->Nat){R:Ad}(hR:Bj R)(h:okR ρ f=true:=by kernel_rfl):List HP:=L0.map λk=>hc (Ps (κ:=It ρ) (f:=f) (f':=f0) (λk ⟨ob,hk⟩=>Z2 h (DV hk)) hR k)
abbrev rlA{R:Ad}(hR:Bj R):List HP:=rlB (Gf f0) f0 hR
abbrev rlK(R:Ad):List HP:=hc (⟨rfl,L7 aC⟩:iU []=iU []/\bB (iU []))::L0.map λk=>hc (λob h=>h:∀ob,Bu f0 R k=some ob->Bu f0 R k=some ob)
theorem Agd(hR:Bj R)(h:R.members.get m=some x):m=1\/m=2\/m=3:=by grind [Bj,G9]
theorem Aen(h:DY R d=true):0<Dq R d:=by grind [DY]
theorem Aeo(hR:Bj R)(hf:DY R d=true):Bj (inR R d):=⟨NR hR.ci true,NR hR.cw true,hR.cm,hR.m3,hR.c3,hR.cv,hR.gm,hR.gN,hR.vb,λe he=>by have hk:e.1∈(C3 R.in_ d true).es.map (·.1):=EP.2 ⟨e,he,rfl⟩;rw[PM] at hk;have hd:=hR.c6 d (Aen hf);grind [Bj],hR.c6,hR.gn⟩
theorem Aip(hR:Bj R)(hm:1<=m/\m<=3)(role:Int):Bj {R with members:=C3 R.members m ⟨role,none⟩}:=⟨hR.ci,hR.cw,NR hR.cm _,(by grind [Bj,C3]),hR.c3,(by grind [Bz,Bj.cv]),(by grind [Bz,Bj.gm]),(by grind [Bj,Bz]),(by grind [Bj,Bz]),hR.i6,hR.c6,(by grind [Bz,Bj.gn])⟩
theorem IH{R:Ad}(hR:Bj R)(d role:Int):Bj (I6 R d role):=by
 unfold I6;cases hf:DY R d with
 |false=>exact hR
 |true=>
  cases(R.members.get (Dq R d)).isSome with
  |true=>exact Aeo hR hf
  |false=>refine Aip (Aeo hR hf) ?_ role;grind [Bj,DY,Dq]
def fN(a b k:Nat):Nat:=bif Nat.beq k a then b else k
theorem Age{R:Ad}(hR:Bj R){m:Nat}(hm:R.members.get (m:Int)=none)(h3:m=1\/m=2\/m=3)(x:Az){σ:aQ}(h:ag σ 4=some (RU f0 R)):dZ prog σ Vq (.mref 4) (iG (m:Int)) (.ref 14 0)=some (4,RU (fN (4+m) 14) {R with members:=C3 R.members (m:Int) x}):=by
 rw[PJ] at h;have hk:bu (m:Int) ((JP R.members).es.map (·.1))=none:=by
  cases hk:bu (m:Int) ((JP R.members).es.map (·.1)) with
  |none=>rfl
  |some j=>obtain⟨e,_,_,h2⟩:=LX hk;rw[Yi,hm] at h2;cases h2
 have hk':bu (m:Int) (R.members.es.map (·.1))=none:=by rw[show R.members.es.map (·.1)=(JP R.members).es.map (·.1) by unfold JP;rw[HR];rfl];exact hk
 unfold dZ;rw[show pB prog Vq=some (3,198) from by kernel_rfl,show cD (iG (m:Int))=some (JN (m:Int)) from rfl,PK h];dsimp only;rw[O6.chk,ax,Pw,O6.key,hk];unfold RU Vr C3;rw[hk'];dsimp only;rw[List.map_append];congr 5;show mEs JN (vgM f0) (JP R.members)++_=_;unfold mEs JP;rw[HR];congr 1
 .refine List.map_congr_left λe he=>?_;obtain⟨h1,h2⟩:=hR.mem he;have hne:Nat.beq (nM e.1) (4+m)=false:=by grind [nM,bc]
  show(JN e.1,G.ref (nM e.1) 0,e.2.2)=(JN e.1,G.ref (fN (4+m) 14 (nM e.1)) 0,e.2.2);unfold fN;rw[hne];rfl
 grind [fN,nM,Nat.beq_refl]
abbrev Su(R:Ad)(m:Nat)(role:Int):Ad:={R with members:=C3 R.members (m:Int) ⟨role,none⟩}
theorem Vx{R:Ad}{m:Nat}{role:Int}(k:Int):(Su R m role).members.get k=if k=(m:Int)then some ⟨role,none⟩else R.members.get k:=Bz _ _
theorem Akl{R:Ad}{m:Nat}(hm:R.members.get (m:Int)=none)(h3:m=1\/m=2\/m=3)(role:Int)(k:Nat)(hk:k≠4)(hk':k≠4+m):Bu f0 R k=Bu (fN (4+m) 14) (Su R m role) k:=by
 have hM:∀j,j=1\/j=2\/j=3->j≠m->roM f0 R j=roM (fN (4+m) 14) (Su R m role) j:=λj hj hne=>by unfold roM;rw[Vx,BA aa];rcases h3 with rfl|rfl|rfl<;>rcases hj with rfl|rfl|rfl<;>rfl
 have hB:∀j:Nat,(Su R m role).members.get (j:Int)=none\/True->((Su R m role).members.get (j:Int)).bind (·.guard)=(R.members.get (j:Int)).bind (·.guard):=by grind [Vx]
 have hG:∀j,j=1\/j=2\/j=3->roG f0 R j=roG (fN (4+m) 14) (Su R m role) j:=λj hj=>by unfold roG;rw[hB j (.inr trivial)];rcases h3 with rfl|rfl|rfl<;>rcases hj with rfl|rfl|rfl<;>rfl
 have hV:∀j,roV R j=roV (Su R m role) j:=by grind [roV]
 rcases HE k 14 with hlt|hge
 .match k,hlt with
  |0,_=>rcases h3 with rfl|rfl|rfl<;>rfl
  |1,_=>rfl
  |2,_=>rfl
  |3,_=>rfl
  |4,_=>exact absurd rfl hk
  |5,_=>exact hM 1 aa aa
  |6,_=>exact hM 2 aa aa
  |7,_=>exact hM 3 aa aa
  |8,_=>exact hG 1 aa
  |9,_=>exact hG 2 aa
  |10,_=>exact hG 3 aa
  |11,_=>exact hV 1
  |12,_=>exact hV 2
  |13,_=>exact hV 3
 .obtain⟨j,rfl⟩:∃j,k=j+14:=⟨k-14,aa⟩;rfl
theorem Aiq{R:Ad}{m:Nat}(h3:m=1\/m=2\/m=3)(role:Int):some ⟨tMe,[iG role,Abl],none⟩=Bu (fN (4+m) 14) (Su R m role) (4+m):=by have h:=Vx (R:=R) (m:=m) (role:=role) m;rw[Bx rfl] at h;rcases h3 with rfl|rfl|rfl<;>exact(by show _=Option.map _ _;rw[h];rfl)
abbrev rlN{R:Ad}{m:Nat}(hm:R.members.get (m:Int)=none)(h3:m=1\/m=2\/m=3)(role:Int):List HP:=hc (⟨rfl,L7 aC⟩:iU []=iU []/\bB (iU []))::L0.map λk=>if h:k=4 then hc (λob h=>h:∀ob,Bu (fN (4+m) 14) (Su R m role) 4=some ob->some (RU (fN (4+m) 14) (Su R m role))=some ob)else if h':k=4+m then hc (λob h=>(Aiq (R:=R) h3 role).trans h:∀ob,Bu (fN (4+m) 14) (Su R m role) (4+m)=some ob->some ⟨tMe,[iG role,Abl],none⟩=some ob)else hc (λob h2=>(Akl hm h3 role k h h').trans h2:∀ob,Bu (fN (4+m) 14) (Su R m role) k=some ob->Bu f0 R k=some ob)
theorem Q4{i:Nat}{o:Option Ob}:ag [(i,o)] i=o:=by simp[A9]
abbrev hst(a b i:Nat){m:FM Int Bool}(k:Int)(h:FxOk m):HP:=hme a [i] 14 (Aiw (P:=prog) (σ:=[(i,some (MZ Ye JN bG m))]) (t:=Ye) (t':=Ye) (et:=4) (v0:=false) O6 Acd aH aH (k:=k) (gk:=iG k) rfl Q4)
abbrev Akm(b a i:Nat){m:FM Int Bool}(k:Int)(h:FxOk m):HP:=hms a [i] 14 (Aix (σ:=[(i,some (MZ Ye JN bG (C3 m k ((m.get k).getD false))))]) (i:=i) (t':=Ye) (kv:=JN) (vg:=bG) (m:=m) (k:=k) (v0:=(m.get k).getD false) h Q4 true)
theorem Vz{R:Ad}(hR:Bj R)(d role:Int):SW prog gl 143 [.ref 0 0,iG d,iG role] (BG f0 R) 14 5 (iU []) (BG f0 (I6 R d role)):=by
 have hok:=IH hR d role;refine dFP func143 ?_;unfold I6 at hok⊢;cases hb:DY R d with
 |false=>exact Hj f0 R hR [hfr gl 9 hR hb] (rlK R)
 |true=>
  rw[hb] at hok;rw[ax] at hok⊢;have h1:=Aeo hR hb;have h3:1<=Dq R d/\Dq R d<=3:=by unfold DY at hb;simp only[bA,decide_eq_true_eq] at hb;exact⟨aa,(hR.c3 d).2⟩
  refine pO 1110 (s0 43 gl [(0,.ref 0 0),(1,iG d),(2,iG role)] (BG f0 (inR R d)) 14 5) [hfr gl 9 hR hb,hst 21 22 2 d hR.ci.1,Akm 21 22 2 d hR.ci.1,hst 23 24 3 d hR.cw.1,Akm 23 24 3 d hR.cw.1] (rlA h1) ?_ (ρ:=Gf f0) (kd:=Nh);cases hm:R.members.get (Dq R d) with
  |some x=>exact Hj f0 _ h1 [hof gl 27 h1 d,KX 33 (RW (R:=inR R d) hm)] (rlK (inR R d))
  |none=>
   rw[hm] at hok;obtain⟨m,hd,a⟩:∃m:Nat,Dq R d=(m:Int)/\(m=1\/m=2\/m=3):=⟨(Dq R d).toNat,aa,aa⟩;rw[hd] at hm hok⊢;have h2:Bj (Su (inR R d) m role):=hok;have hg:=Age h1 (m:=m) hm a ⟨role,none⟩ (σ:=(14,some ⟨tMe,[iG role,Abl],none⟩)::BG f0 (inR R d)) rfl;have fin:∀(_:okF (fN (4+m) 14)=true) (e1),Gp prog Tryz.f143 (zE prog Tryz.f143 (iU []) (BG f0 (Su (inR R d) m role))) [] false [1,1,0] (s0 43 gl [(0,.ref 0 0),(1,iG d),(2,iG role)] (BG f0 (inR R d)) 14 5):=λh e1=>Hj (fN (4+m) 14) _ h2 [Aem gl 27 h1 hd,KX 33 (Vv (R:=inR R d) hm),hmp 15 hg] (rlN (R:=inR R d) hm a role) h e1;rcases a with rfl|rfl|rfl
   all_goals exact fin aH ⟨aH,aH⟩
abbrev IK(R:Ad)(d:Int):Ad:={R with in_:=RY R.in_ d}
abbrev RX(R:Ad)(m:Int):Ad:={R with members:=RY R.members m}
def LP(R:Ad)(m:Int):Bool:=R.in_.es.any λe=>decide (Dq R e.1=m)
def GV(R:Ad)(d:Int):Ad:=bif OI R d then(bif LP (IK R d) (Dq R d)then IK R d else RX (IK R d) (Dq R d))else R
theorem aab(hR:Bj R)(d:Int):Bj (IK R d):=⟨UF hR.ci,hR.cw,hR.cm,hR.m3,hR.c3,hR.cv,hR.gm,hR.gN,hR.vb,λe he=>hR.i6 e (AaC he),hR.c6,hR.gn⟩
theorem Ni(hR:Bj R)(k:Int):(RX R m).members.get k=if k=m then none else R.members.get k:=Nk hR.cm _
theorem Aep(hR:Bj R)(m:Int):Bj (RX R m):=⟨hR.ci,hR.cw,UF hR.cm,λe he=>hR.m3 e (AaC he),hR.c3,(by grind [Ni,Bj.cv]),(by grind [Ni,Bj.gm]),(by grind [Bj,Ni]),(by grind [Bj,Ni]),hR.i6,hR.c6,(by grind [Ni,Bj.gn])⟩
theorem KE{R:Ad}(hR:Bj R)(d:Int):Bj (GV R d):=by
 unfold GV;cases OI R d with
 |false=>exact hR
 |true=>
  rw[ax];cases LP (IK R d) (Dq R d) with
  |true=>exact aab hR d
  |false=>exact Aep (aab hR d) _
theorem Akn(hR:Bj R){m:Int}(k:Nat)(hk:k≠4):∀ob,Bu f0 (RX R m) k=some ob->Bu f0 R k=some ob:=λob h=>by
 have hg:∀j x,(RX R m).members.get j=some x->R.members.get j=some x:=by grind [Ni]
 have hM:∀j ob,roM f0 (RX R m) j=some ob->roM f0 R j=some ob:=by grind [roM,DG]
 have hB:∀j x,((RX R m).members.get j).bind (·.guard)=some x->(R.members.get j).bind (·.guard)=some x:=by grind [Gq]
 have hG:∀j ob,roG f0 (RX R m) j=some ob->roG f0 R j=some ob:=by grind [roG,DG]
 have hV:∀j ob,roV (RX R m) j=some ob->roV R j=some ob:=by grind [roV,DG]
 match k,DV h with
 |0,_=>exact h
 |1,_=>exact h
 |2,_=>exact h
 |3,_=>exact h
 |4,_=>exact absurd rfl hk
 |5,_=>exact hM _ _ h
 |6,_=>exact hM _ _ h
 |7,_=>exact hM _ _ h
 |8,_=>exact hG _ _ h
 |9,_=>exact hG _ _ h
 |10,_=>exact hG _ _ h
 |11,_=>exact hV _ _ h
 |12,_=>exact hV _ _ h
 |13,_=>exact hV _ _ h
abbrev Amc{R:Ad}(hR:Bj R)(m:Int):List HP:=hc (⟨rfl,L7 aC⟩:iU []=iU []/\bB (iU []))::L0.map λk=>if h:k=4 then hc (λob h=>h:∀ob,Bu f0 (RX R m) 4=some ob->some (RU f0 (RX R m))=some ob)else hc (Akn hR (m:=m) k h)
theorem Nj{α β:Type}{f:α->β}:∀{l:List α},(l.map f).Nodup->∀{x y:α},x∈l->y∈l->f x=f y->x=y
 |[],_,x,_,h,_,_=>by cases h
 |a::r,hd,x,y,hx,hy,e=>by
  rw[E7,LS] at hd;rcases EG.1 hx with h1|h1<;>rcases EG.1 hy with h2|h2
  .rw[h1,h2]
  .grind
  .grind
  .exact Nj hd.2 h1 h2 e
theorem Agf(R:Ad)(d:Int):bL prog [(2,some (MZ Ye JN bG R.in_))] Ye false (.mref 2) (iG d)=some (bG (OI R d)):=(Sx (et:=4) O6 aH (k:=d) rfl rfl).trans (Sb R.in_ d _)
abbrev aac(t:Bo)(i clk:Nat)(seen:Bq):Option Ob:=some ⟨t,[],some (.iter (some i) clk seen clk)⟩
abbrev stW(R:Ad)(seen:Bq):aQ:=BG f0 R++[(14,aac Ye 2 R.in_.clk seen)]
theorem aad{R:Ad}(hR:Bj R)(d:Int):SW prog gl 144 [.ref 0 0,iG d] (BG f0 R) 14 5 (iU []) (BG f0 (GV R d)):=by
 refine dFP func144 ?_;have lk:=Agf R d;unfold GV;cases hb:OI R d with
 |false=>rw[hb] at lk;exact Hj f0 R hR [KX 11 lk] (rlK R)
 |true=>
  rw[hb] at lk;rw[ax];have h1:=aab hR d;have hd:=Akw (P:=prog) (σ:=BG f0 R) (i:=2) (t:=Ye) (t':=Ye) (vg:=bG) (et:=4) O6 aH (k:=d) (gk:=iG d) rfl (m:=R.in_) rfl;refine pO 111100 (s0 40 gl [(0,.ref 0 0),(1,iG d),(4,iG (Dq R d))] (BG f0 (IK R d)) 14 5) [KX 11 lk,hmd 14 hd,hof gl 20 h1 d] (rlA h1) ?_ (ρ:=Gf f0) (kd:=Nh);refine yl (Bs':=[]) [1,1,1,0,0] (J:=(s0 40 gl [(0,.ref 0 0),(1,iG d),(4,iG (Dq R d)),(25,.ref 14 0)] (stW (IK R d) []) 15 5)) [] (rlB (Gf f0++[(14,14)]) f0 h1) ?_ (ρ:=Gf f0++[(14,14)]) (kd:=Nh);refine dNx 111101 ?_;generalize hm:Dq R d=m;have hmm:∀e,Dq (IK R d) e=Dq R e:=λe=>rfl;refine dMw 25 26 27 0 (iti:=14) (mi:=2) (clock:=(IK R d).in_.clk) (since:=(IK R d).in_.clk) (T:=Ye) (ty:=Ye) (es:=mEs JN bG (IK R d).in_) (λseen=>(s0 40 gl [(0,.ref 0 0),(1,iG d),(4,iG m),(25,.ref 14 0)] (stW (IK R d) seen) 15 5)) (λseen=>∀e∈(IK R d).in_.es,e.2.2∈seen->Dq R e.1≠m) (λe _ h=>by cases h) (λe he=>by obtain⟨x,hx,rfl⟩:=EP.1 he;exact h1.ci.lt x hx) rfl (Le.refl _) (λseen=>aH) (λseen=>aH) (by grind) (λB seen k g n hI hme hns b=>?_) (λseen hI hs=>?_)
  .obtain⟨e,he,a⟩:=EP.1 hme;simp only[FF] at a;obtain⟨rfl,rfl,rfl⟩:=a;have hge:jr ((14,aac Ye 2 (IK R d).in_.clk (seen++[e.2.2]))::stW (IK R d) seen) (.ref 14 0)=some (.tup [db (JN e.1),bG e.2.1]):=yo (iti:=14) (mi:=2) (since:=(IK R d).in_.clk) (clock:=(IK R d).in_.clk) (T:=Ye) (ty:=Ye) (seen:=seen) aH aH (by rw[HR];exact h1.ci.nd) hme;by_cases hk:Dq R e.1=m
   .rw[show LP (IK R d) m=true from List.any_eq_true.2 ⟨e,he,CO hk⟩,ax];exact Hj f0 _ h1 [YT 28 hge,hof gl 32 h1 e.1 15,hr 34 (show decide (Dq R e.1=m)=true from CO hk)] (rlK (IK R d))
   .refine jw [YT 28 hge,hof gl 32 h1 e.1 15,hr 34 (show decide (Dq R e.1=m)=false from C6 hk)] (rlB (Gf f0++[(14,14)]) f0 h1) (b λx hx h=>?_) (ρ:=Gf f0++[(14,14)]) (kd:=Nh);rcases Jk.1 h with h|h
    .exact hI x hx h
    .rw[List.mem_singleton] at h;have:x=e:=Nj h1.ci.nd hx he h;rw[this];exact hk
  .have hst:LP (IK R d) m=false:=by
    cases hst:LP (IK R d) m with
    |false=>rfl
    |true=>obtain⟨e,he,h⟩:=List.any_eq_true.1 hst;exact absurd (DL h) (hI e he (hs (JN e.1,bG e.2.1,e.2.2) (EP.2 ⟨e,he,rfl⟩)))
   rw[hst,Be];have h4:=Akw (P:=prog) (σ:=stW (IK R d) seen) (i:=4) (t:=Vq) (t':=Vq) (vg:=vgM f0) (et:=198) O6 aH (k:=m) (gk:=iG m) rfl (m:=JP R.members) (by rw[<-PJ];kernel_rfl);rw[AcU,show MZ Vq JN (vgM f0) (JP (RY R.members m))=RU f0 (RX (IK R d) m) from(PJ f0 (RX (IK R d) m)).symm] at h4;exact Hj f0 _ (Aep h1 m) [hmd 15 h4] (Amc h1 m)
abbrev oOp(o:Bp):Option Ob:=some ⟨64,aJ o,none⟩
abbrev Xc(i:Ab):Option Ob:=some ⟨25,aj i,none⟩
abbrev Aeq(R:Ad)(o:Bp)(i:Ab):aQ:=BG f0 R++[(14,oOp o),(15,Xc i)]
abbrev Ut(R:Ad)(o:Bp)(i:Ab)(R':Ad):Prop:=SW prog gl 72 [.ref 0 0,.agg (aJ o),.agg (aj i)] (BG f0 R) 14 5 (iU []) (BG f0 R')
theorem Pt{R:Ad}(hR:Bj R){o:Bp}(h:Gp prog Tryz.f72 (zE prog Tryz.f72 (iU []) (BG f0 R')) [] false [1,1,0] (s0 259 gl [(0,.ref 0 0),(4,.ref 14 0),(5,.ref 15 0)] (Aeq R o i) 16 5)):Ut gl R o i R':=by refine dFP func72 ?_;exact pO 1110 (s0 259 gl [(0,.ref 0 0),(4,.ref 14 0),(5,.ref 15 0)] (Aeq R o i) 16 5) [hof gl 24 hR o.By 16,KX 25 (Aio R (Dq R o.By))] (rlB (Gf f0++[(14,14),(15,15)]) f0 hR) h (ρ:=Gf f0++[(14,14),(15,15)]) (kd:=Nh)
abbrev f16:Nat->Nat:=fW f0 16
abbrev rlX{f:Nat->Nat}{R:Ad}:List HP:=hc (⟨rfl,L7 aC⟩:iU []=iU []/\bB (iU []))::L0.map λk=>hc (λob h=>h:∀ob,Bu f R k=some ob->Bu f R k=some ob)
theorem Air{R:Ad}(hR:Bj R){o:Bp}(hk:o.Kind=2):Ut gl R o i (I6 R o.Device o.Role):=by refine Pt gl hR ?_;exact Hj f16 _ (IH hR _ _) [hr 29 (show decide (o.Kind=1)=false by rw[hk];rfl),hr 52 (show decide (o.Kind=2)=true by rw[hk];rfl),ZZ 58 f0 16 [iG o.Device,iG o.Role] hR (IH hR _ _) (Vz gl hR o.Device o.Role)] (rlX (f:=f16) (R:=I6 R o.Device o.Role))
theorem AcV{R:Ad}(hR:Bj R){o:Bp}(hk:o.Kind=3)(hd:o.Device≠0):Ut gl R o i (GV R o.Device):=by refine Pt gl hR ?_;exact Hj f16 _ (KE hR _) [hr 29 (show decide (o.Kind=1)=false by rw[hk];rfl),hr 52 (show decide (o.Kind=2)=false by rw[hk];rfl),hr 60 (show decide (o.Kind=3)=true by rw[hk];rfl),hr 63 (show decide (o.Device≠0)=true from CO hd),ZZ 67 f0 16 [iG o.Device] hR (KE hR _) (aad gl hR o.Device)] (rlX (f:=f16) (R:=GV R o.Device))
theorem Agg{R:Ad}(hR:Bj R){o:Bp}(h1:o.Kind≠1)(h2:o.Kind≠2)(h3:o.Kind≠3)(h5:o.Kind≠5)(h9:o.Kind≠9)(h11:o.Kind≠11)(h12:o.Kind≠12)(h13:o.Kind≠13):Ut gl R o i R:=by refine Pt gl hR ?_;exact Hj f0 _ hR [hr 29 (C6 h1),hr 52 (C6 h2),hr 60 (C6 h3),hr 86 (C6 h5),hr 102 (C6 h9),hr 120 (C6 h11),hr 168 (C6 h12),hr 213 (C6 h13)] (rlX (f:=f0) (R:=R))
abbrev Ako(t:Nat->Option Ob):aQ:=L0.map λk=>(k,t k)
abbrev frJ(a b:Nat){R:Ad}{k:Int}{x:Az}(_:R.members.get k=some x):Fr:=[(a,iG k),(b,.ref (nM k) 0)]
def tg(R:Ad)(l:List (Nat×Ob))(k:Nat):Option Ob:=match l.find? λq=>Nat.beq q.1 k with
 |some q=>some q.2
 |none=>Bu f0 R k
theorem YA(h:∀q∈l,Bu f0 R q.1=some q.2)(k:Nat):tg R l k=Bu f0 R k:=by grind [tg,bc]
abbrev stT{R:Ad}{l:List (Nat×Ob)}(_:∀q∈l,Bu f0 R q.1=some q.2):aQ:=Ako (tg R l)
abbrev rlT(ρ:DD)(f:Nat->Nat){R:Ad}(hR:Bj R){l:List (Nat×Ob)}(hl:∀q∈l,Bu f0 R q.1=some q.2)(h:okR ρ f=true:=by kernel_rfl):List HP:=L0.map λk=>hc (show XL (It ρ) (Bu f R k) (tg R l k) from(YA hl k).symm▸Ps (κ:=It ρ) (f:=f) (f':=f0) (λk ⟨ob,hk⟩=>Z2 h (DV hk)) hR k)
abbrev Akp(ρ:DD){R:Ad}(hR:Bj R){l:List (Nat×Ob)}(hl:∀q∈l,Bu f0 R q.1=some q.2)(h:okR ρ f0=true:=by kernel_rfl):List HP:=L0.map λk=>hc (show XL (It ρ) (tg R l k) (Bu f0 R k) from(YA hl k).symm▸Ps (κ:=It ρ) (f:=f0) (f':=f0) (λk ⟨ob,hk⟩=>Z2 h (DV hk)) hR k)
abbrev Hz(R:Ad){r:G}(hr:bB r):List HP:=hc (⟨rfl,hr⟩:r=r/\bB r)::L0.map λk=>hc (λob h=>h:∀ob,Bu f0 R k=some ob->Bu f0 R k=some ob)
abbrev VA{R:Ad}{l:List (Nat×Ob)}(hl:∀q∈l,Bu f0 R q.1=some q.2){r:G}(hr:bB r):List HP:=hc (⟨rfl,hr⟩:r=r/\bB r)::L0.map λk=>hc (λob h=>(YA hl k).trans h:∀ob,Bu f0 R k=some ob->tg R l k=some ob)
abbrev eM(k:Nat)(x:Az):Nat×Ob:=(4+k,⟨tMe,[iG x.role,gpG f0 k x],none⟩)
abbrev eG(k:Nat)(g:Cd):Nat×Ob:=(7+k,⟨tGu,guC f0 k g,none⟩)
abbrev eV(k:Nat)(g:Cd):Nat×Ob:=(10+k,MZ tMv BW iG g.vouches)
theorem Ace(h3:k=1\/k=2\/k=3)(h:R.members.get (k:Int)=some x):Bu f0 R (eM k x).1=some (eM k x).2:=by rcases h3 with rfl|rfl|rfl<;>exact(by show Option.map _ _=_;rw[h];rfl)
theorem Aer{g:Cd}(h3:k=1\/k=2\/k=3)(h:R.members.get (k:Int)=some x)(hg:x.guard=some g):Bu f0 R (eG k g).1=some (eG k g).2:=by rcases h3 with rfl|rfl|rfl<;>exact(by show(Option.bind _ _).map _=_;grind)
theorem Akq{g:Cd}(h3:k=1\/k=2\/k=3)(h:R.members.get (k:Int)=some x)(hg:x.guard=some g):Bu f0 R (eV k g).1=some (eV k g).2:=by rcases h3 with rfl|rfl|rfl<;>exact(by show(Option.bind _ _).map _=_;grind)
def Lm(x:Az)(i:Ab):Bool:=match x.guard with
 |none=>false
 |some g=>decide (g.id=i)
def Hs(R:Ad)(i:Ab):Int:=match R.members.es.find? λe=>Lm e.2.1 i with
 |some e=>e.1
 |none=>0
theorem Bj.uni{R:Ad}(hR:Bj R){k k':Int}{x x':Az}{i:Ab}(h:R.members.get k=some x)(h':R.members.get k'=some x')(g:Lm x i=true)(a:Lm x' i=true):k=k':=by grind [Bj,Lm]
theorem Aes(hR:Bj R){e:Int×Az×Nat}(he:e∈R.members.es){i:Ab}(h:Lm e.2.1 i=true):Hs R i=e.1:=by
 unfold Hs;split
 .rename_i q hq;exact hR.uni (hR.mem (List.mem_of_find?_eq_some hq)).1 (hR.mem he).1 (by have:=List.find?_some hq;exact this) h
 grind
theorem AcW(h:∀e∈R.members.es,Lm e.2.1 i=false):Hs R i=0:=by grind [Hs]
abbrev stU(R:Ad)(i:Ab)(seen:Bq):aQ:=BG f0 R++[(14,Xc i),(15,aac Vq 4 R.members.clk seen)]
abbrev frU:Fr:=[(0,.ref 0 0),(3,.ref 14 0),(11,.ref 15 0)]
abbrev ρ15:DD:=Gf f0++[(14,14),(15,15)]
theorem Aaz(hR:Bj R)(i:Ab):SW prog gl 146 [.ref 0 0,.agg (aj i)] (BG f0 R) 14 14 (iG (Hs R i)) (BG f0 R):=by
 refine dFP func146 ?_;refine pO 1100 (s0 34 gl [(0,.ref 0 0),(3,.ref 14 0)] (BG f0 R++[(14,Xc i)]) 15 14) [] (rlB (Gf f0++[(14,14)]) f0 hR) ?_ (ρ:=Gf f0++[(14,14)]) (kd:=Nh);refine yl (Bs':=[]) [1,0,0] (J:=(s0 34 gl frU (stU R i []) 16 14)) [] (rlB ρ15 f0 hR) ?_ (ρ:=ρ15) (kd:=Nh);refine dNx 1101 ?_;refine dMw 11 12 13 0 (iti:=15) (mi:=4) (clock:=R.members.clk) (since:=R.members.clk) (T:=Vq) (ty:=Vq) (es:=Vr f0 R.members) (λseen=>(s0 34 gl frU (stU R i seen) 16 14)) (λseen=>∀e∈R.members.es,e.2.2∈seen->Lm e.2.1 i=false) (λe _ h=>by cases h) (λe he=>by obtain⟨x,hx,rfl⟩:=EP.1 he;exact hR.cm.lt x hx) rfl (Le.refl _) (λseen=>aH) (λseen=>aH) (λseen=>⟨show 12<34 by decide,show 13<34 by decide⟩) (λB seen k g n hI hme hns a=>?_) (λseen hI hs=>?_)
 .obtain⟨e,he,c⟩:=EP.1 hme;simp only[FF] at c;obtain⟨rfl,rfl,rfl⟩:=c;have hge:jr ((15,aac Vq 4 R.members.clk (seen++[e.2.2]))::stU R i seen) (.ref 15 0)=some (.tup [db (JN e.1),.ref (nM e.1) 0]):=yo (iti:=15) (mi:=4) (since:=R.members.clk) (clock:=R.members.clk) (T:=Vq) (ty:=Vq) (seen:=seen) aH aH (by rw[HR];exact hR.cm.nd) hme;obtain⟨hm,h3⟩:=hR.mem he;have hI':Lm e.2.1 i=false->∀x∈R.members.es,x.2.2∈seen++[e.2.2]->Lm x.2.1 i=false:=λhk x hx h=>by
   rcases Jk.1 h with h|h
   .exact hI x hx h
   .rw[List.mem_singleton] at h;rw[Nj hR.cm.nd hx he h];exact hk
  have hw:=Aes hR he (i:=i);obtain⟨k,x,n⟩:=e;dsimp only at hge hm h3 hI' hw a;obtain⟨j,rfl,b⟩:∃j:Nat,k=(j:Int)/\(j=1\/j=2\/j=3):=⟨k.toNat,aa,aa⟩;obtain⟨role,gd⟩:=x;have e1:=Ace b hm;cases gd with
  |none=>
   have a:=a (hI' rfl);have hl:∀q∈[eM j ⟨role,none⟩],Bu f0 R q.1=some q.2:=λq hq=>by rw[List.mem_singleton.1 hq];exact e1
   rcases b with rfl|rfl|rfl
   all_goals
    refine pO 11012211210 (s0 34 gl (frJ 5 6 hm++frU) (stT hl++[(14,Xc i),(15,aac Vq 4 R.members.clk (seen++[n]))]) 16 14) [YT 14 hge] (rlT ρ15 f0 hR hl) ?_ (ρ:=ρ15) (kd:=Nh)
    exact jw [] (Akp ρ15 hR hl) a (ρ:=ρ15) (kd:=Nh)
  |some g=>
   have e2:=Aer b hm rfl;have hl:∀q∈[eM j ⟨role,some g⟩,eG j g],Bu f0 R q.1=some q.2:=λq hq=>by
    rcases EG.1 hq with rfl|hq
    .exact e1
    .rw[List.mem_singleton.1 hq];exact e2
   cases hd:decide (g.id=i) with
   |false=>
    have a:=a (hI' hd);rcases b with rfl|rfl|rfl
    all_goals
     refine pO 11012211210 (s0 34 gl (frJ 5 6 hm++frU) (stT hl++[(14,Xc i),(15,aac Vq 4 R.members.clk (seen++[n]))]) 16 14) [YT 14 hge] (rlT ρ15 f0 hR hl) ?_ (ρ:=ρ15) (kd:=Nh)
     exact jw [hV 31 (dU g.id i hd)] (Akp ρ15 hR hl) a (ρ:=ρ15) (kd:=Nh)
   |true=>
    rw[show Hs R i=(j:Int) from hw hd];have hr:bB (iG (j:Int)):=mN _;rcases b with rfl|rfl|rfl
    all_goals
     refine pO 11012211210 (s0 34 gl (frJ 5 6 hm++frU) (stT hl++[(14,Xc i),(15,aac Vq 4 R.members.clk (seen++[n]))]) 16 14) [YT 14 hge] (rlT ρ15 f0 hR hl) ?_ (ρ:=ρ15) (kd:=Nh)
     exact Hj f0 _ hR [hV 31 (dU g.id i hd)] (VA hl hr)
 .rw[AcW λe he=>hI e he (hs (JN e.1,.ref (nM e.1) 0,e.2.2) (EP.2 ⟨e,he,rfl⟩))];exact Hj f0 _ hR [] (Hz R (mN (.int .i64 0)))
end
def T{α:Type}(x:Option α)(Q:α->Prop):Prop:=∃v,x=some v/\Q v
section
variable {α β γ σ ρ:Type}
theorem T.mono{x:Option α}{Q R:α->Prop}(h:T x Q)(k:∀v,Q v->R v):T x R:=by obtain⟨v,e,q⟩:=h;exact⟨v,e,k v q⟩
theorem T.some{v:α}{Q:α->Prop}(h:Q v):T (some v) Q:=⟨v,rfl,h⟩
theorem T.bind{x:Option α}{f:α->Option β}{Q:β->Prop}(h:T x λv=>T (f v) Q):T (x.bind f) Q:=by obtain⟨v,e,w,e2,q⟩:=h;exact⟨w,by grind,q⟩
theorem T.eqb{x:Option α}{f:α->Option β}{Q:β->Prop}{v:α}(e:x= .some v)(h:T (f v) Q):T (x.bind f) Q:=by grind
theorem T.ite{c:Bool}{a b:Option α}{Q:α->Prop}(h1:c=true->T a Q)(h2:c=false->T b Q):T (bif c then a else b) Q:=by grind
theorem T.dec{p:Prop}[Decidable p]{a b:Option α}{Q:α->Prop}(h1:p->T a Q)(h2:¬p->T b Q):T (bif decide p then a else b) Q:=by grind
theorem T.eq{x:Option α}{v:α}(h:T x λw=>w=v):x= .some v:=by obtain⟨w,e,rfl⟩:=h;exact e
theorem T.of{x:Option α}{v:α}{Q:α->Prop}(h:x= .some v)(q:Q v):T x Q:=⟨v,h,q⟩
theorem T.ix{l:List α}{i:Int}{Q:α->Prop}{x:α}(h0:0<=i)(hx:l[i.toNat]?= .some x)(h:Q x):T (aS l i) Q:=⟨x,by grind [aS],h⟩
theorem T.ixl{l:List α}{i:Int}{Q:α->Prop}(h0:0<=i)(h1:i<l.length)(h:∀x,l[i.toNat]?= .some x->x∈l->Q x):T (aS l i) Q:=by have hx:l[i.toNat]?= .some (l[i.toNat]'aa):=DR _;grind [ix]
theorem T.app{b:Nat}{l r:List α}{Q:List α->Prop}(h:(l.length+r.length)*b<=140737488355328)(q:Q (l++r)):T (aT b l r) Q:=⟨_,by grind [aT],q⟩
theorem T.rem{a b:Int}{Q:Int->Prop}(h:b≠0)(q:Q (a.tmod b)):T (u9 a b) Q:=⟨_,by grind [u9],q⟩
theorem T.quo{a b:Int}{Q:Int->Prop}(h:b≠0)(q:Q (IntKind.i64.wrap (a.tdiv b))):T (Gg a b) Q:=⟨_,by grind [Gg],q⟩
theorem T.set{l:List α}{i:Int}{x:α}{Q:List α->Prop}(h0:0<=i)(h1:i<l.length)(q:Q (l.set i.toNat x)):T (ji l i x) Q:=⟨_,by grind [ji],q⟩
theorem T.pre{l:List α}{i:Int}{Q:List α->Prop}(h0:0<=i)(h1:i<=l.length)(q:Q (l.take i.toNat)):T (tq l i) Q:=⟨_,by grind [tq],q⟩
theorem T.suf{l:List α}{i:Int}{Q:List α->Prop}(h0:0<=i)(h1:i<=l.length)(q:Q (l.drop i.toNat)):T (mc l i) Q:=⟨_,by grind [mc],q⟩
theorem T.make{b:Nat}{z:α}{n:Int}{Q:List α->Prop}(h0:0<=n)(h1:b*n.toNat<=281474976710656)(h2:n<=9223372036854775807)(q:Q (List.replicate n.toNat z)):T (rP b z n) Q:=⟨_,by grind [rP],q⟩
def Rd(N:σ->Prop)(Q:ρ->Prop):σ⊕ρ->Prop
 | .inl s=>N s
 | .inr r=>Q r
theorem T.lpN{step:σ->Option (σ⊕ρ)}{Q:ρ->Prop}(I:σ->Prop)(μ:σ->Nat)(h:∀s,I s->T (step s) (Rd (λs'=>I s'/\μ s'<μ s) Q)):∀(n:Nat) (s:σ),μ s<n->I s->T (KN step n s) Q
 |0,s,hn,_=>(by grind)
 |n+1,s,hn,hi=>by
  obtain⟨r,e,q⟩:=h s hi;unfold KN;rw[e];cases r with
  |inl s'=>exact T.lpN I μ h n s' (by have:=q.2;omega) q.1
  |inr r=>exact⟨r,rfl,q⟩
theorem T.loop{step:σ->Option (σ⊕ρ)}{Q:ρ->Prop}{s:σ}(I:σ->Prop)(μ:σ->Nat)(hi:I s)(hm:μ s<4611686018427387904)(h:∀s,I s->T (step s) (Rd (λs'=>I s'/\μ s'<μ s) Q)):T (AA step s) Q:=T.lpN I μ h _ s hm hi
theorem T.forA{step:σ×Int->Option ((σ×Int)⊕ρ)}{Q:ρ->Prop}{a:σ}(n:Nat)(J:Nat->σ->Prop)(hn:n<2305843009213693952)(h0:J 0 a)(h:∀k acc,k<n->J k acc->T (step (acc,(k:Int))) (Rd (λs'=>s'.2=((k+1:Nat):Int)/\J (k+1) s'.1) Q))(he:∀acc,J n acc->T (step (acc,(n:Int))) (Rd (λ_=>False) Q)):T (AA step (a,0)) Q:=by
 refine T.loop (λs=>∃k:Nat,k<=n/\s.2=(k:Int)/\J k s.1) (λs=>n-s.2.toNat) (by grind) cq ?_;rintro⟨acc,i⟩ ⟨k,hk,hik,hj⟩;simp only at hik hj;subst hik;rcases HE k n with hlt|hge
 .refine(h k acc hlt hj).mono λr hr=>?_;cases r with
  |inl s'=>refine⟨⟨k+1,aa,hr.1,hr.2⟩,?_⟩;rw[hr.1];simp;omega
  |inr r=>exact hr
 grind
theorem T.forI{step:Int->Option (Int⊕ρ)}{Q:ρ->Prop}(n:Nat)(J:Fq)(hn:n<2305843009213693952)(h0:J 0)(h:∀k,k<n->J k->T (step (k:Int)) (Rd (λs'=>s'=((k+1:Nat):Int)/\J (k+1)) Q))(he:J n->T (step (n:Int)) (Rd (λ_=>False) Q)):T (AA step 0) Q:=by
 refine T.loop (λs=>∃k:Nat,k<=n/\s=(k:Int)/\J k) (λs=>n-s.toNat) (by grind) cq ?_;rintro i ⟨k,hk,hik,hj⟩;subst hik;rcases HE k n with hlt|hge
 .refine(h k hlt hj).mono λr hr=>?_;cases r with
  |inl s'=>refine⟨⟨k+1,aa,hr.1,hr.2⟩,?_⟩;rw[hr.1];simp;omega
  |inr r=>exact hr
 grind
theorem bM{z:Int}(h1: -9223372036854775808<=z)(h2:z<=9223372036854775807):wI z=z:=by grind [wI,IntKind.wrap_i64]
theorem aq(h:k<2305843009213693952):wI ((k:Int)+1)=((k+1:Nat):Int):=by grind [bM]
theorem rM(h:n<18446744073709551616):wU (n:Int)=n:=by grind [wU,IntKind.wrap_u64]
theorem au{l:List α}{k:Nat}:aS l (k:Int)=l[k]? :=by grind [aS]
theorem eA{l:List α}{k:Nat}(h:k<l.length):decide ((k:Int)<ah l)=true:=by grind [ah]
theorem eF{l:List α}:decide ((l.length:Int)<ah l)=false:=by grind [ah]
theorem T.forE{step:List β×Int->Option ((List β×Int)⊕List β)}(l:List α)(a:List β)(enc:α->List β)(c:Nat)(hn:l.length<2305843009213693952)(hc:∀x∈l,(enc x).length<=c)(h:∀(k:Nat) (acc:List β) (x:α),l[k]?= .some x->x∈l->k<l.length->acc.length<=a.length+k*c->T (step (acc,(k:Int))) (Rd (λs'=>s'.2=((k+1:Nat):Int)/\s'.1=acc++enc x) (λ_=>False)))(he:∀acc,step (acc,(l.length:Int))= .some (.inr acc)):T (AA step (a,0)) (λr=>r=a++l.flatMap enc):=by
 refine T.forA l.length (λk acc=>acc=a++(l.take k).flatMap enc/\acc.length<=a.length+k*c) hn aC (λk acc hk hj=>?_) λacc hj=>?_
 .have hx:l[k]?= .some (l[k]'hk):=DR hk;refine(h k acc _ hx (by simp_all) hk hj.2).mono λr hr=>?_;cases r with
  |inr r=>exact hr.elim
  |inl s'=>obtain⟨h1,h2⟩:=hr;constructor<;>grind [JJ]
 .rw[he];refine .some ?_;show acc=_;grind
theorem d8{l:List α}{enc:α->List β}{c:Nat}(hc:∀x∈l,(enc x).length<=c):(l.flatMap enc).length<=l.length*c:=by induction l<;>grind [Nat.succ_mul]
theorem T.appL{l r:List α}{n m:Nat}{Q:List α->Prop}(h1:l.length<=n)(h2:r.length<=m)(hnm:n+m<=140737488355328)(q:(l++r).length<=n+m->Q (l++r)):T (aT 1 l r) Q:=by grind [app]
theorem T.then{x:Option α}{f:α->Option β}{v:α}{Q:β->Prop}(h:T x λw=>w=v)(q:T (f v) Q):T (x.bind f) Q:=by grind [bind,mono]
end
section
attribute [local irreducible] Tr D8 GS Le Wk ve ba bB Xh J6 Dp
section
variable {P:Br} {t:Bo} {x y:Dl}
theorem SS{a:Nat}(ha:a<2^63)(hb:b<2^63):b8 P .or t x y (.lit (.int .i64 (a:Int))) (.lit (.int .i64 (b:Int)))=some (.lit (.int .i64 ((a|||b:Nat):Int))):=by
 have h:b8 P .or t x y (.lit (.int .i64 (a:Int))) (.lit (.int .i64 (b:Int)))=some (.lit (.int .i64 (IntKind.i64.wrap ((BitVec.ofInt IntKind.i64.bits (a:Int)|||BitVec.ofInt IntKind.i64.bits (b:Int)).toNat:Nat)))):=by simp[b8,cD,eqGuard,binOp,Op.intBits,bz,db]
 have h1:(BitVec.ofInt IntKind.i64.bits (a:Int)|||BitVec.ofInt IntKind.i64.bits (b:Int)).toNat=a|||b:=by show(BitVec.ofInt 64 (a:Int)|||BitVec.ofInt 64 (b:Int)).toNat=a|||b;rw[BitVec.ofInt_natCast,BitVec.ofInt_natCast,BitVec.toNat_or,BitVec.toNat_ofNat,BitVec.toNat_ofNat,Mi aa,Mi aa]
 have h2:a|||b<2^63:=Nat.or_lt_two_pow ha hb;rw[h,h1,w64 aa]
end
section
variable {P:Br} {ops:Array Oper} {K:St->Prop} {rest:HA} {n:Nat} {gl:CB} {fr:Fr} {σ:aQ} {c p:Nat} {rr:Bool} {d:Tmp} {ty:Bo} {pos:String} {af:Array Edge}
end
end
section
variable {P:Br} {x y:Dl} {t:Bo}
end
theorem im1{a:G}(ha:bB a):∀g∈[a],bB g:=λg hg=>by simp only[EG,KY,or_false] at hg;subst hg;exact ha
theorem im2{a b:G}(ha:bB a)(hb:bB b):∀g∈[a,b],bB g:=λg hg=>by
 simp only[EG,KY,or_false] at hg;rcases hg with rfl|rfl
 .exact ha
 .exact hb
abbrev gU'(n:Nat):G:= .lit (.int .u64 (n:Int))
def nb(k:Nat):CD:=if h:k<128 then[UInt8.ofNat k]else UInt8.ofNat (k%128+128)::nb (k/128)
 termination_by k
 decreasing_by omega
theorem H6(h:k<128):nb k=[UInt8.ofNat k]:=by rw[nb,dif_pos h]
theorem Er(h:¬k<128):nb k=UInt8.ofNat (k%128+128)::nb (k/128):=by rw[nb,dif_neg h]
theorem Qu:∀(f k:Nat),k<128^(f+1)->(nb k).length<=f+1
 |0,k,h=>by grind [H6]
 |f+1,k,h=>by
  by_cases h1:k<128
  .rw[H6 h1];simp
  .rw[Er h1];have:=Qu f (k/128) (by grind);simp;omega
theorem ow(h:k<18446744073709551616):(nb k).length<=10:=Qu 9 k (by grind)
theorem Yj(k:Nat):nb k≠[]:=by grind [H6,Er]
theorem Yk(h:n<256):gY (UInt8.ofNat n)= .lit (.int .u8 (n:Int)):=by
 have:(UInt8.ofNat n).toNat=n:=by simp;omega
 grind
set_option maxRecDepth 100000 in
theorem V4:∀a:Fin 256,a.1|||128=a.1%128+128:=BX
theorem Yl{x:Dl}{t:Bo}{k:IntKind}{b:Int}:b8 P .or t x y (.lit (.int k a)) (.lit (.int k b))=some (.lit (.int k (k.wrap ((BitVec.ofInt k.bits a|||BitVec.ofInt k.bits b).toNat:Nat)))):=by simp[b8,cD,eqGuard,binOp,Op.intBits,bz,db]
theorem V5{x:Dl}{t:Bo}{k:IntKind}{b:Int}:b8 P .xor t x y (.lit (.int k a)) (.lit (.int k b))=some (.lit (.int k (k.wrap ((BitVec.ofInt k.bits a^^^BitVec.ofInt k.bits b).toNat:Nat)))):=by simp[b8,cD,eqGuard,binOp,Op.intBits,bz,db]
theorem V6{x:Dl}{t:Bo}:b8 P .or t x y (.lit (.int .u8 (n:Int))) (.lit (.int .u8 128))=some (.lit (.int .u8 ((n%128+128:Nat):Int))):=by
 rw[Yl];have h:(BitVec.ofInt IntKind.u8.bits (n:Int)|||BitVec.ofInt IntKind.u8.bits 128).toNat=n%128+128:=by show(BitVec.ofInt 8 (n:Int)|||BitVec.ofInt 8 ((128:Nat):Int)).toNat=_;rw[BitVec.ofInt_natCast,BitVec.ofInt_natCast,BitVec.toNat_or,BitVec.toNat_ofNat,BitVec.toNat_ofNat];have:=V4 ⟨n%256,aa⟩;grind
 grind [wu8]
def Mk(n:Int):Nat:=if n<0 then(-(n+1)).toNat*2+1 else n.toNat*2
theorem FQ{n:Int}(h: -9223372036854775808<=n/\n<=9223372036854775807):Mk n<18446744073709551616:=by grind [Mk]
theorem Ym{x:Dl}{t:Bo}{n:Int}(h: -9223372036854775808<=n/\n<=9223372036854775807):b8 P .xor t x y (.lit (.int .u64 (IntKind.u64.wrap (IntKind.u64.wrap n*2^1)))) (.lit (.int .u64 (IntKind.u64.wrap (n.fdiv (2^63)))))=some (gU' (Mk n)):=by
 rw[V5];have h64:∀z:Int,IntKind.u64.wrap z=z%18446744073709551616:=λz=>IntKind.wrap_u64 z;congr 3;by_cases hn:n<0
 .have e1:n.fdiv (2^63)= -1:=by grind
  have e2:IntKind.u64.wrap (IntKind.u64.wrap n*2^1)=(((18446744073709551616+2*n)%18446744073709551616).toNat:Int):=by grind
  rw[e1,e2,h64 (-1)];show IntKind.u64.wrap ((BitVec.ofInt 64 _^^^BitVec.ofInt 64 ((18446744073709551615:Nat):Int)).toNat:Nat)=_;rw[BitVec.ofInt_natCast,BitVec.ofInt_natCast];have e3:BitVec.ofNat 64 18446744073709551615=BitVec.allOnes 64:=BX;rw[e3,BitVec.xor_allOnes,BitVec.toNat_not,BitVec.toNat_ofNat,h64];grind [Mk]
 .have e1:n.fdiv (2^63)=0:=by grind
  have e2:IntKind.u64.wrap (IntKind.u64.wrap n*2^1)=((n.toNat*2:Nat):Int):=by grind
  rw[e1,e2,h64 0];show IntKind.u64.wrap ((BitVec.ofInt 64 _^^^BitVec.ofInt 64 ((0:Nat):Int)).toNat:Nat)=_;rw[BitVec.ofInt_natCast,BitVec.ofInt_natCast];grind [Mk]
theorem Aiv(h:k<4611686018427387904):wI ((k:Int)+1)=((k+1:Nat):Int):=by unfold wI;rw[IntKind.wrap_i64];omega
theorem Agk{s:List α}(p:α->Bool)(hn:s.length<2305843009213693952){step:Int->Option (Int⊕(Unit⊕Int))}(hs:∀(k:Nat) (x:α),s[k]?=some x->step (k:Int)=some (if p x=true then .inr (.inr (k:Int))else .inl (wI ((k:Int)+1))))(he:step (s.length:Int)=some (.inr (.inl ()))):∃r:Unit⊕Int,AA step 0=some r/\((r= .inl ()/\s.any p=false)\/∃j:Nat,r= .inr (j:Int)/\s.any p=true/\s.findIdx? p=some j):=by
 obtain⟨r,h1,h2⟩:T (AA step 0) λr=>(r= .inl ()/\s.any p=false)\/∃j:Nat,r= .inr (j:Int)/\s.any p=true/\s.findIdx? p=some j:=by
  refine T.forI s.length (λk=>∀j,j<k->∀x,s[j]?=some x->p x=false) hn (λj h=>aa) (λk hk a=>?_) λa=>?_
  .obtain⟨x,hx⟩:∃x,s[k]?=some x:=⟨_,DR hk⟩;rw[hs k x hx];cases hp:p x with
   |true=>refine⟨_,rfl,.inr ⟨k,rfl,(by grind),?_⟩⟩;grind [List.findIdx?_eq_some_iff_getElem]
   |false=>refine⟨_,rfl,?_⟩;rw[BA BX];constructor<;>grind [Aiv]
  .rw[he];refine⟨_,rfl,.inl ⟨rfl,?_⟩⟩;grind [Gu]
 exact⟨r,h1,h2⟩
theorem Bg{s:List α}{x:α}(h:s[k]?=some x):aS s (k:Int)=some x:=by grind [aS]
theorem Dd{s:List α}{k:Nat}{x:α}(h:s[k]?=some x):decide ((k:Int)<ah s)=true:=by grind [ah]
theorem DZ{s:List α}:decide ((s.length:Int)<ah s)=false:=C6 (by unfold ah;omega)
theorem Sv[DecidableEq α]{s:List α}(hn:s.length<2305843009213693952)(v:α):Aa6 s v=some (s.any λy=>decide (v=y)):=by
 obtain⟨r,h1,h2⟩:=Agk (s:=s) (λy=>decide (v=y)) hn (step:=Zv s v) (by grind [Zv,Dd,Bg]) (by unfold Zv;rw[DZ];rfl);unfold Aa6 ixT;rw[h1];rcases h2 with⟨rfl,h2⟩|⟨j,rfl,h2,_⟩<;>rw[h2]
 .rfl
 .show some (decide (0<=(j:Int)))=_;rw[CO aa]
theorem AaB{s:List α}{f:α->Fl}{p:α->Bool}(hn:s.length<2305843009213693952)(hf:∀x∈s,f x=some (p x)):Aad s f=some (s.any p):=by
 obtain⟨r,h1,h2⟩:=Agk (s:=s) p hn (step:=Hx s f) (by grind [Hx,Dd,Bg]) (by unfold Hx;rw[DZ];rfl);unfold Aad Um;rw[h1];rcases h2 with⟨rfl,h2⟩|⟨j,rfl,h2,_⟩<;>rw[h2]
 .rfl
 .show some (decide (0<=(j:Int)))=_;rw[CO aa]
section
attribute [local irreducible] Tr dz Gp
def Aet(m:FM Int Az):FM Int (Option Az):=⟨m.es.map λe=>(e.1,some e.2.1,e.2.2),m.clk⟩
theorem Aeu(m:FM Int Az)(k:Int):(Aet m).get k=(m.get k).map some:=by unfold FM.get Aet;dsimp only;induction m.es<;>grind
theorem Agh(R:Ad)(m:Int):∀σ,bL prog σ Vq false (FM.g JN (λx=> .ptr (Ft x) 0) R.members) (iG m)=some (npG Ft (R.members.get m)):=λσ=>by
 have h:=FM.look1 (et:=198) O6 (t:=Vq) (vg:=npG Ft) (v0:=none) aH aH (Aet R.members) m (gk:=iG m) rfl σ;have e:(Aet R.members).g JN (npG Ft)=FM.g JN (λx=> .ptr (Ft x) 0) R.members:=by unfold FM.g Aet;simp only[HR];rfl
 rw[e,Aeu] at h;rw[h];cases R.members.get m<;>rfl
abbrev frI(a:Nat){R:Ad}{k:Int}{x:Az}(_:R.members.get k=some x):Fr:=[(a,iG k)]
theorem UE(R:Ad)(m:Int):ba prog gl 147 [.ptr (CA R) 0,iG m] (iG (LW R m)):=by
 have h:=Agh R m;unfold LW;cases hx:R.members.get m with
 |none=>rw[hx] at h;exact Gh func147 (Ar [hm 11 h] [])
 |some x=>rw[hx] at h;exact Gh func147 (Ar [hm 11 h] [])
def C7(R:Ad)(o:Bp):Int×Int:=match R.members.es.find? λe=>Lm e.2.1 o.Of with
 |none=>(0,25)
 |some e=>match e.2.1.guard with
  |none=>(0,25)
  |some g=>bif g.guards.any λy=>decide (o.By=y)then(e.1,0)else(0,14)
theorem Tk(hR:Bj R)(o:Bp):SW prog gl 145 [.ref 0 0,.agg (aJ o)] (BG f0 R) 14 14 (.tup [iG (C7 R o).1,iG (C7 R o).2]) (BG f0 R):=by
 refine dFP func145 ?_;have hr2:∀a b:Int,bB (.tup [iG a,iG b]):=by grind [L7,mN]
 have hw:=Aaz gl hR o.Of;unfold C7;cases hfi:R.members.es.find? λe=>Lm e.2.1 o.Of with
 |none=>rw[show Hs R o.Of=0 by unfold Hs;rw[hfi]] at hw;have hr:=hr2 0 25;exact Hj f0 _ hR [hrr 10 f0 15 [.agg (aj o.Of)] hR hw] (Hz R hr)
 |some e=>
  have he:=List.mem_of_find?_eq_some hfi;have hg:Lm e.2.1 o.Of=true:=by have:=List.find?_some hfi;exact this
  obtain⟨hx,h3⟩:=hR.mem he;rw[show Hs R o.Of=e.1 by unfold Hs;rw[hfi]] at hw;obtain⟨k,x,n⟩:=e;dsimp only at hx h3 hw hg⊢;obtain⟨j,rfl,d⟩:∃j:Nat,k=(j:Int)/\(j=1\/j=2\/j=3):=by grind
  obtain⟨role,gd⟩:=x;cases gd with
  |none=>cases hg
  |some g=>
   have e1:=Ace d hx;have e2:=Aer d hx rfl;have hl:∀q∈[eM j ⟨role,some g⟩,eG j g],Bu f0 R q.1=some q.2:=by grind
   have hlk:=RW hx;have c:=Dk gl (Sv (Nat.lt_of_le_of_lt (hR.gn _ _ _ hx rfl) BX) o.By);dsimp only;cases hb:g.guards.any λy=>decide (o.By=y) with
   |false=>
    rw[hb] at c;have hr:=hr2 0 14;rcases d with rfl|rfl|rfl
    all_goals
     refine pO 11102140 (s0 32 gl (frI 6 hx++[(0,.ref 0 0),(3,.ref 14 0)]) (stT hl++[(14,oOp o)]) 15 14) [hrr 10 f0 15 [.agg (aj o.Of)] hR hw] (rlT (Gf f0++[(14,14)]) f0 hR hl) ?_ (ρ:=Gf f0++[(14,14)]) (kd:=Nh)
     exact Hj f0 _ hR [KX 20 hlk,hf 29 c] (VA hl hr)
   |true=>
    rw[hb] at c;have hr:=hr2 (j:Int) 0;rcases d with rfl|rfl|rfl
    all_goals
     refine pO 11102140 (s0 32 gl (frI 6 hx++[(0,.ref 0 0),(3,.ref 14 0)]) (stT hl++[(14,oOp o)]) 15 14) [hrr 10 f0 15 [.agg (aj o.Of)] hR hw] (rlT (Gf f0++[(14,14)]) f0 hR hl) ?_ (ρ:=Gf f0++[(14,14)]) (kd:=Nh)
     exact Hj f0 _ hR [KX 20 hlk,hf 29 c] (VA hl hr)
abbrev HD(R:Ad)(k:Int)(x:Az):Ad:={R with members:=C3 R.members k x}
theorem JD{R:Ad}{k:Int}{x:Az}(j:Int):(HD R k x).members.get j=if j=k then some x else R.members.get j:=Bz _ _
theorem Ais{k:Int}(h:R.members.get k=some x):(HD R k x').members.es.map (·.1)=R.members.es.map (·.1):=by grind [PM,G9]
theorem Agi{k:Int}(h:R.members.get k=some x)(f:Nat->Nat):RU f (HD R k x')=RU f R:=by
 show(⟨_,_,some (.map _ _)⟩:Ob)=⟨_,_,some (.map _ _)⟩;have key:Vr f (C3 R.members k x')=Vr f R.members/\(C3 R.members k x').clk=R.members.clk:=by
  unfold C3 Vr;cases hk:bu k (R.members.es.map (·.1)) with
  |none=>rw[SA hk] at h;cases h
  |some j=>obtain⟨e,he,rfl,_⟩:=LX hk;refine⟨?_,rfl⟩;dsimp only;rw[he,List.map_set];apply List.ext_getElem?;grind
 grind
theorem aae(hR:Bj R){k:Int}(h:R.members.get k=some x)(hv:∀g,x'.guard=some g->QI g.vouches/\(DS (R.cards.get g.id.By)).Member=k/\g.guards.length<=1000000/\(1<=g.need/\g.need<=1000000)/\∀e∈g.vouches.es,1<=e.1.by_/\e.1.by_<=6):Bj (HD R k x'):=by
 have cas:∀(j:Int) (y:Az) (g:Cd),(HD R k x').members.get j=some y->y.guard=some g->(j=k/\x'.guard=some g)\/(R.members.get j=some y):=by grind [JD]
 refine⟨hR.ci,hR.cw,NR hR.cm _,λe he=>?_,hR.c3,λj y g h1 h2=>?_,λj y g h1 h2=>?_,λj y g h1 h2=>?_,λj y g h1 h2=>?_,hR.i6,hR.c6,λj y g h1 h2=>?_⟩
 .have hk:e.1∈(HD R k x').members.es.map (·.1):=EP.2 ⟨e,he,rfl⟩;rw[Ais h] at hk;grind [Bj]
 .grind [Bj.cv]
 .grind [Bj.gm]
 .grind [Bj.gN]
 .rcases cas j y g h1 h2 with⟨rfl,h3⟩|h3
  .exact(hv g h3).2.2.2.2
  .exact hR.vb j y g h3 h2
 grind [Bj.gn]
theorem Aev(hx:R.members.get (k:Int)=some x)(q:Nat)(h4:q≠4+k)(h7:q≠7+k\/x'.guard=none)(h10:q≠10+k\/x'.guard=none):∀ob,Bu f0 (HD R (k:Int) x') q=some ob->Bu f0 R q=some ob:=λob h=>by
 have hM:∀j:Nat,j≠k->roM f0 (HD R (k:Int) x') j=roM f0 R j:=by grind [roM,JD]
 have hB:∀j:Nat,j≠k\/x'.guard=none->∀y,((HD R (k:Int) x').members.get (j:Int)).bind (·.guard)=some y->(R.members.get (j:Int)).bind (·.guard)=some y:=by grind [JD]
 have hG:∀j:Nat,j≠k\/x'.guard=none->∀ob,roG f0 (HD R (k:Int) x') j=some ob->roG f0 R j=some ob:=by grind [roG,DG]
 have hV:∀j:Nat,j≠k\/x'.guard=none->∀ob,roV (HD R (k:Int) x') j=some ob->roV R j=some ob:=by grind [roV,DG]
 match q,DV h with
 |0,_=>exact h
 |1,_=>exact h
 |2,_=>exact h
 |3,_=>exact h
 |4,_=>rw[<-h];exact congrArg some (Agi hx f0).symm
 |5,_=>rw[<-h];exact(hM 1 aa).symm
 |6,_=>rw[<-h];exact(hM 2 aa).symm
 |7,_=>rw[<-h];exact(hM 3 aa).symm
 |8,_=>exact hG 1 (h7.imp (λh=>aa) id) ob h
 |9,_=>exact hG 2 (h7.imp (λh=>aa) id) ob h
 |10,_=>exact hG 3 (h7.imp (λh=>aa) id) ob h
 |11,_=>exact hV 1 (h10.imp (λh=>aa) id) ob h
 |12,_=>exact hV 2 (h10.imp (λh=>aa) id) ob h
 |13,_=>exact hV 3 (h10.imp (λh=>aa) id) ob h
def tgU(R:Ad)(l a:List (Nat×Ob))(k:Nat):Option Ob:=match a.find? λq=>Nat.beq q.1 k with
 |some q=>some q.2
 |none=>tg R l k
theorem Ait{l':List (Nat×Ob)}(hl:∀q∈l,Bu f0 R q.1=some q.2)(a:∀q∈l',Bu f0 R' q.1=some q.2)(hs:∀q,(∀e∈l',e.1≠q)->∀ob,Bu f0 R' q=some ob->Bu f0 R q=some ob)(k:Nat):∀ob,Bu f0 R' k=some ob->tgU R l l' k=some ob:=by grind [tgU,bc,YA,Nat.beq_refl]
abbrev rlU{R R':Ad}{l l':List (Nat×Ob)}(hl:∀q∈l,Bu f0 R q.1=some q.2)(a:∀q∈l',Bu f0 R' q.1=some q.2)(hs:∀q,(∀e∈l',e.1≠q)->∀ob,Bu f0 R' q=some ob->Bu f0 R q=some ob):List HP:=hc (⟨rfl,L7 aC⟩:iU []=iU []/\bB (iU []))::L0.map λk=>hc (Ait hl a hs k)
theorem hl1{x:Az}(h3:k=1\/k=2\/k=3)(h:R.members.get (k:Int)=some x):∀q∈[eM k x],Bu f0 R q.1=some q.2:=by grind [Ace]
theorem hl3{R:Ad}{role:Int}{g:Cd}(h3:k=1\/k=2\/k=3)(h:R.members.get (k:Int)=some ⟨role,some g⟩):∀q∈[eM k ⟨role,some g⟩,eG k g,eV k g],Bu f0 R q.1=some q.2:=λq hq=>by
 simp only[EG,KY,or_false] at hq;rcases hq with rfl|rfl|rfl
 .exact Ace h3 h
 all_goals grind [Aer,Akq]
theorem hs1{role:Int}(hx:R.members.get (k:Int)=some x):∀q,(∀e∈[eM k (⟨role,none⟩:Az)],e.1≠q)->∀ob,Bu f0 (HD R (k:Int) ⟨role,none⟩) q=some ob->Bu f0 R q=some ob:=λq hq=>Aev hx q (λe=>hq _ (List.mem_singleton.2 rfl) e.symm) (.inr rfl) (.inr rfl)
theorem hs3{R:Ad}{role:Int}{g:Cd}(hx:R.members.get (k:Int)=some x):∀q,(∀e∈[eM k (⟨role,some g⟩:Az),eG k g,eV k g],e.1≠q)->∀ob,Bu f0 (HD R (k:Int) ⟨role,some g⟩) q=some ob->Bu f0 R q=some ob:=λq hq=>Aev hx q (λe=>(by simp_all)) (.inl λe=>hq (eG k g) aC e.symm) (.inl λe=>hq (eV k g) aC e.symm)
def Uf(R:Ad)(o:Bp):Ad:=match R.members.get o.Member with
 |none=>R
 |some x=>HD R o.Member ⟨o.Role,x.guard⟩
theorem Acf(hR:Bj R)(o:Bp):Bj (Uf R o):=by
 unfold Uf;split
 .exact hR
 .rename_i x hx;exact aae hR hx (by grind [Bj])
abbrev frP(a:Nat){R:Ad}{k:Int}{x:Az}(_:R.members.get k=some x):Fr:=[(a,.ref (nM k) 0)]
abbrev ρD:DD:=Gf f0++[(14,14),(15,15)]
theorem Abn(hR:Bj R){o:Bp}(hk:o.Kind=5):Ut gl R o i (Uf R o):=by
 have hok:=Acf hR o;refine Pt gl hR ?_;have a1:decide (o.Kind=1)=false:=by rw[hk];rfl
 have a2:decide (o.Kind=2)=false:=by rw[hk];rfl
 have a3:decide (o.Kind=3)=false:=by rw[hk];rfl
 have a5:decide (o.Kind=5)=true:=by rw[hk];rfl
 unfold Uf at hok⊢;cases hx:R.members.get o.Member with
 |none=>exact Hj f0 _ hR [hr 29 a1,hr 52 a2,hr 60 a3,hr 86 a5,KX 93 (Vv hx)] (rlX (f:=f0) (R:=R))
 |some x=>
  rw[hx] at hok;have hlk:=RW hx;obtain⟨j,hj,b⟩:∃j:Nat,o.Member=(j:Int)/\(j=1\/j=2\/j=3):=by have:=Agd hR hx;exact⟨o.Member.toNat,aa,aa⟩
  dsimp only at hok⊢;rw[hj] at hx hok⊢;rw[show(.ref (nM o.Member) 0:G)= .ref (nM (j:Int)) 0 by rw[hj]] at hlk;obtain⟨role,gd⟩:=x;have hg':(HD R (j:Int) ⟨o.Role,gd⟩).members.get (j:Int)=some ⟨o.Role,gd⟩:=by rw[JD,Bx rfl]
  cases gd with
  |none=>
   have hl:=hl1 b hx;have a:=hl1 b hg';have hs:=hs1 (role:=o.Role) hx;rcases b with rfl|rfl|rfl
   all_goals
    refine pO 1111214141413113 (s0 259 gl (frP 9 hx++[(4,.ref 14 0)]) (stT hl++[(14,oOp o),(15,Xc i)]) 16 5) [hr 29 a1,hr 52 a2,hr 60 a3,hr 86 a5,KX 93 hlk] (rlT ρD f0 hR hl) ?_ (ρ:=ρD) (kd:=Nh)
    exact Hj f0 _ hok [] (rlU hl a hs)
  |some g=>
   have hl:=hl3 b hx;have a:=hl3 b hg';have hs:=hs3 (role:=o.Role) (g:=g) hx;rcases b with rfl|rfl|rfl
   all_goals
    refine pO 1111214141413113 (s0 259 gl (frP 9 hx++[(4,.ref 14 0)]) (stT hl++[(14,oOp o),(15,Xc i)]) 16 5) [hr 29 a1,hr 52 a2,hr 60 a3,hr 86 a5,KX 93 hlk] (rlT ρD f0 hR hl) ?_ (ρ:=ρD) (kd:=Nh)
    exact Hj f0 _ hok [] (rlU hl a hs)
def VB(R:Ad)(o:Bp):Ad:=match R.members.get (Dq R o.By) with
 |some ⟨role,some g⟩=>bif g.id=o.Of then HD R (Dq R o.By) ⟨role,some {g with objected:=true,last:=Fv g.last o.At}⟩else R
 |_=>R
theorem Aex(hR:Bj R)(o:Bp):Bj (VB R o):=by
 unfold VB;split
 .rename_i role g hx;cases decide (g.id=o.Of) with
  |false=>exact hR
  |true=>refine aae hR hx λa hg=>?_;grind [Bj]
 .exact hR
theorem AcX(hR:Bj R){o:Bp}(hk:o.Kind=12):Ut gl R o i (VB R o):=by
 have hok:=Aex hR o;have hrt:bB (iU []):=L7 aC;have a1:decide (o.Kind=1)=false:=by rw[hk];rfl
 have a2:decide (o.Kind=2)=false:=by rw[hk];rfl
 have a3:decide (o.Kind=3)=false:=by rw[hk];rfl
 have a5:decide (o.Kind=5)=false:=by rw[hk];rfl
 have a9:decide (o.Kind=9)=false:=by rw[hk];rfl
 have a11:decide (o.Kind=11)=false:=by rw[hk];rfl
 have a12:decide (o.Kind=12)=true:=by rw[hk];rfl
 refine dFP func72 ?_;unfold VB at hok⊢;cases hx:R.members.get (Dq R o.By) with
 |none=>exact Hj f0 _ hR [hof gl 24 hR o.By 16,KX 25 (Vv hx),hr 29 a1,hr 52 a2,hr 60 a3,hr 86 a5,hr 102 a9,hr 120 a11,hr 168 a12] (rlX (f:=f0) (R:=R))
 |some x=>
  rw[hx] at hok;have hlk:=RW hx;obtain⟨j,hj,a⟩:∃j:Nat,Dq R o.By=(j:Int)/\(j=1\/j=2\/j=3):=by grind [Agd]
  rw[hj] at hx hok hlk⊢;obtain⟨role,gd⟩:=x;cases gd with
  |none=>
   have hl:=hl1 a hx;rcases a with rfl|rfl|rfl
   all_goals
    refine pO 11112141414141414130 (s0 259 gl (frP 6 hx++[(4,.ref 14 0)]) (stT hl++[(14,oOp o),(15,Xc i)]) 16 5) [Aem gl 24 hR hj 16,KX 25 hlk,hr 29 a1,hr 52 a2,hr 60 a3,hr 86 a5,hr 102 a9,hr 120 a11,hr 168 a12] (rlT ρD f0 hR hl) ?_ (ρ:=ρD) (kd:=Nh)
    exact Hj f0 _ hR [] (VA hl hrt)
  |some g=>
   have hl:=hl3 a hx;dsimp only at hok⊢;cases hd:decide (g.id=o.Of) with
   |false=>
    rcases a with rfl|rfl|rfl
    all_goals
     refine pO 11112141414141414130 (s0 259 gl (frP 6 hx++[(4,.ref 14 0)]) (stT hl++[(14,oOp o),(15,Xc i)]) 16 5) [Aem gl 24 hR hj 16,KX 25 hlk,hr 29 a1,hr 52 a2,hr 60 a3,hr 86 a5,hr 102 a9,hr 120 a11,hr 168 a12] (rlT ρD f0 hR hl) ?_ (ρ:=ρD) (kd:=Nh)
     exact Hj f0 _ hR [hV 188 (dU g.id o.Of hd)] (VA hl hrt)
   |true=>
    rw[hd] at hok;rw[ax] at hok⊢;have b:=hl3 (R:=HD R (j:Int) ⟨role,some {g with objected:=true,last:=Fv g.last o.At}⟩) a (by rw[JD,Bx rfl]);have hs:=hs3 (role:=role) (g:={g with objected:=true,last:=Fv g.last o.At}) hx;rcases a with rfl|rfl|rfl
    all_goals
     refine pO 11112141414141414130 (s0 259 gl (frP 6 hx++[(4,.ref 14 0)]) (stT hl++[(14,oOp o),(15,Xc i)]) 16 5) [Aem gl 24 hR hj 16,KX 25 hlk,hr 29 a1,hr 52 a2,hr 60 a3,hr 86 a5,hr 102 a9,hr 120 a11,hr 168 a12] (rlT ρD f0 hR hl) ?_ (ρ:=ρD) (kd:=Nh)
     exact Hj f0 _ hok [hV 188 (dU g.id o.Of hd)] (rlU hl b hs)
theorem Aku(k:CM):Instr.sameBits 10000 (BW k) (BW k)=true:=by unfold BW Ho;simp[Instr.sameBits]
abbrev VC(o:Bp):CM:=⟨o.By,o.Device⟩
def aah(g:Cd)(o:Bp):Bool:=match g.vouches.get (VC o) with
 |none=>true
 |some a=>decide (o.At<a)
abbrev Abo(g:Cd)(o:Bp):Cd:={g with vouches:=C3 g.vouches (VC o) o.At}
def XQ(R:Ad)(o:Bp):Ad:=match R.members.es.find? λe=>Lm e.2.1 o.Of with
 |some (k,⟨role,some g⟩,_)=>bif(g.guards.any λy=>decide (o.By=y))&&aah g o then HD R k ⟨role,some (Abo g o)⟩else R
 |_=>R
theorem Aey(hR:Bj R){o:Bp}(hb:1<=o.By/\o.By<=6):Bj (XQ R o):=by
 unfold XQ;split
 .rename_i k role g n hf;have hx:=(hR.mem (List.mem_of_find?_eq_some hf)).1;dsimp only at hx;cases(g.guards.any λy=>decide (o.By=y))&&aah g o with
  |false=>exact hR
  |true=>
   refine aae hR hx λa hg=>?_;cases hg;exact⟨NR (hR.cv _ _ g hx rfl) _,hR.gm _ _ g hx rfl,hR.gn _ _ g hx rfl,hR.gN _ _ g hx rfl,λe he=>by
    have hk:e.1∈(C3 g.vouches (VC o) o.At).es.map (·.1):=EP.2 ⟨e,he,rfl⟩;rw[PM] at hk;split at hk
    .grind [Bj]
    .rcases Jk.1 hk with hk|hk
     .obtain⟨y,hy,h⟩:=EP.1 hk;grind [Bj]
     grind⟩
 .exact hR
theorem lkV(g:Cd)(k:CM)(q:Nat):bL prog [(10+q,some (MZ tMv BW iG g.vouches))] tMv true (.mref (10+q)) (.agg (MJ k))=some (.tup [iG (LF (g.vouches.get k)),bG (g.vouches.get k).isSome]):=(Sx (et:=3) K0 aH (k:=k) rfl (by rw[Q4])).trans (Sc g.vouches k _)
def hmr(c:Nat){P:Br}{σ:aQ}{t:Bo}{gm gk g:G}{i:Nat}{ob:Ob}(h:dZ P σ t gm gk g=some (i,ob)):HP:=⟨some (.e 999999998 (.lit undef) i ob),dZ P (Un σ (fR gm)) t gm gk g=some (i,ob),(ZH Hi).symm.trans h⟩
theorem Amg(g:Cd)(k:CM)(a:Int)(q:Nat):dZ prog [(10+q,some (MZ tMv BW iG g.vouches))] tMv (.mref (10+q)) (.agg (MJ k)) (iG a)=some (10+q,MZ tMv BW iG (C3 g.vouches k a)):=AeH (et:=3) K0 Aku aH rfl (by rw[Q4]) a
theorem Aez(hR:Bj R){o:Bp}(hk:o.Kind=11)(h:1<=o.By/\o.By<=6):Ut gl R o i (XQ R o):=by
 have hok:=Aey hR h;have hrt:bB (iU []):=L7 aC;have a1:decide (o.Kind=1)=false:=by rw[hk];rfl
 have a2:decide (o.Kind=2)=false:=by rw[hk];rfl
 have a3:decide (o.Kind=3)=false:=by rw[hk];rfl
 have a5:decide (o.Kind=5)=false:=by rw[hk];rfl
 have a9:decide (o.Kind=9)=false:=by rw[hk];rfl
 have a11:decide (o.Kind=11)=true:=by rw[hk];rfl
 refine Pt gl hR ?_;have hg:=Tk gl hR o;unfold XQ at hok⊢;unfold C7 at hg;cases hf:R.members.es.find? λe=>Lm e.2.1 o.Of with
 |none=>rw[hf] at hg;exact Hj f0 _ hR [hr 29 a1,hr 52 a2,hr 60 a3,hr 86 a5,hr 102 a9,hr 120 a11,hrr 124 f0 16 [.agg (aJ o)] hR hg] (rlX (f:=f0) (R:=R))
 |some e=>
  have he:=List.mem_of_find?_eq_some hf;have hh:Lm e.2.1 o.Of=true:=by have:=List.find?_some hf;exact this
  obtain⟨hx,h3⟩:=hR.mem he;rw[hf] at hg hok;obtain⟨k,x,n⟩:=e;dsimp only at hx h3 hg hh hok⊢;obtain⟨j,rfl,c⟩:∃j:Nat,k=(j:Int)/\(j=1\/j=2\/j=3):=by grind
  obtain⟨role,gd⟩:=x;cases gd with
  |none=>cases hh
  |some g=>
   dsimp only at hg hok⊢;cases hb:g.guards.any λy=>decide (o.By=y) with
   |false=>rw[hb] at hg;exact Hj f0 _ hR [hr 29 a1,hr 52 a2,hr 60 a3,hr 86 a5,hr 102 a9,hr 120 a11,hrr 124 f0 16 [.agg (aJ o)] hR hg] (rlX (f:=f0) (R:=R))
   |true=>
    rw[hb] at hg hok;rw[Bool.true_and] at hok⊢;have hl:=hl3 c hx;have hlk:=RW hx;have b:=lkV g (VC o) j;have hpv:=Amg g (VC o) o.At j;have d:=hl3 (R:=HD R (j:Int) ⟨role,some (Abo g o)⟩) c (by rw[JD,Bx rfl]);have hs:=hs3 (role:=role) (g:=Abo g o) hx;unfold aah at hok⊢;cases hv:g.vouches.get (VC o) with
    |none=>
     rw[hv] at hok b;rcases c with rfl|rfl|rfl
     all_goals
      refine pO 111121414141414131130 (s0 259 gl (frI 10 hx++[(0,.ref 0 0),(4,.ref 14 0)]) (stT hl++[(14,oOp o),(15,Xc i)]) 16 5) [hr 29 a1,hr 52 a2,hr 60 a3,hr 86 a5,hr 102 a9,hr 120 a11,hrr 124 f0 16 [.agg (aJ o)] hR hg] (rlT ρD f0 hR hl) ?_ (ρ:=ρD) (kd:=Nh)
      exact Hj f0 _ hok [KX 134 hlk,KX 149 b,hmr 17 hpv] (rlU hl d hs)
    |some a=>
     rw[hv] at hok b;dsimp only at hok⊢;cases hat:decide (o.At<a) with
     |true=>
      rw[hat] at hok;rcases c with rfl|rfl|rfl
      all_goals
       refine pO 111121414141414131130 (s0 259 gl (frI 10 hx++[(0,.ref 0 0),(4,.ref 14 0)]) (stT hl++[(14,oOp o),(15,Xc i)]) 16 5) [hr 29 a1,hr 52 a2,hr 60 a3,hr 86 a5,hr 102 a9,hr 120 a11,hrr 124 f0 16 [.agg (aJ o)] hR hg] (rlT ρD f0 hR hl) ?_ (ρ:=ρD) (kd:=Nh)
       exact Hj f0 _ hok [KX 134 hlk,KX 149 b,hr 158 hat,hmr 17 hpv] (rlU hl d hs)
     |false=>
      rcases c with rfl|rfl|rfl
      all_goals
       refine pO 111121414141414131130 (s0 259 gl (frI 10 hx++[(0,.ref 0 0),(4,.ref 14 0)]) (stT hl++[(14,oOp o),(15,Xc i)]) 16 5) [hr 29 a1,hr 52 a2,hr 60 a3,hr 86 a5,hr 102 a9,hr 120 a11,hrr 124 f0 16 [.agg (aJ o)] hR hg] (rlT ρD f0 hR hl) ?_ (ρ:=ρD) (kd:=Nh)
       exact Hj f0 _ hR [KX 134 hlk,KX 149 b,hr 158 hat] (VA hl hrt)
abbrev Amh(o:Bp)(i:Ab):Cd:=⟨i,o.Guards,o.Need,o.Wait,⟨[],0⟩,false,0⟩
def aaj(R:Ad)(o:Bp)(i:Ab):Ad:=match R.members.get (Dq R o.By) with
 |none=>R
 |some x=>HD R (Dq R o.By) ⟨x.role,some (Amh o i)⟩
theorem AeA(hR:Bj R){o:Bp}(hi:i.By=o.By)(hg:o.Guards.length<=1000000)(hn:1<=o.Need/\o.Need<=1000000):Bj (aaj R o i):=by
 unfold aaj;split
 .exact hR
 .rename_i x hx;refine aae hR hx λa h=>?_;cases h;exact⟨(by grind [QI,FxOk]),by show(DS (R.cards.get i.By)).Member=_;rw[hi];rfl,hg,hn,λe he=>by cases he⟩
def fGu(j q:Nat):Nat:=bif Nat.beq q (7+j)then 16 else bif Nat.beq q (10+j)then 17 else q
theorem Aiu{q:Nat}(h1:q≠7+j)(h2:q≠10+j):fGu j q=q:=by grind [fGu,bc]
theorem Akv(a:∀e∈R.members.es,1<=e.1/\e.1<=3)(h3:j=1\/j=2\/j=3)(q:Nat)(h4:q≠4+j)(h7:q≠7+j)(h10:q≠10+j):Bu (fGu j) R q=Bu f0 R q:=by
 rcases HE q 14 with hlt|hge
 rotate_left
 .obtain⟨k,rfl⟩:∃k,q=k+14:=⟨q-14,aa⟩;rfl
 match q,hlt with
 |0,_=>rcases h3 with rfl|rfl|rfl<;>rfl
 |1,_=>rfl
 |2,_=>rfl
 |3,_=>rfl
 |4,_=>show some (⟨_,_,some (.map _ _)⟩:Ob)=some ⟨_,_,some (.map _ _)⟩;grind [List.map_congr_left,nM,Aiu]
 |5,_=>rcases h3 with rfl|rfl|rfl<;>first|exact absurd rfl h4|rfl
 |6,_=>rcases h3 with rfl|rfl|rfl<;>first|exact absurd rfl h4|rfl
 |7,_=>rcases h3 with rfl|rfl|rfl<;>first|exact absurd rfl h4|rfl
 |8,_=>rcases h3 with rfl|rfl|rfl<;>first|exact absurd rfl h7|rfl
 |9,_=>rcases h3 with rfl|rfl|rfl<;>first|exact absurd rfl h7|rfl
 |10,_=>rcases h3 with rfl|rfl|rfl<;>first|exact absurd rfl h7|rfl
 |11,_=>rfl
 |12,_=>rfl
 |13,_=>rfl
abbrev fH{R:Ad}{k:Int}{x:Az}(_:R.members.get k=some x):Nat->Nat:=fGu k.toNat
abbrev rlG{R:Ad}{j:Nat}{x:Az}{g:Cd}(h3:j=1\/j=2\/j=3)(hx:R.members.get (j:Int)=some x)(hok:Bj (HD R (j:Int) ⟨x.role,some g⟩))(hl:∀q∈[eM j x],Bu f0 R q.1=some q.2):List HP:=hc (⟨rfl,L7 aC⟩:iU []=iU []/\bB (iU []))::L0.map λq=>
 if h4:q=4+j then hc (λob h=>(by
  have:=JD (R:=R) (k:=(j:Int)) (x:=⟨x.role,some g⟩) j;rw[Bx rfl] at this;have e:Bu (fGu j) (HD R (j:Int) ⟨x.role,some g⟩) (4+j)=some ⟨tMe,[iG x.role,.ref 16 0],none⟩:=by rcases h3 with rfl|rfl|rfl<;>exact(by show Option.map _ _=_;rw[this];rfl)
  exact e.symm.trans h):∀ob,Bu (fGu j) (HD R (j:Int) ⟨x.role,some g⟩) (4+j)=some ob->some ⟨tMe,[iG x.role,.ref 16 0],none⟩=some ob)
 else if h7:q=7+j then hc (λob h=>(by
  have:=JD (R:=R) (k:=(j:Int)) (x:=⟨x.role,some g⟩) j;rw[Bx rfl] at this;have e:Bu (fGu j) (HD R (j:Int) ⟨x.role,some g⟩) (7+j)=some ⟨tGu,guC (fGu j) j g,none⟩:=by rcases h3 with rfl|rfl|rfl<;>exact(by show Option.map _ (Option.bind _ _)=_;rw[this];rfl)
  exact e.symm.trans h):∀ob,Bu (fGu j) (HD R (j:Int) ⟨x.role,some g⟩) (7+j)=some ob->some ⟨tGu,guC (fGu j) j g,none⟩=some ob)
 else if h10:q=10+j then hc (λob h=>(by
  have:=JD (R:=R) (k:=(j:Int)) (x:=⟨x.role,some g⟩) j;rw[Bx rfl] at this;have e:Bu (fGu j) (HD R (j:Int) ⟨x.role,some g⟩) (10+j)=some (MZ tMv BW iG g.vouches):=by rcases h3 with rfl|rfl|rfl<;>exact(by show Option.map _ (Option.bind _ _)=_;rw[this];rfl)
  exact e.symm.trans h):∀ob,Bu (fGu j) (HD R (j:Int) ⟨x.role,some g⟩) (10+j)=some ob->some (MZ tMv BW iG g.vouches)=some ob)
 else hc (λob h=>(by rw[Akv (λe he=>hok.m3 e he) h3 q h4 h7 h10] at h;exact(YA hl q).trans (Aev hx q h4 (.inl h7) (.inl h10) ob h)):∀ob,Bu (fGu j) (HD R (j:Int) ⟨x.role,some g⟩) q=some ob->tg R [eM j x] q=some ob)
theorem AeB(hR:Bj R){o:Bp}(hk:o.Kind=9)(hi:i.By=o.By)(hgl:o.Guards.length<=1000000)(hn:1<=o.Need/\o.Need<=1000000):Ut gl R o i (aaj R o i):=by
 have hok:=AeA hR (o:=o) hi hgl hn;have a1:decide (o.Kind=1)=false:=by rw[hk];rfl
 have a2:decide (o.Kind=2)=false:=by rw[hk];rfl
 have a3:decide (o.Kind=3)=false:=by rw[hk];rfl
 have a5:decide (o.Kind=5)=false:=by rw[hk];rfl
 have a9:decide (o.Kind=9)=true:=by rw[hk];rfl
 have hcl:=rZ.fo (uK gl (s:=o.Guards) (r:=o.Guards) (by unfold fF aT;rw[Bx (by rw[List.length_nil];omega)];rfl));refine dFP func72 ?_;unfold aaj at hok⊢;cases hx:R.members.get (Dq R o.By) with
 |none=>exact Hj f0 _ hR [hof gl 24 hR o.By 16,KX 25 (Vv hx),hr 29 a1,hr 52 a2,hr 60 a3,hr 86 a5,hr 102 a9] (rlX (f:=f0) (R:=R))
 |some x=>
  rw[hx] at hok;have hlk:=RW hx;obtain⟨j,hj,a⟩:∃j:Nat,Dq R o.By=(j:Int)/\(j=1\/j=2\/j=3):=by have:=Agd hR hx;exact⟨(Dq R o.By).toNat,aa,aa⟩
  rw[hj] at hx hok hlk⊢;have hl:=hl1 a hx;rcases a with rfl|rfl|rfl
  all_goals
   refine pO 11112141414141313 (s0 259 gl (frP 6 hx++[(4,.ref 14 0),(5,.ref 15 0)]) (stT hl++[(14,oOp o),(15,Xc i)]) 16 5) [Aem gl 24 hR hj 16,KX 25 hlk,hr 29 a1,hr 52 a2,hr 60 a3,hr 86 a5,hr 102 a9] (rlT ρD f0 hR hl) ?_ (ρ:=ρD) (kd:=Nh)
   exact Hj (fH hx) _ hok [hf 109 hcl] (rlG BX hx hok hl)
abbrev AeC(R:Ad)(n:Int):Ad:={R with back:=n}
def AaA(R:Ad)(o:Bp):Ad:=bif decide ((R.was.es.length:Int)=0)&&DY R o.By then AeC (I6 R o.By 3) o.Need else R
theorem Agj(hR:Bj R)(n:Int):Bj (AeC R n):=by grind [Bj]
theorem AeD(hR:Bj R)(o:Bp):Bj (AaA R o):=by grind [AaA,Agj,IH]
def Abp(R:Ad)(o:Bp):Bool:=bif Hs R o.Of>0 then(bif OI R o.Old then(bif Dq R o.Old=Hs R o.Of then decide (Dq R o.Device=Hs R o.Of)else false)else false)else false
def aal(R:Ad)(o:Bp):Ad:=bif Abp R o then GV (I6 R o.Device (LW R (Dq R o.Device))) o.Old else R
theorem AeE(hR:Bj R)(o:Bp):Bj (aal R o):=by grind [aal,KE,IH]
abbrev hro(d:Nat){R:Ad}(hR:Bj R)(x:Int)(c:Nat:=14):HP:=hrl d f0 c hR (UE gl R x) Agc (lR _)
theorem AcZ(hR:Bj R){o:Bp}(hk:o.Kind=1):Ut gl R o i (AaA R o):=by
 have hok:=AeD hR o;have a1:decide (o.Kind=1)=true:=by rw[hk];rfl
 refine Pt gl hR ?_;unfold AaA at hok⊢;have hle:decide (((mEs JN bG R.was).length:Int)=0)=decide ((R.was.es.length:Int)=0):=by rw[Hl]
 cases hw:decide ((R.was.es.length:Int)=0) with
 |false=>exact Hj f0 _ hR [hr 29 a1,hr 35 (hle.trans hw)] (rlX (f:=f0) (R:=R))
 |true=>
  rw[hw] at hok;rw[Bool.true_and] at hok⊢;cases hf:DY R o.By with
  |false=>exact Hj f0 _ hR [hr 29 a1,hr 35 (hle.trans hw),hfr gl 40 hR hf 16] (rlX (f:=f0) (R:=R))
  |true=>rw[hf] at hok;exact Hj f16 _ hok [hr 29 a1,hr 35 (hle.trans hw),hfr gl 40 hR hf 16,ZZ 45 f0 16 [iG o.By,iG 3] hR (IH hR _ _) (Vz gl hR o.By 3)] (rlX (f:=f16) (R:=AeC (I6 R o.By 3) o.Need))
theorem Abq(hR:Bj R){o:Bp}(hk:o.Kind=13):Ut gl R o i (aal R o):=by
 have hok:=AeE hR o;have a1:decide (o.Kind=1)=false:=by rw[hk];rfl
 have a2:decide (o.Kind=2)=false:=by rw[hk];rfl
 have a3:decide (o.Kind=3)=false:=by rw[hk];rfl
 have a5:decide (o.Kind=5)=false:=by rw[hk];rfl
 have a9:decide (o.Kind=9)=false:=by rw[hk];rfl
 have a11:decide (o.Kind=11)=false:=by rw[hk];rfl
 have a12:decide (o.Kind=12)=false:=by rw[hk];rfl
 have a13:decide (o.Kind=13)=true:=by rw[hk];rfl
 refine Pt gl hR ?_;have hw:=Aaz gl hR o.Of;have hin:=Agf R o.Old;unfold aal Abp at hok⊢;generalize Hs R o.Of=w at hw hok⊢;cases b1:decide (w>0) with
 |false=>exact Hj f0 _ hR [hr 29 a1,hr 52 a2,hr 60 a3,hr 86 a5,hr 102 a9,hr 120 a11,hr 168 a12,hr 213 a13,hrr 217 f0 16 [.agg (aj o.Of)] hR hw,hr 219 b1] (rlX (f:=f0) (R:=R))
 |true=>
  rw[b1] at hok;cases b2:OI R o.Old with
  |false=>rw[b2] at hin;exact Hj f0 _ hR [hr 29 a1,hr 52 a2,hr 60 a3,hr 86 a5,hr 102 a9,hr 120 a11,hr 168 a12,hr 213 a13,hrr 217 f0 16 [.agg (aj o.Of)] hR hw,hr 219 b1,KX 227 hin] (rlX (f:=f0) (R:=R))
  |true=>
   rw[b2] at hin hok;cases b3:decide (Dq R o.Old=w) with
   |false=>exact Hj f0 _ hR [hr 29 a1,hr 52 a2,hr 60 a3,hr 86 a5,hr 102 a9,hr 120 a11,hr 168 a12,hr 213 a13,hrr 217 f0 16 [.agg (aj o.Of)] hR hw,hr 219 b1,KX 227 hin,hof gl 233 hR o.Old 16,hr 235 b3] (rlX (f:=f0) (R:=R))
   |true=>
    rw[b3] at hok;cases b4:decide (Dq R o.Device=w) with
    |false=>exact Hj f0 _ hR [hr 29 a1,hr 52 a2,hr 60 a3,hr 86 a5,hr 102 a9,hr 120 a11,hr 168 a12,hr 213 a13,hrr 217 f0 16 [.agg (aj o.Of)] hR hw,hr 219 b1,KX 227 hin,hof gl 233 hR o.Old 16,hr 235 b3,hof gl 241 hR o.Device 16,hr 243 b4] (rlX (f:=f0) (R:=R))
    |true=>rw[b4] at hok;have h1:=IH hR o.Device (LW R (Dq R o.Device));exact Hj (fW f16 25) _ hok [hr 29 a1,hr 52 a2,hr 60 a3,hr 86 a5,hr 102 a9,hr 120 a11,hr 168 a12,hr 213 a13,hrr 217 f0 16 [.agg (aj o.Of)] hR hw,hr 219 b1,KX 227 hin,hof gl 233 hR o.Old 16,hr 235 b3,hof gl 241 hR o.Device 16,hr 243 b4,hof gl 252 hR o.Device 16,hro gl 253 hR (Dq R o.Device) 16,ZZ 254 f0 16 [iG o.Device,iG (LW R (Dq R o.Device))] hR h1 (Vz gl hR o.Device (LW R (Dq R o.Device))),ZZ 258 f16 25 [iG o.Old] h1 (KE h1 _) (aad gl h1 o.Old)] (rlX (f:=fW f16 25) (R:=GV (I6 R o.Device (LW R (Dq R o.Device))) o.Old))
end
end Go.Proofs.YtghphhhpagagbaaGreatDoor
