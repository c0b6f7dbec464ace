/- Texts. -/
import Derived.IntWalk
import Derived.Laws.Cover3
import Derived.Laws.IdiomStrings
import Derived.Laws.MakeOwn
import Derived.Lib.AppendStr
import Derived.MapKept
import Derived.Test.YtlimmeehdfbheaaGreatDoorLib
namespace Go.Proofs.YtlimmeehdfbheaaGreatDoor
set_option linter.unusedSectionVars false
set_option linter.unusedVariables false
set_option linter.unusedSimpArgs false
open Go.RowKit Go.Lib
variable {st st':St}{ρ:Dx}{g gk gm:G}{clock i j last n r s since:Nat}{o:Oper}{l' m':Bo}{cx:Cx}{β:Bm}{e kt t t' ty u:Bn}{es:List (Value×G×Nat)}{fr:Fr}{L seen:Bp}{ps:Array Tmp}{d:Option Tmp}{op:BinOp}{x y z:Dl}{pos:String}{af:Array Edge}{gd:Option (Nat×Bool)}{gl:CC}{f fid:FuncId}{ats:Array Bn}{k k':IntKind}{parts:Array (Nat×Dl)}{cs:List Frame}{w:World}{body c:Code}{v vk vm:Value}{S:Ga}{ok:Bool}{vs:Array Value}{P:Br}
def dq(ρ:Dx)(i:Nat):FF:=ρ.lookup i
def Wk(P:Br)(st:St)(ρ:Dx)(g c:G):Prop:=∀cx a w β,Bw P cx st a w β->∀v,RV β (Av cx.S0 β st.σ) w g v->
 RV (λi=>(dq ρ i).bind β) (λb=>cx.S0 b\/∃i j ob C,dq ρ i=some j/\ag st.σ j=some ob/\β j=some (some (b,C))) w c v
theorem FE:Wk P st ρ g .junk:=λ_ _ _ _ _ v _=> .junk v
theorem ry(h:bB g):Wk P st ρ g g:=λcx a w β r v hv=> .imm _ _ ((h _ _ _ _ hv).sub (by grind))
theorem VH{o:Nat}(h:dq ρ i=some j):Wk P st ρ (.ref j o) (.ref i o):=λcx a w β r v hv=>by grind [RV.ref_addr,RV]
theorem SU(h:dq ρ i=some j):Wk P st ρ (.mref j) (.mref i):=λcx a w β r v hv=>by grind [RV.mref_form,RV]
theorem VI(h:dq ρ i=some j):Wk P st ρ (.yld j) (.yld i):=λcx a w β r v hv=>by grind [RV.yld_form,RV]
theorem Ajk(h:dq ρ i=some j):Wk P st ρ (.rsr j n) (.rsl i 0 n):=λcx a w β r v hv=>by grind [RV.rsr_form,RV]
theorem P4{i j o n:Nat}(h:dq ρ i=some j):Wk P st ρ (.rsl j o n) (.rsl i o n):=λcx a w β r v hv=>by grind [RV.rsl_form,RV]
theorem VJ{l:Bo}(hl:l'.length=l.length)(h:∀(i:Nat) (g g':G),l[i]?=some g->l'[i]?=some g'->Wk P st ρ g g'):Wk P st ρ (.agg l) (.agg l'):=λcx a w β r v hv=>by
 obtain⟨us,rfl,h2,h1,hr⟩:=hv.agg_form;refine .agg _ _ aa h1 λi g u hg hu=>?_;have hlt:=(cr hg).1;have hx:l[i]?=some (l[i]'aa):=by grind
 exact h i _ g hx hg cx a w β r u (by grind)
theorem VK{l:Bo}(hl:l'.length=l.length)(h:∀(i:Nat) (g g':G),l[i]?=some g->l'[i]?=some g'->Wk P st ρ g g'):Wk P st ρ (.tup l) (.tup l'):=λcx a w β r v hv=>by
 obtain⟨us,rfl,h2,hr⟩:=hv.tup_form;refine .tup _ _ aa λi g u hg hu=>?_;have hlt:=(cr hg).1;have hx:l[i]?=some (l[i]'aa):=by grind
 exact h i _ g hx hg cx a w β r u (by grind)
theorem VL{fn:Fn}{l m:Bo}(hl:l'.length=l.length)(hm:m'.length=m.length)(h:∀(i:Nat) (g g':G),l[i]?=some g->l'[i]?=some g'->Wk P st ρ g g')(h':∀(i:Nat) (g g':G),m[i]?=some g->m'[i]?=some g'->Wk P st ρ g g'):Wk P st ρ (.clo fn l m) (.clo fn l' m'):=λcx a w β r v hv=>by
 obtain⟨fs,cs,rfl,h1,h2,h3,h4⟩:=hv.clo_form;refine .clo _ _ _ _ _ aa aa (λi g u hg hu=>?_) (λi g u hg hu=>?_)
 .have hlt:=(cr hg).1;have hx:l[i]?=some (l[i]'aa):=by grind
  exact h i _ g hx hg cx a w β r u (by grind)
 .have hlt:=(cr hg).1;have hx:m[i]?=some (m[i]'aa):=by grind
  exact h' i _ g hx hg cx a w β r u (by grind)
theorem BS{st:St}{ρ:Dx}{i o n s:Nat}{ob:Ob}(hk:∀p∈ρ,p.2≠i)(ho:ag st.σ i=some ob)(hs:bw P ob.t=some s)(hle:o+n*s<=ob.l.length)(h:∀g∈ob.l,bB g):Wk P st ρ (.rsl i o n) (.sl ((ob.l.drop o).take (n*s)) n):=λcx a w β r v hv=>by
 have hav:∀b C,β i=some (some (b,C))->¬(cx.S0 b\/∃k j c D,dq ρ k=some j/\ag st.σ j=some c/\β j=some (some (b,D))):=by
  rintro b C hb (hx|⟨k,j,c,D,h1,h2,h3⟩)
  .grind
  .have:=r.inj i j ob c b C D ho h2 hb h3;subst this;unfold dq at h1;rw[List.lookup_eq_some_iff] at h1;obtain⟨l1,l2,rfl,_⟩:=h1;exact hk (k,i) aC rfl
 rcases hv.rsl_form with⟨hb,rfl,rfl⟩|⟨b,C,d,cap,hb,rfl,hn,hm,ho',hC⟩
 .have:(ob.l.drop o).take (0*s)=[]:=aC;rw[this];exact .imm _ _ (.sl [] 0 none 0 (λ_=>undef) (C6 _) (Nat.zero_le _) aC aC aC)
 .obtain⟨us,hc⟩:=(r.ob i ob ho).cells hb;have hl:((ob.l.drop o).take (n*s)).length=n*s:=by simp;omega
  refine .imm _ _ (.sl _ n _ cap (λj=>us (o+j)) hn hm (λj hj=>?_) (λj hj=>hc.2.1 _ aa) (λj f hg'=>?_))
  .have hpos:0<n:=by grind
   have e:=ho' aa;subst e;have:=hc.1 (d+j) aa;grind [Bw.lt]
  .have hlt:=(cr hg').1;rw[List.getElem?_take,Bx aa,List.getElem?_drop] at hg';have:=(h f (bO hg') _ _ _ _ (hc.2.2 _ _ hg'));grind [IV.sub]
def J6(P:Br)(st:St)(ρ:Dx)(fr:Fr):Prop:=∀d,Wk P st ρ (aD st.fr d) (aD fr d)
theorem P5{ob:Ob}{a:Act}{w:World}(r:Bw P cx st a w β)(hk:∀p∈ρ,p.2≠i)(ho:ag st.σ i=some ob){b C:Nat}(hb:β i=some (some (b,C))):¬(cx.S0 b\/∃k j c D,dq ρ k=some j/\ag st.σ j=some c/\β j=some (some (b,D))):=by
 rintro(hx|⟨k,j,c,D,h1,h2,h3⟩)
 .grind
 .have:=r.inj i j ob c b C D ho h2 hb h3;subst this;unfold dq at h1;rw[List.lookup_eq_some_iff] at h1;obtain⟨l1,l2,rfl,_⟩:=h1;exact hk (k,i) aC rfl
theorem J7{o:Nat}{ob:Ob}{l:Bo}(hk:∀p∈ρ,p.2≠i)(ho:ag st.σ i=some ob)(hl:l.length=ob.l.length)(h:∀(j:Nat) (g c:G),ob.l[j]?=some g->l[j]?=some c->Wk P st ρ g c)(hi:∀g∈l,bB g):Wk P st ρ (.ref i o) (.ptr l o):=λcx a w β r v hv=>by
 obtain⟨b,C,hb,rfl⟩:=hv.ref_addr;obtain⟨us,hc⟩:=(r.ob i ob ho).cells hb;have:=IV.ptr (S:=λb=>cx.S0 b\/∃i j ob C,dq ρ i=some j/\ag st.σ j=some ob/\β j=some (some (b,C))) (w:=w) l o b 0 us (P5 r hk ho hb) (r.lt ho hb) (λj hj=>hc.1 j aa) (λj hj=>hc.2.1 j aa) (λj c hg'=>by
  have hlt:=(cr hg').1;have hx:ob.l[j]?=some (ob.l[j]'aa):=by grind
  exact hi c (bO hg') _ _ _ _ (h j _ c hx hg' cx a w β r _ (hc.2.2 _ _ hx)))
 grind [RV]
theorem HO{l:Bo}(hk:∀p∈ρ,p.2≠i)(ho:ag st.σ i=some ⟨t,l,some (.map es clock)⟩)(hi:∀e∈es,bB e.2.1):Wk P st ρ (.mref i) (.mp (es.map (·.1)) (es.map (·.2.1)) (es.map (·.2.2)) clock):=λcx a w β r v hv=>by
 obtain⟨b,C,hb,rfl⟩:=hv.mref_form;rcases r.ob i _ ho with⟨_,_,h3⟩|⟨b',x,o,h1,h2,h3,h4,h5⟩|⟨b',C',cur,h1,_⟩
 .grind
 .cases h1;have c:=hb;rw[h3] at hb;cases hb;obtain⟨ents,rfl,e2,e3⟩:=h5;have hav:=P5 r hk ho c;refine .imm _ _ (.mp _ _ _ _ _ ents hav (r.lt ho c) h4 (by simp[e2]) ?_ ?_ λj g e hg he=>?_)
  .apply List.ext_getElem?;grind
  .apply List.ext_getElem?;grind
  .rw[Nh,DG] at hg;obtain⟨⟨k,f,n⟩,hj,rfl⟩:=hg;obtain⟨e',h6,h7,h8,h9⟩:=e3 j k f n hj;rw[he] at h6;cases h6;refine(hi _ (bO hj) _ _ _ _ h9).sub λb' _ hb'=>?_;rcases hb' with hb'|⟨m,h,d,C',_,h1',h2'⟩
   .exact .inl hb'
   .exact .inr ⟨h,d,C',h1',h2'⟩
 .cases h1
theorem HQ{st:St}:J6 P st ρ []:=λd=>FE
theorem NF{d:Nat}(h:Wk P st ρ (aD st.fr d) g)(hr:J6 P st ρ fr):J6 P st ρ ((d,g)::fr):=λi=>by
 rw[aO];split
 .subst_vars;exact h
 .exact hr i
def Xk(P:Br)(st:St)(ρ:Dx)(x c:Q5):Prop:=∀cx a w β,Bw P cx st a w β->∀o,XO β (Av cx.S0 β st.σ) w x o->
 XO (λi=>(dq ρ i).bind β) (λb=>cx.S0 b\/∃i j ob C,dq ρ i=some j/\ag st.σ j=some ob/\β j=some (some (b,C))) w c o
def aak(P:Br)(st:St)(ρ:Dx):Option Q5->Option Q5->Prop
 |none,none=>True
 |some x,some x'=>Xk P st ρ x x'/\(x= .resv->x'= .resv)
 |_,_=>False
theorem SV{es':List (Value×G×Nat)}(hl:es'.length=es.length)(h:∀(j:Nat) (k k':Value) (g g':G) (n n':Nat),es[j]?=some (k,g,n)->es'[j]?=some (k',g',n')->k'=k/\n'=n/\Wk P st ρ g g'):Xk P st ρ (.map es clock) (.map es' clock):=λcx a w β r o ho=>by
 obtain⟨ents,h1,h2,h3⟩:=ho;refine⟨ents,h1,aa,λj k g n hj=>?_⟩;have hlt:=(cr hj).1;obtain⟨⟨b,g0,c⟩,hx⟩:∃q,es[j]?=some q:=by grind
 obtain⟨e,e1,e2,e3,e4⟩:=h3 j b g0 c hx;obtain⟨rfl,rfl,hw⟩:=h j b k g0 g c n hx hj;exact⟨e,e1,e2,e3,hw cx a w β r _ e4⟩
theorem P6(h:dq ρ i=some j):Xk P st ρ (.iter (some j) since seen last) (.iter (some i) since seen last):=λcx a w β r o ho=>by
 obtain⟨c,h1,h2⟩:=ho;rcases h2 with⟨h2,_⟩|⟨d,b,C,h3,h4,h5⟩
 .cases h2
 .cases h3;exact⟨c,h1,(by grind)⟩
theorem P7{s:LoopState}{pe:Option Code}{fr':Fr}{az9 bd:Code}(h:∀d,Wk P st ρ (aD fr d) (aD fr' d)):Xk P st ρ (.loop s pe n fr ps az9 bd) (.loop s pe n fr' ps az9 bd):=λcx a w β r o ho=>by obtain⟨fn,tmps,D,h1,h2,h3⟩:=ho;exact⟨fn,tmps,D,h1,h2,λj=>h j cx a w β r _ (h3 j)⟩
def Dp(P:Br)(st:St)(ρ:Dx)(σ:aQ):Prop:=∀i a,ag σ i=some a->∃j ob,dq ρ i=some j/\ag st.σ j=some ob/\a.t=ob.t/\a.l.length<=ob.l.length/\(ob.l=[]->a.l=[])/\(∀(k:Nat) (g g':G),ob.l[k]?=some g->a.l[k]?=some g'->Wk P st ρ g g')/\aak P st ρ ob.x a.x
theorem BT:Dp P st ρ []:=λi ob h=>by cases h
theorem xP{i j:Nat}{ob:Ob}{l:Bo}{σ:aQ}(h1:dq ρ i=some j)(h2:ag st.σ j=some ob)(hx:ob.x=none)(ht:t=ob.t)(hl:l.length<=ob.l.length)(h:∀(k:Nat) (g g':G),ob.l[k]?=some g->l[k]?=some g'->Wk P st ρ g g')(hr:Dp P st ρ σ):Dp P st ρ ((i,some ⟨t,l,none⟩)::σ):=λk a hk=>by
 rw[A3] at hk;split at hk
 .cases hk;subst_vars;exact⟨j,ob,h1,h2,rfl,hl,λe=>(by simp_all),h,by rw[hx];trivial⟩
 .exact hr k a hk
theorem J8{ob:Ob}{x x':Q5}{σ:aQ}(h1:dq ρ i=some j)(h2:ag st.σ j=some ob)(hx:ob.x=some x)(ht:t=ob.t)(h:Xk P st ρ x x')(hv:x≠ .resv)(hr:Dp P st ρ σ):Dp P st ρ ((i,some ⟨t,[],some x'⟩)::σ):=λk a hk=>by
 rw[A3] at hk;split at hk
 .cases hk;subst_vars;exact⟨j,ob,h1,h2,rfl,aC,λ_=>rfl,aC,by rw[hx];exact⟨h,(by grind)⟩⟩
 .exact hr k a hk
theorem P8{l:Bo}(h:∀g∈l,bB g):∀(k:Nat) (g g':G),l[k]?=some g->l[k]?=some g'->Wk P st ρ g g':=by grind [ry]
theorem Bw.weaken{st st':St}(ρ:Dx)(hn:st'.n=st.n)(hgl:st'.gl=st.gl)(hp:st'.p=st.p)(e:∀i,i<st.p->dq ρ i=some i)(hinj:∀i f j,dq ρ i=some j->dq ρ f=some j->i=f)(hc:∀p∈ρ,p.1<st'.c)(hfr:J6 P st ρ st'.fr)(hst:Dp P st ρ st'.σ)(hrr:st'.r=st.r){cx:Cx}{a:Act}{w:World}{β:Bm}(h:Bw P cx st a w β):Bw P cx st' a w (λi=>(dq ρ i).bind β):=by
 have hav:∀b,Av cx.S0 (λi=>(dq ρ i).bind β) st'.σ b->(cx.S0 b\/∃i j ob C,dq ρ i=some j/\ag st.σ j=some ob/\β j=some (some (b,C))):=by
  rintro b (hb|⟨i,d,C,h1,h2⟩)
  .exact .inl hb
  .obtain⟨j,ob,h3,h4,_⟩:=hst i d h1;grind
 have hbind:∀i b C,((dq ρ i).bind β)=some (some (b,C))->∃j,dq ρ i=some j/\β j=some (some (b,C)):=by grind [GJ]
 have same:∀i d,ag st'.σ i=some d->∀b C,((dq ρ i).bind β)=some (some (b,C))->∃j ob,dq ρ i=some j/\ag st.σ j=some ob/\β j=some (some (b,C)):=by intro i d hi b C hb;obtain⟨j,ob,h3,h4,_⟩:=hst i d hi;grind
 exact{
  size:=h.size.trans hn.symm
  defers:=h.defers
  loose:=h.loose
  rnd:=by grind
  fr:=λi=>(hfr i cx a w β h _ (h.fr i)).step (by grind) (by grind) (Bc.refl _ _)
  ob:=λi d hi=>by
   obtain⟨j,ob,h3,h4,h5,h6,h7,h8,h9⟩:=hst i d hi;rcases h.ob j ob h4 with⟨e1,e2,e0⟩|⟨b,x,o,e0,e1,e2,e3,e4⟩|⟨b,C,cur,e0,e1,e2,e3,e4,e5,e6⟩
   .refine .inl ⟨by simp[h3,e1],h7 e2,?_⟩;rcases e0 with e0|e0
    .rw[e0] at h9;cases hx:d.x with
     |none=>exact .inl rfl
     |some x=>rw[hx] at h9;exact h9.elim
    .rw[e0] at h9;cases hx:d.x with
     |none=>grind
     |some x=>rw[hx] at h9;exact .inr (by rw[h9.2 rfl])
   .rw[e0] at h9;cases hx:d.x with
    |none=>rw[hx] at h9;exact h9.elim
    |some x'=>rw[hx] at h9;exact .inr (.inl ⟨b,x',o,hx,h7 e1,by simp[h3,e2],e3,(h9.1 cx a w β h o e4).step (by grind) (by grind) (Bc.refl _ _)⟩)
   .have e0':d.x=none:=by
     rw[e0] at h9;cases hx:d.x with
     |none=>rfl
     |some x=>rw[hx] at h9;exact h9.elim
    refine .inr (.inr ⟨b,C,cur,e0',by simp[h3,e1],by grind,by grind,e4,aa,λk g hg'=>?_⟩);have hlt:=(cr hg').1;have hx:ob.l[k]?=some (ob.l[k]'aa):=by grind
    obtain⟨u,hu,h1',hr⟩:=e6 k _ hx;exact⟨u,hu,h1',(h8 k _ g hx hg' cx a w β h u hr).step (by grind) (by grind) (Bc.refl _ _)⟩
  inj:=by grind
  own:=by grind
  sep:=by grind
  fresh:=by grind [dq]
  glob:=by grind [IV.sub]
  keep:=h.keep
  old:=h.old
  pin:=by grind}
theorem NG(ρ:Dx)(hn:st'.n=st.n)(hgl:st'.gl=st.gl)(hp:st'.p=st.p)(b:∀i,i<st.p->dq ρ i=some i)(hinj:∀i d j,dq ρ i=some j->dq ρ d=some j->i=d)(hc:∀p∈ρ,p.1<st'.c)(hfr:J6 P st ρ st'.fr)(hst:Dp P st ρ st'.σ)(hrr:st'.r=st.r:=by rfl):Le P st st':=by rintro cx a w ⟨β,h⟩;exact⟨_,h.weaken ρ hn hgl hp b hinj hc hfr hst hrr⟩
section
variable {P:Br} {rr:Bool}
def DE(P:Br)(op:BinOp)(t:Bn)(x y:Dl)(gx gy:G):Option G:=match cD gx,cD gy with
 |some u,some v=>(bt P (do eqGuard op t x y u v;binOp op t u v)).map db
 |_,_=>none
theorem dd{α β:Type}{p:Br}:∀(s:Sem α) (f:α->Sem β),bt p (s>>=f)=(bt p s).bind λa=>bt p (f a)
 | .pure a,f=>rfl
 | .program k,f=>dd (k p) f
 | .load ..,f| .store ..,f| .new ..,f| .shape ..,f| .freeze ..,f| .frozen ..,f| .getObj ..,f| .setObj ..,f
 | .choose ..,f| .sys ..,f| .mark ..,f| .halt ..,f=>rfl
theorem rA{ρ:Dl->G}{σ:aQ}:aX P ρ σ ⟨d,.binOp op t x y t',ty,pos,af,gd⟩=DE P op t x y (ρ x) (ρ y):=by
 simp only[aX,gJ,DE];cases hx:cD (ρ x) with
 |none=>simp[Op.operands,hx]
 |some u=>
  cases hy:cD (ρ y) with
  |none=>simp[Op.operands,hx,hy]
  |some v=>
   simp only[Op.operands,execOp,hx,hy,Nt];rw[Bx (by simp[hx,hy])];have e:=dd (p:=P) (do eqGuard op t x y u v;binOp op t u v:Sem Value) (λr=>(pure (Next.value r):Sem Next));rw[e];cases bt P (do eqGuard op t x y u v;binOp op t u v) with
   |none=>rfl
   |some r=>rfl
theorem bz{α:Type}{p:Br}(a:α):bt p (pure a:Sem α)=some a:=rfl
section
variable {t:Bn} {x y:Dl} {k:IntKind} {a b:Int}
theorem VM:DE P .add t x y (.lit (.int k a)) (.lit (.int k b))=some (.lit (.int k (k.wrap (a+b)))):=by simp[DE,cD,eqGuard,binOp,Op.intArith,bz,db]
theorem VN:DE P .sub t x y (.lit (.int k a)) (.lit (.int k b))=some (.lit (.int k (k.wrap (a-b)))):=by simp[DE,cD,eqGuard,binOp,Op.intArith,bz,db]
theorem VO:DE P .mul t x y (.lit (.int k a)) (.lit (.int k b))=some (.lit (.int k (k.wrap (a*b)))):=by simp[DE,cD,eqGuard,binOp,Op.intArith,bz,db]
theorem VP:DE P .lss t x y (.lit (.int k a)) (.lit (.int k b))=some (.lit (.bool (decide (a<b)))):=by simp[DE,cD,eqGuard,binOp,Op.intCmp,bz,db]
theorem VQ:DE P .leq t x y (.lit (.int k a)) (.lit (.int k b))=some (.lit (.bool (decide (a<=b)))):=by simp[DE,cD,eqGuard,binOp,Op.intCmp,bz,db]
theorem VR:DE P .gtr t x y (.lit (.int k a)) (.lit (.int k b))=some (.lit (.bool (decide (b<a)))):=by simp[DE,cD,eqGuard,binOp,Op.intCmp,bz,db]
theorem VS:DE P .geq t x y (.lit (.int k a)) (.lit (.int k b))=some (.lit (.bool (decide (b<=a)))):=by simp[DE,cD,eqGuard,binOp,Op.intCmp,bz,db]
theorem VT:DE P .eql t x y (.lit (.int k a)) (.lit (.int k b))=some (.lit (.bool (decide (a=b)))):=by
 have e:(a==b)=decide (a=b):=by rw[Bool.eq_iff_iff];simp
 simp[DE,cD,eqGuard,binOp,Op.intCmp,bz,db,<-e]
theorem VU:DE P .neq t x y (.lit (.int k a)) (.lit (.int k b))=some (.lit (.bool (decide (a≠b)))):=by
 have e:(a !=b)=decide (a≠b):=by rw[Bool.eq_iff_iff];simp
 rw[<-e];simp[DE,cD,eqGuard,binOp,Op.intCmp,bz,db]
theorem VV(h:b≠0):DE P .quo t x y (.lit (.int k a)) (.lit (.int k b))=some (.lit (.int k (k.wrap (a.tdiv b)))):=by simp[DE,cD,eqGuard,binOp,Op.intDiv,bz,db,h]
theorem VW(h:b≠0):DE P .rem t x y (.lit (.int k a)) (.lit (.int k b))=some (.lit (.int k (a.tmod b))):=by simp[DE,cD,eqGuard,binOp,Op.intDiv,bz,db,h]
end
section
variable {ρ:Dl->G} {σ:aQ} {d:Option Tmp} {ty t:Bn} {x y z:Dl} {pos:String} {af:Array Edge} {gd:Option (Nat×Bool)} {n k:Nat}
def HS(k:Nat):G->Option G
 | .tup l=>l[k]?
 |_=>none
theorem J9:aX P ρ σ ⟨d,.extract x k,ty,pos,af,gd⟩=HS k (ρ x):=rfl
theorem Ka:aX P ρ σ ⟨d,.call {callee:= .builtin .len,args:= #[x],argTypes:= #[t]},ty,pos,af,gd⟩=if(dp P t).isSome then(HK (ρ x)).map λn=> .lit (.int .i64 n)else gJ P ρ ⟨d,.call {callee:= .builtin .len,args:= #[x],argTypes:= #[t]},ty,pos,af,gd⟩:=rfl
end
theorem w64{x:Int}(h: -9223372036854775808<=x/\x<=9223372036854775807):IntKind.i64.wrap x=x:=IntWalk.i64_in x h
theorem wu8{x:Int}(h:0<=x/\x<=255):IntKind.u8.wrap x=x:=IntWalk.u8_in x h
abbrev gB(b:Bool):G:= .lit (.bool b)
end
theorem SX{fn:Fn}{l m:Bo}(hl:l'.length=l.length)(hm:m'.length=m.length)(h:∀(i:Nat) (g g':G),l[i]?=some g->l'[i]?=some g'->ve P st g g')(h':∀(i:Nat) (g g':G),m[i]?=some g->m'[i]?=some g'->ve P st g g'):ve P st (.clo fn l m) (.clo fn l' m'):=λcx a w β r v hv=>by
 obtain⟨fs,cs,rfl,h1,h2,h3,h4⟩:=hv.clo_form;refine .clo _ _ _ _ _ aa aa (λi g u hg hu=>?_) (λi g u hg hu=>?_)
 .have hlt:=(cr hg).1;have hx:l[i]?=some (l[i]'aa):=by grind
  exact h i _ g hx hg cx a w β r u (by grind)
 .have hlt:=(cr hg).1;have hx:m[i]?=some (m[i]'aa):=by grind
  exact h' i _ g hx hg cx a w β r u (by grind)
def GG(β:Bm)(σ:aQ)(b:Nat):Prop:=∃i ob C,ag σ i=some ob/\β i=some (some (b,C))
structure RS (P:Br) (β:Bm) (S:Ga) (σ:aQ) (w:World):Prop where
 ob:∀i o,ag σ i=some o->RO P β (Av S β σ) w i o
 inj:∀i j o o' b C D,ag σ i=some o->ag σ j=some o'->β i=some (some (b,C))->β j=some (some (b,D))->i=j
 sep:∀i o b C,ag σ i=some o->β i=some (some (b,C))->¬S b
structure AcO (P:Br) (w:World) (β:Bm) (S:Ga) (σ0:aQ) (p:Nat) (r:G) (σ1:aQ) (v:Value) (w':World) (β':Bm):Prop where
 pin:∀i,i<p->β' i=β i
 rs:RS P β' S σ1 w'
 old:∀b,GG β' σ1 b->GG β σ0 b\/w.heap.size<=b
 val:RV β' (Av S β' σ1) w' r v
 keep:Bc (GG β σ0) w w'
def OU(P:Br)(gl:CC)(f:FuncId)(gs:Bo)(σ0:aQ)(c0 p:Nat)(r:G)(σ1:aQ):Prop:=
 ∀(w:World) (β:Bm) (S:Ga) (vs:Array Value),(∀b,S b->b<w.heap.size)->(∀i,c0<=i->β i=none)->Gls gl (Av S β σ0) w->RS P β S σ0 w->vs.size=gs.length->(∀(i:Nat) (g:G) (u:Value),gs[i]?=some g->vs[i]?=some u->RV β (Av S β σ0) w g u)->
  Calls P f vs w λe w'=>∃v a,e= .returned v/\AcO P w β S σ0 p r σ1 v w' a
def zE(P:Br)(fn:Func)(r:G)(σ1:aQ)(e:Exit)(st:St):Prop:=
 (e= .normal\/e= .ret)/\∃gs ρ,fn.results.toList.mapM (jV P st)=some gs/\(∀i,i<st.p->dq ρ i=some i)/\(∀i a j,dq ρ i=some j->dq ρ a=some j->i=a)/\Wk P st ρ (iU gs) r/\Dp P st ρ σ1
theorem mP{fn:Func}{a':Act}{w':World}(hr:Bw P cx st' a' w' β){gs':Bo}(hgs:fn.results.toList.mapM (jV P st')=some gs'):∃v,(results fn a'.tmps).run P w'= .ok v w'/\RV β (Av cx.S0 β st'.σ) w' (iU gs') v:=by
 obtain⟨us,b,hl,a⟩:=BR hr _ _ hgs;refine⟨if h:us.toArray.size=1 then us.toArray[0]else .tuple us.toArray,?_,?_⟩
 .unfold results;rw[Array.mapM_eq_mapM_toList];simp only[Fa,Sem.run_map];erw[b];rfl
 .match gs',us,hl,a with
  |[],[],_,_=>exact .tup _ _ rfl aC
  |[g],[u],_,a=>exact a 0 g u rfl rfl
  |g::g'::gr,u::u'::ur,hl,a=>exact .tup _ _ (by grind) (by grind)
theorem Ee{fn:Func}{c:Code}{gs:Bo}{σ0 σ1:aQ}{c0 p:Nat}{r:G}(hf:P.funcs[f]?=some fn)(hb:fn.body=some c)(hn:gs.length<=fn.ntmps)(hp:∀i,i<p->∃ob,ag σ0 i=some ob)(h:Tr P c ⟨fn.ntmps,gl,bQ 0 gs,σ0,c0,p,false⟩ (zE P fn r σ1)):OU P gl f gs σ0 c0 p r σ1:=by
 intro w β S vs hS hβ hG hR hsz s;have hlive:∀i o,ag σ0 i=some o->∃x,β i=some x:=by grind [RS,RO.at]
 refine rq (cx:=⟨w,GG β σ0,S,λi=>if i<p then β i else none,Fence.wide,9⟩) hf hb h rfl rfl ⟨β,?_⟩ ?_
 .constructor<;>try grind [D7.nil,lP,RS.ob,RS.inj,RS.sep,Bc.refl]
  .exact λ_=>rfl
  .exact λi=>by
    show RV _ _ w (aD (bQ 0 gs) i) _;rw[px];simp only[Nat.zero_le,if_true,Nat.sub_zero];cases hg:gs[i]? with
    |none=>exact .junk _
    |some g=>
     have hlt:=(cr hg).1;have hu:vs[i]?=some (vs[i]'aa):=by grind
     have e:(vs++Array.replicate (fn.ntmps-vs.size) undef).getD i undef=vs[i]'aa:=by rw[Array.getD_eq_getD_getElem?,Array.getElem?_append_left aa,hu];rfl
     grind
  .exact λi o b C ho hb=> .inl ⟨i,o,C,ho,hb⟩
  .exact hG
 .rintro e st' a' w' ⟨he,t,ρ,hgs,d,hinj,hw,hst⟩ ⟨l,hr⟩;obtain⟨v,hres,hv⟩:=mP hr hgs;have hp':∀i,i<p->i<st'.p/\l i=β i:=by grind
  obtain⟨c',k⟩:∃c',∀q∈ρ,q.1<c':=by refine⟨(ρ.map (·.1)).foldr (λa b=>max (a+1) b) 0,λq hq=>?_⟩;clear hinj hw hst d;induction ρ<;>grind
  have hw':=Bw.weaken (st:=st') (st':=⟨st'.n,st'.gl,[],σ1,c',st'.p,st'.r⟩) ρ rfl rfl rfl d hinj k HQ hst rfl hr;have hpost:AcO P w β S σ0 p r σ1 v w' (λi=>(dq ρ i).bind l):={
   pin:=by grind
   rs:=⟨hw'.ob,hw'.inj,hw'.sep⟩
   old:=by rintro b ⟨i,ob,C,ho,hb⟩;grind
   val:=(hw _ _ _ l hr v hv).step (by grind) (λb _ hb=>by
    rcases hb with hb|⟨i,m,C,h1,h2⟩
    .exact .inl hb
    .obtain⟨j,ob,h3,h4,_⟩:=hst i m h1;grind) (Bc.refl _ _)
   keep:=hr.keep}
  grind
def Vw(P:Br)(st:St)(ρ:Dx)(L:Bp)(g c:G):Prop:=∀cx a w β,Bw P cx st a w β->∀v,RV β (Av cx.S0 β st.σ) w g v->
 RV (λi=>(dq ρ i).bind β) (λb=>cx.S0 b\/∃i ob C,ag st.σ i=some ob/\β i=some (some (b,C))/\i∉L) w c v
theorem FG(h:bB g):Vw P st ρ L g g:=λcx a w β r v hv=> .imm _ _ ((h _ _ _ _ hv).sub (by grind))
theorem VY{i j o n:Nat}(h:dq ρ i=some j):Vw P st ρ L (.rsl j o n) (.rsl i o n):=λcx a w β r v hv=>by grind [RV.rsl_form,RV]
def SY(P:Br)(st:St)(ρ:Dx)(L:Bp)(σ0:aQ):Prop:=∀i a,ag σ0 i=some a->∃j ob,dq ρ i=some j/\j∉L/\ag st.σ j=some ob/\a.t=ob.t/\a.l.length<=ob.l.length/\(ob.l=[]->a.l=[])/\(ob.x=none/\a.x=none)/\∀(k:Nat) (g g':G),ob.l[k]?=some g->a.l[k]?=some g'->Vw P st ρ L g g'
theorem BY:SY P st ρ L []:=λi ob h=>by cases h
theorem NH{i j:Nat}{ob:Ob}{l:Bo}{σ:aQ}(h1:dq ρ i=some j)(hL:j∉L)(h2:ag st.σ j=some ob)(hx:ob.x=none)(ht:t=ob.t)(hl:l.length<=ob.l.length)(h:∀(k:Nat) (g g':G),ob.l[k]?=some g->l[k]?=some g'->Vw P st ρ L g g')(hr:SY P st ρ L σ):SY P st ρ L ((i,some ⟨t,l,none⟩)::σ):=λk a hk=>by
 rw[A3] at hk;split at hk
 .cases hk;subst_vars;exact⟨j,ob,h1,hL,h2,rfl,hl,λe=>(by simp_all),⟨hx,rfl⟩,h⟩
 .exact hr k a hk
def Rn(ρ:Dx)(g a:G):Prop:=∀(β β1:Bm) (S:Ga) w v,RV β1 S w g v->RV (λk=>match dq ρ k with|some i=>β1 i|none=>β k) S w a v
theorem FH(h:bB g):Rn ρ g g:=λβ a S w v hv=> .imm _ _ (h _ _ _ _ hv)
theorem BZ{k o:Nat}(h:dq ρ k=some i):Rn ρ (.rsl i o n) (.rsl k o n):=λβ a S w v hv=>by grind [RV.rsl_form,RV]
theorem VZ{l:Bo}(hl:l'.length=l.length)(h:∀(i:Nat) (g g':G),l[i]?=some g->l'[i]?=some g'->Rn ρ g g'):Rn ρ (.agg l) (.agg l'):=λβ a S w v hv=>by
 obtain⟨us,rfl,h2,h1,hr⟩:=hv.agg_form;refine .agg _ _ aa h1 λi g u hg hu=>?_;have hlt:=(cr hg).1;have hx:l[i]?=some (l[i]'aa):=by grind
 exact h i _ g hx hg β a S w u (by grind)
def aam(st:St)(c b:Dx)(L:Bp)(σ1 σ':aQ):Prop:=∀k a,ag σ' k=some a->
 (∃i ob,dq b k=some i/\ag σ1 i=some ob/\a.t=ob.t/\a.l.length<=ob.l.length/\(ob.l=[]->a.l=[])/\(ob.x=none/\a.x=none)/\∀(x:Nat) (g g':G),ob.l[x]?=some g->a.l[x]?=some g'->Rn b g g')\/
 (dq b k=none/\ag st.σ k=some a/\k∉c.map (·.2)/\k∉L)
theorem Mc(h:dq ρ i=some j):j∈ρ.map (·.2):=by grind [dq,List.lookup_eq_some_iff]
theorem fj{i j:Nat}(h:dq ρ i=some j):(i,j)∈ρ:=by grind [dq,List.lookup_eq_some_iff]
theorem B1{f:Dl}{xs:Array Dl}{fst cap gs:Bo}{r r':G}{σ0 σ1 σ':aQ}{c0 p c':Nat}(s m:Dx)(L:Bp)
  (ho:o.op= .call {callee:= .value f,args:=xs,argTypes:=ats}) (hd:LS o st.n) (hf:aB st f= .clo (.func fid) fst cap) (hc:aK P fid=true)
  (hF:OU P st.gl fid gs σ0 c0 p r σ1) (hl:gs.length=(fst++xs.toList.map (aB st)++cap).length) (hi:∀(i:Nat) (g B:G),(fst++xs.toList.map (aB st)++cap)[i]?=some g->gs[i]?=some B->Vw P st s L g B)
  (W:∀i F j,dq s i=some j->dq s F=some j->i=F) (hc0:∀q∈s,q.1<c0) (t:SY P st s L σ0)
  (hcc:st.c<=c') (Y:∀k i,dq m k=some i->k<st.c->i<p/\dq s i=some k) (X:∀k k' i,dq m k=some i->dq m k'=some i->k=k') (J:∀q∈m,q.1<c') (I:aam st s m L σ1 σ') (hr:Rn m r r'):
  GS P o st ({st with σ:=σ',c:=c'}.put o.dst r'):=by
 intro cx a w K R ⟨β,h⟩ hK
 obtain⟨vs,hrun,hsz,hv⟩:=lQ h ho hf hc
 refine h.loose.oper (λc hc=>by rw[ho] at hc;cases hc) ?_
 unfold Oper.wp
 rw[hrun]
 let βc:Bm:=λi=>(dq s i).bind β
 let S:Ga:=λb=>cx.S0 b\/∃i ob C,ag st.σ i=some ob/\β i=some (some (b,C))/\i∉s.map (·.2)/\i∉L
 have hlivc:∀b,GG βc σ0 b->∃j ob C,j∈s.map (·.2)/\j∉L/\ag st.σ j=some ob/\β j=some (some (b,C)):=by rintro b ⟨i,d,C,h1,h2⟩;obtain⟨j,ob,h3,h4,h5,_⟩:=t i d h1;grind [Mc]
 have hsub:∀b,Av S βc σ0 b->cx.S0 b\/∃i ob C,ag st.σ i=some ob/\β i=some (some (b,C))/\i∉L:=by
  rintro b ((hb|⟨i,ob,C,h1,h2,_,h3⟩)|hb)
  .exact .inl hb
  .grind
  .obtain⟨j,ob,C,_,h2,h3,h4⟩:=hlivc b hb;grind
 have hsubA:∀b,Av S βc σ0 b->Av cx.S0 β st.σ b:=by grind
 have hSlt:∀b,S b->b<w.heap.size:=by grind [Bw.lt]
 have hRS:RS P βc S σ0 w:={
  ob:=λi d h1=>by
   obtain⟨j,ob,h3,h4,h5,h6,h7,h8,⟨N,hx2⟩,h9⟩:=t i d h1;rcases h.ob j ob h5 with⟨e1,e2,_⟩|⟨b,x',o',hx',_⟩|⟨b,C,cur,_,e1,e2,e3,e4,e5,e6⟩
   .exact .inl ⟨by show(dq s i).bind β=_;rw[h3];exact e1,h8 e2,.inl hx2⟩
   .grind
   .refine .inr (.inr ⟨b,C,cur,hx2,by grind,by grind,by grind,e4,aa,λk B hg'=>?_⟩);have hlt:=(cr hg').1;have hx:ob.l[k]?=some (ob.l[k]'aa):=by grind
    obtain⟨u,hu,h1',hr⟩:=e6 k _ hx;exact⟨u,hu,h1',(h9 k _ B hx hg' cx a w β h u hr).step (λ_ _ x=>x) (λb _ hb=>hsub b hb) (Bc.refl _ _)⟩
  inj:=λi F y O b C D h1 h2 h3 h4=>by obtain⟨j,ob,e1,_,e3,_⟩:=t i y h1;obtain⟨j',d,f1,_,H,_⟩:=t F O h2;grind
  sep:=λi y b C h1 h2 hb=>by obtain⟨j,ob,e1,e2,e3,_⟩:=t i y h1;grind [Mc]}
 refine(hF w βc S vs hSlt (λi hi=>?_) (λg l hl=>(h.glob g l hl).sub λb _ hb=>hsubA b hb) hRS aa (λi g u hg hu=>?_)).mono ?_
 .grind [dq]
 .have hlt:=(cr hg).1
  have hx:(fst++xs.toList.map (aB st)++cap)[i]?=some ((fst++xs.toList.map (aB st)++cap)[i]'aa):=by rw[EA]
  exact(hi i _ g hx hg cx a w β h u (hv i _ u hx hu)).step (λ_ _ x=>x) (λb _ hb=>hsub b hb) (Bc.refl _ _)
 .rintro e w' ⟨v,z,rfl,M⟩
  refine hK _ _ ⟨λk=>match dq m k with|some i=>z i|none=>β k,?_⟩
  have hext:∀k x,β k=some x->(match dq m k with|some i=>z i|none=>β k)=some x:=by grind [AcO.pin]
  have hkp:Bc (Av cx.S0 β st.σ) w w':=M.keep.mono λb _ hb=>by obtain⟨j,ob,C,_,_,h3,h4⟩:=hlivc b hb;exact .inr ⟨j,ob,C,h3,h4⟩
  have hnew:∀k d b C,ag σ' k=some d->(match dq m k with|some i=>z i|none=>β k)=some (some (b,C))->
    (∃i ob,dq m k=some i/\ag σ1 i=some ob/\z i=some (some (b,C)))\/(dq m k=none/\ag st.σ k=some d/\k∉s.map (·.2)/\k∉L/\β k=some (some (b,C))):=by
   intro k d b C hk hb
   rcases I k d hk with⟨i,ob,h1,h2,_⟩|⟨h1,h2,h3,h4⟩
   all_goals grind
  have hAv:∀b,Av cx.S0 (λk=>match dq m k with|some i=>z i|none=>β k) σ' b->Av S z σ1 b:=by grind
  have hAo:∀b,b<w.heap.size->Av cx.S0 (λk=>match dq m k with|some i=>z i|none=>β k) σ' b->Av cx.S0 β st.σ b:=by
   intro b hlt hb;rcases hAv b hb with(hb|⟨i,ob,C,h1,h2,_⟩)|hb
   .exact .inl hb
   .grind
   .rcases M.old b hb with hb|hb
    all_goals grind
  have hmid:Bw P cx {st with σ:=σ',c:=c'} a w' (λk=>match dq m k with|some i=>z i|none=>β k):={
   size:=h.size
   defers:=h.defers.keep M.keep (λD hD hx=>by obtain⟨j,ob,C,_,_,h3,h4⟩:=hlivc D hx;exact h.not_marks h3 h4 hD)
   loose:=h.loose
   rnd:=h.rnd
   fr:=λi=>(h.fr i).step hext hAo hkp
   ob:=λk d hk=>by
    rcases I k d hk with⟨i,ob,h1,h2,h3,h4,h5,h6⟩|⟨h1,h2,h3,h4⟩
    .obtain⟨⟨N,hx2⟩,h6⟩:=h6;rcases M.rs.ob i ob h2 with⟨e1,e2,_⟩|⟨b,x',o',hx',_⟩|⟨b,C,cur,_,e1,e2,e3,e4,e5,e6⟩
     .exact .inl ⟨by simp only[h1];exact e1,h5 e2,.inl hx2⟩
     .grind
     .refine .inr (.inr ⟨b,C,cur,hx2,by grind,by grind,by grind,e4,aa,λx B hg'=>?_⟩);have hlt:=(cr hg').1;have hx:ob.l[x]?=some (ob.l[x]'aa):=by grind
      obtain⟨u,hu,h1',Q⟩:=e6 x _ hx;exact⟨u,hu,h1',(h6 x _ B hx hg' β z _ _ u Q).step (λ_ _ x=>x) (λb _ hb=>hAv b hb) (Bc.refl _ _)⟩
    .refine(h.ob k d h2).step hext hAo hkp (λb C hb=>M.keep.block b (h.lt h2 hb) (λhx=>?_));obtain⟨j,ob,D,f1,_,H,Z⟩:=hlivc b hx;have:=h.inj j k ob d b D C H h2 Z hb;subst this;exact h3 f1
   inj:=λk k' y O b C D h1 h2 h3 h4=>by
    rcases hnew k y b C h1 h3 with⟨i,ob,e1,e2,e3⟩|⟨e1,e2,e3,e4,e5⟩<;>rcases hnew k' O b D h2 h4 with⟨F,d,f1,f2,H⟩|⟨f1,f2,H,Z,f5⟩
    .grind [AcO,RS.inj]
    .exfalso;rcases M.old b ⟨i,ob,C,e2,e3⟩ with hb|hb
     .obtain⟨j,A,E,g1,_,U,V⟩:=hlivc b hb;grind [Bw.inj]
     grind
    .exfalso;rcases M.old b ⟨F,d,D,f2,H⟩ with hb|hb
     .obtain⟨j,A,E,g1,_,U,V⟩:=hlivc b hb;grind [Bw.inj]
     grind
    grind
   own:=λk y b C h1 h3=>by
    rcases hnew k y b C h1 h3 with⟨i,ob,e1,e2,e3⟩|⟨e1,e2,e3,e4,e5⟩
    .rcases M.old b ⟨i,ob,C,e2,e3⟩ with hb|hb
     all_goals grind
    grind
   sep:=λk y b C h1 h3=>by
    rcases hnew k y b C h1 h3 with⟨i,ob,e1,e2,e3⟩|⟨e1,e2,e3,e4,e5⟩
    .exact λhx=>M.rs.sep i ob b C e2 e3 (.inl hx)
    .exact h.sep k y b C e2 e5
   fresh:=λk hk=>by
    have hk':c'<=k:=hk;cases hr1:dq m k with
    |none=>simp only[];exact h.fresh k aa
    |some i=>have:=J _ (fj hr1);simp at this;omega
   glob:=λg l hl=>(h.glob g l hl).step hAo hkp
   keep:=h.keep.then M.keep (λb hb hx=>by
    obtain⟨j,A,E,g1,_,U,V⟩:=hlivc b hx;rcases h.own j A b E U V with h1|h1
    .exact h1
    .omega)
   old:=h.old
   pin:=λi x hx=>⟨(h.pin i x hx).1,hext i x (h.pin i x hx).2⟩}
  exact hmid.put o.dst hd ((hr β z _ _ v M.val).step (λ_ _ x=>x) (λb _ hb=>hAv b hb) (Bc.refl _ _))
section
variable {P:Br} {rr:Bool}
theorem uI(w:World)(t u ty e:Bn)(i:TypeInfo)(ht:P.underlying t=some (.slice e))(hu:P.underlying u=some .string)(hi:P.info? e=some i)(hz:i.zero=some (.int .u8 0))
  (hsize:i.size=1) (hby:i.bytes=1) (v:Value) (n:Nat) (xs:List Value) (hown:w.ownsRow 0 e 1 v n xs) (s:ByteArray) (b:n+s.size<=maxLen) (a:n+s.size<=140737488355328):
  ∃v' w',(Builtin.append_ #[t,u] ty #[v,.string s]).run P w= .ok v' w'/\w'.ownsRow 0 e 1 v' (n+s.size) (xs++strCells s)/\w.grownBy w' v.ownBlock/\(v'.ownBlock=v.ownBlock\/v'.ownBlock=some w.heap.size):=by
 obtain⟨v',w',hrun,ho,hg,k⟩:=run_append_own_string (P:=P) w 0 t u ty e i ht hu hi hz hsize hby v n xs hown s b a (Nat.zero_le _)
 refine⟨v',w',hrun,ho,hg,?_⟩
 have hsmall:n+s.size<=9223372036854775807:=by grind
 have hxl:xs.length=n:=by simpa using hown.1
 rcases hown.2 with⟨rfl,rfl⟩|⟨g,cap,cur,rfl,l,f,m,o,hcs,h⟩
 .by_cases hm:s.size=0
  .grind
  .have hr:=run_append_nil_string (P:=P) w t u ty e i (.int .u8 0) ht hu hi hz s aa aa (by rw[hby];omega)
   rw[hrun] at hr
   injection hr with e1 e2
   subst e1
   right;rfl
 .by_cases hroom:n+s.size<=cap
  .have hcs':cur.size=cap:=by grind
   have hr:=run_append_room_string (P:=P) w t u ty e i ht hu hi hsize g n cap cur f s hroom aa
   rw[hrun] at hr
   injection hr with e1 e2
   subst e1
   left;rfl
  .have holds:∀j u,xs[j]?=some u->w.cell? ((⟨g,0,none⟩:Addr).add j)=some u:=hown.cells (g:=g) rfl
   have hr:=run_append_grow_string (P:=P) w t u ty e i (.int .u8 0) ht hu hi hz ⟨g,0,none⟩ n cap xs (by rw[hsize];simpa using hxl) holds s aa aa (by rw[hby];exact growslice_fits aa aa)
   rw[hrun] at hr
   injection hr with e1 e2
   subst e1
   right;rfl
def xR(P:Br)(t:Bn):Option IntKind:=(P.underlying t).bind fun| .int k=>some k|_=>none
def nu(P:Br)(t:Bn):Bool:=(P.underlying t) matches some .string
theorem oo(h:xR P t=some k):P.underlying t=some (.int k):=by grind [xR,GJ]
theorem oq(h:nu P t=true):P.underlying t=some .string:=by grind [nu]
abbrev gY(b:UInt8):G:= .lit (.int .u8 (b.toNat:Int))
def Kb(l:CO):G:= .sl (l.map gY) l.length
theorem Kc{pl:FF}{l:Bo}{s:CO}(ho:o.op= .call {callee:= .builtin .append,args:= #[x,y],argTypes:= #[t,u]})(hd:LS o st.n)
  (he:dp P t=some e) (hu:nu P u=true) (hs:bw P e=some 1) (hz:(P.info? e).bind (·.zero)=some (.int .u8 0)) (hby:(P.info? e).map (·.bytes)=some 1)
  (hx:xO st.σ st.c e 1 (aB st x)=some (i,n,l)) (hy:aB st y= .lit (.string ⟨s.toArray⟩)) (f:n+s.length<=140737488355328) (hpl:zB st pl):
  GS P o st ({st with σ:=(iT st pl,some ⟨e,l++s.map gY,none⟩)::(i,none)::st.σ,c:=ZS st pl}.put o.dst (.rsl (iT st pl) 0 (n+s.length))):=by
 intro cx a w K R ⟨β,h⟩ q
 obtain⟨g,hi⟩:∃g,P.info? e=some g:=by
  cases hi:P.info? e with
  |none=>rw[hi] at hz;cases hz
  |some g=>exact⟨g,rfl⟩
 have ht:=cE he
 have hsize:g.size=1:=by simp[bw,hi] at hs;exact hs
 have hbytes':g.bytes=1:=by rw[hi] at hby;simpa using hby
 have hz':g.zero=some (.int .u8 0):=by rw[hi] at hz;simpa using hz
 have hyv:a.eval y= .string ⟨s.toArray⟩:=by have:=h.ev y;rw[hy] at this;exact this.lit_eq
 have hsz:(⟨s.toArray⟩:ByteArray).size=s.length:=by simp[ByteArray.size]
 have hsc:strCells ⟨s.toArray⟩=s.map λb=>Value.int .u8 (b.toNat:Int):=by simp[strCells]
 have hnr:Rw β (Av cx.S0 β st.σ) w (s.map gY) (s.map λb=>Value.int .u8 (b.toNat:Int)):=by
  have:=Rw.lits (β:=β) (S:=Av cx.S0 β st.σ) (w:=w) (zs:=s.map λb=>Value.int .u8 (b.toNat:Int)) (λv hv=>by simp only[E7] at hv;obtain⟨b,_,rfl⟩:=hv;rfl)
  rw[IX] at this;exact this
 obtain⟨v',w',hrun,k⟩:=yP h hs (h.ev x) hx aC hnr (m:=s.length) (X:=λv' w'=>(execOp a.eval o).run P w= .ok (.value v') w') (λv' w' hr=>Ep _ _ _ _ _ hr) (λxs hown=>by obtain⟨v',w',j,h2,h3,h4⟩:=uI (P:=P) w t u o.type e g ht (oq hu) hi hz' hsize hbytes' (a.eval x) n xs hown ⟨s.toArray⟩ (by rw[hsz];unfold maxLen;omega) (by rw[hsz];exact f);rw[hsz,hsc] at h2;refine⟨v',w',?_,h2,h3,h4⟩;unfold execOp;simp only[ho,resolve,invoke,builtin,Fa,HR,Fj,List.map_toArray,Fo,List.map_nil,hyv,j]) hd hpl
 refine h.loose.oper (λc hc=>by rw[ho] at hc;cases hc) ?_
 unfold Oper.wp
 rw[hrun]
 exact q _ _ k
theorem Kd{s:CO}(ho:o.op= .convert t u x)(hd:LS o st.n)(hs:nu P t=true)(hu:dp P u=some e)(he:xR P e=some .u8)(hx:aB st x= .lit (.string ⟨s.toArray⟩))(hl:s.length<=maxLen):
  GS P o st (st.put o.dst (Kb s)):=by
 intro cx a w K R ⟨β,h⟩ f
 have hv:a.eval x= .string ⟨s.toArray⟩:=by have:=h.ev x;grind [RV.lit_eq]
 have hsz:(⟨s.toArray⟩:ByteArray).size=s.length:=by simp[ByteArray.size]
 have hr:=run_bytes_of_string (P:=P) w t u e ⟨s.toArray⟩ (oq hs) (cE hu) (oo he)
 have hrun:(execOp a.eval o).run P w= .ok (.value (.slice (some ⟨w.heap.size,0,none⟩) s.length (grownCap w s.length 0 e))) (w.drew.alloc (.cells (bytesRow ⟨s.toArray⟩ (grownCap w s.length 0 e)) e ((bytesRow ⟨s.toArray⟩ (grownCap w s.length 0 e)).size,(bytesRow ⟨s.toArray⟩ (grownCap w s.length 0 e)).size+1))):=by grind [execOp,Fa,Fj,HR]
 refine h.loose.oper (by grind) ?_
 unfold Oper.wp
 rw[hrun]
 have hk:Bc (λ_=>False) w (w.drew.alloc (.cells (bytesRow ⟨s.toArray⟩ (grownCap w s.length 0 e)) e ((bytesRow ⟨s.toArray⟩ (grownCap w s.length 0 e)).size,(bytesRow ⟨s.toArray⟩ (grownCap w s.length 0 e)).size+1))):=((Bc.refl _ _).drew).alloc _
 refine f _ _ ⟨β,(h.world hk).put o.dst hd (.imm _ _ ?_)⟩
 have hAv:¬Av cx.S0 β st.σ w.heap.size:=by
  rintro(hb|⟨i,ob,C,h1,h2⟩)
  .grind
  .have:=h.lt h1 h2;omega
 have hmap:∀(i:Nat) (hi:i<s.length),(bytesRow ⟨s.toArray⟩ (grownCap w s.length 0 e))[i]?=some (.int .u8 ((s.getD i 0).toNat:Int)):=by grind [bytesRow]
 refine .sl _ _ _ _ (λi=> .int .u8 ((s.getD i 0).toNat:Int)) (grownCap_ge w s.length 0 e) (grownCap_le_maxLen w s.length 0 e hl) (λi hi=>⟨w.heap.size,0,rfl,hAv,aC,?_⟩) (λ_ _=>rfl) (λi g hg=>?_)
 .have hi':i<s.length:=by grind
  have:=World.cell?_alloc_mark w.drew (bytesRow ⟨s.toArray⟩ (grownCap w s.length 0 e)) e ((bytesRow ⟨s.toArray⟩ (grownCap w s.length 0 e)).size,(bytesRow ⟨s.toArray⟩ (grownCap w s.length 0 e)).size+1) (0+i)
  simp_all
 .rw[Nh] at hg
  obtain⟨b,hb,rfl⟩:=DG.1 hg
  have:s.getD i 0=b:=by grind
  rw[this]
  exact .lit _
theorem HT{s:CO}(ho:o.op= .convert t u x)(hd:LS o st.n)(ht:dp P t=some e)(he:xR P e=some .u8)(hu:nu P u=true)(hx:fO st.σ 1 (aB st x)=some (s.map gY,s.length)):GS P o st (st.put o.dst (.lit (.string ⟨s.toArray⟩))):=by
 intro cx a w K R ⟨β,h⟩ k;obtain⟨A,c,f,hv,hnl,hnr,g⟩:=xN h (h.ev x) hx;have hns:f=s.map λb=>Value.int .u8 (b.toNat:Int):=by
  apply List.ext_getElem?;intro i;by_cases hi:i<s.length
  .have h1:f[i]?=some (f[i]'(by rw[hnl];omega)):=EA _;have:=hnr.2.2 i (gY s[i]) _ (by simp[hi]) h1;grind [RV.lit_eq]
  grind
 have hconv:(convert t u (.slice A s.length c)).run P w= .ok (.string ⟨s.toArray⟩) w:=by
  cases A with
  |none=>
   have h0:s=[]:=by
    cases s with
    |nil=>rfl
    |cons b r=>obtain⟨a',ha,_⟩:=g 0 (.int .u8 (b.toNat:Int)) (by rw[hns];rfl);cases ha
   subst h0;rw[run_convert_bytes_string w t u e none _ c (cE ht) (oo he) (oq hu)];simp[Conv.bytesToString];rfl
  |some a0=>refine run_convert_bytes_back w t u e a0 c s (cE ht) (oo he) (oq hu) (λj hj=>?_);obtain⟨a',ha,hc⟩:=g j (.int .u8 (s[j].toNat:Int)) (by rw[hns];simp[hj]);cases ha;exact hc
 have hrun:(execOp a.eval o).run P w= .ok (.value (.string ⟨s.toArray⟩)) w:=by grind [execOp,Fa,Fj,HR]
 refine h.loose.oper (λc hc=>by rw[ho] at hc;cases hc) ?_;unfold Oper.wp;rw[hrun];exact k _ _ ⟨β,h.put o.dst hd (.imm _ _ (.lit _))⟩
theorem jq{d:TypeDesc}(h:P.underlying t=some d):bt P (underlying t)=some d:=by unfold underlying;show bt P (match P.underlying t with|some d=>pure d|none=>stuck "no such type")=_;rw[h];rfl
theorem SZ{ρ:Dl->G}{σ:aQ}{s:Bn}{a:IntKind}{n:Int}(hx:ρ x= .lit (.int k n))(hs:xR P s=some a)(ht:xR P t=some k'):aX P ρ σ ⟨d,.convert s t x,ty,pos,af,gd⟩=some (.lit (.int k' (k'.wrap n))):=by
 have h1:=oo hs;have h2:=oo ht;have hc:bt P (convert s t (.int k n))=some (.int k' (k'.wrap n)):=by unfold convert;rw[dd,jq h1,aL,dd,jq h2,aL];rfl
 simp only[aX,gJ];rw[Bx (by simp[Op.operands,hx,cD])];simp only[execOp,hx,cD,Nt];have e:=dd (p:=P) (convert s t (.int k n)) (λr=>(pure (Next.value r):Sem Next));rw[e,hc];rfl
theorem V0{ρ:Dl->G}{σ:aQ}{m n:Int}(hx:ρ x= .lit (.int k m))(hy:ρ y= .lit (.int k' n)):
  aX P ρ σ ⟨d,.call {callee:= .builtin .min,args:= #[x,y],argTypes:=ats},ty,pos,af,gd⟩=some (.lit (.int k (if n<m then n else m))):=by
 simp only[aX,gJ]
 rw[Bx (by simp[Op.operands,Call.operands,hx,hy,cD])]
 simp only[execOp,resolve,hx,hy,cD,Nt,List.map_toArray,Fo,List.map_nil]
 rfl
theorem V1{ρ:Dl->G}{σ:aQ}{m n:Int}(hx:ρ x= .lit (.int k m))(hy:ρ y= .lit (.int k' n)):
  aX P ρ σ ⟨d,.call {callee:= .builtin .max,args:= #[x,y],argTypes:=ats},ty,pos,af,gd⟩=some (.lit (.int k (if n>m then n else m))):=by
 simp only[aX,gJ]
 rw[Bx (by simp[Op.operands,Call.operands,hx,hy,cD])]
 simp only[execOp,resolve,hx,hy,cD,Nt,List.map_toArray,Fo,List.map_nil]
 rfl
theorem S3{ρ:Dl->G}{σ:aQ}{s:ByteArray}(hx:ρ x= .lit (.string s))(ht:nu P t=true):
  aX P ρ σ ⟨d,.call {callee:= .builtin .len,args:= #[x],argTypes:= #[t]},ty,pos,af,gd⟩=some (.lit (.int .i64 s.size)):=by
 have h1:=oq ht
 have he:dp P t=none:=by simp[dp,h1]
 rw[Ka,he]
 simp only[Option.isSome_none,Bool.false_eq_true,if_false,gJ]
 rw[Bx (by simp[Op.operands,Call.operands,hx,cD])]
 have hl:bt P (Builtin.len_ #[t] ty #[.string s])=some (.int .i64 s.size):=by unfold Builtin.len_;show bt P (underlying t>>=_)=_;rw[dd,jq h1,aL];rfl
 simp only[execOp,resolve,hx,cD,Nt,List.map_toArray,Fo,List.map_nil,invoke,builtin]
 have e:=dd (p:=P) (Builtin.len_ #[t] ty #[.string s]) (λr=>(pure (Next.value r):Sem Next))
 show(match bt P (Builtin.len_ #[t] ty #[.string s]>>=λr=>(pure (Next.value r):Sem Next)) with|some (.value v)=>some (db v)|_=>none)=_
 rw[e,hl]
 rfl
section
variable {ops:Array Oper} {K:St->Prop} {ty:Bn} {pos:String} {af:Array Edge} {rest:It} {n:Nat} {gl:CC} {fr:Fr} {σ:aQ} {c p d fid:Nat} {xs:Array Dl} {ats:Array Bn}
def iV(P:Br)(gl:CC)(f:FuncId)(gs:Bo)(t:Bn)(n:Nat)(l:Bo):Prop:=OU P gl f gs [] 0 0 (.rsl 0 0 n) [(0,some ⟨t,l,none⟩)]
end
def Yd(P:Br)(t:Bn)(m:Nat)(a:List (Nat×G)):Option (Bn×Bo):=
 (dp P t).bind λe=>(bw P e).bind λs=>(jj P e).bind λzs=>if zs.length=s/\m*s<=16777216/\m<=1000000 then(RG (λi=>some (i*s,s)) ((bN zs (m*s)).map .lit) a).map λl=>(e,l)else none
theorem P9{pl:FF}{m:Nat}{l:Bo}(ho:o.op= .buildSlice t m parts)(hd:LS o st.n)(hg:Yd P t m (parts.toList.map λp=>(p.1,aB st p.2))=some (e,l))(hpl:zB st pl):GS P o st (st.newP pl o.dst e l (.rsl (iT st pl) 0 m)):=by
 simp only[Yd,GJ] at hg;obtain⟨e',he,s,hs,zs,hz,hg⟩:=hg;split at hg
 .rename_i hc;simp only[DG,Gb] at hg;obtain⟨a,hl,rfl,rfl⟩:=hg;exact BP ho hd he hs hz hc.1 hc.2.1 hc.2.2 hl hpl
 .cases hg
def wu(P:Br)(σ:aQ)(c:Nat)(t:Bn)(gx gy:G):Option (Bn×Nat×Nat×Bo):=
 (
  dp P t).bind λe=>(bw P e).bind λs=>(jj P e).bind λzs=>((P.info? e).map (·.bytes)).bind λb=>(xO σ c e s gx).bind λ(i,n,l)=>(fO σ s gy).bind λ(news,m)=>
  if 0<s/\zs.length=s/\n+m<=9223372036854775807/\(n+m)*b<=140737488355328 then some (e,i,n+m,l++news)else none
section
variable {ops:Array Oper} {K:St->Prop} {ty:Bn} {pos:String} {af:Array Edge} {rest:It} {n:Nat} {gl:CC} {fr:Fr} {σ:aQ} {c p d j:Nat} {bars:Bp}
theorem Yf{st1:St}(hg:o.guard=none)(hs:GS P o st st1)(h:D8 P ops K rest st1):D8 P ops K (o::rest) st:= .inl ⟨by simp[ce,hg],_,hs,h⟩
theorem NI(hg:uH P t (parts.toList.map λq=>(q.1,aB ⟨n,gl,fr,σ,c,p,rr⟩ q.2))=some g)(hd:d<n)(h:D8 P ops K rest ⟨n,gl,(d,g)::fr,σ,c,p,rr⟩):
  D8 P ops K (⟨some d,.build t parts,ty,pos,af,none⟩::rest) ⟨n,gl,fr,σ,c,p,rr⟩:=Yf rfl (BO rfl (λ_ e=>by cases e;exact hd) hg) h
def Qa(P:Br)(s t:Bn):G->Option G
 | .lit (.int _ n)=>(xR P s).bind λ_=>(xR P t).bind λk=>some (.lit (.int k (k.wrap n)))
 |_=>none
def Qb:G->G->Option G
 | .lit (.int k m),.lit (.int _ n)=>some (.lit (.int k (if n<m then n else m)))
 |_,_=>none
def Qc:G->G->Option G
 | .lit (.int k m),.lit (.int _ n)=>some (.lit (.int k (if n>m then n else m)))
 |_,_=>none
def Qd(P:Br)(t:Bn):G->Option G
 | .lit (.string s)=>if nu P t=true then some (.lit (.int .i64 s.size))else none
 |_=>none
theorem Qe{ρ:Dl->G}{d:Option Tmp}{s ty:Bn}{pos:String}{af:Array Edge}(h:Qa P s t (ρ x)=some g):aX P ρ σ ⟨d,.convert s t x,ty,pos,af,gd⟩=some g:=by
 unfold Qa at h;split at h
 .rename_i k n hx;simp only[GJ] at h;obtain⟨a,h1,k',h2,h3⟩:=h;rw[SZ hx h1 h2];exact h3
 .cases h
theorem S4{ρ:Dl->G}{d:Option Tmp}{ty:Bn}{pos:String}{af:Array Edge}(h:Qb (ρ x) (ρ y)=some g):aX P ρ σ ⟨d,.call {callee:= .builtin .min,args:= #[x,y],argTypes:=ats},ty,pos,af,gd⟩=some g:=by
 unfold Qb at h;split at h
 .rename_i hx hy;rw[V0 hx hy];exact h
 .cases h
theorem S5{ρ:Dl->G}{d:Option Tmp}{ty:Bn}{pos:String}{af:Array Edge}(h:Qc (ρ x) (ρ y)=some g):aX P ρ σ ⟨d,.call {callee:= .builtin .max,args:= #[x,y],argTypes:=ats},ty,pos,af,gd⟩=some g:=by
 unfold Qc at h;split at h
 .rename_i hx hy;rw[V1 hx hy];exact h
 .cases h
theorem Qf{ρ:Dl->G}{d:Option Tmp}{ty:Bn}{pos:String}{af:Array Edge}(h:Qd P t (ρ x)=some g):aX P ρ σ ⟨d,.call {callee:= .builtin .len,args:= #[x],argTypes:= #[t]},ty,pos,af,gd⟩=some g:=by
 unfold Qd at h;split at h
 .rename_i s hx;split at h
  .rename_i ht;rw[S3 hx ht];exact h
  .cases h
 .cases h
def S6(P:Br)(t:Bn)(g:G):Option Bo:=(dH g).bind λl=>(bw P t).bind λs=>if l.length=s then some l else none
def FJ(P:Br)(t:Bn):Option Bo:=(jj P t).bind λzs=>(bw P t).bind λs=>if zs.length=s then some (zs.map .lit)else none
def FK(P:Br)(σ:aQ)(t:Bn)(gx gy:G):Option (Nat×Ob):=match gx with
 | .ref i k=>(ag σ i).bind λob=>(dH gy).bind λl=>(bw P t).bind λs=>if l.length=s/\k+s<=ob.l.length/\ob.x.isNone=true then some (i,⟨ob.t,ob.l.take k++l++ob.l.drop (k+s),none⟩)else none
 |_=>none
theorem Qg{ob:Ob}(ho:o.op= .store t x y)(hd:LS o st.n)(hg:FK P st.σ t (aB st x) (aB st y)=some (i,ob)):GS P o st ({st with σ:=(i,some ob)::st.σ}.put o.dst (.lit undef)):=by
 unfold FK at hg;split at hg
 .rename_i b k hx;simp only[GJ] at hg;obtain⟨a,h1,l,h2,s,h3,hg⟩:=hg;split at hg
  .rename_i hc;simp only[Ft,Gb] at hg;obtain⟨rfl,rfl⟩:=hg;exact P3 ho hd hx h1 (Option.isNone_iff_eq_none.1 hc.2.2) h2 h3 hc.1 hc.2.1
  .cases hg
 .cases hg
end
theorem NJ{fn:Func}{cd:Code}{gs:Bo}{m:Nat}{l:Bo}(hf:P.funcs[f]?=some fn)(hb:fn.body=some cd)(hn:gs.length<=fn.ntmps)(h:Tr P cd (St.enter fn gl gs) (zE P fn (.rsl 0 0 m) [(0,some ⟨t,l,none⟩)])):iV P gl f gs t m l:=
 Ee hf hb hn (λi hi=>aa) h
theorem aan{fn:Func}{m:Nat}{l:Bo}{u:Tmp}(hp:st.p=0)(h:fn.results= #[.tmp u])(hv:aD st.fr u= .rsl i 0 m)(ho:ag st.σ i=some ⟨t,l,none⟩)(hl:∀g∈l,bB g){e:Exit}(he:e= .normal\/e= .ret):zE P fn (.rsl 0 0 m) [(0,some ⟨t,l,none⟩)] e st:=
 ⟨he,[.rsl i 0 m],[(0,i)],by rw[h];simp[jV,hv],λk hk=>aa,λa b j h1 h2=>by have a1:=fj h1;have a2:=fj h2;simp at a1 a2;omega,P4 (by simp[dq]),xP (j:=i) (by simp[dq]) ho rfl rfl (C6 _) (P8 hl) BT⟩
theorem iV.fn{gl:CC}{f:FuncId}{gs:Bo}{t:Bn}{m s:Nat}{l:Bo}(h:iV P gl f gs t m l)(hs:bw P t=some s)(hl:l.length=m*s)(hi:∀g∈l,bB g):ba P gl f gs (.sl l m):=by
 intro w S vs hS hG hsz a;have hav:∀b,Av S (λ_=>none) [] b->S b:=by
  rintro b (hx|⟨i,ob,C,ho,_⟩)
  .exact hx
  .cases ho
 refine(h w (λ_=>none) S vs hS (λ_ _=>rfl) (λg l hl=>(hG g l hl).sub λb _ hb=>hav b hb) ⟨λi o ho=>(by cases ho),λi j o k b C D hi=>(by cases hi),λi o b C hi=>(by cases hi)⟩ hsz (λi g u hg hu=> .imm _ _ ((a i g u hg hu).sub λb _ hb=>hav b hb))).mono ?_;rintro e w' ⟨v,r,rfl,M⟩;have hk:Bc (λ_=>False) w w':=M.keep.mono λb _ hb=>by obtain⟨i,ob,C,ho,_⟩:=hb;cases ho
 refine⟨v,rfl,?_,hk⟩;have hv:=M.val;have ho:ag [((0:Nat),some (⟨t,l,none⟩:Ob))] 0=some ⟨t,l,none⟩:=rfl;rcases hv.rsl_form with⟨hb,rfl,rfl⟩|⟨b,C,k,cap,hb,rfl,hn,hm,ho',hC⟩
 .have:l=[]:=List.eq_nil_of_length_eq_zero (by simpa using hl);subst this;exact .sl [] 0 none 0 (λ_=>undef) (C6 _) (Nat.zero_le _) aC aC aC
 .obtain⟨us,hc⟩:=(M.rs.ob 0 _ ho).cells hb;have hlt:b<w'.heap.size:=by
   rcases(M.rs.ob 0 _ ho).at with h1|⟨b',C',cur,h1,h2,_⟩
   .rw[h1] at hb;cases hb
   .rw[h1] at hb;cases hb;exact(Array.getElem?_eq_some_iff.1 h2).1
  refine .sl l m _ cap us hn hm (λj hj=>?_) (λj hj=>hc.2.1 _ hj) (λj q hg'=>?_)
  .have e:=(hC rfl).2;subst e;exact⟨b,0,rfl,M.rs.sep 0 _ b C ho hb,hlt,by have:=hc.1 j hj;rw[Nat.zero_add] at this⊢;exact this⟩
  .exact(hi q (bO hg') _ _ _ _ (hc.2.2 _ _ hg')).sub λb' _ hb'=> .inl hb'
end
theorem iv{b:Frame}{a:Act}{k:List Item}:step P (lone (b.atR a (.code (.scope c)::k)) cs w)= .next (lone (b.atR a (.code c:: .inScope c::k)) cs w):=
 step_lone_go (by simp[stepG,stepG.exec,Frame.atR])
theorem Dj{b:Frame}{a:Act}{k:List Item}:step P (lone (b.atR a (.inScope c::k)) cs w)= .next (lone (b.atR a k) cs w):=
 step_lone_go (by simp[stepG,stepG.exec,Frame.atR])
def A4:Exit->Bool
 | .goto _=>true
 |_=>false
theorem zy{F:Fence}{Q:Exit->Act->World->Prop}{a:Act}(h:c.wpIn F n P (λe a w=>A4 e=false/\Q e a w) a w):(Code.scope c).wpIn F n P Q a w:=by
 intro b k cs hro hb hr;have h0:(lone (b.atR a (.code (.scope c)::k)) cs w).fenced P F:=fenced_calm hb hr rfl;obtain⟨e,f,g,⟨hg,hq⟩,d⟩:=h b (.inScope c::k) cs hro hb hr;cases e with
 |normal=>exact⟨.normal,f,g,hq,.head h0 iv (StepsIn.trans d (.one (fenced_calm hb hr rfl) Dj))⟩
 |exit id'=>
  have hx:exitTo id' (.inScope c::k)=exitTo id' k:=by simp[exitTo]
  exact⟨.exit id',f,g,hq,λk' hk=> .head h0 iv (d.1 k' (by rw[hx];exact hk)),
   λi hk=>let⟨k₁,h1,h2⟩:=d.2 i (by rw[hx];exact hk);⟨k₁,h1,.head h0 iv h2⟩⟩
 |goto l=>cases hg
 |ret=>exact⟨_,f,g,hq,.of_steps (.one h0 iv) d⟩
 |panic ch=>exact⟨_,f,g,hq,.of_steps (.one h0 iv) d⟩
 |outgrown=>exact⟨_,f,g,hq,.of_steps (.one h0 iv) d⟩
theorem Pn{Q:Exit->St->Prop}(h:Tr P c st (λe s=>A4 e=false/\Q e s)):Tr P (.scope c) st Q:=λcx a w R r k=>
 zy (h cx a w _ r λe s a' w' q r'=>⟨q.1,k e s a' w' q.2 r'⟩)
def B6(d:TypeDesc)(k:Value):List Value->Nat->Option FF
 |[],_=>some none
 |u::r,n=>match Instr.sameNow d k u with
  |some true=>some (some n)
  |some false=>B6 d k r (n+1)
  |none=>none
def Kj(P:Br)(kt:Bn)(k:Value):List Value->Nat->Option FF
 |[],_=>some none
 |u::r,n=>match bt P (Op.equal kt k u) with
  |some true=>some (some n)
  |some false=>Kj P kt k r (n+1)
  |none=>none
theorem Eg{d:TypeDesc}{k:Value}:∀{es:List MapEntry} {n:Nat},B6 d k (es.map (·.key)) n=none->Instr.findNow d k es n=none
 |[],n,h=>by cases h
 |e::r,n,h=>by
  simp only[Fo,B6] at h;unfold Instr.findNow;split at h
  .cases h
  .rename_i hs;rw[hs];exact Eg h
  grind
theorem Eh{d:TypeDesc}{k:Value}:∀{es:List MapEntry} {n:Nat} {q:FF},B6 d k (es.map (·.key)) n=some q->
  ∃p,Instr.findNow d k es n=some p/\((q=none/\p=none)\/∃i e,q=some (n+i)/\es[i]?=some e/\p=some (n+i,e.val))
 |[],n,q,h=>by simp[B6] at h;subst h;exact⟨none,rfl,(by grind)⟩
 |e::r,n,q,h=>by
  simp only[Fo,B6] at h;unfold Instr.findNow;split at h
  .rename_i hs;cases h;simp_all
  .rename_i hs;rw[hs];obtain⟨p,h1,h2⟩:=Eh h;refine⟨p,h1,?_⟩;rcases h2 with h2|⟨i,e',h3,h4,h5⟩
   .exact .inl h2
   .exact .inr ⟨i+1,e',by grind,by grind,by grind⟩
  .cases h
theorem Ei{kt:Bn}{k:Value}{w:World}:∀{es:List MapEntry} {n:Nat} {q:FF},Kj P kt k (es.map (·.key)) n=some q->
  ∃p,(Instr.findAsking kt k es n).run P w= .ok p w/\((q=none/\p=none)\/∃i e,q=some (n+i)/\es[i]?=some e/\p=some (n+i,e.val))
 |[],n,q,h=>by simp[Kj] at h;subst h;exact⟨none,by simp[Instr.findAsking],(by grind)⟩
 |e::r,n,q,h=>by
  simp only[Fo,Kj] at h;unfold Instr.findAsking;split at h
  .rename_i hs;cases h;have:=oh hs w;simp_all
  .rename_i hs;have:=oh hs w;obtain⟨p,h1,h2⟩:=Ei (w:=w) h;refine⟨p,by simp[this,h1],?_⟩;rcases h2 with h2|⟨i,e',h3,h4,h5⟩
   .exact .inl h2
   .exact .inr ⟨i+1,e',by grind,by grind,by grind⟩
  .cases h
def B7(P:Br)(kt:Bn)(k:Value)(a:List Value):Option FF:=match P.underlying kt with
 |some d=>match B6 d k a 0 with
  |some r=>some r
  |none=>Kj P kt k a 0
 |none=>none
theorem gQ{k:Value}{w:World}{es:List MapEntry}{q:FF}(h:B7 P kt k (es.map (·.key))=some q):
  ∃p,(Instr.findKey kt k es).run P w= .ok p w/\((q=none/\p=none)\/∃i e,q=some i/\es[i]?=some e/\p=some (i,e.val)):=by
 unfold B7 at h
 split at h
 .rename_i d hd
  unfold Instr.findKey
  simp only[Fa,Gf hd,Fj]
  split at h
  .rename_i r hr
   cases h
   obtain⟨p,h1,h2⟩:=Eh hr
   simp_all
  .rename_i hr
   rw[Eg hr]
   obtain⟨p,h1,h2⟩:=Ei (w:=w) h
   grind
 .cases h
def rB(P:Br)(b:Bool)(kt:Bn)(k:Value):Bool:=(bt P (Instr.checkKey b 10000 kt k)).isSome
theorem ot{b:Bool}{k:Value}(h:rB P b kt k=true)(w:World):(Instr.checkKey b 10000 kt k).run P w= .ok () w:=by grind [rB,Vn,oh]
def pB(P:Br)(t:Bn):Option (Bn×Bn):=match P.underlying t with
 |some (.map k e)=>some (k,e)
 |_=>none
theorem cJ{k:Bn}(h:pB P t=some (k,e)):P.underlying t=some (.map k e):=by grind [pB]
theorem br{o:Obj}(h:w.heap[r]?=some o)(hn:∀c e f,o≠ .cells c e f):(getObj r).run P w= .ok o w:=by grind [getObj,Sem.run]
theorem He{o:Obj}(a:Obj)(h:w.heap[r]?=some o)(hn:∀c e f,o≠ .cells c e f):(setObj r a).run P w= .ok () (w.putObj r a):=by grind [setObj,Sem.run,World.putObj]
theorem dJ{es:Array MapEntry}{c:Nat}:∀a e f,(Obj.map es c)≠ .cells a e f:=by grind
theorem UK{m:FF}{q:Array Nat}{c:Nat}:∀a e f,(Obj.mapIter m s q c)≠ .cells a e f:=by grind
theorem yT{o:Obj}:(newObj o).run P w= .ok w.heap.size (w.alloc o):=rfl
theorem E1{l:Nat}(o:Obj):Bc (λb=>b=l) w (w.putObj l o):=⟨rfl,rfl,rfl,aC,λk _ hk=>World.putObj_heap_other hk,C6 _⟩
def LD(σ:aQ):G->Option (Nat×Bn×List (Value×G×Nat)×Nat)
 | .mref i=>match ag σ i with
  |some ⟨t,_,some (.map es clock)⟩=>some (i,t,es,clock)
  |_=>none
 |_=>none
theorem HD{a:Act}(h:Bw P cx st a w β)(hv:RV β (Av cx.S0 β st.σ) w g v)(hg:LD st.σ g=some (i,t,es,clock)):
  ∃ob b ents,g= .mref i/\ag st.σ i=some ob/\ob.t=t/\β i=some (some (b,0))/\v= .map (some b)/\w.heap[b]?=some (.map ents clock)/\ents.toList.map (·.key)=es.map (·.1)/\ents.toList.map (·.born)=es.map (·.2.2)/\ents.size=es.length/\
   ∀(j:Nat) (e:MapEntry) (k:Value) (g:G) (n:Nat),ents[j]?=some e->es[j]?=some (k,g,n)->e.key=k/\e.born=n/\RV β (Av cx.S0 β st.σ) w g e.val:=by
 unfold LD at hg
 split at hg
 .rename_i f
  split at hg
  .rename_i t' l d c ho
   cases hg
   obtain⟨b,C,hb,rfl⟩:=hv.mref_form
   rcases h.ob i _ ho with⟨_,_,h3⟩|⟨b',x,o,h1,h2,h3,h4,h5⟩|⟨b',C',cur,h1,_⟩
   .grind
   .cases h1
    rw[h3] at hb
    cases hb
    obtain⟨ents,rfl,e2,e3⟩:=h5
    have key:∀(j:Nat) (e:MapEntry) (k:Value) (g:G) (n:Nat),ents[j]?=some e->es[j]?=some (k,g,n)->e.key=k/\e.born=n/\RV β (Av cx.S0 β st.σ) w g e.val:=by grind
    refine⟨_,_,ents,rfl,ho,rfl,h3,rfl,h4,?_,?_,e2,key⟩
    .apply List.ext_getElem?
     grind
    .apply List.ext_getElem?
     grind
   .cases h1
  .cases hg
 .cases hg
def rC(P:Br)(t:Bn)(r:Option G):Bool:=match r with
 |none=>true
 |some (.lit (.int _ _))=>(pB P t).isSome
 |_=>false
theorem B8{t:Bn}{r:Option Dl}(ho:o.op= .makeMap t r)(hd:LS o st.n)(hg:rC P t (r.map (aB st))=true):
  GS P o st ({st with σ:=(st.c,some ⟨t,[],some (.map [] 0)⟩)::st.σ,c:=st.c+1}.put o.dst (.mref st.c)):=by
 intro cx a w K R ⟨β,h⟩ d
 have hrun:(execOp a.eval o).run P w= .ok (.value (.map (some w.heap.size))) (w.alloc (.map #[] 0)):=by
  unfold execOp;simp only[ho];cases r with
  |none=>grind [Instr.makeMap,Fa,yT,Fj,HR]
  |some x=>
   simp only[Option.map_some] at hg;unfold rC at hg;split at hg
   .grind
   .rename_i k n hx;obtain⟨⟨kt,et⟩,ht⟩:=Vn.1 hg;have hv:a.eval x= .int k n:=by have:=h.ev x;grind [RV.lit_eq]
    simp only[Option.map_some,Instr.makeMap,hv,Fa,Gf (cJ ht),Fj,yT,HR,asInt,asIntOf]
   .cases hg
 have:=h.allocX (w':=w.alloc (.map #[] 0)) ((Bc.refl _ _).alloc _) (b:=w.heap.size) (ob:=⟨t,[],some (.map [] 0)⟩) (x:= .map [] 0) (C6 _) (heap_alloc_new w _) rfl rfl ⟨#[],rfl,rfl,aC⟩ (C6 st.c)
 refine h.loose.oper (by grind) ?_
 unfold Oper.wp
 rw[hrun]
 exact d _ _ ⟨_,this.put o.dst hd (.mref _ _ 0 aC)⟩
def bL(P:Br)(σ:aQ)(t:Bn)(ok:Bool)(gm gk:G):Option G:=match pB P t,cD gk with
 |some (kt,et),some k=>
  match gm with
  | .lit (.map none)=>bif rB P true kt k&&(P.underlying kt).isSome then((P.info? et).bind (·.zero)).map λz=>bif ok then .tup [db z,.lit (.bool false)]else db z else none
  | .mp ks vs _ _=>bif rB P ks.isEmpty kt k then
     match B7 P kt k ks with
     |some none=>((P.info? et).bind (·.zero)).map λz=>bif ok then .tup [db z,.lit (.bool false)]else db z
     |some (some j)=>(vs[j]?).map λe=>bif ok then .tup [e,.lit (.bool true)]else e
     |none=>none
    else none
  |gm=>match LD σ gm with
   |some (i,_,es,_)=>bif rB P es.isEmpty kt k then
     match B7 P kt k (es.map (·.1)) with
     |some none=>((P.info? et).bind (·.zero)).map λz=>bif ok then .tup [db z,.lit (.bool false)]else db z
     |some (some j)=>(es[j]?).map λe=>bif ok then .tup [e.2.1,.lit (.bool true)]else e.2.1
     |none=>none
    else none
   |none=>none
 |_,_=>none
theorem pC{et:Bn}{z:Value}(h:(P.info? et).bind (·.zero)=some z):(zeroValue et).run P w= .ok z w:=by rw[GJ] at h;obtain⟨i,hi,hz⟩:=h;simp[zeroValue,typeInfo,hi,hz]
theorem HY{t:Bool}(ok:Bool)(h:RV β S w g v):RV β S w (bif ok then .tup [g,.lit (.bool t)]else g) (if ok then .tuple #[v,.bool t]else v):=by
 cases ok with
 |false=>exact h
 |true=>
  refine .tup _ _ rfl λi a u hg hu=>?_;match i with
  |0=>grind
  |1=>simp at hg hu;subst hg;subst hu;exact .imm _ _ (.lit _)
  |n+2=>simp at hg
theorem HZ{a:Act}(h:Bw P cx st a w β)(hm:RV β (Av cx.S0 β st.σ) w gm vm)(hk:RV β (Av cx.S0 β st.σ) w gk vk)(hg:bL P st.σ t ok gm gk=some g):
  ∃v,(Instr.lookup t vm vk ok).run P w= .ok v w/\RV β (Av cx.S0 β st.σ) w g v:=by
 unfold bL at hg
 split at hg
 .rename_i kt et k ht hgk
  have e:=hk.val hgk
  subst e
  split at hg
  .have hv:=hm.lit_eq
   subst hv
   cases hc0:(rB P true kt vk&&(P.underlying kt).isSome) with
   |false=>grind
   |true=>
    rw[hc0] at hg
    simp only[bA] at hc0
    obtain⟨hc,hd⟩:=hc0
    simp only[ax,DG] at hg
    obtain⟨z,hz,rfl⟩:=hg
    have hf:(Instr.findKey kt vk ([]:List MapEntry)).run P w= .ok none w:=by obtain⟨d,hd⟩:=Vn.1 hd;simp[Instr.findKey,Gf hd,Instr.findNow]
    refine⟨_,?_,HY ok (.imm _ _ (.glit _ _ z))⟩
    have c:=ot hc w
    simp only[Instr.lookup,Fa,Gf (cJ ht),Fj,HR,Array.isEmpty_empty,c,hf,pC hz]
  .rename_i o vs q clock
   obtain⟨b,ents,rfl,hh,hsz,rfl,_,hent⟩:=hm.mp_form
   have hemp:ents.isEmpty=(ents.toList.map (·.key)).isEmpty:=by simp_all
   cases hc:rB P (ents.toList.map (·.key)).isEmpty kt vk with
   |false=>grind
   |true=>
    rw[hc] at hg
    simp only[ax] at hg
    have c:=ot hc w
    split at hg
    .rename_i hkey
     simp only[DG] at hg
     obtain⟨z,hz,rfl⟩:=hg
     obtain⟨p,hp,hq⟩:=gQ (w:=w) hkey
     rcases hq with⟨_,rfl⟩|⟨_,_,hq,_⟩
     .refine⟨_,?_,HY ok (.imm _ _ (.glit _ _ z))⟩
      simp only[Instr.lookup,Fa,Gf (cJ ht),Fj,br hh dJ,HR,hemp,c,hp,pC hz]
     .cases hq
    .rename_i j hkey
     simp only[DG] at hg
     obtain⟨l,he,rfl⟩:=hg
     obtain⟨p,hp,hq⟩:=gQ (w:=w) hkey
     rcases hq with⟨hq,_⟩|⟨m,e',hq,he',rfl⟩
     .cases hq
     .cases hq
      have hr:=hent j l e' he (by rw[<-Array.getElem?_toList];exact he')
      refine⟨_,?_,HY ok (.imm _ _ hr)⟩
      simp only[Instr.lookup,Fa,Gf (cJ ht),Fj,br hh dJ,HR,hemp,c,hp]
    .cases hg
  .split at hg
   .rename_i i t' es clock f
    obtain⟨ob,b,ents,rfl,ho,_,hb,rfl,hh,hks,_,hsz,hent⟩:=HD h hm f
    have hemp:ents.isEmpty=es.isEmpty:=by cases es<;>grind
    cases hc:rB P es.isEmpty kt vk with
    |false=>grind
    |true=>
     rw[hc] at hg
     simp only[ax] at hg
     have c:=ot hc w
     rw[<-hks] at hg
     split at hg
     .rename_i hkey
      simp only[DG] at hg
      obtain⟨z,hz,rfl⟩:=hg
      obtain⟨p,hp,hq⟩:=gQ (w:=w) hkey
      rcases hq with⟨_,rfl⟩|⟨_,_,hq,_⟩
      .refine⟨_,?_,HY ok (.imm _ _ (.glit _ _ z))⟩
       simp only[Instr.lookup,Fa,Gf (cJ ht),Fj,br hh dJ,HR,hemp,c,hp,pC hz]
      .cases hq
     .rename_i j hkey
      simp only[DG] at hg
      obtain⟨⟨k',l,n⟩,he,rfl⟩:=hg
      obtain⟨p,hp,hq⟩:=gQ (w:=w) hkey
      rcases hq with⟨hq,_⟩|⟨m,e',hq,he',rfl⟩
      .cases hq
      .cases hq
       obtain⟨_,_,hr⟩:=hent j e' k' l n (by grind) he
       refine⟨_,?_,HY ok hr⟩
       simp only[Instr.lookup,Fa,Gf (cJ ht),Fj,br hh dJ,HR,hemp,c,hp]
     .cases hg
   .cases hg
 .cases hg
theorem xS(ho:o.op= .lookup t x y ok)(hd:LS o st.n)(hg:bL P st.σ t ok (aB st x) (aB st y)=some g):GS P o st (st.put o.dst g):=by
 intro cx a w K R ⟨β,h⟩ b;obtain⟨v,hv,hr⟩:=HZ h (h.ev x) (h.ev y) hg;refine h.loose.oper (by grind) ?_;have hrun:(execOp a.eval o).run P w= .ok (.value v) w:=by grind [execOp,Fa,Fj,HR]
 unfold Oper.wp;rw[hrun];exact b _ _ ⟨β,h.put o.dst hd hr⟩
theorem XO.map_push{β:Bm}{S:Ga}{w:World}{es:List (Value×G×Nat)}{ents:Array MapEntry}{clock clock':Nat}(hsz:ents.size=es.length)(h:∀(j:Nat) (e:MapEntry) (k:Value) (g:G) (n:Nat),ents[j]?=some e->es[j]?=some (k,g,n)->e.key=k/\e.born=n/\RV β S w g e.val){k:Value}{g:G}{v:Value}(hv:RV β S w g v):
  XO β S w (.map (es++[(k,g,clock)]) clock') (.map (ents.push {key:=k,val:=v,born:=clock}) clock'):=by
 refine⟨_,rfl,by simp[hsz],λj k' a n hj=>?_⟩
 rcases JF j es.length with hlt|hge
 .rw[List.getElem?_append_left hlt] at hj
  have he:ents[j]?=some (ents[j]'aa):=by grind
  grind
 .rw[List.getElem?_append_right hge] at hj
  have h0:j=es.length:=by grind
  subst h0
  simp at hj
  obtain⟨rfl,rfl,rfl⟩:=hj
  exact⟨{key:=k,val:=v,born:=clock},by grind,rfl,rfl,hv⟩
theorem XO.map_set{β:Bm}{S:Ga}{w:World}{es:List (Value×G×Nat)}{ents:Array MapEntry}{clock:Nat}(hsz:ents.size=es.length)(h:∀(j:Nat) (e:MapEntry) (k:Value) (g:G) (n:Nat),ents[j]?=some e->es[j]?=some (k,g,n)->e.key=k/\e.born=n/\RV β S w g e.val){i n:Nat}{k:Value}{g:G}{f:MapEntry->MapEntry}(hf:∀e,ents[i]?=some e->(f e).key=k/\(f e).born=n/\RV β S w g (f e).val):
  XO β S w (.map (es.set i (k,g,n)) clock) (.map (ents.modify i f) clock):=by
 refine⟨_,rfl,by simp[hsz],λj k' a b hj=>?_⟩
 have hlt:j<es.length:=by grind
 have he:ents[j]?=some (ents[j]'aa):=by grind
 grind
def dZ(P:Br)(σ:aQ)(t:Bn)(gm gk g:G):Option (Nat×Ob):=match pB P t,cD gk,LD σ gm with
 |some (kt,_),some k,some (i,ty,es,clock)=>bif rB P false kt k then
   match B7 P kt k (es.map (·.1)) with
   |some none=>some (i,⟨ty,[],some (.map (es++[(k,g,clock)]) (clock+1))⟩)
   |some (some j)=>match es[j]? with
    |some (k',_,n)=>bif Instr.sameBits 10000 k' k then some (i,⟨ty,[],some (.map (es.set j (k,g,n)) clock)⟩)else none
    |none=>none
   |none=>none
  else none
 |_,_,_=>none
theorem Ej{old new:Value}(h:Instr.sameBits 10000 old new=true)(w:World):(Instr.keyThatStays old new).run P w= .ok new w:=by unfold Instr.keyThatStays;simp_all
theorem H0{a:Act}(h:Bw P cx st a w β){ob:Ob}(hm:RV β (Av cx.S0 β st.σ) w gm vm)(hk:RV β (Av cx.S0 β st.σ) w gk vk)(hv:RV β (Av cx.S0 β st.σ) w g v)(hg:dZ P st.σ t gm gk g=some (i,ob)):
  ∃w',(Instr.mapUpdate t vm vk v).run P w= .ok () w'/\Bw P cx {st with σ:=(i,some ob)::st.σ} a w' β:=by
 unfold dZ at hg
 split at hg
 .rename_i kt et k q ty es clock ht hgk d
  have l:=hk.val hgk
  subst l
  obtain⟨m,b,ents,rfl,ho,rfl,hb,rfl,hh,hks,_,hsz,hent⟩:=HD h hm d
  cases hc:rB P false kt vk with
  |false=>grind
  |true=>
   rw[hc] at hg
   simp only[ax] at hg
   have c:=ot hc w
   rw[<-hks] at hg
   split at hg
   .rename_i hkey
    cases hg
    obtain⟨p,hp,hq⟩:=gQ (w:=w) hkey
    rcases hq with⟨_,rfl⟩|⟨_,_,hq,_⟩
    .refine⟨_,?_,h.writeX ho hb (E1 _) (World.putObj_heap_same (Array.getElem?_eq_some_iff.1 hh).1) (XO.map_push hsz hent hv)⟩
     simp only[Instr.mapUpdate,Fa,Gf (cJ ht),Fj,br hh dJ,c,hp,He _ hh dJ]
    .cases hq
   .rename_i j hkey
    split at hg
    .rename_i k' o n he
     cases hs:Instr.sameBits 10000 k' vk with
     |false=>grind
     |true=>
      rw[hs] at hg
      cases hg
      obtain⟨p,hp,hq⟩:=gQ (w:=w) hkey
      rcases hq with⟨hq,_⟩|⟨r,e',hq,he',rfl⟩
      .cases hq
      .cases hq
       rw[Array.getElem?_toList] at he'
       obtain⟨rfl,rfl,_⟩:=hent j e' k' o n he' he
       refine⟨_,?_,h.writeX ho hb (E1 _) (World.putObj_heap_same (Array.getElem?_eq_some_iff.1 hh).1) (XO.map_set hsz hent (i:=j) (n:=e'.born) (k:=vk) (g:=g) (f:=λe=>{e with key:=vk,val:=v}) λe hx=>?_)⟩
       .simp only[Instr.mapUpdate,Fa,Gf (cJ ht),Fj,br hh dJ,c,hp,he',Option.map_some,Nt,Ej hs,He _ hh dJ]
       .rw[he'] at hx;cases hx
        exact⟨rfl,rfl,hv⟩
    .cases hg
   .cases hg
 .cases hg
theorem iW{ob:Ob}(ho:o.op= .mapUpdate t x y z\/o.op= .insert t x y z)(hd:LS o st.n)(hg:dZ P st.σ t (aB st x) (aB st y) (aB st z)=some (i,ob)):GS P o st ({st with σ:=(i,some ob)::st.σ}.put o.dst (.lit undef)):=by
 intro cx a w K R ⟨β,h⟩ b;obtain⟨w',hv,hr⟩:=H0 h (h.ev x) (h.ev y) (h.ev z) hg;refine h.loose.oper (by grind) ?_;have hrun:(execOp a.eval o).run P w= .ok .skip w':=by grind [execOp,Fa,Fj,HR]
 unfold Oper.wp;rw[hrun];exact b _ _ ⟨β,hr.put o.dst hd (.imm _ _ (.lit _))⟩
def ou(P:Br)(σ:aQ)(t:Bn)(g:G):Option G:=match pB P t with
 |some _=>match g with
  | .lit (.map none)=>some (.lit (.int .i64 0))
  | .mp _ vs _ _=>some (.lit (.int .i64 vs.length))
  |g=>match LD σ g with
   |some (_,_,es,_)=>some (.lit (.int .i64 es.length))
   |none=>none
 |none=>none
theorem Ta(ho:o.op= .call {callee:= .builtin .len,args:= #[x],argTypes:= #[t]})(hd:LS o st.n)(hg:ou P st.σ t (aB st x)=some g):GS P o st (st.put o.dst g):=by
 intro cx a w K R ⟨β,h⟩ e;refine h.loose.oper (by grind) ?_;have hrun:∃v,(execOp a.eval o).run P w= .ok (.value v) w/\RV β (Av cx.S0 β st.σ) w g v:=by
  unfold ou at hg;split at hg
  .rename_i q ht;obtain⟨kt,et⟩:=q;split at hg
   .rename_i hx;cases hg;have hv:a.eval x= .map none:=by have:=h.ev x;grind [RV.lit_eq]
    refine⟨.int .i64 0,?_,.imm _ _ (.lit _)⟩;unfold execOp;simp[ho,resolve,invoke,builtin,Builtin.len_,hv,goInt,Gf (cJ ht)]
   .rename_i f vs j clock hx;cases hg;have c:=h.ev x;rw[hx] at c;obtain⟨b,ents,hv,hh,hsz,_⟩:=c.mp_form;refine⟨.int .i64 vs.length,?_,.imm _ _ (.lit _)⟩;unfold execOp;simp[ho,resolve,invoke,builtin,Builtin.len_,hv,goInt,br hh dJ,hsz,Gf (cJ ht)]
   .split at hg
    .rename_i i ty es clock d;cases hg;obtain⟨ob,b,ents,hx,hob,rfl,hb,hv,hh,hks,_,hsz,hent⟩:=HD h (h.ev x) d;refine⟨.int .i64 es.length,?_,.imm _ _ (.lit _)⟩;unfold execOp;simp[ho,resolve,invoke,builtin,Builtin.len_,hv,goInt,br hh dJ,hsz,Gf (cJ ht)]
    .cases hg
  .cases hg
 obtain⟨v,hrun,hr⟩:=hrun;unfold Oper.wp;rw[hrun];exact e _ _ ⟨β,h.put o.dst hd hr⟩
theorem XO.map_erase{β:Bm}{S:Ga}{w:World}{es:List (Value×G×Nat)}{ents:Array MapEntry}{clock:Nat}(hsz:ents.size=es.length)(h:∀(j:Nat) (e:MapEntry) (k:Value) (g:G) (n:Nat),ents[j]?=some e->es[j]?=some (k,g,n)->e.key=k/\e.born=n/\RV β S w g e.val)(i:Nat):
  XO β S w (.map (es.eraseIdx i) clock) (.map (ents.eraseIdxIfInBounds i) clock):=by
 have ht:(ents.eraseIdxIfInBounds i).toList=ents.toList.eraseIdx i:=by simp_all
 refine⟨_,rfl,?_,λj k' a n hj=>?_⟩
 .grind
 .rw[<-Array.getElem?_toList,ht]
  rw[List.getElem?_eraseIdx] at hj⊢
  split at hj
  .rename_i hlt
   have hl:=(cr hj).1
   have he:ents[j]?=some (ents[j]'aa):=by grind
   grind
  .rename_i hlt
   have hl:=(cr hj).1
   have he:ents[j+1]?=some (ents[j+1]'aa):=by grind
   grind
def FN(P:Br)(σ:aQ)(t:Bn)(gm gk:G):Option (Nat×Ob):=match pB P t,cD gk,LD σ gm with
 |some (kt,_),some k,some (i,ty,es,clock)=>bif rB P es.isEmpty kt k then
   match B7 P kt k (es.map (·.1)) with
   |some none=>some (i,⟨ty,[],some (.map es clock)⟩)
   |some (some j)=>some (i,⟨ty,[],some (.map (es.eraseIdx j) clock)⟩)
   |none=>none
  else none
 |_,_,_=>none
theorem NM{ob:Ob}(ho:o.op= .call {callee:= .builtin .delete,args:= #[x,y],argTypes:= #[t,t']})(hd:LS o st.n)(hg:FN P st.σ t (aB st x) (aB st y)=some (i,ob)):GS P o st ({st with σ:=(i,some ob)::st.σ}.put o.dst (.tup [])):=by
 intro cx a w K R ⟨β,h⟩ f;refine h.loose.oper (by grind) ?_;have hrun:∃w',(execOp a.eval o).run P w= .ok (.value (.tuple #[])) w'/\Bw P cx {st with σ:=(i,some ob)::st.σ} a w' β:=by
  unfold FN at hg;split at hg
  .rename_i kt et k l ty es clock ht hgk d;have e:=(h.ev y).val hgk;subst e;obtain⟨g,b,ents,hx,hob,rfl,hb,hv,hh,hks,_,hsz,hent⟩:=HD h (h.ev x) d;have hemp:ents.isEmpty=es.isEmpty:=by cases es<;>grind
   cases hc:rB P es.isEmpty kt (a.eval y) with
   |false=>grind
   |true=>
    rw[hc] at hg;simp only[ax] at hg;have c:=ot hc w;rw[<-hks] at hg;split at hg
    .rename_i hkey;cases hg;obtain⟨p,hp,hq⟩:=gQ (w:=w) hkey;rcases hq with⟨_,rfl⟩|⟨_,_,hq,_⟩
     .refine⟨_,?_,h.writeX hob hb (E1 _) (World.putObj_heap_same (by grind)) (o0:= .map ents clock) ⟨ents,rfl,hsz,λj k' m n hj=>?_⟩⟩
      .unfold execOp;simp only[ho,resolve,invoke,builtin,Fa,HR,Fj,List.map_toArray,Fo,List.map_nil,Builtin.delete_,hv];simp only[List.getElem?_toArray,List.getElem?_cons_zero,List.getElem?_cons_succ,Fa,Gf (cJ ht),Fj,br hh dJ,hemp,c,hp,He _ hh dJ,HR]
      .have hl:=(cr hj).1;have he:ents[j]?=some (ents[j]'aa):=by grind
       grind
     .cases hq
    .rename_i j hkey;cases hg;obtain⟨p,hp,hq⟩:=gQ (w:=w) hkey;rcases hq with⟨hq,_⟩|⟨q,e',hq,he',rfl⟩
     .cases hq
     .cases hq;refine⟨_,?_,h.writeX hob hb (E1 _) (World.putObj_heap_same (Array.getElem?_eq_some_iff.1 hh).1) (XO.map_erase hsz hent j)⟩;unfold execOp;simp only[ho,resolve,invoke,builtin,Fa,HR,Fj,List.map_toArray,Fo,List.map_nil,Builtin.delete_,hv];simp only[List.getElem?_toArray,List.getElem?_cons_zero,List.getElem?_cons_succ,Fa,Gf (cJ ht),Fj,br hh dJ,hemp,c,hp,He _ hh dJ,HR]
    .cases hg
  .cases hg
 obtain⟨w',hrun,hr⟩:=hrun;unfold Oper.wp;rw[hrun];exact f _ _ ⟨β,(by grind [Bw.put,RV])⟩
def ov(P:Br)(σ:aQ)(t:Bn)(gm gk:G):Option (Nat×Ob×G):=match pB P t,cD gk,LD σ gm with
 |some (kt,et),some k,some (i,ty,es,clock)=>bif rB P false kt k then
   match B7 P kt k (es.map (·.1)) with
   |some none=>((P.info? et).bind (·.zero)).map λz=>(i,⟨ty,[],some (.map (es++[(k,db z,clock)]) (clock+1))⟩,.tup [db z,.lit (.int .i64 clock)])
   |some (some j)=>match es[j]? with
    |some (k',g,n)=>bif Instr.sameBits 10000 k' k then some (i,⟨ty,[],some (.map (es.set j (k,g,n)) clock)⟩,.tup [g,.lit (.int .i64 n)])else none
    |none=>none
   |none=>none
  else none
 |_,_,_=>none
theorem Kk{g g':G}{v':Value}(h:RV β S w g v)(h':RV β S w g' v'):RV β S w (.tup [g,g']) (.tuple #[v,v']):=by
 refine .tup _ _ rfl λi x u hg hu=>?_;match i with
 |0=>simp at hg hu;subst hg;subst hu;exact h
 |1=>simp at hg hu;subst hg;subst hu;exact h'
 |n+2=>simp at hg
theorem yU{ob:Ob}(ho:o.op= .mapEntry t x y)(hd:LS o st.n)(hg:ov P st.σ t (aB st x) (aB st y)=some (i,ob,g)):GS P o st ({st with σ:=(i,some ob)::st.σ}.put o.dst g):=by
 intro cx a w K R ⟨β,h⟩ A;refine h.loose.oper (λc hc=>by rw[ho] at hc;cases hc) ?_;have hrun:∃v w',(execOp a.eval o).run P w= .ok (.value v) w'/\RV β (Av cx.S0 β st.σ) w g v/\(∃q,ag st.σ i=some q)/\Bc (λb=>∃C,β i=some (some (b,C))) w w'/\Bw P cx {st with σ:=(i,some ob)::st.σ} a w' β:=by
  unfold ov at hg;split at hg
  .rename_i kt et k B ty es clock ht hgk r;have s:=(h.ev y).val hgk;subst s;obtain⟨d,b,ents,hx,hob,rfl,hb,hv,hh,hks,_,hsz,hent⟩:=HD h (h.ev x) r;cases hc:rB P false kt (a.eval y) with
   |false=>grind
   |true=>
    rw[hc] at hg;simp only[ax] at hg;have l:=ot hc w;rw[<-hks] at hg;split at hg
    .rename_i hkey;simp only[DG] at hg;obtain⟨z,hz,hg⟩:=hg;cases hg;obtain⟨p,hp,hq⟩:=gQ (w:=w) hkey;rcases hq with⟨_,rfl⟩|⟨_,_,hq,_⟩
     .refine⟨_,_,?_,Kk (.imm _ _ (.glit _ _ z)) (.imm _ _ (.lit (.int .i64 clock))),⟨_,hob⟩,(E1 _).mono (λk _ e=>⟨0,by subst e;exact hb⟩),h.writeX hob hb (E1 _) (World.putObj_heap_same (Array.getElem?_eq_some_iff.1 hh).1) (XO.map_push hsz hent (.imm _ _ (.glit _ _ z)))⟩;unfold execOp;simp only[ho,hv,Instr.mapEntry,Fa,Gf (cJ ht),Fj,br hh dJ,l,hp,pC hz,He _ hh dJ,HR,goInt]
     .cases hq
    .rename_i j hkey;split at hg
     .rename_i k' u n he;cases hs:Instr.sameBits 10000 k' (a.eval y) with
      |false=>grind
      |true=>
       rw[hs] at hg;cases hg;obtain⟨p,hp,hq⟩:=gQ (w:=w) hkey;rcases hq with⟨hq,_⟩|⟨D,e',hq,he',rfl⟩
       .cases hq
       .cases hq;rw[Array.getElem?_toList] at he';obtain⟨rfl,rfl,hr⟩:=hent j e' k' u n he' he;refine⟨_,_,?_,Kk hr (.imm _ _ (.lit (.int .i64 e'.born))),⟨_,hob⟩,(E1 _).mono (λk _ e=>⟨0,by subst e;exact hb⟩),h.writeX hob hb (E1 _) (World.putObj_heap_same (Array.getElem?_eq_some_iff.1 hh).1) (XO.map_set hsz hent (i:=j) (n:=e'.born) (k:=a.eval y) (g:=u) (f:=λe=>{e with key:=a.eval y}) λe hx=>?_)⟩
        .unfold execOp;simp only[ho,hv,Instr.mapEntry,Fa,Gf (cJ ht),Fj,br hh dJ,l,hp,he',Option.map_some,Nt,Ej hs,He _ hh dJ,HR,goInt]
        .rw[he'] at hx;cases hx;exact⟨rfl,rfl,hr⟩
     .cases hg
    .cases hg
  .cases hg
 obtain⟨v,w',hrun,hr,⟨d,hob⟩,hk,m⟩:=hrun;have hk':Bc (Av cx.S0 β st.σ) w w':=hk.mono λb _ ⟨C,h1⟩=> .inr ⟨i,d,C,hob,h1⟩;unfold Oper.wp;rw[hrun];refine A _ _ ⟨β,m.put o.dst hd (hr.step (λ_ _ x=>x) (λb _ hb=>?_) hk')⟩;rcases hb with hb|⟨j,q,C,h1,h2⟩
 .exact .inl hb
 .have h1':ag ((i,some ob)::st.σ) j=some q:=h1;rw[A3] at h1';split at h1'
  .subst_vars;exact .inr ⟨_,d,C,hob,h2⟩
  .exact .inr ⟨j,q,C,h1',h2⟩
def th(P:Br)(o:Oper)(st:St)(S:St->Prop):Prop:=∀cx a w K R,mh P cx st a w->(∀st',S st'->∀a' w',mh P cx st' a' w'->K a' w')->o.wpIn cx.F cx.nn P a w K R
theorem th.gs{o:Oper}{st st':St}{S:St->Prop}(h:th P o st S)(hS:∀s,S s->s=st'):GS P o st st':=λcx a w K R r k=>h cx a w K R r (by grind)
theorem GS.gsn{o:Oper}{st st':St}(h:GS P o st st'):th P o st (λs=>s=st'):=λcx a w K R r k=>h cx a w K R r (by simp_all)
def jX(σ:aQ)(gm gs g:G):Option (Nat×Ob):=match LD σ gm,gs with
 |some (i,ty,es,clock),.lit (.int _ b)=>match es.findIdx? (λe=>(e.2.2:Int)==b) with
  |some j=>match es[j]? with
   |some (k,_,n)=>some (i,⟨ty,[],some (.map (es.set j (k,g,n)) clock)⟩)
   |none=>none
  |none=>none
 |_,_=>none
theorem H1{ents:List MapEntry}(h:ents.map (·.born)=es.map (·.2.2))(b:Int):ents.findIdx? (λe=>(e.born:Int)==b)=es.findIdx? (λe=>(e.2.2:Int)==b):=by
 have h1:(ents.map (·.born)).findIdx? (λ(n:Nat)=>(n:Int)==b)=ents.findIdx? (λe=>(e.born:Int)==b):=by rw[List.findIdx?_map];rfl
 have h2:(es.map (·.2.2)).findIdx? (λ(n:Nat)=>(n:Int)==b)=es.findIdx? (λe=>(e.2.2:Int)==b):=by rw[List.findIdx?_map];rfl
 grind
theorem tJ{ob:Ob}(ho:o.op= .entryStore t x y z)(hd:LS o st.n)(hg:jX st.σ (aB st x) (aB st y) (aB st z)=some (i,ob)):GS P o st ({st with σ:=(i,some ob)::st.σ}.put o.dst (.lit undef)):=by
 intro cx a w K R ⟨β,h⟩ l;refine h.loose.oper (by grind) ?_;have hrun:∃w',(execOp a.eval o).run P w= .ok .skip w'/\Bw P cx {st with σ:=(i,some ob)::st.σ} a w' β:=by
  unfold jX at hg;split at hg
  .rename_i p ty es clock kk b c hy;obtain⟨m,bm,ents,hx,hob,rfl,hb,hv,hh,hks,d,hsz,hent⟩:=HD h (h.ev x) c;have vy:a.eval y= .int kk b:=by have:=h.ev y;grind [RV.lit_eq]
   split at hg
   .rename_i j hj;split at hg
    .rename_i k g0 n he;cases hg;refine⟨_,?_,h.writeX hob hb (E1 _) (World.putObj_heap_same (by grind)) (XO.map_set hsz hent (i:=j) (n:=n) (k:=k) (g:=aB st z) (f:=λe=>{e with val:=a.eval z}) λe hx=>?_)⟩
     .unfold execOp;rw[<-H1 d] at hj;have hj':ents.findIdx? (λe=>(e.born:Int)==b)=some j:=by rw[<-hj];exact List.findIdx?_toArray _ ents.toList
      simp only[ho,hv,vy,Instr.entryStore,Fa,Fj,br hh dJ,asInt,asIntOf,HR,hj',He _ hh dJ]
     grind [Bw.ev]
    .cases hg
   .cases hg
  .cases hg
 obtain⟨w',hrun,hr⟩:=hrun;unfold Oper.wp;rw[hrun];exact l _ _ ⟨β,hr.put o.dst hd (.imm _ _ (.lit _))⟩
def B9(P:Br)(σ:aQ)(t:Bn)(gm:G):Option Q5:=match pB P t with
 |some _=>match gm with
  | .lit (.map none)=>some (.iter none 0 [] 0)
  |gm=>match LD σ gm with
   |some (i,_,_,clock)=>some (.iter (some i) clock [] clock)
   |none=>none
 |none=>none
theorem H2{ob:Q5}(ho:o.op= .range t x)(hd:LS o st.n)(hg:B9 P st.σ t (aB st x)=some ob):
  GS P o st ({st with σ:=(st.c,some ⟨t,[],some ob⟩)::st.σ,c:=st.c+1}.put o.dst (.ref st.c 0)):=by
 intro cx a w K R ⟨β,h⟩ f
 refine h.loose.oper (by grind) ?_
 have hrun:∃o0,(execOp a.eval o).run P w= .ok (.value (.pointer (some ⟨w.heap.size,0,none⟩))) (w.alloc o0)/\XO β (Av cx.S0 β st.σ) w ob o0:=by
  unfold B9 at hg;split at hg
  .rename_i q ht;obtain⟨kt,et⟩:=q;split at hg
   .rename_i hx;cases hg;have hv:a.eval x= .map none:=by have:=h.ev x;grind [RV.lit_eq]
    refine⟨_,?_,⟨none,rfl,(by grind)⟩⟩;unfold execOp;simp only[ho,hv,Fa,run_range_nilMap w t kt et (cJ ht),Fj,HR]
   .split at hg
    .rename_i i ty es clock d;cases hg;obtain⟨j,bm,ents,hx,hob,rfl,hb,hv,hh,hks,g,hsz,hent⟩:=HD h (h.ev x) d;refine⟨_,?_,⟨some bm,rfl,(by grind)⟩⟩;unfold execOp;simp only[ho,hv,Fa,run_range_map w t kt et bm ents clock (cJ ht) hh,Fj,HR]
    .cases hg
  .cases hg
 obtain⟨o0,hrun,e⟩:=hrun
 have:=h.allocX (w':=w.alloc o0) ((Bc.refl _ _).alloc _) (b:=w.heap.size) (ob:=⟨t,[],some ob⟩) (x:=ob) (C6 _) (heap_alloc_new w _) rfl rfl e (C6 st.c)
 unfold Oper.wp
 rw[hrun]
 exact f _ _ ⟨_,this.put o.dst hd (.ref _ 0 _ 0 aC)⟩
inductive F2 {α β:Type} (R:α->β->Prop):List α->List β->Prop
 |nil:F2 R [] []
 |cons {a b l m} (h:R a b) (t:F2 R l m):F2 R (a::l) (b::m)
theorem F2.of_get{α β:Type}{R:α->β->Prop}:∀{l:List α} {m:List β},l.length=m.length->(∀(i:Nat) a b,l[i]?=some a->m[i]?=some b->R a b)->F2 R l m
 |[],[],_,_=> .nil
 |a::l,b::m,hl,h=> .cons (h 0 a b rfl rfl) (F2.of_get (by grind) λi x y hx hy=>h (i+1) x y (by grind) (by grind))
 |[],b::m,hl,_=>by simp at hl
 |a::l,[],hl,_=>by simp at hl
theorem F2.filter{α β:Type}{R:α->β->Prop}{p:α->Bool}{q:β->Bool}(c:∀a b,R a b->p a=q b):∀{l:List α} {m:List β},F2 R l m->F2 R (l.filter p) (m.filter q)
 |_,_,.nil=> .nil
 |a::l,b::m,.cons h t=>by
  rw[List.filter_cons,List.filter_cons,c a b h];split
  .exact .cons h (F2.filter c t)
  .exact F2.filter c t
theorem F2.append{α β:Type}{R:α->β->Prop}:∀{l l':List α} {m m':List β},F2 R l m->F2 R l' m'->F2 R (l++l') (m++m')
 |_,_,_,_,.nil,h=>h
 |_,_,_,_,.cons h t,h'=> .cons h (F2.append t h')
theorem F2.map{α β α' β':Type}{R:α->β->Prop}{R':α'->β'->Prop}{f:α->α'}{g:β->β'}(hf:∀a b,R a b->R' (f a) (g b)):∀{l:List α} {m:List β},F2 R l m->F2 R' (l.map f) (m.map g)
 |_,_,.nil=> .nil
 |_,_,.cons h t=> .cons (hf _ _ h) (F2.map hf t)
theorem F2.get{α β:Type}{R:α->β->Prop}:∀{l:List α} {m:List β},F2 R l m->∀{i:Nat} {a:α},l[i]?=some a->∃b,m[i]?=some b/\R a b
 |_,_,.nil,i,a,h=>by simp at h
 |_,_,.cons h t,0,a,hi=>by grind
 |_,_,.cons h t,i+1,a,hi=>by obtain⟨b,h1,h2⟩:=F2.get t (by simpa using hi);grind
theorem F2.isEmpty{α β:Type}{R:α->β->Prop}{l:List α}{m:List β}(h:F2 R l m):l.isEmpty=m.isEmpty:=by cases h<;>rfl
theorem F2.all{α β:Type}{R:α->β->Prop}{p:α->Bool}{q:β->Bool}(c:∀a b,R a b->p a=q b):∀{l:List α} {m:List β},F2 R l m->l.all p=m.all q
 |_,_,.nil=>rfl
 |_,_,.cons h t=>by rw[List.all_cons,List.all_cons,c _ _ h,F2.all c t]
def rD(es:List (Value×G×Nat))(since:Nat)(seen:Bp):List (Option (Value×G×Nat)):=
 let left:=es.filter λe=> !seen.contains e.2.2
 let old:=left.filter λe=>decide (e.2.2<since)
 let new:=left.filter λe=>decide (e.2.2>=since)
 (if old.isEmpty then[none] else[])++(old++new).map some
def gR(σ:aQ):G->Option (Nat×Bn×FF×Nat×Bp×Nat)
 | .ref i 0=>match ag σ i with
  |some ⟨t,_,some (.iter m since seen last)⟩=>some (i,t,m,since,seen,last)
  |_=>none
 |_=>none
def V3(st:St)(d:Option Tmp)(i:Nat)(t:Bn)(m since clock:Nat)(seen:Bp)(cs:List (Option (Value×G×Nat)))(s:St):Prop:=
 (none∈cs/\s=st.put d (.tup [.lit (.bool false)]))\/∃k g n,some (k,g,n)∈cs/\s={st with σ:=(i,some ⟨t,[],some (.iter (some m) since (seen++[n]) clock)⟩)::st.σ}.put d (.tup [.lit (.bool true),db k,g])
theorem xT{a:Act}(h:Bw P cx st a w β){m:FF}(hv:RV β (Av cx.S0 β st.σ) w g v)(hg:gR st.σ g=some (i,t,m,since,seen,last)):
  ∃ob b c,ag st.σ i=some ob/\ob.t=t/\β i=some (some (b,0))/\v= .pointer (some ⟨b,0,none⟩)/\w.heap[b]?=some (.mapIter c since seen.toArray last)/\((m=none/\c=none)\/∃j b' C,m=some j/\c=some b'/\β j=some (some (b',C))):=by
 unfold gR at hg
 split at hg
 .rename_i k
  split at hg
  .rename_i t' l n d e f ho
   cases hg
   obtain⟨b,C,hb,rfl⟩:=hv.ref_addr
   rcases h.ob i _ ho with⟨_,_,h3⟩|⟨b',x,o,h1,h2,h3,h4,h5⟩|⟨b',C',cur,h1,_⟩
   .grind
   .cases h1
    rw[h3] at hb
    cases hb
    obtain⟨c,rfl,h6⟩:=h5
    grind
   .cases h1
  .cases hg
 .cases hg
theorem Kl(n:Nat)(hn:0<n)(w:World):∃(j:Nat) (w1:World),j<n/\Bc (λ_=>False) w w1/\w1.heap=w.heap/\(choose (Question.mapNext n)).run P w= .ok j w1:=by
 by_cases hf:n<=1
 .grind [Bc.refl,choose,Sem.run,Question.forced]
 .exact⟨_,w.drew,Nat.mod_lt _ hn,⟨rfl,rfl,rfl,C6 _,λ_ _ _=>rfl,Nat.le_succ _⟩,rfl,by simp only[choose,Sem.run,Question.forced,decide_eq_true_eq,hf,if_false,Question.cut];rfl⟩
def pD(es:List (Value×G×Nat))(seen:Bp)(last:Nat):Bool:= !(!seen.isEmpty&& !es.isEmpty&&es.all λe=>decide (e.2.2>=last))
theorem Mf(ho:o.op= .next x false)(hd:LS o st.n)(hi:gR st.σ (aB st x)=some (i,t,some j,since,seen,last))(hm:LD st.σ (.mref j)=some (j,ty,es,clock))(hok:pD es seen last=true):
  th P o st (V3 st o.dst i t j since clock seen (rD es since seen)):=by
 intro cx a w K R ⟨β,h⟩ z
 refine h.loose.oper (by grind) ?_
 obtain⟨ob,b,I,hob,rfl,hb,hv,hh,E⟩:=xT h (h.ev x) hi
 obtain⟨b',rfl,hb'⟩:∃b',I=some b'/\∃C,β j=some (some (b',C)):=by grind
 obtain⟨C,hb'⟩:=hb'
 obtain⟨J,bb,ents,_,B,rfl,hb2,_,c,_,_,hsz,hent⟩:=HD h (.mref j b' C hb') hm
 obtain rfl:b'=bb:=by grind
 have hF:F2 (λ(e:MapEntry) (q:Value×G×Nat)=>e.key=q.1/\e.born=q.2.2/\RV β (Av cx.S0 β st.σ) w q.2.1 e.val) ents.toList es:=by grind [F2.of_get]
 have d:=hF.filter (p:=λe=> !(seen.toArray).contains e.born) (q:=λe=> !seen.contains e.2.2) (λe q ⟨_,h2,_⟩=>by simp[h2])
 have m:=d.filter (p:=λe=>decide (e.born<since)) (q:=λe=>decide (e.2.2<since)) (λe q ⟨_,h2,_⟩=>by simp[h2])
 have s:=d.filter (p:=λe=>decide (e.born>=since)) (q:=λe=>decide (e.2.2>=since)) (λe q ⟨_,h2,_⟩=>by simp[h2])
 have htest:(!(seen.toArray).isEmpty&& !ents.isEmpty&&ents.all (λx=>decide (x.born>=last)))=false:=by
  have e1:(seen.toArray).isEmpty=seen.isEmpty:=aC;have e2:ents.isEmpty=es.isEmpty:=by grind [F2]
  have e3:ents.all (λx=>decide (x.born>=last))=es.all (λe=>decide (e.2.2>=last)):=by rw[<-hF.all (p:=λx=>decide (x.born>=last)) (by grind)];simp
  grind [pD]
 obtain⟨cs,hcs⟩:∃cs:Array (Option MapEntry),cs=(if((ents.filter λe=> !(seen.toArray).contains e.born).filter λx=>decide (x.born<since)).isEmpty then#[none] else#[])++(((ents.filter λe=> !(seen.toArray).contains e.born).filter λx=>decide (x.born<since))++((ents.filter λe=> !(seen.toArray).contains e.born).filter λx=>decide (x.born>=since))).map some:=⟨_,rfl⟩
 have hFc:F2 (λ(e:Option MapEntry) (q:Option (Value×G×Nat))=>(e=none/\q=none)\/∃e' l,e=some e'/\q=some l/\e'.key=l.1/\e'.born=l.2.2/\RV β (Av cx.S0 β st.σ) w l.2.1 e'.val) cs.toList (rD es since seen):=by
  rw[hcs];unfold rD;simp only[Array.toList_append,Array.toList_map,Array.toList_filter];have e0:((ents.filter λe=> !(seen.toArray).contains e.born).filter λx=>decide (x.born<since)).isEmpty=((es.filter λe=> !seen.contains e.2.2).filter λe=>decide (e.2.2<since)).isEmpty:=by grind [F2.isEmpty,Array.toList_filter,Array.isEmpty_toList]
  rw[e0];refine F2.append ?_ ((m.append s).map (by grind));grind [F2]
 have hpos:0<cs.size:=by
  rw[hcs];split
  .simp;omega
  .rename_i hne;generalize ((ents.filter λe=> !(seen.toArray).contains e.born).filter λx=>decide (x.born<since))=A at hne;have:0<A.size:=by grind
   grind
 obtain⟨r,w1,hr,hk1,hw1,f⟩:=Kl (P:=P) cs.size hpos w
 have hrr:cs.toList[r]?=some (cs[r]'hr):=aC
 obtain⟨q,hq,v⟩:=hFc.get hrr
 have hh1:w1.heap[b]?=some (.mapIter (some b') since seen.toArray last):=by grind
 have hcr:cs[r]?=some (cs[r]'hr):=aC
 have hsync:∀{X:Sem Value},X=X:=λ{X}=>rfl
 rcases v with⟨h1,rfl⟩|⟨e',⟨k',L,y⟩,h1,rfl,h2,h3,h4⟩
 .have hrun:(execOp a.eval o).run P w= .ok (.value (.tuple #[.bool false])) w1:=by unfold execOp;simp only[ho,hv,Instr.next,Fa,br hh UK,Fj,br c dJ,htest,Bool.false_eq_true,if_false,<-hcs,f,hcr,h1,HR]
  unfold Oper.wp
  rw[hrun]
  refine z _ (.inl ⟨bO hq,rfl⟩) _ _ ⟨β,(h.world hk1).put o.dst hd (.tup _ _ rfl λi g u hg hu=>?_)⟩
  match i with
  |0=>simp at hg hu;subst hg;subst hu;exact .imm _ _ (.lit _)
  |n+1=>simp at hg
 .have hrun:(execOp a.eval o).run P w= .ok (.value (.tuple #[.bool true,e'.key,e'.val])) (w1.putObj b (.mapIter (some b') since (seen.toArray.push e'.born) clock)):=by unfold execOp;simp only[ho,hv,Instr.next,Fa,br hh UK,Fj,br c dJ,htest,Bool.false_eq_true,if_false,<-hcs,f,hcr,h1,He _ hh1 UK,HR]
  unfold Oper.wp
  rw[hrun]
  have F:=h.world hk1
  have H:=F.writeX (x:= .iter (some j) since (seen++[y]) clock) hob hb (E1 (.mapIter (some b') since (seen.toArray.push e'.born) clock)) (World.putObj_heap_same (Array.getElem?_eq_some_iff.1 hh1).1) ⟨some b',by rw[h3];simp,.inr ⟨j,b',C,rfl,rfl,hb'⟩⟩
  have hkk:Bc (Av cx.S0 β st.σ) w (w1.putObj b (.mapIter (some b') since (seen.toArray.push e'.born) clock)):=(hk1.mono (by grind)).trans ((E1 _).mono (by grind))
  have hAv:∀b0,b0<w.heap.size->Av cx.S0 β ((i,some ⟨ob.t,[],some (.iter (some j) since (seen++[y]) clock)⟩)::st.σ) b0->Av cx.S0 β st.σ b0:=by
   rintro b0 _ (hx|⟨k,M,D,h5,h6⟩)
   .exact .inl hx
   .rw[A3] at h5;split at h5;all_goals grind
  refine z _ (.inr ⟨k',L,y,bO hq,rfl⟩) _ _ ⟨β,H.put o.dst hd (.tup _ _ rfl λi g u hg hu=>?_)⟩
  match i with
  |0=>simp at hg hu;subst hg;subst hu;exact .imm _ _ (.lit _)
  |1=>grind [RV,IV.glit]
  |2=>simp at hg hu;subst hg;subst hu;exact h4.step (by grind) hAv hkk
  |n+3=>simp at hg
def jr(σ:aQ)(g:G):Option G:=match gR σ g with
 |some (_,_,some j,_,seen,last)=>match LD σ (.mref j),seen.getLast? with
  |some (_,_,es,clock),some n=>bif Nat.beq clock last then
    match es.find? (λe=>Nat.beq e.2.2 n) with
    |some (k,g,_)=>some (.tup [db k,g])
    |none=>none
   else none
  |_,_=>none
 |_=>none
theorem Tb(a b:Nat):(a==b)=Nat.beq a b:=by grind [bc,Nat.beq_refl]
theorem Mg{α β:Type}{R:α->β->Prop}{p:α->Bool}{q:β->Bool}(c:∀a b,R a b->p a=q b):∀{l:List α} {m:List β},F2 R l m->∀{b},m.find? q=some b->∃a,l.find? p=some a/\R a b
 |_,_,.nil,b,h=>by simp at h
 |_,_,.cons h t,b,hb=>by
  rw[List.find?_cons] at hb⊢;rw[c _ _ h];split at hb
  .grind
  .exact Mg c t hb
theorem H3(ho:o.op= .entry x)(hd:LS o st.n)(hg:jr st.σ (aB st x)=some g):GS P o st (st.put o.dst g):=by
 intro cx a w K R ⟨β,h⟩ l;refine h.loose.oper (by grind) ?_;have hrun:∃v,(execOp a.eval o).run P w= .ok (.value v) w/\RV β (Av cx.S0 β st.σ) w g v:=by
  unfold jr at hg;split at hg
  .rename_i i t j since seen last hi;split at hg
   .rename_i u ty es clock n hm hn;cases hc:Nat.beq clock last with
    |false=>grind
    |true=>
     rw[hc] at hg;simp only[ax] at hg;have:=bc hc;subst this;obtain⟨ob,b,r,hob,rfl,hb,hv,hh,m⟩:=xT h (h.ev x) hi;obtain⟨b',rfl,C,hb'⟩:∃b',r=some b'/\∃C,β j=some (some (b',C)):=by grind
     obtain⟨s,bb,ents,c,f,rfl,hb2,_,d,_,_,hsz,hent⟩:=HD h (.mref j b' C hb') hm;cases c;obtain rfl:b'=bb:=by grind
     have hF:F2 (λ(e:MapEntry) (q:Value×G×Nat)=>e.key=q.1/\e.born=q.2.2/\RV β (Av cx.S0 β st.σ) w q.2.1 e.val) ents.toList es:=by grind [F2.of_get]
     split at hg
     .rename_i k y z hf;cases hg;obtain⟨e,he,h1,h2,h3⟩:=Mg (p:=λe=>e.born==n) (by grind [Tb]) hF hf;have he':ents.find? (λe=>e.born==n)=some e:=by grind
      have hbk:(seen.toArray).back?=some n:=by grind
      refine⟨.tuple #[e.key,e.val],?_,(by grind [Kk,RV,IV.glit])⟩;unfold execOp;simp only[ho,hv,Instr.entry,Fa,br hh UK,Fj,hbk,br d dJ,bne_self_eq_false,Bool.false_eq_true,if_false,he',HR]
     .cases hg
   .cases hg
  .cases hg
 obtain⟨v,hrun,hr⟩:=hrun;unfold Oper.wp;rw[hrun];exact l _ _ ⟨β,h.put o.dst hd hr⟩
theorem Bw.back{cx:Cx}{st s:St}{a a':Act}{w w':World}{β β1:Bm}{F:Fence}{n:Nat}(h:Bw P cx st a w β)(hr:Bw P ⟨w,GG β st.σ,cx.S0,β,F,n⟩ s a' w' β1)(hgl:s.gl=st.gl):
  Bw P cx {st with σ:=s.σ,c:=s.c} a w' β1/\(∀k x,β k=some x->β1 k=some x)/\Bc (GG β st.σ) w w':=by
 have hext:∀k x,β k=some x->β1 k=some x:=by grind
 have hAo:∀b,b<w.heap.size->Av cx.S0 β1 s.σ b->Av cx.S0 β st.σ b:=by
  rintro b hlt (hb|⟨i,ob,C,h1,h2⟩)
  .exact .inl hb
  .rcases hr.own i ob b C h1 h2 with hb|hb
   .exact .inr hb
   grind
 have hkp:Bc (Av cx.S0 β st.σ) w w':=hr.keep.mono λb _ hb=> .inr hb
 refine⟨{
  size:=h.size
  defers:=h.defers.keep hr.keep (λD hD hx=>by obtain⟨j,d,E,e,f⟩:=hx;grind [not_marks])
  loose:=h.loose
  rnd:=h.rnd
  fr:=by grind [RV.step]
  ob:=hr.ob
  inj:=hr.inj
  own:=by grind
  sep:=hr.sep
  fresh:=hr.fresh
  glob:=by grind
  keep:=h.keep.then hr.keep (λb hb hx=>by obtain⟨j,d,E,e,f⟩:=hx;grind)
  old:=h.old
  pin:=by grind},hext,hr.keep⟩
theorem Bw.front{cx:Cx}{st:St}{a:Act}{w:World}{β:Bm}{F:Fence}{n m:Nat}{r:Bool}{fr:Fr}{tmps:Array Value}(h:Bw P cx st a w β)(hL:JO F)(hr:r=false->F.round=none)(hsz:tmps.size=m)(hf:∀i,RV β (Av cx.S0 β st.σ) w (aD fr i) (tmps.getD i undef)):
  Bw P ⟨w,GG β st.σ,cx.S0,β,F,n⟩ ⟨m,st.gl,fr,st.σ,st.c,st.c,r⟩ {tmps:=tmps,defers:=[]} w β:={
 size:=hsz
 defers:= .nil rfl
 loose:=hL
 rnd:=hr
 fr:=hf
 ob:=h.ob
 inj:=h.inj
 own:=λi o b C ho hb=> .inl ⟨i,o,C,ho,hb⟩
 sep:=h.sep
 fresh:=h.fresh
 glob:=h.glob
 keep:=Bc.refl _ _
 old:=by grind
 pin:=by grind}
theorem Ca{gs:Bo}{m:Nat}(hsz:vs.size=gs.length)(hn:gs.length<=m)(hv:∀(i:Nat) (g:G) (u:Value),gs[i]?=some g->vs[i]?=some u->RV β S w g u)(i:Nat):
  RV β S w (aD (bQ 0 gs) i) ((vs++Array.replicate (m-vs.size) undef).getD i undef):=by
 rw[px]
 simp only[Nat.zero_le,if_true,Nat.sub_zero]
 cases hg:gs[i]? with
 |none=>exact .junk _
 |some g=>
  have hlt:=(cr hg).1
  have hu:vs[i]?=some (vs[i]'aa):=by grind
  have e:(vs++Array.replicate (m-vs.size) undef).getD i undef=vs[i]'aa:=by rw[Array.getD_eq_getD_getElem?,Array.getElem?_append_left aa,hu];rfl
  grind
theorem Ek{a:Act}{fn:Func}{gs:Bo}{Q:Exit->St->Prop}(h:Bw P cx st a w β)(hfn:P.funcs[fid]?=some fn)(hb:fn.body=some body)(hn:gs.length<=fn.ntmps)(hsz:vs.size=gs.length)
  (hv:∀(i:Nat) (g:G) (u:Value),gs[i]?=some g->vs[i]?=some u->RV β (Av cx.S0 β st.σ) w g u) (hT:Tr P body ⟨fn.ntmps,st.gl,bQ 0 gs,st.σ,st.c,st.c,false⟩ Q) (hQ:∀e s,Q e s->(e= .normal\/e= .ret)/\s.gl=st.gl/\∃b,fn.results.toList.mapM (jV P s)=some b):
  Calls P fid vs w λE w'=>∃v e s b d,E= .returned v/\Q e s/\fn.results.toList.mapM (jV P s)=some b/\Bw P cx {st with σ:=s.σ,c:=s.c} a w' d/\RV d (Av cx.S0 d s.σ) w' (iU b) v/\(∀k x,β k=some x->d k=some x)/\Bc (GG β st.σ) w w':=by
 refine rq (cx:=⟨w,GG β st.σ,cx.S0,β,Fence.wide,9⟩) hfn hb hT rfl rfl ⟨β,h.front lP (λ_=>rfl) (by grind) (Ca hsz hn hv)⟩ ?_
 rintro e s a' w' hq ⟨d,hr⟩
 grind [mP,Bw.back]
theorem Bw.xob{cx:Cx}{st:St}{a:Act}{w:World}{β:Bm}(h:Bw P cx st a w β){i:Nat}{t:Bn}{l:Bo}{x:Q5}(ho:ag st.σ i=some ⟨t,l,some x⟩)(hn:x≠ .resv):∃b o,β i=some (some (b,0))/\w.heap[b]?=some o/\XO β (Av cx.S0 β st.σ) w x o:=by
 rcases h.ob i _ ho with⟨_,_,h3⟩|⟨b,c,o,h1,h2,h3,h4,h5⟩|⟨b',C',cur,h1,_⟩
 all_goals grind
def sI(P:Br)(st:St)(Q:Exit->St->Prop)(e:Exit)(s:St):Prop:=
 (
  e= .normal\/e= .ret)/\s.gl=st.gl/\∃t a pe n fr ps az9 bd,ag s.σ st.c=some ⟨t,[],some (.loop a pe n fr ps az9 bd)⟩/\a≠ .busy/\
  match pe with
  |none=>Q .normal {st with σ:=(st.c,none)::(st.c,some ⟨t,[],some (.loop .exhausted pe n fr ps az9 bd)⟩)::s.σ,c:=s.c}
  |some c=>Tr P c {st with σ:=(st.c,none)::(st.c,some ⟨t,[],some (.loop .exhausted pe n fr ps az9 bd)⟩)::s.σ,c:=s.c} Q
theorem wx{g:Dl}{assign:Code}{Q:Exit->St->Prop}{fst cap:Bo}{fn:Func}{fbody:Code}(hr:st.r=false)(hg:aB st g= .clo (.func fid) fst cap)(hc:aK P fid=true)(hfn:P.funcs[fid]?=some fn)(hb:fn.body=some fbody)
  (hn:(fst++[G.yld st.c]++cap).length<=fn.ntmps) (hres:fn.results.toList=[])
  (hT:Tr P fbody ⟨fn.ntmps,st.gl,bQ 0 (fst++[G.yld st.c]++cap),(st.c,some ⟨0,[],some (.loop .ready none st.n st.fr ps assign body)⟩)::st.σ,st.c+1,st.c+1,false⟩ (sI P st Q)):
  Tr P (.rangeFunc g ps assign body) st Q:=by
 intro cx a w R ⟨β,h⟩ hk
 have hround:cx.F.round=none:=h.rnd hr
 refine wpIn_rangeFunc ?_
 intro A X
 rw[hround]
 have hx:=h.ev g
 rw[hg] at hx
 obtain⟨fs,cs,N,h1,h2,h3,h4⟩:=hx.clo_form
 obtain⟨l,J⟩:∃l:LoopState->Option Code->Loop,l=λst pe=>{state:=st,pending:=pe,fn:=A,tmps:=a.tmps,params:=ps,assign,body,defers:=w.heap.size}:=⟨_,rfl⟩
 obtain⟨f,hW1⟩:∃f,(w.alloc (.deferred (some []))).alloc (.loop (l .ready none))=f:=⟨_,rfl⟩
 have hW0:Bw P cx st a (w.alloc (.deferred (some []))) β:=h.world ((Bc.refl _ _).alloc _)
 have hsz0:(w.alloc (.deferred (some []))).heap.size=w.heap.size+1:=aC
 have hL1:f.heap[w.heap.size+1]?=some (.loop (l .ready none)):=by grind [World.alloc]
 have hD1:f.heap[w.heap.size]?=some (.deferred (some [])):=by grind [Below.heap_alloc,World.alloc_heap_new]
 have hk1:Bc (λ_=>False) (w.alloc (.deferred (some []))) f:=by grind [Bc.alloc,Bc.refl]
 have K:=hW0.allocX (w':=f) hk1 (b:=w.heap.size+1) (ob:=⟨0,[],some (.loop .ready none st.n st.fr ps assign body)⟩) (x:= .loop .ready none st.n st.fr ps assign body) (by rw[hsz0];exact C6 _) hL1 rfl rfl ⟨A,a.tmps,w.heap.size,by rw[J],hW0.size,λj=>hW0.fr j⟩ (C6 st.c)
 refine⟨w.heap.size+1,[{target:= .collected w.heap.size,args:= #[]}],f,{target:= .fn (.func fid) cs,args:=fs++ #[.func (.yield (w.heap.size+1)) #[] #[]]},f,fid,
  fs++ #[.func (.yield (w.heap.size+1)) #[] #[]]++cs,f,?_,?_,λ_ _=>h.loose.fn _,?_,h.loose.some,?_⟩
 .grind [run_enterLoop_outer]
 .simp only[resolve,N]
  simp[go_sem]
 .simp[invoke,go_sem,wq hc]
 refine h.loose.calls ?_
 have hsub:∀b,b<w.heap.size->Av cx.S0 (λi=>if i=st.c then some (some (w.heap.size+1,0))else β i) ((st.c,some ⟨0,[],some (.loop .ready none st.n st.fr ps assign body)⟩)::st.σ) b->Av cx.S0 β st.σ b:=by grind
 have hext1:∀i x,β i=some x->(λi=>if i=st.c then some (some (w.heap.size+1,0))else β i) i=some x:=by grind
 have hkw:Bc (Av cx.S0 β st.σ) w f:=by grind [Bc.alloc,Bc.refl]
 refine(Ek K hfn hb hn (by grind) (λi g u hg' hu=>?_) hT (λe s (hq:sI P st Q e s)=>⟨hq.1,hq.2.1,[],by rw[hres];rfl⟩)).mono ?_
 .by_cases c1:i<fst.length
  .grind [RV.step]
  .by_cases c2:i<fst.length+1
   .have e:i=fst.length:=aa
    subst e
    rw[List.append_assoc,List.getElem?_append_right (C6 _),Nat.sub_self] at hg'
    rw[Array.append_assoc,Array.getElem?_append_right aa,h1,Nat.sub_self,Array.getElem?_append_left aC] at hu
    simp at hg' hu
    subst hg';subst hu
    exact .yld _ _ 0 aC
   .rw[List.getElem?_append_right cq] at hg'
    grind [RV.step]
 .rintro E w2 ⟨v,e,s,gs',β2,rfl,⟨he,hgl,t,ls,pe,n,fr,m,p,q,hob,B,O⟩,hgs,z,hrv,Y,hkeep⟩
  have hob':ag ({st with σ:=s.σ,c:=s.c}:St).σ st.c=some ⟨t,[],some (.loop ls pe n fr m p q)⟩:=hob
  obtain⟨b,o,hb2,hh,S⟩:=z.xob (st:={st with σ:=s.σ,c:=s.c}) hob' (by grind)
  have hbl:β2 st.c=some (some (w.heap.size+1,0)):=by grind
  rw[hbl] at hb2
  simp only[Ft,Gb,and_true] at hb2
  subst hb2
  obtain⟨M,d,Z,rfl,U,V⟩:=S
  have L:=run_endLoop (P:=P) hh B
  refine⟨pe,_,L,?_⟩
  have hlt:w.heap.size+1<w2.heap.size:=by grind
  have hX:=z.writeX (x:= .loop .exhausted pe n fr m p q) hob' hbl (by grind [E1]) (World.putObj_heap_same hlt) ⟨M,d,Z,rfl,U,V⟩
  have k:=hX.kill st.c
  have hD2:w2.heap[w.heap.size]?=some (.deferred (some [])):=(hkeep.block _ (by grind) (λ⟨j,ob2,C,h5,h6⟩=>K.not_marks h5 h6 hD1)).trans hD1
  have hrelA:mh P cx {st with σ:=(st.c,none)::(st.c,some ⟨t,[],some (.loop .exhausted pe n fr m p q)⟩)::s.σ,c:=s.c} {a with defers:=[{target:= .collected w.heap.size,args:= #[]}]++a.defers} (w2.putObj (w.heap.size+1) (.loop {state:= .exhausted,pending:=pe,fn:=M,tmps:=d,params:=m,assign:=p,body:=q,defers:=Z})):=by
   refine⟨β2,{k with size:=k.size,defers:=?_,fr:=k.fr}⟩;obtain⟨I,W,d2,d3⟩:=k.defers;have hold:∀D∈I,D<w.heap.size:=by
    intro D hD;obtain⟨H,f1,f2,f3⟩:=h.defers;have:H.map rp=I.map rp:=f1.symm.trans W;have hm:H=I:=by
     have hinj:∀x y,rp x=rp y->x=y:=by grind [rp]
     clear f1 f2 f3 W d2 d3 hD;induction H generalizing I with
     |nil=>simp_all
     |cons x r ih=>cases I<;>grind
    grind
   refine⟨w.heap.size::I,by simp[W,rp],(by grind),λD hD=>?_⟩;grind [World.putObj_heap_other]
  cases pe with
  |none=>grind
  |some c=>exact O cx _ _ _ hrelA hk
def xU:List (Tmp×G)->Fr->Fr
 |[],fr=>fr
 |(p,g)::r,fr=>xU r ((p,g)::fr)
theorem El{β:Bm}{S:Ga}{w:World}{n:Nat}:∀(l:List (Tmp×G)) (vs:List Value) (fr:Fr) (tmps:Array Value),vs.length=l.length->tmps.size=n->(∀p∈l,p.1<n)->(∀i,RV β S w (aD fr i) (tmps.getD i undef))->(∀(i:Nat) (q:Tmp×G) (u:Value),l[i]?=some q->vs[i]?=some u->RV β S w q.2 u)->
  (((l.map (·.1)).zip vs).foldl (λt (p,v)=>t.setIfInBounds p v) tmps).size=n/\∀i,RV β S w (aD (xU l fr) i) ((((l.map (·.1)).zip vs).foldl (λt (p,v)=>t.setIfInBounds p v) tmps).getD i undef)
 |[],vs,fr,tmps,hl,hs,_,hf,_=>⟨hs,hf⟩
 |(p,g)::r,v::vs,fr,tmps,hl,hs,hp,hf,hv=>by
  refine El r vs ((p,g)::fr) (tmps.setIfInBounds p v) (by grind) (by grind) (by grind) (λi=>?_) (λi q u hq hu=>hv (i+1) q u (by grind) (by grind));have hlt:p<tmps.size:=by simp_all
  have:=HI {tmps:=tmps,defers:=[]} p v hlt i;simp only[Act.put] at this;rw[this,aO];split
  .exact hv 0 (p,g) v rfl rfl
  .exact hf i
 |(p,g)::r,[],fr,tmps,hl,_,_,_,_=>by simp at hl
def Qo:Exit->Option (Option Code)
 | .normal=>some none
 | .ret=>some (some .ret)
 | .exit id=>some (some (.exit id))
 | .goto t=>some (some (.goto t))
 |_=>none
def rE(P:Br)(st:St)(i:Nat)(S:Option Code->Q5->Bn->St->Prop)(e:Exit)(s:St):Prop:=
 s.gl=st.gl/\∃j t a pe n fr ps az9 bd,Qo e=some j/\ag s.σ i=some ⟨t,[],some (.loop a pe n fr ps az9 bd)⟩/\S j (.loop (if j.isNone then .ready else .done) j n fr ps az9 bd) t s
theorem Em{o:Oper}{st:St}{f:Dl}{xs:Array Dl}{ats:Array Bn}{i n:Nat}{t:Bn}{pe:Option Code}{fr:Fr}{ps:Array Tmp}{az9 bd:Code}{S:Option Code->Q5->Bn->St->Prop}
  (ho:o.op= .call {callee:= .value f,args:=xs,argTypes:=ats}) (hd:LS o st.n) (hf:aB st f= .yld i) (hob:ag st.σ i=some ⟨t,[],some (.loop .ready pe n fr ps az9 bd)⟩) (hsz:xs.size=ps.size) (Y:∀p∈ps.toList,p<n)
  (
   hA:Tr P az9 ⟨n,st.gl,xU (ps.toList.zip (xs.toList.map (aB st))) fr,st.σ,st.c,st.c,true⟩ (λe s=>e= .normal/\s.gl=st.gl/\∃t' k X u y z A,ag s.σ i=some ⟨t',[],some (.loop .ready k X u y z A)⟩/\
   Tr P bd {s with σ:=(i,some ⟨t',[],some (.loop .busy k X u y z A)⟩)::s.σ} (rE P st i S))):
  th P o st (λs'=>∃j x t' s,S j x t' s/\s'={st with σ:=(i,some ⟨t',[],some x⟩)::s.σ,c:=s.c}.put o.dst (.lit (.bool j.isNone))):=by
 intro cx a w K R ⟨β,h⟩ hK
 obtain⟨l,o0,hbi,hh,Z⟩:=h.xob hob (by grind)
 obtain⟨fn,tmps,D,rfl,hts,htf⟩:=Z
 have hfv:a.eval f= .func (.yield l) #[] #[]:=by have:=h.ev f;grind [RV.yld_form]
 have hrun:(execOp a.eval o).run P w= .ok (.round l fn ((ps.zip (xs.map a.eval)).foldl (λt (p,v)=>t.setIfInBounds p v) tmps) az9 bd) w:=by unfold execOp;have hy:=run_yield (P:=P) (args:=xs.map a.eval) hh (by grind);grind [resolve,invoke,Deferred.ofValue]
 refine⟨λg _=>h.loose.fn g,?_⟩
 have hs:o.semAt cx.F.round a.eval=execOp a.eval o:=by
  cases cx.F.round with
  |none=>rfl
  |some l=>grind [Oper.semAt_some]
 rw[hs,hrun,Oper.uponIn_round]
 refine⟨h.loose.some,?_⟩
 have hLr:JO (cx.F.inRound l):=⟨h.loose.fn,h.loose.depth,h.loose.alive⟩
 obtain⟨q1,q2⟩:=El (β:=β) (S:=Av cx.S0 β st.σ) (w:=w) (n:=n) (ps.toList.zip (xs.toList.map (aB st))) (xs.toList.map a.eval) fr tmps cq hts (λp hp=>Y p.1 (List.of_mem_zip hp).1) htf (by grind [Bw.ev])
 have e0:(ps.toList.zip (xs.toList.map (aB st))).map (·.1)=ps.toList:=by grind [List.map_fst_zip]
 rw[e0] at q1 q2
 have e1:(ps.zip (xs.map a.eval)).foldl (λt (p,v)=>t.setIfInBounds p v) tmps=(ps.toList.zip (xs.toList.map a.eval)).foldl (λt (p,v)=>t.setIfInBounds p v) tmps:=by rw[<-Array.foldl_toList];simp_all
 rw[e1]
 refine roundIn_of_wpIn (h.loose.fn fn) ?_
 have hfront:=h.front (F:=cx.F.inRound l) (n:=cx.nn-1) (m:=n) (r:=true) hLr (λhx=>by cases hx) q1 q2
 refine hA ⟨w,GG β st.σ,cx.S0,β,cx.F.inRound l,cx.nn-1⟩ _ w _ ⟨β,hfront⟩ ?_
 .rintro e s a1 w1 ⟨rfl,hgl,t',k,X,u,y,z,A,B,hT2⟩ ⟨β1,hr1⟩
  obtain⟨b1,o1,hb1,hh1,H⟩:=hr1.xob B (by grind)
  have hext1:=(hr1.pin i _ hbi).2
  rw[hext1] at hb1
  simp only[Ft,Gb,and_true] at hb1
  subst hb1
  obtain⟨fn1,E,D1,rfl,I,J⟩:=H
  have hlt1:l<w1.heap.size:=by grind
  refine⟨_,run_beginRound hh1 rfl,?_⟩
  have hX1:=hr1.writeX (x:= .loop .busy k X u y z A) B hext1 (by grind [E1]) (World.putObj_heap_same hlt1) ⟨fn1,E,D1,rfl,I,J⟩
  refine hT2 ⟨w,GG β st.σ,cx.S0,β,cx.F.inRound l,cx.nn-1⟩ a1 _ _ ⟨β1,hX1⟩ ?_
  rintro e2 s2 a2 w2 ⟨L,j,t2,ls2,pe2,n2,fr2,Q,U,V,hj,C,hS⟩ ⟨β2,hr2⟩
  obtain⟨b2,o2,hb2,hh2,M⟩:=hr2.xob C (by grind)
  have hext2:=(hr2.pin i _ hbi).2
  rw[hext2] at hb2
  simp only[Ft,Gb,and_true] at hb2
  subst hb2
  obtain⟨W,d,D2,rfl,N,O⟩:=M
  have hlt2:l<w2.heap.size:=by grind
  have b:=run_endRound (P:=P) j hh2
  have hX2:=hr2.writeX (x:= .loop (if j.isNone then .ready else .done) j n2 fr2 Q U V) C hext2 (by grind [E1]) (World.putObj_heap_same hlt2) ⟨W,d,D2,rfl,N,O⟩
  obtain⟨hback,_,_⟩:=h.back hX2 L
  have hfin:K (a.put o.dst (.bool j.isNone)) (w2.putObj l (.loop {state:=if j.isNone then .ready else .done,pending:=j,fn:=W,tmps:=d,params:=Q,assign:=U,body:=V,defers:=D2})):=
   hK _ (by grind) _ _ ⟨β2,hback.put o.dst hd (.imm _ _ (.lit _))⟩
  cases e2 with
  |normal=>cases hj;exact⟨_,_,b,hfin⟩
  |ret=>cases hj;exact⟨_,_,b,hfin⟩
  |exit id=>cases hj;exact⟨_,_,b,hfin⟩
  |goto q=>cases hj;exact⟨_,_,b,hfin⟩
  |panic c=>cases hj
  |outgrown=>cases hj
theorem Dr{pl:FF}{bytes:Nat}{zs:List Value}{kl kc:IntKind}(ho:o.op= .makeSlice t x y)(hd:LS o st.n)(he:dp P t=some e)(hs:bw P e=some s)(hz:jj P e=some zs)(b:zs.length=s)(hby:(P.info? e).map (·.bytes)=some bytes)
  (hx:aB st x= .lit (.int kl n)) (hy:aB st y= .lit (.int kc n)) (hb:bytes*n<=281474976710656) (f:n<=9223372036854775807) (hpl:zB st pl):GS P o st (st.newP pl o.dst e ((bN zs (n*s)).map .lit) (.rsl (iT st pl) 0 n)):=by
 intro cx a w K R ⟨β,h⟩ l
 obtain⟨i,z,hi,hz',d,h1⟩:=ii hz
 have ht:=cE he
 have hsi:i.size=s:=by unfold bw at hs;rw[hi] at hs;simpa using hs
 have hbi:i.bytes=bytes:=by rw[hi] at hby;simpa using hby
 have vx:a.eval x= .int kl n:=by have:=h.ev x;rw[hx] at this;exact this.lit_eq
 have vy:a.eval y= .int kc n:=by have:=h.ev y;rw[hy] at this;exact this.lit_eq
 have hcells:madeCells z.cells (n*s)=(bN zs (n*s)).toArray:=by
  apply Array.ext (by simp[bN,madeCells]);intro j h1' h2';have hj:j<n*s:=by simpa[madeCells] using h1'
  have hpos:0<zs.length:=by
   rcases Nat.eq_zero_or_pos zs.length with h0|h0
   .rw[<-b,h0] at hj;simp at hj
   .exact h0
  have hlt:=Nat.mod_lt j hpos;have hsz:z.cells.size=zs.length:=by rw[<-d];simp
  simp only[madeCells,Array.getElem_map,Array.getElem_range,bN,List.getElem_toArray,List.getElem_map,List.getElem_range,hsz];rw[List.getD_eq_getElem?_getD,EA hlt,getElem!_pos z.cells _ aa];simp only[Nt,<-d,Array.getElem_toList]
 have hrun:(execOp a.eval o).run P w= .ok (.value (.slice (some ⟨w.heap.size,0,none⟩) n n)) (w.alloc (.cells (bN zs (n*s)).toArray e)):=by
  have hbb:(i.bytes:Int)*(n:Int)<=281474976710656:=by have h:((bytes*n:Nat):Int)<=281474976710656:=aa;rw[hbi];rwa [Int.natCast_mul] at h
  have hm:=run_make (P:=P) w t e i z ht hi hz' kl kc n n aa (Int.le_refl _) hbb aa;rw[hsi] at hm;simp only[Fm] at hm;rw[hcells] at hm;unfold execOp;simp only[ho,vx,vy,Fa,hm,Fj,HR]
 refine h.loose.oper (λc hc=>by rw[ho] at hc;cases hc) ?_
 unfold Oper.wp
 rw[hrun]
 have hzz:∀v∈bN zs (n*s),v.oneCell'=true:=by
  intro v hv;simp only[bN,E7,List.mem_range] at hv;obtain⟨k,hk,rfl⟩:=hv;have hpos:0<zs.length:=by
   rcases Nat.eq_zero_or_pos zs.length with h0|h0
   .rw[<-b,h0] at hk;simp at hk
   .exact h0
  have hlt:=Nat.mod_lt k hpos;rw[List.getD_eq_getElem?_getD,EA hlt];exact h1 _ (List.getElem_mem hlt)
 have hn:n<=maxLen:=by unfold maxLen;omega
 refine l _ _ (h.newP (hpl:=hpl) (C:=n) (by rw[Pp hs];simp[bN]) hn aC (λj u hu=>hzz u (bO (by simpa using hu))) (λj g u hg hu=>?_) o.dst hd (λm hb S w'=> .rsl _ _ _ _ _ _ _ hb (C6 _) hn (λ_=>rfl) (λ_=>⟨rfl,rfl⟩)))
 rw[Nh] at hg
 have hu':(bN zs (n*s))[j]?=some u:=by simpa using hu
 rw[hu'] at hg
 cases hg
 exact .imm _ _ (.lit u)
def tI(P:Br)(t:Bn)(gx gy:G):Option (Bn×Bo×Nat):=match gx,gy with
 | .lit (.int _ (.ofNat n)),.lit (.int _ (.ofNat m))=>match dp P t with
  |some e=>match bw P e,jj P e,(P.info? e).map (·.bytes) with
   |some s,some zs,some b=>bif Nat.beq n m&&Nat.beq zs.length s&&Nat.ble (b*n) 281474976710656&&Nat.ble n 9223372036854775807 then some (e,(bN zs (n*s)).map .lit,n)else none
   |_,_,_=>none
  |none=>none
 |_,_=>none
theorem HV{pl:FF}{l:Bo}(ho:o.op= .makeSlice t x y)(hd:LS o st.n)(h:tI P t (aB st x) (aB st y)=some (e,l,n))(hpl:zB st pl):GS P o st (st.newP pl o.dst e l (.rsl (iT st pl) 0 n)):=by
 unfold tI at h;split at h
 .rename_i c a kc m hx hy;split at h
  .rename_i e' he;split at h
   .rename_i s zs b h1 h2 h3;cases hc:(Nat.beq a m&&Nat.beq zs.length s&&Nat.ble (b*a) 281474976710656&&Nat.ble a 9223372036854775807) with
    |false=>rw[hc] at h;cases h
    |true=>rw[hc] at h;cases h;simp only[bA] at hc;have e1:=bc hc.1.1.1;subst e1;exact Dr ho hd he h1 h2 (bc hc.1.1.2) h3 hx hy (EG hc.1.2) (EG hc.2) hpl
   .cases h
  .cases h
 .cases h
def HW:Value->Bool
 | .slice none _ _=>true
 |_=>false
def HX:Value->Bool
 | .pointer none=>true
 |_=>false
def Qj:Value->Bool
 | .nilFunc=>true
 |_=>false
theorem Kg(h:HW v=true):∃n c,v= .slice none n c:=by unfold HW at h;grind
theorem Kh(h:HX v=true):v= .pointer none:=by grind [HX]
theorem Ki(h:Qj v=true):v= .nilFunc:=by grind [Qj]
def Yg(P:Br)(t:Bn):Bool:=match P.underlying t with
 |some (.slice _)=>true
 |_=>false
def Yh(P:Br)(t:Bn):Bool:=match P.underlying t with
 |some (.pointer _)=>true
 |_=>false
def tfn(P:Br)(t:Bn):Bool:=match P.underlying t with
 |some (.func ..)=>true
 |_=>false
theorem Qk(h:Yg P t=true):∃e,P.underlying t=some (.slice e):=by grind [Yg]
theorem Ql(h:Yh P t=true):∃e,P.underlying t=some (.pointer e):=by grind [Yh]
theorem Qm(h:tfn P t=true):∃a b c,P.underlying t=some (.func a b c):=by grind [tfn]
def Me(P:Br)(t:Bn)(a:Value):G->Bool
 | .rsl _ _ (_+1)=>HW a&&Yg P t
 | .sl (_::_) _=>HW a&&Yg P t
 | .ref _ _=>HX a&&Yh P t
 | .ptr _ _=>HX a&&Yh P t
 | .clo _ _ _=>Qj a&&tfn P t
 |_=>false
theorem NK{nil:Value}(h:Me P t nil g=true)(hv:RV β S w g v):(∀d W,(Op.equalIn (d+1) t v nil).run P W= .ok false W)/\(∀op x y W,(eqGuard op t x y v nil).run P W= .ok () W)/\∀W,(binOp .eql t v nil).run P W= .ok (.bool false) W/\(binOp .neq t v nil).run P W= .ok (.bool true) W:=by
 have fin:(∀k n,v≠ .int k n)->(∀k n,v≠ .float k n)->(∀k a b,v≠ .complex k a b)->(∀s,v≠ .string s)->(∀d W,(Op.equalIn (d+1) t v nil).run P W= .ok false W)->∀W,(binOp .eql t v nil).run P W= .ok (.bool false) W/\(binOp .neq t v nil).run P W= .ok (.bool true) W:=by
  intro n1 n2 j m he W;have he':(Op.equal t v nil).run P W= .ok false W:=he 9999 W;constructor
  .unfold binOp;split<;>simp_all
  .unfold binOp;split<;>simp_all
 have sl:∀(x:Addr) (n c:Nat),v= .slice (some x) n c->HW nil=true->Yg P t=true->(∀d W,(Op.equalIn (d+1) t v nil).run P W= .ok false W)/\(∀op x y W,(eqGuard op t x y v nil).run P W= .ok () W)/\∀W,(binOp .eql t v nil).run P W= .ok (.bool false) W/\(binOp .neq t v nil).run P W= .ok (.bool true) W:=by
  rintro x n c rfl h1 h2;obtain⟨f,c',rfl⟩:=Kg h1;obtain⟨e,hu⟩:=Qk h2;have he:∀d W,(Op.equalIn (d+1) t (.slice (some x) n c) (.slice none f c')).run P W= .ok false W:=λd W=>by simp[Op.equalIn,Gf hu]
  exact⟨he,λop a b W=>by unfold eqGuard;simp_all,(by simp_all)⟩
 have pt:∀(x:Addr),v= .pointer (some x)->HX nil=true->Yh P t=true->(∀d W,(Op.equalIn (d+1) t v nil).run P W= .ok false W)/\(∀op x y W,(eqGuard op t x y v nil).run P W= .ok () W)/\∀W,(binOp .eql t v nil).run P W= .ok (.bool false) W/\(binOp .neq t v nil).run P W= .ok (.bool true) W:=by
  rintro x rfl h1 h2;obtain rfl:=Kh h1;obtain⟨e,hu⟩:=Ql h2;have he:∀d W,(Op.equalIn (d+1) t (.pointer (some x)) (.pointer none)).run P W= .ok false W:=λd W=>by simp[Op.equalIn,Gf hu]
  exact⟨he,λop a b W=>by unfold eqGuard;simp_all,(by simp_all)⟩
 unfold Me at h;split at h
 .grind [RV.rsl_form]
 .rename_i g0 l n;simp only[bA] at h;obtain⟨a,cap,us,rfl,_,_,ha,_⟩:=hv.sl_cells;obtain⟨b,i,rfl,_⟩:=ha 0 aC;grind
 .grind [RV.ref_addr]
 .grind [RV.ptr_cells]
 .rename_i fn fst cap;simp only[bA] at h;obtain⟨fs,cs,rfl,_⟩:=hv.clo_form;obtain⟨h1,h2⟩:=h;obtain rfl:=Ki h1;obtain⟨_,_,_,hu⟩:=Qm h2;have he:∀d W,(Op.equalIn (d+1) t (.func fn fs cs) .nilFunc).run P W= .ok false W:=λd W=>by simp[Op.equalIn,Gf hu]
  exact⟨he,λop a b W=>by unfold eqGuard;simp_all,(by simp_all)⟩
 .cases h
def FL(P:Br)(op:BinOp)(t:Bn)(gx gy:G):Option G:=match gy with
 | .lit nil=>bif Me P t nil gx then(match op with
  | .eql=>some (.lit (.bool false))
  | .neq=>some (.lit (.bool true))
  |_=>none)else none
 |_=>none
theorem NL(ho:o.op= .binOp op t x y t')(hd:LS o st.n)(h:FL P op t (aB st x) (aB st y)=some g):GS P o st (st.put o.dst g):=by
 intro cx a w K R ⟨β,r⟩ d;unfold FL at h;split at h
 .rename_i c hy;cases hs:Me P t c (aB st x) with
  |false=>grind
  |true=>
   rw[hs] at h;obtain⟨_,h2,h3⟩:=NK hs (r.ev x);have vy:a.eval y=c:=by have:=r.ev y;grind [RV.lit_eq]
   have hrun:∃b,g= .lit (.bool b)/\(execOp a.eval o).run P w= .ok (.value (.bool b)) w:=by
    unfold execOp;simp only[ho,vy];cases op with
    |eql=>simp_all
    |neq=>simp_all
    |_=>cases h
   obtain⟨b,rfl,hr⟩:=hrun;refine r.loose.oper (by grind) ?_;unfold Oper.wp;rw[hr];exact d _ _ ⟨β,r.put o.dst hd (.imm _ _ (.lit _))⟩
 .cases h
def BC:Ob:=⟨0,[],some .resv⟩
theorem SQ(st:St):Le P st {st with σ:=(st.c,some BC)::st.σ,c:=st.c+1}:=by rintro cx a w ⟨β,h⟩;exact⟨_,h.virtX 0 (.inr rfl) (C6 _)⟩
def ff:Nat->St->St
 |0,s=>s
 |n+1,s=>ff n {s with σ:=(s.c,some BC)::s.σ,c:=s.c+1}
theorem uB:∀(n:Nat) (st:St),Le P st (ff n st)
 |0,st=>Le.refl st
 |n+1,st=>(SQ st).trans (uB n _)
theorem fY{a b:aQ}(h:i∈a.map (·.1)):ag (a++b) i=ag a i:=by
 induction a with
 |nil=>simp at h
 |cons x r ih=>
  obtain⟨d,ob⟩:=x;rw[List.cons_append,A3,A3];split
  .rfl
  .rename_i e;simp only[Fo,EY] at h;rcases h with h|h
   .exact absurd h.symm e
   .exact ih h
theorem fE{a b:aQ}(h:i∉a.map (·.1)):ag (a++b) i=ag b i:=by
 induction a with
 |nil=>rfl
 |cons x r ih=>obtain⟨d,ob⟩:=x;simp only[Fo,EY,not_or] at h;rw[List.cons_append,A3,BB (λe=>h.1 e.symm)];exact ih h.2
end Go.Proofs.YtlimmeehdfbheaaGreatDoor
