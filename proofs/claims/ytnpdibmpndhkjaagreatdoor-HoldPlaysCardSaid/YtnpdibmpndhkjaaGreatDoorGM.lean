/- Texts. -/
import Derived.IntWalk
import Derived.Laws.Cover3
import Derived.Laws.IdiomStrings
import Derived.Laws.MakeOwn
import Derived.Lib.AppendStr
import Derived.MapKept
import Derived.Test.YtnpdibmpndhkjaaGreatDoorLib
namespace Go.Proofs.YtnpdibmpndhkjaaGreatDoor
set_option linter.unusedVariables false
set_option linter.unusedSimpArgs false
open Go.RowKit Go.Lib
variable {d:Option Tmp}{op:BinOp}{e kt s t t' u:TypeId}{f x y z:Operand}{pos:String}{af:Array Edge}{gd:Option (Nat×Bool)}{st:St}{cap fst l':List G}{cx:Cx}{β:Bm}{gl:List (Nat×List G)}{ρ:List (Nat×Nat)}{L seen:List Nat}{g gk gm:G}{clock i j last n r since:Nat}{o:Oper}{k k':IntKind}{xs:Array Operand}{ats:Array TypeId}{fid:FuncId}{parts:Array (Nat×Operand)}{body c:Code}{cs:List Frame}{w:World}{v vk vm:Value}{es:List (Value×G×Nat)}{ok:Bool}{vs:Array Value}
section
variable {P:Program} {rr:Bool}
def b8(P:Program)(c:BinOp)(t:TypeId)(x y:Operand)(e f:G):Option G:=match cD e,cD f with
 |some u,some v=>(bt P (do eqGuard c t x y u v;binOp c t u v)).map db
 |_,_=>none
theorem dd{α β:Type}{p:Program}:∀(s:Sem α) (f:α->Sem β),bt p (s>>=f)=(bt p s).bind λa=>bt p (f a)
 | .pure a,f=>rfl
 | .program k,f=>dd (k p) f
 | .load ..,f| .store ..,f| .new ..,f| .shape ..,f| .freeze ..,f| .frozen ..,f| .getObj ..,f| .setObj ..,f
 | .choose ..,f| .sys ..,f| .mark ..,f| .halt ..,f=>rfl
theorem rA{ρ:Operand->G}{σ:aQ}{ty:TypeId}:aX P ρ σ ⟨d,.binOp op t x y t',ty,pos,af,gd⟩=b8 P op t x y (ρ x) (ρ y):=by
 simp only[aX,gJ,b8];cases hx:cD (ρ x) with
 |none=>simp[Op.operands,hx]
 |some u=>
  cases hy:cD (ρ y) with
  |none=>simp[Op.operands,hx,hy]
  |some v=>
   simp only[Op.operands,execOp,hx,hy,Option.getD_some];rw[if_pos (by simp[hx,hy])];have e:=dd (p:=P) (do eqGuard op t x y u v;binOp op t u v:Sem Value) (λr=>(pure (Next.value r):Sem Next));rw[e];cases bt P (do eqGuard op t x y u v;binOp op t u v) with
   |none=>rfl
   |some r=>rfl
def gun(P:Program)(c:UnOp)(e:G):Option G:=match cD e with
 |some u=>(bt P (Op.unary c u)).map db
 |_=>none
theorem Yc{ρ:Operand->G}{σ:aQ}{op:UnOp}{ty:TypeId}:aX P ρ σ ⟨d,.unOp op t x,ty,pos,af,gd⟩=gun P op (ρ x):=by
 simp only[aX,gJ,gun];cases hx:cD (ρ x) with
 |none=>simp[Op.operands,hx]
 |some u=>simp only[Op.operands,execOp,hx,Option.getD_some];rw[if_pos (by simp[hx])];have e:=dd (p:=P) (Op.unary op u) (λr=>(pure (Next.value r):Sem Next));rw[e];cases bt P (Op.unary op u)<;>rfl
theorem bz{α:Type}{p:Program}(a:α):bt p (pure a:Sem α)=some a:=rfl
section
variable {t:TypeId} {x y:Operand} {k:IntKind} {a b:Int}
theorem VM:b8 P .add t x y (.lit (.int k a)) (.lit (.int k b))=some (.lit (.int k (k.wrap (a+b)))):=by simp[b8,cD,eqGuard,binOp,Op.intArith,bz,db]
theorem VN:b8 P .sub t x y (.lit (.int k a)) (.lit (.int k b))=some (.lit (.int k (k.wrap (a-b)))):=by simp[b8,cD,eqGuard,binOp,Op.intArith,bz,db]
theorem VO:b8 P .mul t x y (.lit (.int k a)) (.lit (.int k b))=some (.lit (.int k (k.wrap (a*b)))):=by simp[b8,cD,eqGuard,binOp,Op.intArith,bz,db]
theorem VP:b8 P .lss t x y (.lit (.int k a)) (.lit (.int k b))=some (.lit (.bool (decide (a<b)))):=by simp[b8,cD,eqGuard,binOp,Op.intCmp,bz,db]
theorem VQ:b8 P .leq t x y (.lit (.int k a)) (.lit (.int k b))=some (.lit (.bool (decide (a<=b)))):=by simp[b8,cD,eqGuard,binOp,Op.intCmp,bz,db]
theorem VR:b8 P .gtr t x y (.lit (.int k a)) (.lit (.int k b))=some (.lit (.bool (decide (b<a)))):=by simp[b8,cD,eqGuard,binOp,Op.intCmp,bz,db]
theorem VS:b8 P .geq t x y (.lit (.int k a)) (.lit (.int k b))=some (.lit (.bool (decide (b<=a)))):=by simp[b8,cD,eqGuard,binOp,Op.intCmp,bz,db]
theorem VT:b8 P .eql t x y (.lit (.int k a)) (.lit (.int k b))=some (.lit (.bool (decide (a=b)))):=by
 have e:(a==b)=decide (a=b):=by rw[Bool.eq_iff_iff];simp
 simp[b8,cD,eqGuard,binOp,Op.intCmp,bz,db,<-e]
theorem VU:b8 P .neq t x y (.lit (.int k a)) (.lit (.int k b))=some (.lit (.bool (decide (a≠b)))):=by
 have e:(a !=b)=decide (a≠b):=by rw[Bool.eq_iff_iff];simp
 rw[<-e];simp[b8,cD,eqGuard,binOp,Op.intCmp,bz,db]
theorem VV(h:b≠0):b8 P .quo t x y (.lit (.int k a)) (.lit (.int k b))=some (.lit (.int k (k.wrap (a.tdiv b)))):=by simp[b8,cD,eqGuard,binOp,Op.intDiv,bz,db,h]
theorem VW(h:b≠0):b8 P .rem t x y (.lit (.int k a)) (.lit (.int k b))=some (.lit (.int k (a.tmod b))):=by simp[b8,cD,eqGuard,binOp,Op.intDiv,bz,db,h]
theorem VX{b:Bool}:gun P .not (.lit (.bool b))=some (.lit (.bool !b)):=rfl
end
section
variable {ρ:Operand->G} {σ:aQ} {d:Option Tmp} {ty t:TypeId} {x y z:Operand} {pos:String} {af:Array Edge} {gd:Option (Nat×Bool)} {n k:Nat}
def HS(k:Nat):G->Option G
 | .tup l=>l[k]?
 |_=>none
theorem J9:aX P ρ σ ⟨d,.extract x k,ty,pos,af,gd⟩=HS k (ρ x):=rfl
def BX(P:Program)(t:TypeId)(k:Nat)(g:G):Option G:=(ru P t k).bind λ(off,ft)=>(bw P ft).bind λn=>if n=0 then none else wo off g
theorem Ka:aX P ρ σ ⟨d,.call {callee:= .builtin .len,args:= #[x],argTypes:= #[t]},ty,pos,af,gd⟩=if(dp P t).isSome then(HK (ρ x)).map λn=> .lit (.int .i64 n) else gJ P ρ ⟨d,.call {callee:= .builtin .len,args:= #[x],argTypes:= #[t]},ty,pos,af,gd⟩:=rfl
end
theorem w64{x:Int}(h: -9223372036854775808<=x/\x<=9223372036854775807):IntKind.i64.wrap x=x:=IntWalk.i64_in x h
theorem wu8{x:Int}(h:0<=x/\x<=255):IntKind.u8.wrap x=x:=IntWalk.u8_in x h
end
section
variable {P:Program}
theorem SX{fn:Fn}{l m m':List G}(hl:l'.length=l.length)(hm:m'.length=m.length)(h:∀(i:Nat) (g g':G),l[i]?=some g->l'[i]?=some g'->ve P st g g')(h':∀(i:Nat) (g g':G),m[i]?=some g->m'[i]?=some g'->ve P st g g'):ve P st (.clo fn l m) (.clo fn l' m'):=λcx a w β r v hv=>by
 obtain⟨fs,b,rfl,h1,h2,h3,h4⟩:=hv.clo_form;refine .clo _ _ _ _ _ aa aa (λi g u hg hu=>?_) (λi g u hg hu=>?_)
 .have hlt:=(cr hg).1;have hx:l[i]?=some (l[i]'aa):=by simp[show i<l.length by omega]
  exact h i _ g hx hg cx a w β r u (h3 i _ u hx hu)
 .have hlt:=(cr hg).1;have hx:m[i]?=some (m[i]'aa):=by simp[show i<m.length by omega]
  exact h' i _ g hx hg cx a w β r u (h4 i _ u hx hu)
def GG(β:Bm)(σ:aQ)(b:Nat):Prop:=∃i ob C,ag σ i=some ob/\β i=some (some (b,C))
structure RS (P:Program) (β:Bm) (S:Nat->Prop) (σ:aQ) (w:World):Prop where
 ob:∀i o,ag σ i=some o->RO P β (Av S β σ) w i o
 inj:∀i j o o' b C D,ag σ i=some o->ag σ j=some o'->β i=some (some (b,C))->β j=some (some (b,D))->i=j
 sep:∀i o b C,ag σ i=some o->β i=some (some (b,C))->¬S b
structure MPost (P:Program) (w:World) (β:Bm) (S:Nat->Prop) (σ0:aQ) (p:Nat) (r:G) (σ1:aQ) (v:Value) (w':World) (β':Bm):Prop where
 pin:∀i,i<p->β' i=β i
 rs:RS P β' S σ1 w'
 old:∀b,GG β' σ1 b->GG β σ0 b\/w.heap.size<=b
 val:RV β' (Av S β' σ1) w' r v
 keep:Keeps (GG β σ0) w w'
def OU(P:Program)(gl:List (Nat×List G))(f:FuncId)(gs:List G)(σ0:aQ)(c0 p:Nat)(r:G)(σ1:aQ):Prop:=
 ∀(w:World) (β:Bm) (S:Nat->Prop) (vs:Array Value),(∀b,S b->b<w.heap.size)->(∀i,c0<=i->β i=none)->Gls gl (Av S β σ0) w->RS P β S σ0 w->vs.size=gs.length->(∀(i:Nat) (g:G) (u:Value),gs[i]?=some g->vs[i]?=some u->RV β (Av S β σ0) w g u)->
  Calls P f vs w λe w'=>∃v a,e= .returned v/\MPost P w β S σ0 p r σ1 v w' a
def zE(P:Program)(fn:Func)(r:G)(σ1:aQ)(e:Exit)(st:St):Prop:=
 (e= .normal\/e= .ret)/\∃gs ρ,fn.results.toList.mapM (jV P st)=some gs/\(∀i,i<st.p->dq ρ i=some i)/\(∀i a j,dq ρ i=some j->dq ρ a=some j->i=a)/\Wk P st ρ (iU gs) r/\Dp P st ρ σ1
theorem mP{fn:Func}{st':St}{a':Act}{w':World}(hr:RelB P cx st' a' w' β){gs':List G}(hgs:fn.results.toList.mapM (jV P st')=some gs'):∃v,(results fn a'.tmps).run P w'= .ok v w'/\RV β (Av cx.S0 β st'.σ) w' (iU gs') v:=by
 obtain⟨us,b,hl,a⟩:=BR hr _ _ hgs;refine⟨if h:us.toArray.size=1 then us.toArray[0] else .tuple us.toArray,?_,?_⟩
 .unfold results;rw[Array.mapM_eq_mapM_toList];simp only[Sem.run_bind,Sem.run_map];erw[b];rfl
 .match gs',us,hl,a with
  |[],[],_,_=>exact .tup _ _ rfl aC
  |[g],[u],_,a=>exact a 0 g u rfl rfl
  |g::g'::gr,u::u'::ur,hl,a=>exact .tup _ _ (by simpa using hl) (λi x y hx hy=>a i x y hx (by simpa using hy))
theorem Ee{f:FuncId}{fn:Func}{c:Code}{gs:List G}{σ0 σ1:aQ}{c0 p:Nat}{r:G}(hf:P.funcs[f]?=some fn)(hb:fn.body=some c)(hn:gs.length<=fn.ntmps)(hp:∀i,i<p->∃ob,ag σ0 i=some ob)(h:Tr P c ⟨fn.ntmps,gl,bQ 0 gs,σ0,c0,p,false⟩ (zE P fn r σ1)):OU P gl f gs σ0 c0 p r σ1:=by
 intro w β S vs hS hβ y l hsz m;have hlive:∀i o,ag σ0 i=some o->∃x,β i=some x:=by
  intro i o ho;rcases(l.ob i o ho).at with h1|⟨b,C,cur,h1,_⟩
  .exact⟨_,h1⟩
  .exact⟨_,h1⟩
 refine rq (cx:=⟨w,GG β σ0,S,λi=>if i<p then β i else none,Fence.wide,9⟩) hf hb h rfl rfl ⟨β,?_⟩ ?_
 .exact{
   size:=by simp[hsz];omega
   defers:= .nil rfl
   loose:=lP
   rnd:=λ_=>rfl
   fr:=λi=>by
    show RV _ _ w (aD (bQ 0 gs) i) _;rw[px];simp only[Nat.zero_le,if_true,Nat.sub_zero];cases hg:gs[i]? with
    |none=>exact .junk _
    |some g=>
     have hlt:=(cr hg).1;have hu:vs[i]?=some (vs[i]'aa):=by simp[show i<vs.size by omega]
     have e:(vs++Array.replicate (fn.ntmps-vs.size) undef).getD i undef=vs[i]'aa:=by rw[Array.getD_eq_getD_getElem?,Array.getElem?_append_left aa,hu];rfl
     rw[e];exact m i g _ hg hu
   ob:=l.ob
   inj:=l.inj
   own:=λi o b C ho hb=> .inl ⟨i,o,C,ho,hb⟩
   sep:=l.sep
   fresh:=hβ
   glob:=y
   keep:=Keeps.refl _ _
   old:=hS
   pin:=λi x hx=>by
    dsimp only at hx;split at hx
    .exact⟨by assumption,hx⟩
    .cases hx}
 .rintro e st' A w' ⟨he,z,ρ,hgs,d,hinj,hw,hst⟩ ⟨t,hr⟩;obtain⟨v,hres,hv⟩:=mP hr hgs;have hp':∀i,i<p->i<st'.p/\t i=β i:=by intro i hi;obtain⟨ob,ho⟩:=hp i hi;obtain⟨x,hx⟩:=hlive i ob ho;have:=hr.pin i x (by simp[hi,hx]);exact⟨this.1,by rw[this.2,hx]⟩
  obtain⟨c',s⟩:∃c',∀q∈ρ,q.1<c':=by
   refine⟨(ρ.map (·.1)).foldr (λa b=>max (a+1) b) 0,λq hq=>?_⟩;clear hinj hw hst d;induction ρ with
   |nil=>cases hq
   |cons x r ih=>
    simp only[List.map_cons,List.foldr_cons];rcases List.mem_cons.1 hq with rfl|hq
    .omega
    .have:=ih hq;omega
  have k:=RelB.weaken (st:=st') (st':=⟨st'.n,st'.gl,[],σ1,c',st'.p,st'.r⟩) ρ rfl rfl rfl d hinj s HQ hst rfl hr;have hpost:MPost P w β S σ0 p r σ1 v w' (λi=>(dq ρ i).bind t):={
   pin:=λi hi=>by obtain⟨h1,h2⟩:=hp' i hi;simp only[d i h1,aL,h2]
   rs:=⟨k.ob,k.inj,k.sep⟩
   old:=by rintro b ⟨i,ob,C,ho,hb⟩;exact k.own i ob b C ho hb
   val:=(hw _ _ _ t hr v hv).step (λ_ _ x=>x) (λb _ hb=>by
    rcases hb with hb|⟨i,u,C,h1,h2⟩
    .exact .inl hb
    .obtain⟨j,ob,h3,h4,_⟩:=hst i u h1;simp only[h3,aL] at h2;exact .inr ⟨i,j,ob,C,h3,h4,h2⟩) (Keeps.refl _ _)
   keep:=hr.keep}
  exact⟨he,v,hres,v,_,rfl,hpost⟩
def Vw(P:Program)(st:St)(ρ:List (Nat×Nat))(L:List Nat)(g c:G):Prop:=∀cx a w β,RelB P cx st a w β->∀v,RV β (Av cx.S0 β st.σ) w g v->
 RV (λi=>(dq ρ i).bind β) (λb=>cx.S0 b\/∃i ob C,ag st.σ i=some ob/\β i=some (some (b,C))/\i∉L) w c v
theorem FG(h:bB g):Vw P st ρ L g g:=λcx a w β r v hv=> .imm _ _ ((h _ _ _ _ hv).sub λb _ hb=>by
 rcases hb with hb|⟨j,ob,C,h1,h2,_⟩
 .exact .inl hb
 .exact .inr ⟨j,ob,C,h1,h2⟩)
theorem VY{o:Nat}(h:dq ρ i=some j):Vw P st ρ L (.rsl j o n) (.rsl i o n):=λcx a w β r v hv=>by
 rcases hv.rsl_form with⟨hb,rfl,rfl⟩|⟨b,C,c,cap,hb,rfl,hn,hm,ho',hC⟩
 .exact .rsl0 i o (by simp[h,hb])
 .exact .rsl i o n b C c cap (by simp[h,hb]) hn hm ho' hC
def SY(P:Program)(st:St)(ρ:List (Nat×Nat))(L:List Nat)(σ0:aQ):Prop:=∀i a,ag σ0 i=some a->∃j ob,dq ρ i=some j/\j∉L/\ag st.σ j=some ob/\a.t=ob.t/\a.l.length<=ob.l.length/\(ob.l=[]->a.l=[])/\(ob.x=none/\a.x=none)/\∀(k:Nat) (g g':G),ob.l[k]?=some g->a.l[k]?=some g'->Vw P st ρ L g g'
theorem BY:SY P st ρ L []:=λi ob h=>by cases h
theorem NH{i j:Nat}{ob:Ob}{l:List G}{σ:aQ}(h1:dq ρ i=some j)(hL:j∉L)(h2:ag st.σ j=some ob)(hx:ob.x=none)(ht:t=ob.t)(hl:l.length<=ob.l.length)(h:∀(k:Nat) (g g':G),ob.l[k]?=some g->l[k]?=some g'->Vw P st ρ L g g')(hr:SY P st ρ L σ):SY P st ρ L ((i,some ⟨t,l,none⟩)::σ):=λk a hk=>by
 rw[am] at hk;split at hk
 .cases hk;subst_vars;exact⟨j,ob,h1,hL,h2,rfl,hl,λe=>List.eq_nil_of_length_eq_zero (by simp[e] at hl;simpa using hl),⟨hx,rfl⟩,h⟩
 .exact hr k a hk
def Rn(ρ:List (Nat×Nat))(g a:G):Prop:=∀(β β1:Bm) (S:Nat->Prop) w v,RV β1 S w g v->RV (λk=>match dq ρ k with|some i=>β1 i|none=>β k) S w a v
theorem FH(h:bB g):Rn ρ g g:=λβ a S w v hv=> .imm _ _ (h _ _ _ _ hv)
theorem BZ{k o:Nat}(h:dq ρ k=some i):Rn ρ (.rsl i o n) (.rsl k o n):=λβ c S w v hv=>by
 rcases hv.rsl_form with⟨hb,rfl,rfl⟩|⟨b,C,a,cap,hb,rfl,hn,hm,ho',hC⟩
 .exact .rsl0 k o (by simp[h,hb])
 .exact .rsl k o n b C a cap (by simp[h,hb]) hn hm ho' hC
theorem VZ{l:List G}(hl:l'.length=l.length)(h:∀(i:Nat) (g g':G),l[i]?=some g->l'[i]?=some g'->Rn ρ g g'):Rn ρ (.agg l) (.agg l'):=λβ a S w v hv=>by
 obtain⟨us,rfl,h2,h1,hr⟩:=hv.agg_form;refine .agg _ _ aa h1 λi g u hg hu=>?_;have hlt:=(cr hg).1;have hx:l[i]?=some (l[i]'aa):=by simp[show i<l.length by omega]
 exact h i _ g hx hg β a S w u (hr i _ u hx hu)
def aam(st:St)(c b:List (Nat×Nat))(L:List Nat)(σ1 σ':aQ):Prop:=∀k a,ag σ' k=some a->
 (∃i ob,dq b k=some i/\ag σ1 i=some ob/\a.t=ob.t/\a.l.length<=ob.l.length/\(ob.l=[]->a.l=[])/\(ob.x=none/\a.x=none)/\∀(x:Nat) (g g':G),ob.l[x]?=some g->a.l[x]?=some g'->Rn b g g')\/
 (dq b k=none/\ag st.σ k=some a/\k∉c.map (·.2)/\k∉L)
theorem Mc(h:dq ρ i=some j):j∈ρ.map (·.2):=by unfold dq at h;rw[List.lookup_eq_some_iff] at h;obtain⟨l1,l2,rfl,_⟩:=h;simp
theorem fj{i j:Nat}(h:dq ρ i=some j):(i,j)∈ρ:=by unfold dq at h;rw[List.lookup_eq_some_iff] at h;obtain⟨l1,l2,rfl,_⟩:=h;simp
theorem B1{fst cap gs:List G}{r r':G}{σ0 σ1 σ':aQ}{c0 p c':Nat}(m s:List (Nat×Nat))(L:List Nat)
  (ho:o.op= .call {callee:= .value f,args:=xs,argTypes:=ats}) (hd:H_d o st.n) (hf:aB st f= .clo (.func fid) fst cap) (hc:aK P fid=true)
  (hF:OU P st.gl fid gs σ0 c0 p r σ1) (hl:gs.length=(fst++xs.toList.map (aB st)++cap).length) (hi:∀(i:Nat) (g Q:G),(fst++xs.toList.map (aB st)++cap)[i]?=some g->gs[i]?=some Q->Vw P st m L g Q)
  (N:∀i F j,dq m i=some j->dq m F=some j->i=F) (hc0:∀q∈m,q.1<c0) (z:SY P st m L σ0)
  (hcc:st.c<=c') (U:∀k i,dq s k=some i->k<st.c->i<p/\dq m i=some k) (O:∀k k' i,dq s k=some i->dq s k'=some i->k=k') (W:∀q∈s,q.1<c') (hσ':aam st m s L σ1 σ') (hr:Rn s r r'):
  GS P o st ({st with σ:=σ',c:=c'}.put o.dst r'):=by
 intro cx a w K R ⟨β,h⟩ hK
 obtain⟨vs,hrun,hsz,hv⟩:=lQ h ho hf hc
 refine h.loose.oper (λc hc=>by rw[ho] at hc;cases hc) ?_
 unfold Oper.wp
 rw[hrun]
 let βc:Bm:=λi=>(dq m i).bind β
 let S:Nat->Prop:=λb=>cx.S0 b\/∃i ob C,ag st.σ i=some ob/\β i=some (some (b,C))/\i∉m.map (·.2)/\i∉L
 have hlivc:∀b,GG βc σ0 b->∃j ob C,j∈m.map (·.2)/\j∉L/\ag st.σ j=some ob/\β j=some (some (b,C)):=by rintro b ⟨i,d,C,h1,h2⟩;obtain⟨j,ob,h3,h4,h5,_⟩:=z i d h1;have h2':(dq m i).bind β=some (some (b,C)):=h2;rw[h3] at h2';exact⟨j,ob,C,Mc h3,h4,h5,h2'⟩
 have hsub:∀b,Av S βc σ0 b->cx.S0 b\/∃i ob C,ag st.σ i=some ob/\β i=some (some (b,C))/\i∉L:=by
  rintro b ((hb|⟨i,ob,C,h1,h2,_,h3⟩)|hb)
  .exact .inl hb
  .exact .inr ⟨i,ob,C,h1,h2,h3⟩
  .obtain⟨j,ob,C,_,h2,h3,h4⟩:=hlivc b hb;exact .inr ⟨j,ob,C,h3,h4,h2⟩
 have hsubA:∀b,Av S βc σ0 b->Av cx.S0 β st.σ b:=by
  intro b hb;rcases hsub b hb with hb|⟨i,ob,C,h1,h2,_⟩
  .exact .inl hb
  .exact .inr ⟨i,ob,C,h1,h2⟩
 have hSlt:∀b,S b->b<w.heap.size:=by
  rintro b (hb|⟨i,ob,C,h1,h2,_⟩)
  .exact h.keep.lt (h.old b hb)
  .exact h.lt h1 h2
 have hRS:RS P βc S σ0 w:={
  ob:=λi d h1=>by
   obtain⟨j,ob,h3,h4,h5,h6,h7,h8,⟨H,y⟩,h9⟩:=z i d h1;rcases h.ob j ob h5 with⟨e1,e2,_⟩|⟨b,x',o',hx',_⟩|⟨b,C,cur,_,e1,e2,e3,e4,e5,e6⟩
   .exact .inl ⟨by show(dq m i).bind β=_;rw[h3];exact e1,h8 e2,.inl y⟩
   .rw[H] at hx';cases hx'
   .refine .inr (.inr ⟨b,C,cur,y,by show(dq m i).bind β=_;rw[h3];exact e1,by rw[h6];exact e2,by rw[h6];exact e3,e4,aa,λk Q hg'=>?_⟩);have hlt:=(cr hg').1;have hx:ob.l[k]?=some (ob.l[k]'aa):=by simp[show k<ob.l.length by omega]
    obtain⟨u,hu,h1',hr⟩:=e6 k _ hx;exact⟨u,hu,h1',(h9 k _ Q hx hg' cx a w β h u hr).step (λ_ _ x=>x) (λb _ hb=>hsub b hb) (Keeps.refl _ _)⟩
  inj:=λi F o1 V b C D h1 h2 h3 h4=>by obtain⟨j,ob,e1,_,e3,_⟩:=z i o1 h1;obtain⟨j',d,f1,_,B,_⟩:=z F V h2;have h3':(dq m i).bind β=some (some (b,C)):=h3;have h4':(dq m F).bind β=some (some (b,D)):=h4;rw[e1] at h3';rw[f1] at h4';have:=h.inj j j' ob d b C D e3 B h3' h4';subst this;exact N i F j e1 f1
  sep:=λi o1 b C h1 h2 hb=>by
   obtain⟨j,ob,e1,e2,e3,_⟩:=z i o1 h1;have h2':(dq m i).bind β=some (some (b,C)):=h2;rw[e1] at h2';rcases hb with hb|⟨k,d,D,f1,f2,B,_⟩
   .exact h.sep j ob b C e3 h2' hb
   .have:=h.inj j k ob d b C D e3 f1 h2' f2;subst this;exact B (Mc e1)}
 refine(hF w βc S vs hSlt (λi hi=>?_) (λg l hl=>(h.glob g l hl).sub λb _ hb=>hsubA b hb) hRS aa (λi g u hg hu=>?_)).mono ?_
 .show(dq m i).bind β=none
  cases hr0:dq m i with
  |none=>rfl
  |some j=>have:=hc0 _ (fj hr0);simp at this;omega
 .have hlt:=(cr hg).1
  have hx:(fst++xs.toList.map (aB st)++cap)[i]?=some ((fst++xs.toList.map (aB st)++cap)[i]'aa):=by rw[cv]
  exact(hi i _ g hx hg cx a w β h u (hv i _ u hx hu)).step (λ_ _ x=>x) (λb _ hb=>hsub b hb) (Keeps.refl _ _)
 .rintro e w' ⟨v,A,rfl,M⟩
  refine hK _ _ ⟨λk=>match dq s k with|some i=>A i|none=>β k,?_⟩
  have hext:∀k x,β k=some x->(match dq s k with|some i=>A i|none=>β k)=some x:=by
   intro k x hk;cases hr1:dq s k with
   |none=>exact hk
   |some i=>
    have hkc:k<st.c:=by
     rcases Nat.lt_or_ge k st.c with h'|h'
     .exact h'
     .rw[h.fresh k h'] at hk;cases hk
    obtain⟨h1,h2⟩:=U k i hr1 hkc;show A i=some x;rw[M.pin i h1];show(dq m i).bind β=some x;rw[h2];exact hk
  have hkp:Keeps (Av cx.S0 β st.σ) w w':=M.keep.mono λb _ hb=>by obtain⟨j,ob,C,_,_,h3,h4⟩:=hlivc b hb;exact .inr ⟨j,ob,C,h3,h4⟩
  have hnew:∀k d b C,ag σ' k=some d->(match dq s k with|some i=>A i|none=>β k)=some (some (b,C))->
    (∃i ob,dq s k=some i/\ag σ1 i=some ob/\A i=some (some (b,C)))\/(dq s k=none/\ag st.σ k=some d/\k∉m.map (·.2)/\k∉L/\β k=some (some (b,C))):=by
   intro k d b C hk hb
   rcases hσ' k d hk with⟨i,ob,h1,h2,_⟩|⟨h1,h2,h3,h4⟩
   .rw[h1] at hb;exact .inl ⟨i,ob,h1,h2,hb⟩
   .rw[h1] at hb;exact .inr ⟨h1,h2,h3,h4,hb⟩
  have hAv:∀b,Av cx.S0 (λk=>match dq s k with|some i=>A i|none=>β k) σ' b->Av S A σ1 b:=by
   rintro b (hb|⟨k,d,C,hk,hb⟩)
   .exact .inl (.inl hb)
   .rcases hnew k d b C hk hb with⟨i,ob,_,h2,h3⟩|⟨_,h2,h3,h4,h5⟩
    .exact .inr ⟨i,ob,C,h2,h3⟩
    .exact .inl (.inr ⟨k,d,C,h2,h5,h3,h4⟩)
  have hAo:∀b,b<w.heap.size->Av cx.S0 (λk=>match dq s k with|some i=>A i|none=>β k) σ' b->Av cx.S0 β st.σ b:=by
   intro b hlt hb;rcases hAv b hb with(hb|⟨i,ob,C,h1,h2,_⟩)|hb
   .exact .inl hb
   .exact .inr ⟨i,ob,C,h1,h2⟩
   .rcases M.old b hb with hb|hb
    .obtain⟨j,ob,C,_,_,h3,h4⟩:=hlivc b hb;exact .inr ⟨j,ob,C,h3,h4⟩
    .omega
  have hmid:RelB P cx {st with σ:=σ',c:=c'} a w' (λk=>match dq s k with|some i=>A i|none=>β k):={
   size:=h.size
   defers:=h.defers.keep M.keep (λD hD hx=>by obtain⟨j,ob,C,_,_,h3,h4⟩:=hlivc D hx;exact h.not_marks h3 h4 hD)
   loose:=h.loose
   rnd:=h.rnd
   fr:=λi=>(h.fr i).step hext hAo hkp
   ob:=λk d hk=>by
    rcases hσ' k d hk with⟨i,ob,h1,h2,h3,h4,h5,h6⟩|⟨h1,h2,h3,h4⟩
    .obtain⟨⟨H,y⟩,h6⟩:=h6;rcases M.rs.ob i ob h2 with⟨e1,e2,_⟩|⟨b,x',o',hx',_⟩|⟨b,C,cur,_,e1,e2,e3,e4,e5,e6⟩
     .exact .inl ⟨by simp only[h1];exact e1,h5 e2,.inl y⟩
     .rw[H] at hx';cases hx'
     .refine .inr (.inr ⟨b,C,cur,y,by simp only[h1];exact e1,by rw[h3];exact e2,by rw[h3];exact e3,e4,aa,λx Q hg'=>?_⟩);have hlt:=(cr hg').1;have hx:ob.l[x]?=some (ob.l[x]'aa):=by simp[show x<ob.l.length by omega]
      obtain⟨u,hu,h1',X⟩:=e6 x _ hx;exact⟨u,hu,h1',(h6 x _ Q hx hg' β A _ _ u X).step (λ_ _ x=>x) (λb _ hb=>hAv b hb) (Keeps.refl _ _)⟩
    .refine(h.ob k d h2).step hext hAo hkp (λb C hb=>M.keep.block b (h.lt h2 hb) (λhx=>?_));obtain⟨j,ob,D,f1,_,B,Z⟩:=hlivc b hx;have:=h.inj j k ob d b D C B h2 Z hb;subst this;exact h3 f1
   inj:=λk k' o1 V b C D h1 h2 h3 h4=>by
    rcases hnew k o1 b C h1 h3 with⟨i,ob,e1,e2,e3⟩|⟨e1,e2,e3,e4,e5⟩<;>rcases hnew k' V b D h2 h4 with⟨F,d,f1,f2,B⟩|⟨f1,f2,B,Z,Y⟩
    .have:=M.rs.inj i F ob d b C D e2 f2 e3 B;subst this;exact O k k' i e1 f1
    .exfalso;rcases M.old b ⟨i,ob,C,e2,e3⟩ with hb|hb
     .obtain⟨j,t,E,g1,_,I,J⟩:=hlivc b hb;have:=h.inj j k' t V b E D I f2 J Y;subst this;exact B g1
     .have:=h.lt f2 Y;omega
    .exfalso;rcases M.old b ⟨F,d,D,f2,B⟩ with hb|hb
     .obtain⟨j,t,E,g1,_,I,J⟩:=hlivc b hb;have:=h.inj j k t o1 b E C I e2 J e5;subst this;exact e3 g1
     .have:=h.lt e2 e5;omega
    .exact h.inj k k' o1 V b C D e2 f2 e5 Y
   own:=λk o1 b C h1 h3=>by
    rcases hnew k o1 b C h1 h3 with⟨i,ob,e1,e2,e3⟩|⟨e1,e2,e3,e4,e5⟩
    .rcases M.old b ⟨i,ob,C,e2,e3⟩ with hb|hb
     .obtain⟨j,t,E,g1,_,I,J⟩:=hlivc b hb;exact h.own j t b E I J
     .have:=h.keep.size;right;omega
    .exact h.own k o1 b C e2 e5
   sep:=λk o1 b C h1 h3=>by
    rcases hnew k o1 b C h1 h3 with⟨i,ob,e1,e2,e3⟩|⟨e1,e2,e3,e4,e5⟩
    .exact λhx=>M.rs.sep i ob b C e2 e3 (.inl hx)
    .exact h.sep k o1 b C e2 e5
   fresh:=λk hk=>by
    have hk':c'<=k:=hk;cases hr1:dq s k with
    |none=>simp only[];exact h.fresh k aa
    |some i=>have:=W _ (fj hr1);simp at this;omega
   glob:=λg l hl=>(h.glob g l hl).step hAo hkp
   keep:=h.keep.then M.keep (λb hb hx=>by
    obtain⟨j,t,E,g1,_,I,J⟩:=hlivc b hx;rcases h.own j t b E I J with h1|h1
    .exact h1
    .omega)
   old:=h.old
   pin:=λi x hx=>⟨(h.pin i x hx).1,hext i x (h.pin i x hx).2⟩}
  exact hmid.put o.dst hd ((hr β A _ _ v M.val).step (λ_ _ x=>x) (λb _ hb=>hAv b hb) (Keeps.refl _ _))
end
section
variable {P:Program} {rr:Bool}
theorem uI(w:World)(t u ty e:TypeId)(i:TypeInfo)(ht:P.underlying t=some (.slice e))(hu:P.underlying u=some .string)(hi:P.info? e=some i)(hz:i.zero=some (.int .u8 0))
  (hsize:i.size=1) (f:i.bytes=1) (v:Value) (n:Nat) (xs:List Value) (a:w.ownsRow 0 e 1 v n xs) (s:ByteArray) (k:n+s.size<=maxLen) (b:n+s.size<=140737488355328):
  ∃h w',(Builtin.append_ #[t,u] ty #[v,.string s]).run P w= .ok h w'/\w'.ownsRow 0 e 1 h (n+s.size) (xs++strCells s)/\w.grownBy w' v.ownBlock/\(h.ownBlock=v.ownBlock\/h.ownBlock=some w.heap.size):=by
 obtain⟨h,w',hrun,ho,hg,l⟩:=run_append_own_string (P:=P) w 0 t u ty e i ht hu hi hz hsize f v n xs a s k b (Nat.zero_le _)
 refine⟨h,w',hrun,ho,hg,?_⟩
 have hsmall:n+s.size<=9223372036854775807:=by simp only[maxLen] at k;omega
 have hxl:xs.length=n:=by simpa using a.1
 rcases a.2 with⟨rfl,rfl⟩|⟨g,cap,cur,rfl,q,m,r,x,hcs,o⟩
 .by_cases hm:s.size=0
  .have:=l.2 ⟨rfl,hm⟩
   subst this
   exact .inl rfl
  .have hr:=run_append_nil_string (P:=P) w t u ty e i (.int .u8 0) ht hu hi hz s aa aa (by rw[f];omega)
   rw[hrun] at hr
   injection hr with e1 e2
   subst e1
   right;rfl
 .by_cases hroom:n+s.size<=cap
  .have hcs':cur.size=cap:=by simpa using hcs
   have hr:=run_append_room_string (P:=P) w t u ty e i ht hu hi hsize g n cap cur m s hroom aa
   rw[hrun] at hr
   injection hr with e1 e2
   subst e1
   left;rfl
  .have holds:∀j u,xs[j]?=some u->w.cell? ((⟨g,0,none⟩:Addr).add j)=some u:=a.cells (g:=g) rfl
   have hr:=run_append_grow_string (P:=P) w t u ty e i (.int .u8 0) ht hu hi hz ⟨g,0,none⟩ n cap xs (by rw[hsize];simpa using hxl) holds s aa aa (by rw[f];exact growslice_fits aa aa)
   rw[hrun] at hr
   injection hr with e1 e2
   subst e1
   right;rfl
def xR(P:Program)(t:TypeId):Option IntKind:=(P.underlying t).bind fun| .int k=>some k|_=>none
def nu(P:Program)(t:TypeId):Bool:=(P.underlying t) matches some .string
theorem oo(h:xR P t=some k):P.underlying t=some (.int k):=by simp only[xR,Option.bind_eq_some_iff] at h;obtain⟨d,hd,h⟩:=h;cases d<;>simp at h;subst h;exact hd
theorem oq(h:nu P t=true):P.underlying t=some .string:=by
 unfold nu at h;split at h
 .assumption
 .cases h
abbrev gY(b:UInt8):G:= .lit (.int .u8 (b.toNat:Int))
def Kb(l:List UInt8):G:= .sl (l.map gY) l.length
theorem Kc{l:List G}{s:List UInt8}(ho:o.op= .call {callee:= .builtin .append,args:= #[x,y],argTypes:= #[t,u]})(hd:H_d o st.n)
  (he:dp P t=some e) (hu:nu P u=true) (hs:bw P e=some 1) (hz:(P.info? e).bind (·.zero)=some (.int .u8 0)) (j:(P.info? e).map (·.bytes)=some 1)
  (hx:xO st.σ st.c e 1 (aB st x)=some (i,n,l)) (hy:aB st y= .lit (.string ⟨s.toArray⟩)) (f:n+s.length<=140737488355328):
  GS P o st ({st with σ:=(st.c,some ⟨e,l++s.map gY,none⟩)::(i,none)::st.σ,c:=st.c+1}.put o.dst (.rsl st.c 0 (n+s.length))):=by
 intro cx a w K R ⟨β,h⟩ r
 obtain⟨ti,hi⟩:∃ti,P.info? e=some ti:=by
  cases hi:P.info? e with
  |none=>rw[hi] at hz;cases hz
  |some ti=>exact⟨ti,rfl⟩
 have ht:=cE he
 have hsize:ti.size=1:=by simp[bw,hi] at hs;exact hs
 have hbytes':ti.bytes=1:=by rw[hi] at j;simpa using j
 have hz':ti.zero=some (.int .u8 0):=by rw[hi] at hz;simpa using hz
 have hyv:a.eval y= .string ⟨s.toArray⟩:=by have:=h.ev y;rw[hy] at this;exact this.lit_eq
 have hsz:(⟨s.toArray⟩:ByteArray).size=s.length:=by simp[ByteArray.size]
 have hsc:strCells ⟨s.toArray⟩=s.map λb=>Value.int .u8 (b.toNat:Int):=by simp[strCells]
 have hnr:Rw β (Av cx.S0 β st.σ) w (s.map gY) (s.map λb=>Value.int .u8 (b.toNat:Int)):=by
  have:=Rw.lits (β:=β) (S:=Av cx.S0 β st.σ) (w:=w) (zs:=s.map λb=>Value.int .u8 (b.toNat:Int)) (λv hv=>by simp only[List.mem_map] at hv;obtain⟨b,_,rfl⟩:=hv;rfl)
  rw[List.map_map] at this;exact this
 obtain⟨q,w',hrun,hrel⟩:=yP h hs (h.ev x) hx aC hnr (m:=s.length) (X:=λq w'=>(execOp a.eval o).run P w= .ok (.value q) w') (λq w' hr=>Ep _ _ _ _ _ hr) (λxs k=>by obtain⟨q,w',g,h2,h3,h4⟩:=uI (P:=P) w t u o.type e ti ht (oq hu) hi hz' hsize hbytes' (a.eval x) n xs k ⟨s.toArray⟩ (by rw[hsz];unfold maxLen;omega) (by rw[hsz];exact f);rw[hsz,hsc] at h2;refine⟨q,w',?_,h2,h3,h4⟩;unfold execOp;simp only[ho,resolve,invoke,builtin,Sem.run_bind,Sem.run_pure,Result.andThen_ok,List.map_toArray,List.map_cons,List.map_nil,hyv,g]) hd (pl:=none) trivial
 refine h.loose.oper (λc hc=>by rw[ho] at hc;cases hc) ?_
 unfold Oper.wp
 rw[hrun]
 exact r _ _ hrel
theorem Kd{s:List UInt8}(ho:o.op= .convert t u x)(hd:H_d o st.n)(hs:nu P t=true)(hu:dp P u=some e)(he:xR P e=some .u8)(hx:aB st x= .lit (.string ⟨s.toArray⟩))(hl:s.length<=maxLen):
  GS P o st (st.put o.dst (Kb s)):=by
 intro cx a w K R ⟨β,h⟩ f
 have hv:a.eval x= .string ⟨s.toArray⟩:=by have:=h.ev x;rw[hx] at this;exact this.lit_eq
 have hsz:(⟨s.toArray⟩:ByteArray).size=s.length:=by simp[ByteArray.size]
 have hr:=run_bytes_of_string (P:=P) w t u e ⟨s.toArray⟩ (oq hs) (cE hu) (oo he)
 have hrun:(execOp a.eval o).run P w= .ok (.value (.slice (some ⟨w.heap.size,0,none⟩) s.length (grownCap w s.length 0 e))) (w.drew.alloc (.cells (bytesRow ⟨s.toArray⟩ (grownCap w s.length 0 e)) e ((bytesRow ⟨s.toArray⟩ (grownCap w s.length 0 e)).size,(bytesRow ⟨s.toArray⟩ (grownCap w s.length 0 e)).size+1))):=by unfold execOp;simp only[ho,hv];rw[hsz] at hr;simp only[Sem.run_bind,hr,Result.andThen_ok,Sem.run_pure]
 refine h.loose.oper (λc hc=>by rw[ho] at hc;cases hc) ?_
 unfold Oper.wp
 rw[hrun]
 have hk:Keeps (λ_=>False) w (w.drew.alloc (.cells (bytesRow ⟨s.toArray⟩ (grownCap w s.length 0 e)) e ((bytesRow ⟨s.toArray⟩ (grownCap w s.length 0 e)).size,(bytesRow ⟨s.toArray⟩ (grownCap w s.length 0 e)).size+1))):=((Keeps.refl _ _).drew).alloc _
 refine f _ _ ⟨β,(h.world hk).put o.dst hd (.imm _ _ ?_)⟩
 have hAv:¬Av cx.S0 β st.σ w.heap.size:=by
  rintro(hb|⟨i,ob,C,h1,h2⟩)
  .have:=h.keep.lt (h.old _ hb);omega
  .have:=h.lt h1 h2;omega
 have hmap:∀(i:Nat) (hi:i<s.length),(bytesRow ⟨s.toArray⟩ (grownCap w s.length 0 e))[i]?=some (.int .u8 ((s.getD i 0).toNat:Int)):=by intro i hi;unfold bytesRow;rw[Array.getElem?_append_left (by simp;exact hi)];simp[hi]
 refine .sl _ _ _ _ (λi=> .int .u8 ((s.getD i 0).toNat:Int)) (grownCap_ge w s.length 0 e) (grownCap_le_maxLen w s.length 0 e hl) (λi hi=>⟨w.heap.size,0,rfl,hAv,aC,?_⟩) (λ_ _=>rfl) (λi g hg=>?_)
 .have hi':i<s.length:=by simpa using hi
  have:=World.cell?_alloc_mark w.drew (bytesRow ⟨s.toArray⟩ (grownCap w s.length 0 e)) e ((bytesRow ⟨s.toArray⟩ (grownCap w s.length 0 e)).size,(bytesRow ⟨s.toArray⟩ (grownCap w s.length 0 e)).size+1) (0+i)
  rw[Nat.zero_add] at this⊢
  exact this.trans (hmap i hi')
 .rw[List.getElem?_map] at hg
  obtain⟨b,hb,rfl⟩:=Option.map_eq_some_iff.1 hg
  have:s.getD i 0=b:=by rw[List.getD_eq_getElem?_getD,hb];rfl
  rw[this]
  exact .lit _
theorem HT{s:List UInt8}(ho:o.op= .convert t u x)(hd:H_d o st.n)(ht:dp P t=some e)(he:xR P e=some .u8)(hu:nu P u=true)(hx:fO st.σ 1 (aB st x)=some (s.map gY,s.length)):GS P o st (st.put o.dst (.lit (.string ⟨s.toArray⟩))):=by
 intro cx a w K R ⟨β,h⟩ k;obtain⟨A,c,f,hv,hnl,hnr,g⟩:=xN h (h.ev x) hx;have hns:f=s.map λb=>Value.int .u8 (b.toNat:Int):=by
  apply List.ext_getElem?;intro i;by_cases hi:i<s.length
  .have h1:f[i]?=some (f[i]'(by rw[hnl];omega)):=cv _;have:=hnr.2.2 i (gY s[i]) _ (by simp[hi]) h1;rw[h1,this.lit_eq];simp[hi]
  .rw[List.getElem?_eq_none (by rw[hnl];omega),List.getElem?_eq_none cq]
 have hconv:(convert t u (.slice A s.length c)).run P w= .ok (.string ⟨s.toArray⟩) w:=by
  cases A with
  |none=>
   have h0:s=[]:=by
    cases s with
    |nil=>rfl
    |cons b r=>obtain⟨l,ha,_⟩:=g 0 (.int .u8 (b.toNat:Int)) (by rw[hns];rfl);cases ha
   subst h0;rw[run_convert_bytes_string w t u e none _ c (cE ht) (oo he) (oq hu)];simp[Conv.bytesToString];rfl
  |some a0=>refine run_convert_bytes_back w t u e a0 c s (cE ht) (oo he) (oq hu) (λj hj=>?_);obtain⟨l,ha,hc⟩:=g j (.int .u8 (s[j].toNat:Int)) (by rw[hns];simp[hj]);cases ha;exact hc
 have hrun:(execOp a.eval o).run P w= .ok (.value (.string ⟨s.toArray⟩)) w:=by unfold execOp;simp only[ho,hv,Sem.run_bind,hconv,Result.andThen_ok,Sem.run_pure]
 refine h.loose.oper (λc hc=>by rw[ho] at hc;cases hc) ?_;unfold Oper.wp;rw[hrun];exact k _ _ ⟨β,h.put o.dst hd (.imm _ _ (.lit _))⟩
theorem jq{d:TypeDesc}(h:P.underlying t=some d):bt P (underlying t)=some d:=by unfold underlying;show bt P (match P.underlying t with|some d=>pure d|none=>stuck "no such type")=_;rw[h];rfl
theorem SZ{ρ:Operand->G}{σ:aQ}{ty:TypeId}{a:IntKind}{n:Int}(hx:ρ x= .lit (.int k n))(hs:xR P s=some a)(ht:xR P t=some k'):aX P ρ σ ⟨d,.convert s t x,ty,pos,af,gd⟩=some (.lit (.int k' (k'.wrap n))):=by
 have h1:=oo hs;have h2:=oo ht;have hc:bt P (convert s t (.int k n))=some (.int k' (k'.wrap n)):=by unfold convert;rw[dd,jq h1,aL,dd,jq h2,aL];rfl
 simp only[aX,gJ];rw[if_pos (by simp[Op.operands,hx,cD])];simp only[execOp,hx,cD,Option.getD_some];have e:=dd (p:=P) (convert s t (.int k n)) (λr=>(pure (Next.value r):Sem Next));rw[e,hc];rfl
theorem V0{ρ:Operand->G}{σ:aQ}{ty:TypeId}{m n:Int}(hx:ρ x= .lit (.int k m))(hy:ρ y= .lit (.int k' n)):
  aX P ρ σ ⟨d,.call {callee:= .builtin .min,args:= #[x,y],argTypes:=ats},ty,pos,af,gd⟩=some (.lit (.int k (if n<m then n else m))):=by
 simp only[aX,gJ]
 rw[if_pos (by simp[Op.operands,Call.operands,hx,hy,cD])]
 simp only[execOp,resolve,hx,hy,cD,Option.getD_some,List.map_toArray,List.map_cons,List.map_nil]
 rfl
theorem V1{ρ:Operand->G}{σ:aQ}{ty:TypeId}{m n:Int}(hx:ρ x= .lit (.int k m))(hy:ρ y= .lit (.int k' n)):
  aX P ρ σ ⟨d,.call {callee:= .builtin .max,args:= #[x,y],argTypes:=ats},ty,pos,af,gd⟩=some (.lit (.int k (if n>m then n else m))):=by
 simp only[aX,gJ]
 rw[if_pos (by simp[Op.operands,Call.operands,hx,hy,cD])]
 simp only[execOp,resolve,hx,hy,cD,Option.getD_some,List.map_toArray,List.map_cons,List.map_nil]
 rfl
theorem S3{ρ:Operand->G}{σ:aQ}{ty:TypeId}{s:ByteArray}(hx:ρ x= .lit (.string s))(ht:nu P t=true):
  aX P ρ σ ⟨d,.call {callee:= .builtin .len,args:= #[x],argTypes:= #[t]},ty,pos,af,gd⟩=some (.lit (.int .i64 s.size)):=by
 have h1:=oq ht
 have he:dp P t=none:=by simp[dp,h1]
 rw[Ka,he]
 simp only[Option.isSome_none,Bool.false_eq_true,if_false,gJ]
 rw[if_pos (by simp[Op.operands,Call.operands,hx,cD])]
 have hl:bt P (Builtin.len_ #[t] ty #[.string s])=some (.int .i64 s.size):=by unfold Builtin.len_;show bt P (underlying t>>=_)=_;rw[dd,jq h1,aL];rfl
 simp only[execOp,resolve,hx,cD,Option.getD_some,List.map_toArray,List.map_cons,List.map_nil,invoke,builtin]
 have e:=dd (p:=P) (Builtin.len_ #[t] ty #[.string s]) (λr=>(pure (Next.value r):Sem Next))
 show(match bt P (Builtin.len_ #[t] ty #[.string s]>>=λr=>(pure (Next.value r):Sem Next)) with|some (.value v)=>some (db v)|_=>none)=_
 rw[e,hl]
 rfl
section
variable {ops:Array Oper} {K:St->Prop} {ty:TypeId} {pos:String} {af:Array Edge} {rest:List Oper} {n:Nat} {gl:List (Nat×List G)} {fr:Fr} {σ:aQ} {c p d fid:Nat} {xs:Array Operand} {ats:Array TypeId}
def iV(P:Program)(gl:List (Nat×List G))(f:FuncId)(gs:List G)(t:TypeId)(n:Nat)(l:List G):Prop:=OU P gl f gs [] 0 0 (.rsl 0 0 n) [(0,some ⟨t,l,none⟩)]
end
end
section
variable {P:Program} {rr:Bool}
def Yd(P:Program)(t:TypeId)(m:Nat)(a:List (Nat×G)):Option (TypeId×List G):=
 (dp P t).bind λe=>(bw P e).bind λs=>(jj P e).bind λzs=>if zs.length=s/\m*s<=16777216/\m<=1000000 then(rx (λi=>some (i*s,s)) ((bN zs (m*s)).map .lit) a).map λl=>(e,l) else none
theorem P9{pl:Option Nat}{m:Nat}{l:List G}(ho:o.op= .buildSlice t m parts)(hd:H_d o st.n)(hg:Yd P t m (parts.toList.map λp=>(p.1,aB st p.2))=some (e,l))(hpl:zB st pl):GS P o st (st.newP pl o.dst e l (.rsl (iT st pl) 0 m)):=by
 simp only[Yd,Option.bind_eq_some_iff] at hg;obtain⟨e',he,s,hs,zs,hz,hg⟩:=hg;split at hg
 .rename_i hc;simp only[cn,Prod.mk.injEq] at hg;obtain⟨a,hl,rfl,rfl⟩:=hg;exact BP ho hd he hs hz hc.1 hc.2.1 hc.2.2 hl hpl
 .cases hg
theorem Ye{m:Nat}{l:List G}(ho:o.op= .buildSlice t m parts)(hd:H_d o st.n)(hg:Yd P t m (parts.toList.map λp=>(p.1,aB st p.2))=some (e,l)):GS P o st (st.new o.dst e l (.rsl st.c 0 m)):=P9 (pl:=none) ho hd hg trivial
def wu(P:Program)(σ:aQ)(c:Nat)(t:TypeId)(a f:G):Option (TypeId×Nat×Nat×List G):=
 (
  dp P t).bind λe=>(bw P e).bind λs=>(jj P e).bind λzs=>((P.info? e).map (·.bytes)).bind λb=>(xO σ c e s a).bind λ(i,n,l)=>(fO σ s f).bind λ(news,m)=>
  if 0<s/\zs.length=s/\n+m<=9223372036854775807/\(n+m)*b<=140737488355328 then some (e,i,n+m,l++news) else none
theorem FI{pl:Option Nat}{st:St}{t e:TypeId}{i m:Nat}{l:List G}(ho:o.op= .call {callee:= .builtin .append,args:= #[x,y],argTypes:= #[t,t]})(hd:H_d o st.n)(hg:wu P st.σ st.c t (aB st x) (aB st y)=some (e,i,m,l))(hpl:zB st pl):
  GS P o st ({st with σ:=(iT st pl,some ⟨e,l,none⟩)::(i,none)::st.σ,c:=ZS st pl}.put o.dst (.rsl (iT st pl) 0 m)):=by
 simp only[wu,Option.bind_eq_some_iff] at hg
 obtain⟨e',he,s,hs,zs,hz,b,hb,⟨f,n,g⟩,hx,⟨a,h⟩,hy,hg⟩:=hg
 split at hg
 .rename_i hc
  simp only[bg,Prod.mk.injEq] at hg
  obtain⟨rfl,rfl,rfl,rfl⟩:=hg
  exact J4 ho hd he hs hc.1 hz hc.2.1 hb hx hy (by unfold maxLen;exact hc.2.2.1) hc.2.2.2 hpl
 .cases hg
theorem V2{m:Nat}{l:List G}(ho:o.op= .call {callee:= .builtin .append,args:= #[x,y],argTypes:= #[t,t]})(hd:H_d o st.n)(hg:wu P st.σ st.c t (aB st x) (aB st y)=some (e,i,m,l)):
  GS P o st ({st with σ:=(st.c,some ⟨e,l,none⟩)::(i,none)::st.σ,c:=st.c+1}.put o.dst (.rsl st.c 0 m)):=FI (pl:=none) ho hd hg trivial
section
variable {ops:Array Oper} {K:St->Prop} {ty:TypeId} {pos:String} {af:Array Edge} {rest:List Oper} {n:Nat} {gl:List (Nat×List G)} {fr:Fr} {σ:aQ} {c p d j:Nat} {bars:List Nat}
theorem Yf{st1:St}(hg:o.guard=none)(hs:GS P o st st1)(h:D8 P ops K rest st1):D8 P ops K (o::rest) st:= .inl ⟨by simp[ce,hg],_,hs,h⟩
theorem NI(hg:uH P t (parts.toList.map λq=>(q.1,aB ⟨n,gl,fr,σ,c,p,rr⟩ q.2))=some g)(hd:d<n)(h:D8 P ops K rest ⟨n,gl,(d,g)::fr,σ,c,p,rr⟩):
  D8 P ops K (⟨some d,.build t parts,ty,pos,af,none⟩::rest) ⟨n,gl,fr,σ,c,p,rr⟩:=Yf rfl (BO rfl (λ_ e=>by cases e;exact hd) hg) h
def Qa(P:Program)(s t:TypeId):G->Option G
 | .lit (.int _ n)=>(xR P s).bind λ_=>(xR P t).bind λk=>some (.lit (.int k (k.wrap n)))
 |_=>none
def Qb:G->G->Option G
 | .lit (.int k m),.lit (.int _ n)=>some (.lit (.int k (if n<m then n else m)))
 |_,_=>none
def Qc:G->G->Option G
 | .lit (.int k m),.lit (.int _ n)=>some (.lit (.int k (if n>m then n else m)))
 |_,_=>none
def Qd(P:Program)(t:TypeId):G->Option G
 | .lit (.string s)=>if nu P t=true then some (.lit (.int .i64 s.size)) else none
 |_=>none
theorem Qe{ρ:Operand->G}{d:Option Tmp}{ty:TypeId}{pos:String}{af:Array Edge}(h:Qa P s t (ρ x)=some g):aX P ρ σ ⟨d,.convert s t x,ty,pos,af,gd⟩=some g:=by
 unfold Qa at h;split at h
 .rename_i k n hx;simp only[Option.bind_eq_some_iff] at h;obtain⟨a,h1,k',h2,h3⟩:=h;rw[SZ hx h1 h2];exact h3
 .cases h
theorem S4{ρ:Operand->G}{d:Option Tmp}{ty:TypeId}{pos:String}{af:Array Edge}(h:Qb (ρ x) (ρ y)=some g):aX P ρ σ ⟨d,.call {callee:= .builtin .min,args:= #[x,y],argTypes:=ats},ty,pos,af,gd⟩=some g:=by
 unfold Qb at h;split at h
 .rename_i hx hy;rw[V0 hx hy];exact h
 .cases h
theorem S5{ρ:Operand->G}{d:Option Tmp}{ty:TypeId}{pos:String}{af:Array Edge}(h:Qc (ρ x) (ρ y)=some g):aX P ρ σ ⟨d,.call {callee:= .builtin .max,args:= #[x,y],argTypes:=ats},ty,pos,af,gd⟩=some g:=by
 unfold Qc at h;split at h
 .rename_i hx hy;rw[V1 hx hy];exact h
 .cases h
theorem Qf{ρ:Operand->G}{d:Option Tmp}{ty:TypeId}{pos:String}{af:Array Edge}(h:Qd P t (ρ x)=some g):aX P ρ σ ⟨d,.call {callee:= .builtin .len,args:= #[x],argTypes:= #[t]},ty,pos,af,gd⟩=some g:=by
 unfold Qd at h;split at h
 .rename_i s hx;split at h
  .rename_i ht;rw[S3 hx ht];exact h
  .cases h
 .cases h
def S6(P:Program)(t:TypeId)(g:G):Option (List G):=(dH g).bind λl=>(bw P t).bind λs=>if l.length=s then some l else none
def FJ(P:Program)(t:TypeId):Option (List G):=(jj P t).bind λzs=>(bw P t).bind λs=>if zs.length=s then some (zs.map .lit) else none
def FK(P:Program)(σ:aQ)(t:TypeId)(a b:G):Option (Nat×Ob):=match a with
 | .ref i k=>(ag σ i).bind λob=>(dH b).bind λl=>(bw P t).bind λs=>if l.length=s/\k+s<=ob.l.length/\ob.x.isNone=true then some (i,⟨ob.t,ob.l.take k++l++ob.l.drop (k+s),none⟩) else none
 |_=>none
theorem Qg{i:Nat}{ob:Ob}(ho:o.op= .store t x y)(hd:H_d o st.n)(hg:FK P st.σ t (aB st x) (aB st y)=some (i,ob)):GS P o st ({st with σ:=(i,some ob)::st.σ}.put o.dst (.lit undef)):=by
 unfold FK at hg;split at hg
 .rename_i b k hx;simp only[Option.bind_eq_some_iff] at hg;obtain⟨a,h1,l,h2,s,h3,hg⟩:=hg;split at hg
  .rename_i hc;simp only[bg,Prod.mk.injEq] at hg;obtain⟨rfl,rfl⟩:=hg;exact P3 ho hd hx h1 (Option.isNone_iff_eq_none.1 hc.2.2) h2 h3 hc.1 hc.2.1
  .cases hg
 .cases hg
end
theorem NJ{f:FuncId}{fn:Func}{cd:Code}{gs:List G}{m:Nat}{l:List G}(hf:P.funcs[f]?=some fn)(hb:fn.body=some cd)(hn:gs.length<=fn.ntmps)(h:Tr P cd (St.enter fn gl gs) (zE P fn (.rsl 0 0 m) [(0,some ⟨t,l,none⟩)])):iV P gl f gs t m l:=
 Ee hf hb hn (λi hi=>aa) h
theorem aan{fn:Func}{m:Nat}{l:List G}{u:Tmp}(hp:st.p=0)(h:fn.results= #[.tmp u])(hv:aD st.fr u= .rsl i 0 m)(ho:ag st.σ i=some ⟨t,l,none⟩)(hl:∀g∈l,bB g){e:Exit}(he:e= .normal\/e= .ret):zE P fn (.rsl 0 0 m) [(0,some ⟨t,l,none⟩)] e st:=
 ⟨he,[.rsl i 0 m],[(0,i)],by rw[h];simp[jV,hv],λk hk=>aa,λa b j h1 h2=>by have a1:=fj h1;have a2:=fj h2;simp at a1 a2;omega,P4 (by simp[dq]),xP (j:=i) (by simp[dq]) ho rfl rfl (Nat.le_refl _) (P8 hl) BT⟩
theorem iV.fn{gl:List (Nat×List G)}{f:FuncId}{gs:List G}{t:TypeId}{m s:Nat}{l:List G}(h:iV P gl f gs t m l)(hs:bw P t=some s)(hl:l.length=m*s)(hi:∀g∈l,bB g):ba P gl f gs (.sl l m):=by
 intro w S vs hS k hsz a;have hav:∀b,Av S (λ_=>none) [] b->S b:=by
  rintro b (hx|⟨i,ob,C,ho,_⟩)
  .exact hx
  .cases ho
 refine(h w (λ_=>none) S vs hS (λ_ _=>rfl) (λg l hl=>(k g l hl).sub λb _ hb=>hav b hb) ⟨λi o ho=>(by cases ho),λi j o q b C D hi=>(by cases hi),λi o b C hi=>(by cases hi)⟩ hsz (λi g u hg hu=> .imm _ _ ((a i g u hg hu).sub λb _ hb=>hav b hb))).mono ?_;rintro e w' ⟨v,y,rfl,M⟩;have hk:Keeps (λ_=>False) w w':=M.keep.mono λb _ hb=>by obtain⟨i,ob,C,ho,_⟩:=hb;cases ho
 refine⟨v,rfl,?_,hk⟩;have hv:=M.val;have ho:ag [((0:Nat),some (⟨t,l,none⟩:Ob))] 0=some ⟨t,l,none⟩:=rfl;rcases hv.rsl_form with⟨hb,rfl,rfl⟩|⟨b,C,q,cap,hb,rfl,hn,hm,ho',hC⟩
 .have:l=[]:=List.eq_nil_of_length_eq_zero (by simpa using hl);subst this;exact .sl [] 0 none 0 (λ_=>undef) (Nat.le_refl _) (Nat.zero_le _) aC aC aC
 .obtain⟨us,hc⟩:=(M.rs.ob 0 _ ho).cells hb;have hlt:b<w'.heap.size:=by
   rcases(M.rs.ob 0 _ ho).at with h1|⟨r,C',cur,h1,h2,_⟩
   .rw[h1] at hb;cases hb
   .rw[h1] at hb;cases hb;exact(Array.getElem?_eq_some_iff.1 h2).1
  refine .sl l m _ cap us hn hm (λj hj=>?_) (λj hj=>hc.2.1 _ hj) (λj x hg'=>?_)
  .have e:=(hC rfl).2;subst e;exact⟨b,0,rfl,M.rs.sep 0 _ b C ho hb,hlt,by have:=hc.1 j hj;rw[Nat.zero_add] at this⊢;exact this⟩
  .exact(hi x (bO hg') _ _ _ _ (hc.2.2 _ _ hg')).sub λr _ hb'=> .inl hb'
end
section
variable {P:Program}
def LL(P:Program)(c:Code)(Q:Exit->St->Prop):Nat->St->Prop
 |0,_=>False
 |n+1,st=>Tr P c st (uE (LL P c Q n) Q)
theorem Pm{Q:Exit->St->Prop}(n:Nat)(h:LL P c Q n st):Tr P (.loop c) st Q:=λcx a w R r k=>by
 refine wpIn_loop_rounds n ?_;induction n generalizing st a w with
 |zero=>exact h.elim
 |succ n ih=>
  rw[roundsIn_succ];refine h cx a w _ r λe s b w' q r'=>?_;cases e with
  |normal=>simp only[uE] at q;exact ih q b w' r'
  |_=>simp only[uE] at q;exact k _ s b w' q r'
theorem iv{b:Frame}{a:Act}{k:List Item}:step P (lone (b.atR a (.code (.scope c)::k)) cs w)= .next (lone (b.atR a (.code c:: .inScope c::k)) cs w):=
 step_lone_go (by simp[stepG,stepG.exec,Frame.atR])
theorem Dj{b:Frame}{a:Act}{k:List Item}:step P (lone (b.atR a (.inScope c::k)) cs w)= .next (lone (b.atR a k) cs w):=
 step_lone_go (by simp[stepG,stepG.exec,Frame.atR])
def A4:Exit->Bool
 | .goto _=>true
 |_=>false
theorem zy{F:Fence}{Q:Exit->Act->World->Prop}{a:Act}(h:c.wpIn F n P (λe a w=>A4 e=false/\Q e a w) a w):(Code.scope c).wpIn F n P Q a w:=by
 intro b k m i hb hr;have h0:(lone (b.atR a (.code (.scope c)::k)) m w).fenced P F:=fenced_calm hb hr rfl;obtain⟨e,f,g,⟨hg,hq⟩,d⟩:=h b (.inScope c::k) m i hb hr;cases e with
 |normal=>exact⟨.normal,f,g,hq,.head h0 iv (StepsIn.trans d (.one (fenced_calm hb hr rfl) Dj))⟩
 |exit id'=>
  have hx:exitTo id' (.inScope c::k)=exitTo id' k:=by simp[exitTo]
  exact⟨.exit id',f,g,hq,λk' hk=> .head h0 iv (d.1 k' (by rw[hx];exact hk)),
   λj hk=>let⟨k₁,h1,h2⟩:=d.2 j (by rw[hx];exact hk);⟨k₁,h1,.head h0 iv h2⟩⟩
 |goto l=>cases hg
 |ret=>exact⟨_,f,g,hq,.of_steps (.one h0 iv) d⟩
 |panic ch=>exact⟨_,f,g,hq,.of_steps (.one h0 iv) d⟩
 |outgrown=>exact⟨_,f,g,hq,.of_steps (.one h0 iv) d⟩
theorem Pn{Q:Exit->St->Prop}(h:Tr P c st (λe s=>A4 e=false/\Q e s)):Tr P (.scope c) st Q:=λcx a w R r k=>
 zy (h cx a w _ r λe s b w' q r'=>⟨q.1,k e s b w' q.2 r'⟩)
end
section
variable {P:Program}
def iEq:Int->Int->Bool
 | .ofNat a,.ofNat b=>Nat.beq a b
 | .negSucc a,.negSucc b=>Nat.beq a b
 |_,_=>false
theorem Py{a b:Int}(h:iEq a b=true):a=b:=by
 unfold iEq at h;split at h
 .rw[bc h]
 .rw[bc h]
 .cases h
def fe{α:Type}(f:α->α->Bool):List α->List α->Bool
 |[],[]=>true
 |x::r,y::s=>bif f x y then fe f r s else false
 |_,_=>false
theorem bi{α:Type}{f:α->α->Bool}(hf:∀x y,f x y=true->x=y):∀{l m:List α},fe f l m=true->l=m
 |[],[],_=>rfl
 |x::r,y::s,h=>by
  unfold fe at h;cases hx:f x y with
  |false=>rw[hx] at h;cases h
  |true=>rw[hx] at h;rw[hf x y hx,bi hf h]
 |[],_::_,h=>by cases h
 |_::_,[],h=>by cases h
def bEq(a b:UInt8):Bool:=Nat.beq a.toNat b.toNat
theorem Pz{a b:UInt8}(h:bEq a b=true):a=b:=UInt8.toNat_inj.1 (bc h)
def X4(a b:Value):Bool:=match a with
 | .int k x=>(match b with
  | .int k' y=>decide (k=k')&&iEq x y
  |_=>false)
 | .bool x=>(match b with
  | .bool y=>x==y
  |_=>false)
 | .string s=>(match b with
  | .string t=>fe bEq s.data.toList t.data.toList
  |_=>false)
 | .slice none n m=>(match b with
  | .slice none n' m'=>Nat.beq n n'&&Nat.beq m m'
  |_=>false)
 |_=>false
theorem Bl{a b:Value}(h:X4 a b=true):a=b:=by
 unfold X4 at h;split at h
 .split at h
  .simp only[bA] at h;rw[of_decide_eq_true h.1,Py h.2]
  .cases h
 .split at h
  .rw[beq_iff_eq.1 h]
  .cases h
 .rename_i s;split at h
  .rename_i t;have:=bi (λ_ _=>Pz) h;obtain⟨⟨s⟩⟩:=s;obtain⟨⟨t⟩⟩:=t;simp only at this;rw[this]
  .cases h
 .split at h
  .simp only[bA] at h;rw[bc h.1,bc h.2]
  .cases h
 .cases h
def Sh:Nat->G->G->Bool
 |0,_,_=>false
 |k+1,a,b=>match a with
  | .lit v=>(match b with
   | .lit u=>X4 v u
   |_=>false)
  | .agg l=>(match b with
   | .agg m=>fe (Sh k) l m
   |_=>false)
  | .tup l=>(match b with
   | .tup m=>fe (Sh k) l m
   |_=>false)
  | .sl l n=>(match b with
   | .sl m n'=>Nat.beq n n'&&fe (Sh k) l m
   |_=>false)
  |_=>false
theorem lK:∀(k:Nat) (a b:G),Sh k a b=true->a=b
 |0,a,b,h=>by cases h
 |k+1,a,b,h=>by
  unfold Sh at h;split at h
  .split at h
   .rw[Bl h]
   .cases h
  .split at h
   .rw[bi (lK k) h]
   .cases h
  .split at h
   .rw[bi (lK k) h]
   .cases h
  .split at h
   .simp only[bA] at h;rw[bc h.1,bi (lK k) h.2]
   .cases h
  .cases h
def dE(a b:Bool):Bool:=bif a then b else false
theorem aZ{a b:Bool}(h:dE a b=true):a=true/\b=true:=by
 cases a with
 |true=>exact⟨rfl,h⟩
 |false=>cases h
def SL(a b:Value):Bool:=match a with
 | .pointer none=>(match b with
  | .pointer none=>true
  |_=>false)
 | .map none=>(match b with
  | .map none=>true
  |_=>false)
 | .nilFunc=>(match b with
  | .nilFunc=>true
  |_=>false)
 | .nilIface=>(match b with
  | .nilIface=>true
  |_=>false)
 | .agg cs=>(match b with
  | .agg ds=>fe X4 cs.toList ds.toList
  |_=>false)
 |a=>X4 a b
theorem DX{a b:Value}(h:SL a b=true):a=b:=by
 unfold SL at h;split at h
 .split at h
  .rfl
  .cases h
 .split at h
  .rfl
  .cases h
 .split at h
  .rfl
  .cases h
 .split at h
  .rfl
  .cases h
 .rename_i c;split at h
  .rename_i d;have:=bi (λ_ _=>Bl) h;rw[Array.toList_inj.1 this]
  .cases h
 .exact Bl h
def Vy(a b:Fn):Bool:=match a with
 | .func f=>(match b with
  | .func g=>Nat.beq f g
  |_=>false)
 |_=>false
theorem Nq{a b:Fn}(h:Vy a b=true):a=b:=by
 unfold Vy at h;split at h
 .split at h
  .rw[bc h]
  .cases h
 .cases h
def iF:Nat->G->G->Bool
 |0,_,_=>false
 |k+1,a,b=>match a with
  | .lit v=>(match b with
   | .lit u=>SL v u
   |_=>false)
  | .agg l=>(match b with
   | .agg m=>fe (iF k) l m
   |_=>false)
  | .tup l=>(match b with
   | .tup m=>fe (iF k) l m
   |_=>false)
  | .sl l n=>(match b with
   | .sl m n'=>dE (Nat.beq n n') (fe (iF k) l m)
   |_=>false)
  | .ptr l n=>(match b with
   | .ptr m n'=>dE (Nat.beq n n') (fe (iF k) l m)
   |_=>false)
  | .clo f x y=>(match b with
   | .clo f' x' y'=>dE (Vy f f') (dE (fe (iF k) x x') (fe (iF k) y y'))
   |_=>false)
  | .ifc t g=>(match b with
   | .ifc t' g'=>dE (Nat.beq t t') (iF k g g')
   |_=>false)
  | .ref i o=>(match b with
   | .ref i' o'=>dE (Nat.beq i i') (Nat.beq o o')
   |_=>false)
  | .rsl i o n=>(match b with
   | .rsl i' o' n'=>dE (Nat.beq i i') (dE (Nat.beq o o') (Nat.beq n n'))
   |_=>false)
  | .mref i=>(match b with
   | .mref i'=>Nat.beq i i'
   |_=>false)
  | .yld i=>(match b with
   | .yld i'=>Nat.beq i i'
   |_=>false)
  | .junk=>(match b with
   | .junk=>true
   |_=>false)
  | .mp _ _ _ _=>false
theorem cc:∀(k:Nat) (a b:G),iF k a b=true->a=b
 |0,a,b,h=>by cases h
 |k+1,a,b,h=>by
  unfold iF at h;split at h
  .split at h
   .rw[DX h]
   .cases h
  .split at h
   .rw[bi (cc k) h]
   .cases h
  .split at h
   .rw[bi (cc k) h]
   .cases h
  .split at h
   .obtain⟨h1,h2⟩:=aZ h;rw[bc h1,bi (cc k) h2]
   .cases h
  .split at h
   .obtain⟨h1,h2⟩:=aZ h;rw[bc h1,bi (cc k) h2]
   .cases h
  .split at h
   .obtain⟨h1,h2⟩:=aZ h;obtain⟨h2,h3⟩:=aZ h2;rw[Nq h1,bi (cc k) h2,bi (cc k) h3]
   .cases h
  .split at h
   .obtain⟨h1,h2⟩:=aZ h;rw[bc h1,cc k _ _ h2]
   .cases h
  .split at h
   .obtain⟨h1,h2⟩:=aZ h;rw[bc h1,bc h2]
   .cases h
  .split at h
   .obtain⟨h1,h2⟩:=aZ h;obtain⟨h2,h3⟩:=aZ h2;rw[bc h1,bc h2,bc h3]
   .cases h
  .split at h
   .rw[bc h]
   .cases h
  .split at h
   .rw[bc h]
   .cases h
  .split at h
   .rfl
   .cases h
  .cases h
def X5(k:Nat)(a b:Value×G×Nat):Bool:=dE (SL a.1 b.1) (dE (iF k a.2.1 b.2.1) (Nat.beq a.2.2 b.2.2))
theorem Nr{k:Nat}{a b:Value×G×Nat}(h:X5 k a b=true):a=b:=by obtain⟨h1,h2⟩:=aZ h;obtain⟨h2,h3⟩:=aZ h2;exact Prod.ext (DX h1) (Prod.ext (cc k _ _ h2) (bc h3))
def PA(k:Nat)(a b:Option Xob):Bool:=match a with
 |none=>(match b with
  |none=>true
  |_=>false)
 |some (.map es n)=>(match b with
  |some (.map es' n')=>dE (Nat.beq n n') (fe (X5 k) es es')
  |_=>false)
 |some .resv=>(match b with
  |some .resv=>true
  |_=>false)
 |_=>false
theorem JT{k:Nat}{a b:Option Xob}(h:PA k a b=true):a=b:=by
 unfold PA at h;split at h
 .split at h
  .rfl
  .cases h
 .split at h
  .obtain⟨h1,h2⟩:=aZ h;rw[bc h1,bi (λ_ _=>Nr) h2]
  .cases h
 .split at h
  .rfl
  .cases h
 .cases h
def Vz(k:Nat)(a b:Option Ob):Bool:=match a with
 |none=>(match b with
  |none=>true
  |_=>false)
 |some ⟨t,l,x⟩=>(match b with
  |some ⟨t',l',x'⟩=>dE (Nat.beq t t') (dE (fe (iF k) l l') (PA k x x'))
  |_=>false)
theorem Ns{k:Nat}{a b:Option Ob}(h:Vz k a b=true):a=b:=by
 unfold Vz at h;split at h
 .split at h
  .rfl
  .cases h
 .split at h
  .obtain⟨h1,h2⟩:=aZ h;obtain⟨h2,h3⟩:=aZ h2;rw[bc h1,bi (cc k) h2,JT h3]
  .cases h
def re(k:Nat)(a b:Nat×Option Ob):Bool:=dE (Nat.beq a.1 b.1) (Vz k a.2 b.2)
theorem jS{k:Nat}{a b:Nat×Option Ob}(h:re k a b=true):a=b:=by obtain⟨h1,h2⟩:=aZ h;exact Prod.ext (bc h1) (Ns h2)
def PB(k:Nat)(a b:Nat×List G):Bool:=dE (Nat.beq a.1 b.1) (fe (iF k) a.2 b.2)
theorem DY{k:Nat}{a b:Nat×List G}(h:PB k a b=true):a=b:=by obtain⟨h1,h2⟩:=aZ h;exact Prod.ext (bc h1) (bi (cc k) h2)
def PC(k:Nat)(a b:G×aQ×Nat×Nat):Bool:=dE (Nat.beq a.2.2.1 b.2.2.1) (dE (Nat.beq a.2.2.2 b.2.2.2) (dE (iF k a.1 b.1) (fe (re k) a.2.1 b.2.1)))
theorem DZ{k:Nat}{a b:G×aQ×Nat×Nat}(h:PC k a b=true):a=b:=by obtain⟨h1,h2⟩:=aZ h;obtain⟨h2,h3⟩:=aZ h2;obtain⟨h3,h4⟩:=aZ h3;exact Prod.ext (cc k _ _ h3) (Prod.ext (bi (λ_ _=>jS) h4) (Prod.ext (bc h1) (bc h2)))
def Bn(a b:List Nat):Bool:=fe Nat.beq a b
theorem rf{a b:List Nat}(h:Bn a b=true):a=b:=bi (λ_ _ h=>bc h) h
end
section
variable {P:Program}
def RG(P:Program)(o:Oper)(st:St)(g:G)(f:Nat):Prop:=∀st',st'.n=st.n->st'.gl=st.gl->(∀i,i<f->ag st'.σ i=ag st.σ i)->(∀x∈o.op.operands,aB st' x=aB st x)->GS P o st' (st'.put o.dst g)
def BG(P:Program)(o:Oper)(st:St)(g:G)(σ:aQ)(c:Nat):Prop:=∀st',st.like st'->(∀x∈o.op.operands,aB st' x=aB st x)->GS P o st' ({st' with σ:=σ,c:=c}.put o.dst g)
def cG(o:Oper):Bool:=match o.op with
 | .move _| .assign _| .pick .. | .makeFunc .. | .extract .. | .field .. | .fieldAddr .. | .indexAddr .. | .index .. | .build .. | .binOp .. | .unOp .. | .nilCheck _| .slice .. | .makeInterface .. =>true
 | .call {callee:= .builtin .min,.. }| .call {callee:= .builtin .max,.. }=>true
 |_=>false
inductive Reach (l:List Oper):Nat->Nat->Prop
 |one {i j:Nat} {o:Oper} (ho:l[j]?=some o) (h:p8 o i=true):Reach l i j
 |step {i k j:Nat} {o:Oper} (ho:l[j]?=some o) (h:p8 o k=true) (hr:Reach l i k):Reach l i j
def S7(n:Nat)(l:List Nat):List Nat:=bif l.any (Nat.beq n) then l else n::l
theorem HU{m:Nat}{l:List Nat}(h:m∈S7 n l):m=n\/m∈l:=by
 unfold S7 at h;cases hb:l.any (Nat.beq n) with
 |true=>rw[hb] at h;exact .inr h
 |false=>rw[hb] at h;exact List.mem_cons.1 h
def Ke:List Nat->List Nat->List Nat
 |[],s=>s
 |n::r,s=>Ke r (S7 n s)
theorem B3{m:Nat}:∀{a s:List Nat},m∈Ke a s->m∈a\/m∈s
 |[],s,h=> .inr h
 |n::r,s,h=>by
  rcases B3 (a:=r) h with h|h
  .exact .inl (List.mem_cons_of_mem _ h)
  .rcases HU h with h|h
   .exact .inl (by rw[h];simp)
   .exact .inr h
def B4(a:List (List Nat)):List Edge->List Nat->List Nat
 |[],s=>s
 |e::r,s=>B4 a r (bif Region.binds .any e then S7 e.on (Ke ((a[e.on]?).getD []) s) else s)
def kM:List Oper->List (List Nat)->List (List Nat)
 |[],acc=>acc
 |o::r,acc=>kM r (acc++[B4 acc o.after.toList []])
theorem yR{l:List Oper}{acc:List (List Nat)}(hacc:∀j s i,acc[j]?=some s->i∈s->Reach l i j){j:Nat}{o:Oper}(ho:l[j]?=some o):∀(es:List Edge) (s:List Nat),(∀e∈es,e∈o.after.toList)->(∀i∈s,Reach l i j)->∀i∈B4 acc es s,Reach l i j
 |[],s,a,hs=>hs
 |e::r,s,a,hs=>by
  refine yR hacc ho r _ (λx hx=>a x (List.mem_cons_of_mem _ hx)) λi hi=>?_;cases hb:Region.binds .any e with
  |false=>rw[hb] at hi;exact hs i hi
  |true=>
   rw[hb] at hi;have hed:p8 o e.on=true:=by unfold p8;rw[Array.any_eq_true'];exact⟨e,by simpa using a e aC,by simp[hb]⟩
   rcases HU hi with h|h
   .rw[h];exact .one ho hed
   .rcases B3 h with h|h
    .cases ha:acc[e.on]? with
     |none=>rw[ha] at h;simp at h
     |some s'=>rw[ha] at h;exact .step ho hed (hacc e.on s' i ha h)
    .exact hs i h
theorem B5{l:List Oper}:∀(r done:List Oper) (acc:List (List Nat)),l=done++r->acc.length=done.length->(∀j s i,acc[j]?=some s->i∈s->Reach l i j)->∀j s i,(kM r acc)[j]?=some s->i∈s->Reach l i j
 |[],done,acc,hl,hlen,hacc=>hacc
 |o::r,done,acc,hl,hlen,hacc=>by
  refine B5 r (done++[o]) _ (by simp[hl]) (by simp[hlen]) λj s i hj hi=>?_;rcases Nat.lt_or_ge j acc.length with h|h
  .rw[List.getElem?_append_left h] at hj;exact hacc j s i hj hi
  .rw[List.getElem?_append_right h] at hj;have hj0:j-acc.length=0:=by have:=(cr hj).1;simp at this;omega
   rw[hj0] at hj;simp at hj;subst hj;have hjd:j=done.length:=aa;refine yR hacc (o:=o) ?_ _ _ (λe he=>he) aC i hi;rw[hl,hjd,List.getElem?_append_right (Nat.le_refl _)];simp
def sH(R:List (List Nat))(i j:Nat):Bool:=((R[j]?).getD []).any (Nat.beq i)
theorem pA{l:List Oper}(h:sH (kM l []) i j=true):Reach l i j:=by
 obtain⟨x,hx,hb⟩:=List.any_eq_true.1 h;have:=bc hb;subst this;cases hj:(kM l [])[j]? with
 |none=>rw[hj] at hx;simp at hx
 |some s=>rw[hj] at hx;exact B5 l [] [] rfl rfl aC j s _ hj hx
inductive OI where
 |rd (f:Nat)
 |wr (low:Nat)
 deriving Inhabited
def OI.isWr:OI->Bool
 | .rd _=>false
 | .wr _=>true
def Qh:OI->OI->Bool
 | .wr _,.wr _=>false
 | .wr low,.rd f=>Nat.ble f low
 | .rd f,.wr low=>Nat.ble f low
 | .rd _,.rd _=>true
def wv(l:List Oper)(n:Nat):Bool:=
 (λR=>(List.range l.length).all λj=>match l[j]? with
  |none=>true
  |some o=>
   (match o.dst with|some d=>Nat.ble (d+1) n|none=>true)&&
   o.after.toList.all (λe=> !Region.binds .any e||Nat.ble (e.on+1) j)&&
   (List.range l.length).all (λi=>match(l[i]?).bind (·.dst) with
    |none=>true
    |some d=>(Nat.beq i j||o.dst !=some d)&&(!(mO l o).any (Nat.beq d)||(Nat.ble (i+1) j&&p8 o i||Nat.ble (j+1) i&&sH R j i)))) (kM l [])
def eP(l:List Oper):List (Nat×Nat):=
 (λR=>(List.range l.length).flatMap λj=>match l[j]? with
  |none=>[]
  |some o=>bif cG o then[] else(List.range j).filterMap λi=>match l[i]? with
   |none=>none
   |some oi=>bif cG oi||sH R i j then none else some (i,j)) (kM l [])
def kN(l:List Oper)(inf:List OI)(n:Nat):Bool:=wv l n&&(eP l).all λq=>Qh (inf.getD q.1 (.rd 0)) (inf.getD q.2 (.rd 0))
def Ef(P:Program)(ops:Array Oper)(inf:OI)(o:Oper)(g:G)(st st':St):Prop:=
 (cG o=true->inf= .rd 0)/\
 ((ce st ops o=some true/\((∃low σ c,inf= .wr low/\st'={st with σ:=σ,c:=c}.put o.dst g/\BG P o st g σ c/\∀i,i<low->ag σ i=ag st.σ i)\/(∃f,inf= .rd f/\st'=st.put o.dst g/\RG P o st g f)))\/
 (ce st ops o=some false/\g= .lit undef/\st'=st.put o.dst g/\inf= .rd 0))
def S8(P:Program)(ops:Array Oper)(K:St->Prop):List Oper->List OI->St->Prop
 |[],[],st=>K st
 |o::rest,i::inf,st=>∃g st',Ef P ops i o g st st'/\S8 P ops K rest inf st'
 |_,_,_=>False
theorem yS{ops:Array Oper}{K:St->Prop}:∀(l:List Oper) (inf:List OI) (st:St),S8 P ops K l inf st->
  ∃(sts:Nat->St) (gs:Nat->G),sts 0=st/\K (sts l.length)/\∀i o,l[i]?=some o->Ef P ops (inf.getD i (.rd 0)) o (gs i) (sts i) (sts (i+1))
 |[],[],st,h=>⟨λ_=>st,λ_=> .junk,rfl,h,aC⟩
 |o::rest,q::inf,st,⟨g,st1,hs,hr⟩=>by
  obtain⟨sts,gs,h1,h2,h3⟩:=yS rest inf st1 hr;refine⟨λi=>match i with|0=>st|i+1=>sts i,λi=>match i with|0=>g|i+1=>gs i,rfl,h2,λi a ho=>?_⟩;cases i with
  |zero=>simp at ho;subst ho;simpa[h1] using hs
  |succ i=>simpa using h3 i a (by simpa using ho)
 |o::rest,[],st,h=>h.elim
 |[],q::inf,st,h=>h.elim
theorem Ef.like{ops:Array Oper}{inf:OI}{o:Oper}{g:G}{st st':St}(h:Ef P ops inf o g st st'):st'.n=st.n/\(st'.gl=st.gl/\st'.pr=st.pr)/\(∀t,aD st'.fr t=if o.dst=some t then g else aD st.fr t)/\(inf.isWr=false->st'.σ=st.σ/\st'.c=st.c)/\∀f,Qh inf (.rd f)=true->∀i,i<f->ag st'.σ i=ag st.σ i:=by
 have hp:∀(s:St),(s.put o.dst g).n=s.n/\((s.put o.dst g).gl=s.gl/\(s.put o.dst g).pr=s.pr)/\(∀t,aD (s.put o.dst g).fr t=if o.dst=some t then g else aD s.fr t)/\(s.put o.dst g).σ=s.σ/\(s.put o.dst g).c=s.c:=λs=>by
  cases o.dst with
  |none=>exact⟨rfl,⟨rfl,rfl⟩,λt=>by simp[St.put],rfl,rfl⟩
  |some d=>exact⟨rfl,⟨rfl,rfl⟩,λt=>by simp[St.put,aO],rfl,rfl⟩
 rcases h with⟨_,⟨_,⟨low,σ,c,rfl,rfl,_,hb⟩|⟨f,rfl,rfl,_⟩⟩|⟨_,_,rfl,rfl⟩⟩
 .obtain⟨a,b,c',d,e⟩:=hp {st with σ:=σ,c:=c};exact⟨a,b,c',(λh=>by cases h),λf hf i hi=>by rw[d];exact hb i (Nat.lt_of_lt_of_le hi (cm hf))⟩
 .obtain⟨a,b,c',d,e⟩:=hp st;exact⟨a,b,c',λ_=>⟨d,e⟩,λf _ i _=>by rw[d]⟩
 .obtain⟨a,b,c',d,e⟩:=hp st;exact⟨a,b,c',λ_=>⟨d,e⟩,λf _ i _=>by rw[d]⟩
section draw
variable {l:List Oper} {inf:List OI} {st:St} {K:St->Prop} {cx:Cx} {Q:Exit->Act->World->Prop}
abbrev f6(inf:List OI)(j:Nat):OI:=inf.getD j (.rd 0)
structure RFacts (P:Program) (l:List Oper) (inf:List OI) (st:St) (sts:Nat->St) (gs:Nat->G):Prop where
 zero:sts 0=st
 dstn:∀(j:Nat) (o:Oper) (d:Tmp),l[j]?=some o->o.dst=some d->d<st.n
 step:∀i o,l[i]?=some o->Ef P l.toArray (f6 inf i) o (gs i) (sts i) (sts (i+1))
 edges:∀j o,l[j]?=some o->∀e∈o.after,Region.binds .any e=true->e.on<j
 uniq:∀i j d,bX l i=some d->bX l j=some d->i=j
 look:∀i j o d,l[j]?=some o->bX l i=some d->d∈mO l o->(i<j/\p8 o i=true)\/(j<i/\Reach l j i)
 pair:∀i j,i<j->j<l.length->Reach l i j\/Qh (f6 inf i) (f6 inf j)=true
theorem Md{d:Nat}{s:List Nat}(h:d∈s):s.any (Nat.beq d)=true:=List.any_eq_true.2 ⟨d,h,Nat.beq_refl d⟩
theorem Dq{sts:Nat->St}{gs:Nat->G}(h:kN l inf st.n=true)(h0:sts 0=st)(hs:∀i o,l[i]?=some o->Ef P l.toArray (f6 inf i) o (gs i) (sts i) (sts (i+1))):RFacts P l inf st sts gs:=by
 simp only[kN,bA] at h;obtain⟨h,a⟩:=h;have hj:∀j o,l[j]?=some o->j<l.length:=λj o ho=>(cr ho).1;have key:=λj o (ho:l[j]?=some o)=>by have:=List.all_eq_true.1 h j (List.mem_range.2 (hj j o ho));rw[ho] at this;simp only[bA] at this;exact this
 refine⟨h0,λj o d ho hd=>?_,hs,λj o ho e he hb=>?_,λi j d hi hj'=>?_,λi j o d ho hi hl=>?_,λi j hij hjl=>?_⟩
 .have:=(key j o ho).1.1;rw[hd] at this;exact cm this
 .have:=List.all_eq_true.1 (key j o ho).1.2 e (by simpa using he);rw[hb] at this;simp only[Bool.not_true,Bool.false_or] at this;exact cm this
 .cases hoj:l[j]? with
  |none=>simp[bX,hoj] at hj'
  |some oj=>
   cases hoi:l[i]? with
   |none=>simp[bX,hoi] at hi
   |some oi=>
    have:=List.all_eq_true.1 (key j oj hoj).2 i (List.mem_range.2 (hj i oi hoi));have hi':(l[i]?).bind (·.dst)=some d:=hi;have hj'':oj.dst=some d:=by simpa[bX,hoj] using hj'
    rw[hi'] at this;simp only[bA,Bool.or_eq_true,bne_iff_ne] at this;rcases this.1 with h1|h1
    .exact bc h1
    .exact absurd hj'' h1
 .cases hoi:l[i]? with
  |none=>simp[bX,hoi] at hi
  |some oi=>
   have:=List.all_eq_true.1 (key j o ho).2 i (List.mem_range.2 (hj i oi hoi));have hi':(l[i]?).bind (·.dst)=some d:=hi;rw[hi'] at this;simp only[bA,Bool.or_eq_true,Bool.not_eq_true'] at this;rcases this.2 with h1|h1
   .rw[Md hl] at h1;cases h1
   .rcases h1 with h1|h1
    .exact .inl ⟨cm h1.1,h1.2⟩
    .exact .inr ⟨cm h1.1,pA h1.2⟩
 .have hoj:l[j]?=some (l[j]'hjl):=cv hjl;have hoi:l[i]?=some (l[i]'aa):=cv aa;have hfree:∀k o,l[k]?=some o->cG o=true->f6 inf k= .rd 0:=λk o ho hf=>(hs k o ho).1 hf;have hzero:∀q:OI,Qh (.rd 0) q=true/\Qh q (.rd 0)=true:=λq=>by cases q<;>exact⟨rfl,rfl⟩
  cases hfj:cG (l[j]'hjl) with
  |true=>right;rw[hfree j _ hoj hfj];exact(hzero _).2
  |false=>
   cases hfi:cG (l[i]'aa) with
   |true=>right;rw[hfree i _ hoi hfi];exact(hzero _).1
   |false=>
    cases hr:sH (kM l []) i j with
    |true=>exact .inl (pA hr)
    |false=>
     right;have hm:(i,j)∈eP l:=by unfold eP;rw[List.mem_flatMap];refine⟨j,List.mem_range.2 hjl,?_⟩;rw[hoj];simp only[hfj,aM];rw[List.mem_filterMap];refine⟨i,List.mem_range.2 hij,?_⟩;rw[hoi];simp[hfi,hr]
     exact List.all_eq_true.1 a (i,j) hm
variable {sts:Nat->St} {gs:Nat->G}
theorem RFacts.ngl(F:RFacts P l inf st sts gs):∀i,i<=l.length->(sts i).n=st.n/\(sts i).gl=st.gl/\(sts i).pr=st.pr
 |0,_=>by rw[F.zero];exact⟨rfl,rfl,rfl⟩
 |i+1,hi=>by obtain⟨a,b,e⟩:=F.ngl i aa;obtain⟨c,⟨d,f⟩,_⟩:=(F.step i _ (cv aa)).like;exact⟨c.trans a,d.trans b,f.trans e⟩
theorem RFacts.fr1(F:RFacts P l inf st sts gs){j:Nat}{t:Tmp}(hd:bX l j=some t):∀i,j<i->i<=l.length->aD (sts i).fr t=gs j
 |0,h,_=>aa
 |i+1,h,hi=>by
  have ho:l[i]?=some (l[i]'aa):=cv aa;obtain⟨_,_,c,_⟩:=(F.step i _ ho).like;rw[c t];by_cases e:j=i
  .subst e;have:(l[j]'aa).dst=some t:=by simpa[bX,ho] using hd
   rw[if_pos this]
  .have:(l[i]'aa).dst≠some t:=λx=>e (F.uniq j i t hd (by simp[bX,ho,x]));rw[if_neg this];exact F.fr1 hd i aa aa
theorem RFacts.fr2(F:RFacts P l inf st sts gs){t:Tmp}:∀i,i<=l.length->(∀j,j<i->bX l j≠some t)->aD (sts i).fr t=aD st.fr t
 |0,_,_=>by rw[F.zero]
 |i+1,hi,h=>by have ho:l[i]?=some (l[i]'aa):=cv aa;obtain⟨_,_,c,_⟩:=(F.step i _ ho).like;rw[c t,if_neg (λx=>h i aa (by simp[bX,ho,x]))];exact F.fr2 i aa (λj hj=>h j aa)
theorem RFacts.sto(F:RFacts P l inf st sts gs){a:Nat}:∀b,a<=b->b<=l.length->(∀k,a<=k->k<b->(f6 inf k).isWr=false)->(sts b).σ=(sts a).σ/\(sts b).c=(sts a).c
 |0,h,_,_=>by obtain rfl:a=0:=aa;exact⟨rfl,rfl⟩
 |b+1,h,hl,hb=>by
  by_cases e:a=b+1
  .subst e;exact⟨rfl,rfl⟩
  .have ho:l[b]?=some (l[b]'aa):=cv aa;obtain⟨_,_,_,d,_⟩:=(F.step b _ ho).like;obtain⟨d1,d2⟩:=d (hb b aa aa);obtain⟨e1,e2⟩:=F.sto b aa aa (λk h1 h2=>hb k h1 aa);exact⟨d1.trans e1,d2.trans e2⟩
theorem RFacts.stoF(F:RFacts P l inf st sts gs){a f:Nat}:∀b,a<=b->b<=l.length->(∀k,a<=k->k<b->Qh (f6 inf k) (.rd f)=true)->∀i,i<f->ag (sts b).σ i=ag (sts a).σ i
 |0,h,_,_=>by obtain rfl:a=0:=aa;exact λ_ _=>rfl
 |b+1,h,hl,hb=>λi hi=>by
  by_cases e:a=b+1
  .subst e;rfl
  .have ho:l[b]?=some (l[b]'aa):=cv aa;obtain⟨_,_,_,_,d⟩:=(F.step b _ ho).like;exact(d f (hb b aa aa) i hi).trans (F.stoF b aa aa (λk h1 h2=>hb k h1 aa) i hi)
structure RInv (P:Program) (l:List Oper) (inf:List OI) (st:St) (sts:Nat->St) (gs:Nat->G) (cx:Cx) (L:Array Bool) (a:Act) (w:World) (m:Nat) (st':St):Prop where
 size:L.size=l.length
 closed:∀j o,L.getD j false=true->l[j]?=some o->∀e∈o.after,Region.binds .any e=true->L.getD e.on false=true
 hm:m<=l.length
 bar:∀b,b<l.length->(f6 inf b).isWr=true->(L.getD b false=true↔b<m)
 rel:mh P cx st' a w
 n:st'.n=st.n
 gl:st'.gl=st.gl
 σ:st'.σ=(sts m).σ
 c:st'.c=(sts m).c
 p:st'.pr=st.pr
 f1:∀j t,L.getD j false=true->bX l j=some t->aD st'.fr t=gs j
 f2:∀t,(∀j,L.getD j false=true->bX l j≠some t)->aD st'.fr t=aD st.fr t
theorem dI{L:Array Bool}(hcl:∀j o,L.getD j false=true->l[j]?=some o->∀e∈o.after,Region.binds .any e=true->L.getD e.on false=true)(h:Reach l i j):(L.getD j false=true\/∃b,l[j]?=some b/\∀e∈b.after,Region.binds .any e=true->L.getD e.on false=true)->L.getD i false=true:=by
 induction h with
 |one ho h=>
  intro hj;obtain⟨e,he,hb,a⟩:=fJ h;rcases hj with hj|⟨b,ho',hr⟩
  .rw[<-a];exact hcl _ _ hj ho e he hb
  .rw[ho] at ho';cases ho';rw[<-a];exact hr e he hb
 |step ho h hr ih=>
  intro hj;obtain⟨e,he,hb,a⟩:=fJ h;refine ih (.inl ?_);rcases hj with hj|⟨b,ho',c⟩
  .rw[<-a];exact hcl _ _ hj ho e he hb
  .rw[ho] at ho';cases ho';rw[<-a];exact c e he hb
theorem Qi{a b:OI}(ha:a.isWr=true)(hb:b.isWr=true):Qh a b=false:=by cases a<;>cases b<;>first|rfl|(simp[OI.isWr] at ha hb;done)
theorem RInv.ahead(F:RFacts P l inf st sts gs){L:Array Bool}{a:Act}{w:World}{m:Nat}{st':St}(I:RInv P l inf st sts gs cx L a w m st'){j:Nat}{o:Oper}(ho:l[j]?=some o)(hr:H_a o L)(hb:(f6 inf j).isWr=true){i:Nat}(hbi:(f6 inf i).isWr=true)(hij:i<j):L.getD i false=true:=by
 rcases F.pair i j hij (cr ho).1 with h|h
 .exact dI I.closed h (.inr ⟨o,ho,hr⟩)
 .rw[Qi hbi hb] at h;cases h
theorem RInv.same(F:RFacts P l inf st sts gs){L:Array Bool}{a:Act}{w:World}{m:Nat}{st':St}(I:RInv P l inf st sts gs cx L a w m st'){j:Nat}{o:Oper}(ho:l[j]?=some o)(hr:H_a o L)(hL:L.getD j false=false){t:Tmp}(ht:t∈mO l o):aD st'.fr t=aD (sts j).fr t:=by
 have hjl:=(cr ho).1;by_cases hx:∃i,bX l i=some t
 .obtain⟨i,hi⟩:=hx;rcases F.look i j o t ho hi ht with⟨h1,h2⟩|⟨h1,h2⟩
  .obtain⟨e,he,hbe,b⟩:=fJ h2;have hL:L.getD i false=true:=by rw[<-b];exact hr e he hbe
   rw[I.f1 i t hL hi,F.fr1 hi j h1 aa]
  .have hiu:L.getD i false=false:=by
    cases hd:L.getD i false with
    |false=>rfl
    |true=>have:=dI I.closed h2 (.inl hd);rw[hL] at this;cases this
   rw[I.f2 t (λk hk h=>by
    have:=F.uniq k i t h hi;subst this;rw[hiu] at hk;cases hk),F.fr2 j aa (λk hk h=>by
    have:=F.uniq k i t h hi;omega)]
 .rw[I.f2 t (λi _ h=>hx ⟨i,h⟩),F.fr2 j aa (λi _ h=>hx ⟨i,h⟩)]
theorem RInv.stoW(F:RFacts P l inf st sts gs){L:Array Bool}{a:Act}{w:World}{m:Nat}{st':St}(I:RInv P l inf st sts gs cx L a w m st'){j:Nat}{o:Oper}(ho:l[j]?=some o)(hb:(f6 inf j).isWr=true)(hr:H_a o L)(hL:L.getD j false=false):m<=j/\st'.σ=(sts j).σ/\st'.c=(sts j).c:=by
 have hjl:=(cr ho).1;have hmj:m<=j:=by
  rcases Nat.lt_or_ge j m with h|h
  .have:=(I.bar j hjl hb).2 h;rw[hL] at this;cases this
  .exact h
 rw[I.σ,I.c];have:=F.sto (a:=m) j hmj aa (λb h1 h2=>by
  cases hbb:(f6 inf b).isWr with
  |false=>rfl
  |true=>have h3:=I.ahead F ho hr hb hbb h2;have:=(I.bar b aa hbb).1 h3;omega)
 exact⟨hmj,this.1.symm,this.2.symm⟩
theorem RInv.stoR(F:RFacts P l inf st sts gs){L:Array Bool}{a:Act}{w:World}{m:Nat}{st':St}(I:RInv P l inf st sts gs cx L a w m st'){j f:Nat}{o:Oper}(ho:l[j]?=some o)(hf:f6 inf j= .rd f)(hr:H_a o L)(hL:L.getD j false=false):∀i,i<f->ag st'.σ i=ag (sts j).σ i:=by
 have hjl:=(cr ho).1;intro i hi;rw[I.σ];have sym:∀(x y:OI),Qh x y=Qh y x:=λx y=>by cases x<;>cases y<;>rfl
 have hrd:∀x:OI,x.isWr=false->Qh x (.rd f)=true:=λx hx=>by cases x<;>first|rfl|cases hx
 rcases Nat.le_total m j with hmj|hjm
 .refine(F.stoF (a:=m) (f:=f) j hmj aa (λb h1 h2=>?_) i hi).symm;cases hbb:(f6 inf b).isWr with
  |false=>exact hrd _ hbb
  |true=>
   rcases F.pair b j h2 hjl with h3|h3
   .have h4:=dI I.closed h3 (.inr ⟨o,ho,hr⟩);have:=(I.bar b aa hbb).1 h4;omega
   .rw[hf] at h3;exact h3
 .refine F.stoF (a:=j) (f:=f) m hjm I.hm (λb h1 h2=>?_) i hi;cases hbb:(f6 inf b).isWr with
  |false=>exact hrd _ hbb
  |true=>
   have hm:=I.hm;have c:=(I.bar b aa hbb).2 h2;by_cases e:b=j
   .subst e;rw[hL] at c;cases c
   .rcases F.pair j b aa aa with h3|h3
    .have:=dI I.closed h3 (.inl c);rw[hL] at this;cases this
    .rw[hf,sym] at h3;exact h3
theorem RInv.next(F:RFacts P l inf st sts gs){L:Array Bool}{a a':Act}{w w':World}{m:Nat}{st':St}(I:RInv P l inf st sts gs cx L a w m st'){j:Nat}{o:Oper}(ho:l[j]?=some o)(hr:H_a o L)(hL:L.getD j false=false){σ:aQ}{c:Nat}{m2:Nat}
  (hrel:mh P cx ({st' with σ:=σ,c:=c}.put o.dst (gs j)) a' w') (hm2:((f6 inf j).isWr=false/\m2=m)\/((f6 inf j).isWr=true/\m2=j+1)) (i:σ=(sts m2).σ) (hc:c=(sts m2).c):∃m2 g,RInv P l inf st sts gs cx (L.setIfInBounds j true) a' w' m2 g:=by
 have hjl:=(cr ho).1
 have hjs:j<L.size:=by rw[I.size];exact hjl
 have hcl:∀k ok,(L.setIfInBounds j true).getD k false=true->l[k]?=some ok->∀e∈ok.after,Region.binds .any e=true->(L.setIfInBounds j true).getD e.on false=true:=by
  intro k ok hk hok e he hbe;rw[cI hjs];split
  .rfl
  .rw[cI hjs] at hk;by_cases ek:j=k
   .subst ek;rw[ho] at hok;cases hok;exact hr e he hbe
   .rw[if_neg ek] at hk;exact I.closed k ok hk hok e he hbe
 have hpf:∀t,aD ({st' with σ:=σ,c:=c}.put o.dst (gs j)).fr t=if o.dst=some t then gs j else aD st'.fr t:=λt=>by
  cases hd':o.dst with
  |none=>simp[St.put]
  |some d=>show aD ((d,gs j)::st'.fr) t=_;rw[aO];by_cases e:d=t<;>simp[e]
 refine⟨m2,_,{size:=by simp[I.size],closed:=hcl,hm:=?_,bar:=λb hbl hbb=>?_,rel:=hrel,n:=?_,gl:=?_,σ:=?_,c:=?_,p:=?_,f1:=λk t hk hd=>?_,f2:=λt ht=>?_}⟩
 .rcases hm2 with⟨_,rfl⟩|⟨_,rfl⟩
  .exact I.hm
  .exact hjl
 .rw[cI hjs]
  rcases hm2 with⟨hb,rfl⟩|⟨hb,rfl⟩
  .rw[if_neg (λe=>by subst e;rw[hb] at hbb;cases hbb)]
   exact I.bar b hbl hbb
  .by_cases e:j=b
   .subst e;simp
   .rw[if_neg e]
    rcases Nat.lt_or_ge b j with h|h
    .simp only[I.ahead F ho hr hb hbb h,true_iff];omega
    .have hjb:j<b:=aa
     refine⟨λf=>?_,λhlt=>aa⟩
     rcases F.pair j b hjb hbl with h3|h3
     .have:=dI I.closed h3 (.inl f)
      rw[hL] at this;cases this
     .rw[Qi hb hbb] at h3;cases h3
 .rw[<-I.n];cases o.dst<;>rfl
 .rw[<-I.gl];cases o.dst<;>rfl
 .rw[<-i];cases o.dst<;>rfl
 .rw[<-hc];cases o.dst<;>rfl
 .rw[<-I.p];cases o.dst<;>rfl
 .rw[hpf]
  by_cases e:j=k
  .subst e
   have:o.dst=some t:=by simpa[bX,ho] using hd
   rw[if_pos this]
  .rw[if_neg (λx=>e (F.uniq j k t (by simp[bX,ho,x]) hd))]
   rw[cI hjs,if_neg e] at hk
   exact I.f1 k t hk hd
 .rw[hpf,if_neg (λx=>ht j (by rw[cI hjs,if_pos rfl]) (by simp[bX,ho,x]))]
  exact I.f2 t (λk hk=>ht k (by
   rw[cI hjs];split
   .rfl
   .exact hk))
theorem RInv.run(F:RFacts P l inf st sts gs)(y:∀a w,mh P cx (sts l.length) a w->Q .normal a w):∀(fuel:Nat) (L:Array Bool) (a:Act) (w:World) (m:Nat) (st':St),L.toList.count false<=fuel->RInv P l inf st sts gs cx L a w m st'->wpAnyIn cx.F cx.nn P .any l.toArray Q fuel L a w:=by
 have done:∀(L:Array Bool) (a:Act) (w:World) (m:Nat) (st':St),RInv P l inf st sts gs cx L a w m st'->(∀j,j<l.length->L.getD j false=true)->Q .normal a w:=by
  intro L a w m st' I hall;obtain⟨hn,hg,hp⟩:=F.ngl l.length (Nat.le_refl _);obtain⟨s1,s2⟩:=F.sto (a:=m) l.length I.hm (Nat.le_refl _) (λb h1 h2=>by
   cases hb:(f6 inf b).isWr with
   |false=>rfl
   |true=>have:=(I.bar b h2 hb).1 (hall b h2);omega)
  refine y a w (I.rel.congr (hn.trans I.n.symm) (hg.trans I.gl.symm) (λt=>?_) (s1.trans I.σ.symm) (s2.trans I.c.symm) (hp.trans I.p.symm));by_cases hx:∃i,bX l i=some t
  .obtain⟨i,hi⟩:=hx;have hil:i<l.length:=by
    rcases Nat.lt_or_ge i l.length with h|h
    .exact h
    .simp[bX,List.getElem?_eq_none h] at hi
   rw[F.fr1 hi l.length hil (Nat.le_refl _),I.f1 i t (hall i hil) hi]
  .rw[F.fr2 l.length (Nat.le_refl _) (λi _ h=>hx ⟨i,h⟩),I.f2 t (λi _ h=>hx ⟨i,h⟩)]
 have empty:∀(L:Array Bool) (a:Act) (w:World) (m:Nat) (st':St),RInv P l inf st sts gs cx L a w m st'->Region.ready .any l.toArray L=[]->∀j,j<l.length->L.getD j false=true:=by
  intro L a w m st' I hr j;induction j using Nat.strongRecOn with
  |_ j ih=>
   intro hj;cases h:L.getD j false with
   |true=>rfl
   |false=>
    have:j∈Region.ready .any l.toArray L:=by
     rw[mem_ready];have ho:l[j]?=some (l[j]'hj):=cv hj;refine⟨?_,l[j]'hj,aC,λe he hbe=>?_⟩
     .have hs:j<L.size:=by rw[I.size];exact hj
      simp[hs] at h⊢;exact h
     .have:=F.edges j _ ho e he hbe;exact ih e.on this aa
    rw[hr] at this;cases this
 intro fuel;induction fuel with
 |zero=>
  intro L a w m st' hc I;have hall:∀j,j<l.length->L.getD j false=true:=by
   intro j hj;have hs:j<L.size:=by rw[I.size];exact hj
   have h0:L.toList.count false=0:=aa;rw[List.count_eq_zero] at h0;cases h:L.getD j false with
   |true=>rfl
   |false=>simp[hs] at h;exact absurd (by rw[<-h];simp:false∈L.toList) h0
  refine⟨?_,done L a w m st' I hall⟩;cases hr:Region.ready .any l.toArray L with
  |nil=>rfl
  |cons x xs=>
   have hx:x∈Region.ready .any l.toArray L:=by rw[hr];simp
   obtain⟨h1,o,ho,_⟩:=mem_ready.1 hx;have hxl:x<l.length:=by have:=(Array.getElem?_eq_some_iff.1 ho).1;simpa using this
   have hs:x<L.size:=by rw[I.size];exact hxl
   have:=hall x hxl;simp[hs] at h1 this;rw[h1] at this;cases this
 |succ fuel ih=>
  intro L a w m st' hc I;refine⟨λhr=>done L a w m st' I (empty L a w m st' I hr),λj hj=>?_⟩;obtain⟨h1,o,ho',hr⟩:=mem_ready.1 hj;have ho:l[j]?=some o:=by simpa using ho'
  have hjl:=(cr ho).1;have hs:j<L.size:=by rw[I.size];exact hjl
  have hL:L.getD j false=false:=by simp[hs] at h1⊢;exact h1
  have hcnt:(L.setIfInBounds j true).toList.count false<=fuel:=by have:=om L.toList j (by simp[hs] at h1;simp[hs,h1]);rw[Array.toList_setIfInBounds];omega
  have next:∀(σ:aQ) (c m2:Nat) q w',mh P cx ({st' with σ:=σ,c:=c}.put o.dst (gs j)) q w'->(((f6 inf j).isWr=false/\m2=m)\/((f6 inf j).isWr=true/\m2=j+1))->σ=(sts m2).σ->c=(sts m2).c->wpAnyIn cx.F cx.nn P .any l.toArray Q fuel (L.setIfInBounds j true) q w':=by intro σ c m2 q w' h h2 h3 h4;obtain⟨m2,u,z⟩:=I.next F ho hr hL h h2 h3 h4;exact ih _ q w' m2 u hcnt z
  obtain⟨hn,hg,hp⟩:=F.ngl j aa;have hlook:=λt (ht:t∈mO l o)=>I.same F ho hr hL ht;have hgev:∀x∈o.op.operands,aB st' x=aB (sts j) x:=λx hx=>BV (I.gl.trans hg.symm) (λt e=>hlook t (by subst e;exact List.mem_append_left _ (List.mem_filterMap.2 ⟨.tmp t,by simpa using hx,rfl⟩)))
  have hgw:ce st' l.toArray o=ce (sts j) l.toArray o:=by
   unfold ce;cases hgd:o.guard with
   |none=>rfl
   |some gw=>
    obtain⟨g,v⟩:=gw;simp only;cases hd:(l.toArray[g]?).bind (·.dst) with
    |none=>rfl
    |some d=>
     simp only;rw[hlook d (List.mem_append_right _ (by
      rw[hgd];have:(l[g]?).bind (·.dst)=some d:=by simpa using hd
      simp[this]))]
  obtain⟨β,r⟩:=I.rel;unfold wpOpIn;simp only[ho'];have hstep:=F.step j o ho;have hput:∀(s:St) (g:G),(s.put o.dst g).σ=s.σ/\(s.put o.dst g).c=s.c:=λs g=>by cases o.dst<;>exact⟨rfl,rfl⟩
  rcases hstep with⟨_,⟨hw,⟨low,σ,c,k,hst,hB,_⟩|⟨f,k,hst,A⟩⟩|⟨hw,hge,hst,k⟩⟩
  .rw[<-hgw] at hw;rw[if_pos (cT r hw)];have hb:(f6 inf j).isWr=true:=by rw[k];rfl
   obtain⟨_,s1,s2⟩:=I.stoW F ho hb hr hL;have hlike:(sts j).like st':=⟨I.n.trans hn.symm,I.gl.trans hg.symm,s1,s2,I.p.trans hp.symm⟩;exact hB st' hlike hgev cx a w _ Q ⟨β,r⟩ λq w' r'=>next σ c (j+1) q w' r' (.inr ⟨hb,rfl⟩) (by rw[hst];exact(hput {sts j with σ:=σ,c:=c} (gs j)).1.symm) (by rw[hst];exact(hput {sts j with σ:=σ,c:=c} (gs j)).2.symm)
  .rw[<-hgw] at hw;rw[if_pos (cT r hw)];have hb:(f6 inf j).isWr=false:=by rw[k];rfl
   exact A st' (I.n.trans hn.symm) (I.gl.trans hg.symm) (I.stoR F ho k hr hL) hgev cx a w _ Q ⟨β,r⟩ λq w' r'=>next st'.σ st'.c m q w' r' (.inl ⟨hb,rfl⟩) I.σ I.c
  .rw[<-hgw] at hw;rw[if_neg (by rw[cT r hw];simp)];refine⟨λf _=>r.loose.fn f,?_⟩;have hd:∀d,o.dst=some d->d<st'.n:=λd h=>by rw[I.n];exact F.dstn j o d ho h
   have hrel:mh P cx (st'.put o.dst (gs j)) (a.put o.dst undef) w:=⟨β,by rw[hge];exact r.put o.dst hd (.imm _ _ (.lit _))⟩;have hb:(f6 inf j).isWr=false:=by rw[k];rfl
   exact next st'.σ st'.c m _ w hrel (.inl ⟨hb,rfl⟩) I.σ I.c
theorem zF{id:Nat}{Q:Exit->St->Prop}(hm:P.follows .mixedOrders=true)(hok:kN l inf st.n=true)(h:S8 P l.toArray (Q .normal) l inf st):Tr P (.region id l.toArray true) st Q:=λcx a w R ⟨β,r⟩ k=>by
 obtain⟨sts,gs,h0,d,hs⟩:=yS l inf st h;have F:=Dq hok h0 hs;refine wpIn_region_any hm ?_;have hr:RelB P cx st a {w with drawn:=w.drawn+1} β:=r.world ⟨rfl,rfl,rfl,Nat.le_refl _,λ_ _ _=>rfl,Nat.le_succ _⟩;have I:RInv P l inf st sts gs cx (Array.replicate l.toArray.size false) a {w with drawn:=w.drawn+1} 0 st:={
  size:=aC
  closed:=λj o hj=>by have:=sF hj;simp at this;simp[this] at hj
  hm:=Nat.zero_le _
  bar:=λb hb _=>by simp[hb]
  rel:=⟨β,hr⟩
  n:=rfl
  gl:=rfl
  σ:=by rw[h0]
  c:=by rw[h0]
  p:=rfl
  f1:=λj t hj=>by have:=sF hj;simp at this;simp[this] at hj
  f2:=λ_ _=>rfl}
 exact I.run F (λe w' r'=>k _ _ e w' d r') _ _ _ _ _ _ aC
end draw
end
section
variable {P:Program}
theorem Dr{pl:Option Nat}{s bytes:Nat}{zs:List Value}{kl kc:IntKind}(ho:o.op= .makeSlice t x y)(hd:H_d o st.n)(he:dp P t=some e)(hs:bw P e=some s)(hz:jj P e=some zs)(b:zs.length=s)(d:(P.info? e).map (·.bytes)=some bytes)
  (hx:aB st x= .lit (.int kl n)) (hy:aB st y= .lit (.int kc n)) (hb:bytes*n<=281474976710656) (l:n<=9223372036854775807) (hpl:zB st pl):GS P o st (st.newP pl o.dst e ((bN zs (n*s)).map .lit) (.rsl (iT st pl) 0 n)):=by
 intro cx a w K R ⟨β,h⟩ m
 obtain⟨i,z,hi,hz',f,h1⟩:=ii hz
 have ht:=cE he
 have hsi:i.size=s:=by unfold bw at hs;rw[hi] at hs;simpa using hs
 have hbi:i.bytes=bytes:=by rw[hi] at d;simpa using d
 have vx:a.eval x= .int kl n:=by have:=h.ev x;rw[hx] at this;exact this.lit_eq
 have vy:a.eval y= .int kc n:=by have:=h.ev y;rw[hy] at this;exact this.lit_eq
 have hcells:madeCells z.cells (n*s)=(bN zs (n*s)).toArray:=by
  apply Array.ext (by simp[bN,madeCells]);intro j h1' h2';have hj:j<n*s:=by simpa[madeCells] using h1'
  have hpos:0<zs.length:=by
   rcases Nat.eq_zero_or_pos zs.length with h0|h0
   .rw[<-b,h0] at hj;simp at hj
   .exact h0
  have hlt:=Nat.mod_lt j hpos;have hsz:z.cells.size=zs.length:=by rw[<-f];simp
  simp only[madeCells,Array.getElem_map,Array.getElem_range,bN,List.getElem_toArray,List.getElem_map,List.getElem_range,hsz];rw[List.getD_eq_getElem?_getD,cv hlt,getElem!_pos z.cells _ aa];simp only[Option.getD_some,<-f,Array.getElem_toList]
 have hrun:(execOp a.eval o).run P w= .ok (.value (.slice (some ⟨w.heap.size,0,none⟩) n n)) (w.alloc (.cells (bN zs (n*s)).toArray e)):=by
  have hbb:(i.bytes:Int)*(n:Int)<=281474976710656:=by have h:((bytes*n:Nat):Int)<=281474976710656:=aa;rw[hbi];rwa [Int.natCast_mul] at h
  have hm:=run_make (P:=P) w t e i z ht hi hz' kl kc n n aa (Int.le_refl _) hbb aa;rw[hsi] at hm;simp only[Int.toNat_natCast] at hm;rw[hcells] at hm;unfold execOp;simp only[ho,vx,vy,Sem.run_bind,hm,Result.andThen_ok,Sem.run_pure]
 refine h.loose.oper (λc hc=>by rw[ho] at hc;cases hc) ?_
 unfold Oper.wp
 rw[hrun]
 have hzz:∀v∈bN zs (n*s),v.oneCell'=true:=by
  intro v hv;simp only[bN,List.mem_map,List.mem_range] at hv;obtain⟨k,hk,rfl⟩:=hv;have hpos:0<zs.length:=by
   rcases Nat.eq_zero_or_pos zs.length with h0|h0
   .rw[<-b,h0] at hk;simp at hk
   .exact h0
  have hlt:=Nat.mod_lt k hpos;rw[List.getD_eq_getElem?_getD,cv hlt];exact h1 _ (List.getElem_mem hlt)
 have hn:n<=maxLen:=by unfold maxLen;omega
 refine m _ _ (h.newP (hpl:=hpl) (C:=n) (by rw[rv hs];simp[bN]) hn aC (λj u hu=>hzz u (bO (by simpa using hu))) (λj g u hg hu=>?_) o.dst hd (λp hb S w'=> .rsl _ _ _ _ _ _ _ hb (Nat.le_refl _) hn (λ_=>rfl) (λ_=>⟨rfl,rfl⟩)))
 rw[List.getElem?_map] at hg
 have hu':(bN zs (n*s))[j]?=some u:=by simpa using hu
 rw[hu'] at hg
 cases hg
 exact .imm _ _ (.lit u)
def tI(P:Program)(t:TypeId)(a c:G):Option (TypeId×List G×Nat):=match a,c with
 | .lit (.int _ (.ofNat n)),.lit (.int _ (.ofNat m))=>match dp P t with
  |some e=>match bw P e,jj P e,(P.info? e).map (·.bytes) with
   |some s,some zs,some b=>bif Nat.beq n m&&Nat.beq zs.length s&&Nat.ble (b*n) 281474976710656&&Nat.ble n 9223372036854775807 then some (e,(bN zs (n*s)).map .lit,n) else none
   |_,_,_=>none
  |none=>none
 |_,_=>none
theorem HV{pl:Option Nat}{l:List G}(ho:o.op= .makeSlice t x y)(hd:H_d o st.n)(h:tI P t (aB st x) (aB st y)=some (e,l,n))(hpl:zB st pl):GS P o st (st.newP pl o.dst e l (.rsl (iT st pl) 0 n)):=by
 unfold tI at h;split at h
 .rename_i c a kc m hx hy;split at h
  .rename_i e' he;split at h
   .rename_i s zs b h1 h2 h3;cases hc:(Nat.beq a m&&Nat.beq zs.length s&&Nat.ble (b*a) 281474976710656&&Nat.ble a 9223372036854775807) with
    |false=>rw[hc] at h;cases h
    |true=>rw[hc] at h;cases h;simp only[bA] at hc;have e1:=bc hc.1.1.1;subst e1;exact Dr ho hd he h1 h2 (bc hc.1.1.2) h3 hx hy (cm hc.1.2) (cm hc.2) hpl
   .cases h
  .cases h
 .cases h
theorem S9{l:List G}(ho:o.op= .makeSlice t x y)(hd:H_d o st.n)(h:tI P t (aB st x) (aB st y)=some (e,l,n)):GS P o st (st.new o.dst e l (.rsl st.c 0 n)):=HV (pl:=none) ho hd h trivial
end
section
variable {P:Program}
def HW:Value->Bool
 | .slice none _ _=>true
 |_=>false
def HX:Value->Bool
 | .pointer none=>true
 |_=>false
def Qj:Value->Bool
 | .nilFunc=>true
 |_=>false
theorem Kg(h:HW v=true):∃n c,v= .slice none n c:=by
 unfold HW at h;split at h
 .exact⟨_,_,rfl⟩
 .cases h
theorem Kh(h:HX v=true):v= .pointer none:=by
 unfold HX at h;split at h
 .rfl
 .cases h
theorem Ki(h:Qj v=true):v= .nilFunc:=by
 unfold Qj at h;split at h
 .rfl
 .cases h
def Yg(P:Program)(t:TypeId):Bool:=match P.underlying t with
 |some (.slice _)=>true
 |_=>false
def Yh(P:Program)(t:TypeId):Bool:=match P.underlying t with
 |some (.pointer _)=>true
 |_=>false
def tfn(P:Program)(t:TypeId):Bool:=match P.underlying t with
 |some (.func ..)=>true
 |_=>false
theorem Qk(h:Yg P t=true):∃e,P.underlying t=some (.slice e):=by
 unfold Yg at h;split at h
 .rename_i e hu;exact⟨e,hu⟩
 .cases h
theorem Ql(h:Yh P t=true):∃e,P.underlying t=some (.pointer e):=by
 unfold Yh at h;split at h
 .rename_i e hu;exact⟨e,hu⟩
 .cases h
theorem Qm(h:tfn P t=true):∃a b c,P.underlying t=some (.func a b c):=by
 unfold tfn at h;split at h
 .rename_i a b c hu;exact⟨a,b,c,hu⟩
 .cases h
def Me(P:Program)(t:TypeId)(a:Value):G->Bool
 | .rsl _ _ (_+1)=>HW a&&Yg P t
 | .sl (_::_) _=>HW a&&Yg P t
 | .ref _ _=>HX a&&Yh P t
 | .ptr _ _=>HX a&&Yh P t
 | .clo _ _ _=>Qj a&&tfn P t
 |_=>false
theorem NK{S:Nat->Prop}{nil:Value}(h:Me P t nil g=true)(hv:RV β S w g v):(∀d W,(Op.equalIn (d+1) t v nil).run P W= .ok false W)/\(∀f x y W,(eqGuard f t x y v nil).run P W= .ok () W)/\∀W,(binOp .eql t v nil).run P W= .ok (.bool false) W/\(binOp .neq t v nil).run P W= .ok (.bool true) W:=by
 have fin:(∀k n,v≠ .int k n)->(∀k n,v≠ .float k n)->(∀k a b,v≠ .complex k a b)->(∀s,v≠ .string s)->(∀d W,(Op.equalIn (d+1) t v nil).run P W= .ok false W)->∀W,(binOp .eql t v nil).run P W= .ok (.bool false) W/\(binOp .neq t v nil).run P W= .ok (.bool true) W:=by
  intro n1 n2 q r he W;have he':(Op.equal t v nil).run P W= .ok false W:=he 9999 W;constructor
  .unfold binOp;split<;>simp_all
  .unfold binOp;split<;>simp_all
 have sl:∀(x:Addr) (n c:Nat),v= .slice (some x) n c->HW nil=true->Yg P t=true->(∀d W,(Op.equalIn (d+1) t v nil).run P W= .ok false W)/\(∀f x y W,(eqGuard f t x y v nil).run P W= .ok () W)/\∀W,(binOp .eql t v nil).run P W= .ok (.bool false) W/\(binOp .neq t v nil).run P W= .ok (.bool true) W:=by
  rintro x n c rfl h1 h2;obtain⟨m,c',rfl⟩:=Kg h1;obtain⟨e,hu⟩:=Qk h2;have he:∀d W,(Op.equalIn (d+1) t (.slice (some x) n c) (.slice none m c')).run P W= .ok false W:=λd W=>by simp[Op.equalIn,run_underlying hu]
  exact⟨he,λf a b W=>by unfold eqGuard;split<;>simp,fin aC aC aC aC he⟩
 have pt:∀(x:Addr),v= .pointer (some x)->HX nil=true->Yh P t=true->(∀d W,(Op.equalIn (d+1) t v nil).run P W= .ok false W)/\(∀f x y W,(eqGuard f t x y v nil).run P W= .ok () W)/\∀W,(binOp .eql t v nil).run P W= .ok (.bool false) W/\(binOp .neq t v nil).run P W= .ok (.bool true) W:=by
  rintro x rfl h1 h2;obtain rfl:=Kh h1;obtain⟨e,hu⟩:=Ql h2;have he:∀d W,(Op.equalIn (d+1) t (.pointer (some x)) (.pointer none)).run P W= .ok false W:=λd W=>by simp[Op.equalIn,run_underlying hu]
  exact⟨he,λf a b W=>by unfold eqGuard;split<;>simp,fin aC aC aC aC he⟩
 unfold Me at h;split at h
 .rename_i i o n;simp only[bA] at h;rcases hv.rsl_form with⟨hb,_,hn⟩|⟨b,C,u,cap,hb,rfl,_⟩
  .cases hn
  .exact sl _ _ _ rfl h.1 h.2
 .rename_i g0 l n;simp only[bA] at h;obtain⟨a,cap,us,rfl,_,_,ha,_⟩:=hv.sl_cells;obtain⟨b,j,rfl,_⟩:=ha 0 aC;exact sl _ _ _ rfl h.1 h.2
 .simp only[bA] at h;obtain⟨b,C,_,rfl⟩:=hv.ref_addr;exact pt _ rfl h.1 h.2
 .simp only[bA] at h;obtain⟨b,j,us,rfl,_⟩:=hv.ptr_cells;exact pt _ rfl h.1 h.2
 .rename_i fn fst cap;simp only[bA] at h;obtain⟨fs,p,rfl,_⟩:=hv.clo_form;obtain⟨h1,h2⟩:=h;obtain rfl:=Ki h1;obtain⟨_,_,_,hu⟩:=Qm h2;have he:∀d W,(Op.equalIn (d+1) t (.func fn fs p) .nilFunc).run P W= .ok false W:=λd W=>by simp[Op.equalIn,run_underlying hu]
  exact⟨he,λf a b W=>by unfold eqGuard;split<;>simp,fin aC aC aC aC he⟩
 .cases h
def FL(P:Program)(a:BinOp)(t:TypeId)(b c:G):Option G:=match c with
 | .lit nil=>bif Me P t nil b then(match a with
  | .eql=>some (.lit (.bool false))
  | .neq=>some (.lit (.bool true))
  |_=>none) else none
 |_=>none
theorem NL(ho:o.op= .binOp op t x y t')(hd:H_d o st.n)(h:FL P op t (aB st x) (aB st y)=some g):GS P o st (st.put o.dst g):=by
 intro cx a w K R ⟨β,r⟩ e;unfold FL at h;split at h
 .rename_i d hy;cases hs:Me P t d (aB st x) with
  |false=>rw[hs] at h;cases h
  |true=>
   rw[hs] at h;obtain⟨_,h2,h3⟩:=NK hs (r.ev x);have vy:a.eval y=d:=by have:=r.ev y;rw[hy] at this;exact this.lit_eq
   have hrun:∃b,g= .lit (.bool b)/\(execOp a.eval o).run P w= .ok (.value (.bool b)) w:=by
    unfold execOp;simp only[ho,vy];cases op with
    |eql=>cases h;exact⟨_,rfl,by simp[Sem.run_bind,h2,(h3 w).1]⟩
    |neq=>cases h;exact⟨_,rfl,by simp[Sem.run_bind,h2,(h3 w).2]⟩
    |_=>cases h
   obtain⟨b,rfl,hr⟩:=hrun;refine r.loose.oper (λc hc=>by rw[ho] at hc;cases hc) ?_;unfold Oper.wp;rw[hr];exact e _ _ ⟨β,r.put o.dst hd (.imm _ _ (.lit _))⟩
 .cases h
end
section
variable {P:Program}
def B6(d:TypeDesc)(k:Value):List Value->Nat->Option (Option Nat)
 |[],_=>some none
 |u::r,n=>match Instr.sameNow d k u with
  |some true=>some (some n)
  |some false=>B6 d k r (n+1)
  |none=>none
def Kj(P:Program)(a:TypeId)(k:Value):List Value->Nat->Option (Option Nat)
 |[],_=>some none
 |u::r,n=>match bt P (Op.equal a k u) with
  |some true=>some (some n)
  |some false=>Kj P a k r (n+1)
  |none=>none
theorem Eg{d:TypeDesc}{k:Value}:∀{es:List MapEntry} {n:Nat},B6 d k (es.map (·.key)) n=none->Instr.findNow d k es n=none
 |[],n,h=>by cases h
 |e::r,n,h=>by
  simp only[List.map_cons,B6] at h;unfold Instr.findNow;split at h
  .cases h
  .rename_i hs;rw[hs];exact Eg h
  .rename_i hs;rw[hs]
theorem Eh{d:TypeDesc}{k:Value}:∀{es:List MapEntry} {n:Nat} {q:Option Nat},B6 d k (es.map (·.key)) n=some q->
  ∃p,Instr.findNow d k es n=some p/\((q=none/\p=none)\/∃i e,q=some (n+i)/\es[i]?=some e/\p=some (n+i,e.val))
 |[],n,q,h=>by simp[B6] at h;subst h;exact⟨none,rfl,.inl ⟨rfl,rfl⟩⟩
 |e::r,n,q,h=>by
  simp only[List.map_cons,B6] at h;unfold Instr.findNow;split at h
  .rename_i hs;cases h;rw[hs];exact⟨_,rfl,.inr ⟨0,e,rfl,rfl,rfl⟩⟩
  .rename_i hs;rw[hs];obtain⟨p,h1,h2⟩:=Eh h;refine⟨p,h1,?_⟩;rcases h2 with h2|⟨i,e',h3,h4,h5⟩
   .exact .inl h2
   .exact .inr ⟨i+1,e',by rw[h3];congr 1;omega,by simpa using h4,by rw[h5];congr 2;omega⟩
  .cases h
theorem Ei{kt:TypeId}{k:Value}{w:World}:∀{es:List MapEntry} {n:Nat} {q:Option Nat},Kj P kt k (es.map (·.key)) n=some q->
  ∃p,(Instr.findAsking kt k es n).run P w= .ok p w/\((q=none/\p=none)\/∃i e,q=some (n+i)/\es[i]?=some e/\p=some (n+i,e.val))
 |[],n,q,h=>by simp[Kj] at h;subst h;exact⟨none,by simp[Instr.findAsking],.inl ⟨rfl,rfl⟩⟩
 |e::r,n,q,h=>by
  simp only[List.map_cons,Kj] at h;unfold Instr.findAsking;split at h
  .rename_i hs;cases h;have:=oh hs w;exact⟨_,by simp[this],.inr ⟨0,e,rfl,rfl,rfl⟩⟩
  .rename_i hs;have:=oh hs w;obtain⟨p,h1,h2⟩:=Ei (w:=w) h;refine⟨p,by simp[this,h1],?_⟩;rcases h2 with h2|⟨i,e',h3,h4,h5⟩
   .exact .inl h2
   .exact .inr ⟨i+1,e',by rw[h3];congr 1;omega,by simpa using h4,by rw[h5];congr 2;omega⟩
  .cases h
def B7(P:Program)(a:TypeId)(k:Value)(b:List Value):Option (Option Nat):=match P.underlying a with
 |some d=>match B6 d k b 0 with
  |some r=>some r
  |none=>Kj P a k b 0
 |none=>none
theorem gQ{k:Value}{w:World}{es:List MapEntry}{q:Option Nat}(h:B7 P kt k (es.map (·.key))=some q):
  ∃p,(Instr.findKey kt k es).run P w= .ok p w/\((q=none/\p=none)\/∃i e,q=some i/\es[i]?=some e/\p=some (i,e.val)):=by
 unfold B7 at h
 split at h
 .rename_i d hd
  unfold Instr.findKey
  simp only[Sem.run_bind,run_underlying hd,Result.andThen_ok]
  split at h
  .rename_i r hr
   cases h
   obtain⟨p,h1,h2⟩:=Eh hr
   rw[h1]
   refine⟨p,aC,?_⟩
   simpa using h2
  .rename_i hr
   rw[Eg hr]
   obtain⟨p,h1,h2⟩:=Ei (w:=w) h
   exact⟨p,h1,by simpa using h2⟩
 .cases h
def rB(P:Program)(b:Bool)(a:TypeId)(k:Value):Bool:=(bt P (Instr.checkKey b 10000 a k)).isSome
theorem ot{b:Bool}{k:Value}(h:rB P b kt k=true)(w:World):(Instr.checkKey b 10000 kt k).run P w= .ok () w:=by unfold rB at h;obtain⟨u,hu⟩:=Option.isSome_iff_exists.1 h;exact oh hu w
def pB(P:Program)(t:TypeId):Option (TypeId×TypeId):=match P.underlying t with
 |some (.map k e)=>some (k,e)
 |_=>none
theorem cJ{k:TypeId}(h:pB P t=some (k,e)):P.underlying t=some (.map k e):=by
 unfold pB at h;split at h
 .cases h;assumption
 .cases h
theorem br{o:Obj}(h:w.heap[r]?=some o)(hn:∀c e f,o≠ .cells c e f):(getObj r).run P w= .ok o w:=by
 cases o with
 |cells c e f=>exact absurd rfl (hn c e f)
 |_=>simp[getObj,Sem.run,h]
theorem eW{o:Obj}(a:Obj)(h:w.heap[r]?=some o)(hn:∀c e f,o≠ .cells c e f):(setObj r a).run P w= .ok () (w.putObj r a):=by
 cases o with
 |cells c e f=>exact absurd rfl (hn c e f)
 |_=>simp[setObj,Sem.run,h,World.putObj]
theorem dJ{es:Array MapEntry}{c:Nat}:∀a e f,(Obj.map es c)≠ .cells a e f:=λ_ _ _ h=>by cases h
theorem ww{m:Option Nat}{s:Nat}{q:Array Nat}{c:Nat}:∀a e f,(Obj.mapIter m s q c)≠ .cells a e f:=λ_ _ _ h=>by cases h
theorem yT{o:Obj}:(newObj o).run P w= .ok w.heap.size (w.alloc o):=rfl
theorem dv{l:Nat}(o:Obj):Keeps (λb=>b=l) w (w.putObj l o):=⟨rfl,rfl,rfl,aC,λk _ hk=>World.putObj_heap_other hk,Nat.le_refl _⟩
def gn(σ:aQ):G->Option (Nat×TypeId×List (Value×G×Nat)×Nat)
 | .mref i=>match ag σ i with
  |some ⟨t,_,some (.map es clock)⟩=>some (i,t,es,clock)
  |_=>none
 |_=>none
theorem gp{a:Act}(h:RelB P cx st a w β)(hv:RV β (Av cx.S0 β st.σ) w g v)(hg:gn st.σ g=some (i,t,es,clock)):
  ∃ob b ents,g= .mref i/\ag st.σ i=some ob/\ob.t=t/\β i=some (some (b,0))/\v= .map (some b)/\w.heap[b]?=some (.map ents clock)/\ents.toList.map (·.key)=es.map (·.1)/\ents.toList.map (·.born)=es.map (·.2.2)/\ents.size=es.length/\
   ∀(j:Nat) (e:MapEntry) (k:Value) (g:G) (n:Nat),ents[j]?=some e->es[j]?=some (k,g,n)->e.key=k/\e.born=n/\RV β (Av cx.S0 β st.σ) w g e.val:=by
 unfold gn at hg
 split at hg
 .rename_i m
  split at hg
  .rename_i p l d c ho
   cases hg
   obtain⟨b,C,hb,rfl⟩:=hv.mref_form
   rcases h.ob i _ ho with⟨_,_,h3⟩|⟨f,x,o,h1,h2,h3,h4,h5⟩|⟨f,C',cur,h1,_⟩
   .rcases h3 with h3|h3<;>cases h3
   .cases h1
    rw[h3] at hb
    cases hb
    obtain⟨ents,rfl,e2,e3⟩:=h5
    have key:∀(j:Nat) (e:MapEntry) (k:Value) (g:G) (n:Nat),ents[j]?=some e->es[j]?=some (k,g,n)->e.key=k/\e.born=n/\RV β (Av cx.S0 β st.σ) w g e.val:=λj e k g n he hj=>by obtain⟨e',h6,h7,h8,h9⟩:=e3 j k g n hj;rw[he] at h6;cases h6;exact⟨h7,h8,h9⟩
    refine⟨_,_,ents,rfl,ho,rfl,h3,rfl,h4,?_,?_,e2,key⟩
    .apply List.ext_getElem?
     intro j
     rw[List.getElem?_map,List.getElem?_map,Array.getElem?_toList]
     cases hj:es[j]? with
     |none=>
      have:es.length<=j:=List.getElem?_eq_none_iff.1 hj
      simp[show ents.size<=j by omega]
     |some q=>
      obtain⟨k,g,n⟩:=q
      obtain⟨e',h6,h7,_⟩:=e3 j k g n hj
      rw[h6];simp[h7]
    .apply List.ext_getElem?
     intro j
     rw[List.getElem?_map,List.getElem?_map,Array.getElem?_toList]
     cases hj:es[j]? with
     |none=>
      have:es.length<=j:=List.getElem?_eq_none_iff.1 hj
      simp[show ents.size<=j by omega]
     |some q=>
      obtain⟨k,g,n⟩:=q
      obtain⟨e',h6,h7,h8,_⟩:=e3 j k g n hj
      rw[h6];simp[h8]
   .cases h1
  .cases hg
 .cases hg
def rC(P:Program)(t:TypeId)(r:Option G):Bool:=match r with
 |none=>true
 |some (.lit (.int _ _))=>(pB P t).isSome
 |_=>false
theorem B8{t:TypeId}{r:Option Operand}(ho:o.op= .makeMap t r)(hd:H_d o st.n)(hg:rC P t (r.map (aB st))=true):
  GS P o st ({st with σ:=(st.c,some ⟨t,[],some (.map [] 0)⟩)::st.σ,c:=st.c+1}.put o.dst (.mref st.c)):=by
 intro cx a w K R ⟨β,h⟩ d
 have hrun:(execOp a.eval o).run P w= .ok (.value (.map (some w.heap.size))) (w.alloc (.map #[] 0)):=by
  unfold execOp;simp only[ho];cases r with
  |none=>simp only[Option.map_none,Instr.makeMap,Sem.run_bind,yT,Result.andThen_ok,Sem.run_pure]
  |some x=>
   simp only[Option.map_some] at hg;unfold rC at hg;split at hg
   .rename_i e;cases e
   .rename_i k n hx;obtain⟨⟨f,et⟩,ht⟩:=Option.isSome_iff_exists.1 hg;have hv:a.eval x= .int k n:=by have:=h.ev x;simp only[bg] at hx;rw[hx] at this;exact this.lit_eq
    simp only[Option.map_some,Instr.makeMap,hv,Sem.run_bind,run_underlying (cJ ht),Result.andThen_ok,yT,Sem.run_pure,asInt,asIntOf]
   .cases hg
 have:=h.allocX (w':=w.alloc (.map #[] 0)) ((Keeps.refl _ _).alloc _) (b:=w.heap.size) (ob:=⟨t,[],some (.map [] 0)⟩) (x:= .map [] 0) (Nat.le_refl _) (heap_alloc_new w _) rfl rfl ⟨#[],rfl,rfl,aC⟩ (Nat.le_refl st.c)
 refine h.loose.oper (λc hc=>by rw[ho] at hc;cases hc) ?_
 unfold Oper.wp
 rw[hrun]
 exact d _ _ ⟨_,this.put o.dst hd (.mref _ _ 0 aC)⟩
def bL(P:Program)(σ:aQ)(t:TypeId)(ok:Bool)(gm a:G):Option G:=match pB P t,cD a with
 |some (kt,et),some k=>
  match gm with
  | .lit (.map none)=>bif rB P true kt k&&(P.underlying kt).isSome then((P.info? et).bind (·.zero)).map λz=>bif ok then .tup [db z,.lit (.bool false)] else db z else none
  | .mp ks vs _ _=>bif rB P ks.isEmpty kt k then
     match B7 P kt k ks with
     |some none=>((P.info? et).bind (·.zero)).map λz=>bif ok then .tup [db z,.lit (.bool false)] else db z
     |some (some j)=>(vs[j]?).map λe=>bif ok then .tup [e,.lit (.bool true)] else e
     |none=>none
    else none
  |gm=>match gn σ gm with
   |some (i,_,es,_)=>bif rB P es.isEmpty kt k then
     match B7 P kt k (es.map (·.1)) with
     |some none=>((P.info? et).bind (·.zero)).map λz=>bif ok then .tup [db z,.lit (.bool false)] else db z
     |some (some j)=>(es[j]?).map λe=>bif ok then .tup [e.2.1,.lit (.bool true)] else e.2.1
     |none=>none
    else none
   |none=>none
 |_,_=>none
theorem pC{et:TypeId}{z:Value}(h:(P.info? et).bind (·.zero)=some z):(zeroValue et).run P w= .ok z w:=by rw[Option.bind_eq_some_iff] at h;obtain⟨i,hi,hz⟩:=h;simp[zeroValue,typeInfo,hi,hz]
theorem HY{S:Nat->Prop}{t:Bool}(ok:Bool)(h:RV β S w g v):RV β S w (bif ok then .tup [g,.lit (.bool t)] else g) (if ok then .tuple #[v,.bool t] else v):=by
 cases ok with
 |false=>exact h
 |true=>
  refine .tup _ _ rfl λi a u hg hu=>?_;match i with
  |0=>simp at hg hu;subst hg;subst hu;exact h
  |1=>simp at hg hu;subst hg;subst hu;exact .imm _ _ (.lit _)
  |n+2=>simp at hg
theorem HZ{a:Act}(h:RelB P cx st a w β)(hm:RV β (Av cx.S0 β st.σ) w gm vm)(hk:RV β (Av cx.S0 β st.σ) w gk vk)(hg:bL P st.σ t ok gm gk=some g):
  ∃v,(Instr.lookup t vm vk ok).run P w= .ok v w/\RV β (Av cx.S0 β st.σ) w g v:=by
 unfold bL at hg
 split at hg
 .rename_i f et k ht hgk
  have l:=hk.val hgk
  subst l
  split at hg
  .have hv:=hm.lit_eq
   subst hv
   cases hc0:(rB P true f vk&&(P.underlying f).isSome) with
   |false=>rw[hc0] at hg;cases hg
   |true=>
    rw[hc0] at hg
    simp only[bA] at hc0
    obtain⟨hc,hd⟩:=hc0
    simp only[ax,cn] at hg
    obtain⟨z,hz,rfl⟩:=hg
    have hf:(Instr.findKey f vk ([]:List MapEntry)).run P w= .ok none w:=by obtain⟨d,hd⟩:=Option.isSome_iff_exists.1 hd;simp[Instr.findKey,run_underlying hd,Instr.findNow]
    refine⟨_,?_,HY ok (.imm _ _ (.glit _ _ z))⟩
    have c:=ot hc w
    simp only[Instr.lookup,Sem.run_bind,run_underlying (cJ ht),Result.andThen_ok,Sem.run_pure,Array.isEmpty_empty,c,hf,pC hz]
  .rename_i s vs u clock
   obtain⟨b,ents,rfl,e,hsz,rfl,_,hent⟩:=hm.mp_form
   have hemp:ents.isEmpty=(ents.toList.map (·.key)).isEmpty:=by
    cases h0:ents.toList with
    |nil=>simp[Array.isEmpty,<-Array.length_toList,h0]
    |cons x r=>simp[Array.isEmpty,<-Array.length_toList,h0]
   cases hc:rB P (ents.toList.map (·.key)).isEmpty f vk with
   |false=>rw[hc] at hg;cases hg
   |true=>
    rw[hc] at hg
    simp only[ax] at hg
    have c:=ot hc w
    split at hg
    .rename_i hkey
     simp only[cn] at hg
     obtain⟨z,hz,rfl⟩:=hg
     obtain⟨p,hp,hq⟩:=gQ (w:=w) hkey
     rcases hq with⟨_,rfl⟩|⟨_,_,hq,_⟩
     .refine⟨_,?_,HY ok (.imm _ _ (.glit _ _ z))⟩
      simp only[Instr.lookup,Sem.run_bind,run_underlying (cJ ht),Result.andThen_ok,br e dJ,Sem.run_pure,hemp,c,hp,pC hz]
     .cases hq
    .rename_i j hkey
     simp only[cn] at hg
     obtain⟨n,he,rfl⟩:=hg
     obtain⟨p,hp,hq⟩:=gQ (w:=w) hkey
     rcases hq with⟨hq,_⟩|⟨o,e',hq,he',rfl⟩
     .cases hq
     .cases hq
      have hr:=hent j n e' he (by rw[<-Array.getElem?_toList];exact he')
      refine⟨_,?_,HY ok (.imm _ _ hr)⟩
      simp only[Instr.lookup,Sem.run_bind,run_underlying (cJ ht),Result.andThen_ok,br e dJ,Sem.run_pure,hemp,c,hp]
    .cases hg
  .split at hg
   .rename_i i y es clock m
    obtain⟨ob,b,ents,rfl,ho,_,hb,rfl,e,hks,_,hsz,hent⟩:=gp h hm m
    have hemp:ents.isEmpty=es.isEmpty:=by
     cases es with
     |nil=>simpa[Array.isEmpty] using hsz
     |cons x r=>simp[Array.isEmpty,hsz]
    cases hc:rB P es.isEmpty f vk with
    |false=>rw[hc] at hg;cases hg
    |true=>
     rw[hc] at hg
     simp only[ax] at hg
     have c:=ot hc w
     rw[<-hks] at hg
     split at hg
     .rename_i hkey
      simp only[cn] at hg
      obtain⟨z,hz,rfl⟩:=hg
      obtain⟨p,hp,hq⟩:=gQ (w:=w) hkey
      rcases hq with⟨_,rfl⟩|⟨_,_,hq,_⟩
      .refine⟨_,?_,HY ok (.imm _ _ (.glit _ _ z))⟩
       simp only[Instr.lookup,Sem.run_bind,run_underlying (cJ ht),Result.andThen_ok,br e dJ,Sem.run_pure,hemp,c,hp,pC hz]
      .cases hq
     .rename_i j hkey
      simp only[cn] at hg
      obtain⟨⟨k',n,q⟩,he,rfl⟩:=hg
      obtain⟨p,hp,hq⟩:=gQ (w:=w) hkey
      rcases hq with⟨hq,_⟩|⟨o,e',hq,he',rfl⟩
      .cases hq
      .cases hq
       obtain⟨_,_,hr⟩:=hent j e' k' n q (by rw[<-Array.getElem?_toList];exact he') he
       refine⟨_,?_,HY ok hr⟩
       simp only[Instr.lookup,Sem.run_bind,run_underlying (cJ ht),Result.andThen_ok,br e dJ,Sem.run_pure,hemp,c,hp]
     .cases hg
   .cases hg
 .cases hg
theorem xS(ho:o.op= .lookup t x y ok)(hd:H_d o st.n)(hg:bL P st.σ t ok (aB st x) (aB st y)=some g):GS P o st (st.put o.dst g):=by
 intro cx a w K R ⟨β,h⟩ b;obtain⟨v,hv,hr⟩:=HZ h (h.ev x) (h.ev y) hg;refine h.loose.oper (λc hc=>by rw[ho] at hc;cases hc) ?_;have hrun:(execOp a.eval o).run P w= .ok (.value v) w:=by unfold execOp;simp only[ho,Sem.run_bind,hv,Result.andThen_ok,Sem.run_pure]
 unfold Oper.wp;rw[hrun];exact b _ _ ⟨β,h.put o.dst hd hr⟩
theorem XO.map_push{β:Bm}{S:Nat->Prop}{w:World}{es:List (Value×G×Nat)}{ents:Array MapEntry}{clock clock':Nat}(hsz:ents.size=es.length)(h:∀(j:Nat) (e:MapEntry) (k:Value) (g:G) (n:Nat),ents[j]?=some e->es[j]?=some (k,g,n)->e.key=k/\e.born=n/\RV β S w g e.val){k:Value}{g:G}{v:Value}(hv:RV β S w g v):
  XO β S w (.map (es++[(k,g,clock)]) clock') (.map (ents.push {key:=k,val:=v,born:=clock}) clock'):=by
 refine⟨_,rfl,by simp[hsz],λj k' a n hj=>?_⟩
 rcases Nat.lt_or_ge j es.length with hlt|hge
 .rw[List.getElem?_append_left hlt] at hj
  have he:ents[j]?=some (ents[j]'aa):=by simp[show j<ents.size by omega]
  refine⟨_,by rw[Array.getElem?_push_lt aa],h j _ k' a n he hj⟩
 .rw[List.getElem?_append_right hge] at hj
  have h0:j=es.length:=by have:=(cr hj).1;simp at this;omega
  subst h0
  simp at hj
  obtain⟨rfl,rfl,rfl⟩:=hj
  exact⟨{key:=k,val:=v,born:=clock},by rw[<-hsz];simp,rfl,rfl,hv⟩
theorem XO.map_set{β:Bm}{S:Nat->Prop}{w:World}{es:List (Value×G×Nat)}{ents:Array MapEntry}{clock:Nat}(hsz:ents.size=es.length)(h:∀(j:Nat) (e:MapEntry) (k:Value) (g:G) (n:Nat),ents[j]?=some e->es[j]?=some (k,g,n)->e.key=k/\e.born=n/\RV β S w g e.val){i n:Nat}{k:Value}{g:G}{f:MapEntry->MapEntry}(hf:∀e,ents[i]?=some e->(f e).key=k/\(f e).born=n/\RV β S w g (f e).val):
  XO β S w (.map (es.set i (k,g,n)) clock) (.map (ents.modify i f) clock):=by
 refine⟨_,rfl,by simp[hsz],λj k' a b hj=>?_⟩
 have hlt:j<es.length:=by have:=(cr hj).1;simpa using this
 have he:ents[j]?=some (ents[j]'aa):=by simp[show j<ents.size by omega]
 rw[List.getElem?_set] at hj
 rw[Array.getElem?_modify]
 split at hj
 .subst_vars
  rw[if_pos hlt] at hj
  cases hj
  rw[if_pos rfl,he]
  exact⟨_,rfl,hf _ he⟩
 .rename_i hne
  rw[if_neg hne]
  exact⟨_,he,h j _ k' a b he hj⟩
def dZ(P:Program)(σ:aQ)(t:TypeId)(a b g:G):Option (Nat×Ob):=match pB P t,cD b,gn σ a with
 |some (kt,_),some k,some (i,ty,es,clock)=>bif rB P false kt k then
   match B7 P kt k (es.map (·.1)) with
   |some none=>some (i,⟨ty,[],some (.map (es++[(k,g,clock)]) (clock+1))⟩)
   |some (some j)=>match es[j]? with
    |some (k',_,n)=>bif Instr.sameBits 10000 k' k then some (i,⟨ty,[],some (.map (es.set j (k,g,n)) clock)⟩) else none
    |none=>none
   |none=>none
  else none
 |_,_,_=>none
theorem Ej{old new:Value}(h:Instr.sameBits 10000 old new=true)(w:World):(Instr.keyThatStays old new).run P w= .ok new w:=by unfold Instr.keyThatStays;rw[if_pos h];rfl
theorem H0{a:Act}(h:RelB P cx st a w β){ob:Ob}(hm:RV β (Av cx.S0 β st.σ) w gm vm)(hk:RV β (Av cx.S0 β st.σ) w gk vk)(hv:RV β (Av cx.S0 β st.σ) w g v)(hg:dZ P st.σ t gm gk g=some (i,ob)):
  ∃w',(Instr.mapUpdate t vm vk v).run P w= .ok () w'/\RelB P cx {st with σ:=(i,some ob)::st.σ} a w' β:=by
 unfold dZ at hg
 split at hg
 .rename_i o et k s ty es clock ht hgk l
  have m:=hk.val hgk
  subst m
  obtain⟨q,b,ents,rfl,ho,rfl,hb,rfl,c,hks,_,hsz,hent⟩:=gp h hm l
  cases hc:rB P false o vk with
  |false=>rw[hc] at hg;cases hg
  |true=>
   rw[hc] at hg
   simp only[ax] at hg
   have d:=ot hc w
   rw[<-hks] at hg
   split at hg
   .rename_i hkey
    cases hg
    obtain⟨p,hp,hq⟩:=gQ (w:=w) hkey
    rcases hq with⟨_,rfl⟩|⟨_,_,hq,_⟩
    .refine⟨_,?_,h.writeX ho hb (dv _) (World.putObj_heap_same (Array.getElem?_eq_some_iff.1 c).1) (XO.map_push hsz hent hv)⟩
     simp only[Instr.mapUpdate,Sem.run_bind,run_underlying (cJ ht),Result.andThen_ok,br c dJ,d,hp,eW _ c dJ]
    .cases hq
   .rename_i j hkey
    split at hg
    .rename_i k' r n he
     cases hs:Instr.sameBits 10000 k' vk with
     |false=>rw[hs] at hg;cases hg
     |true=>
      rw[hs] at hg
      cases hg
      obtain⟨p,hp,hq⟩:=gQ (w:=w) hkey
      rcases hq with⟨hq,_⟩|⟨u,e',hq,he',rfl⟩
      .cases hq
      .cases hq
       rw[Array.getElem?_toList] at he'
       obtain⟨rfl,rfl,_⟩:=hent j e' k' r n he' he
       refine⟨_,?_,h.writeX ho hb (dv _) (World.putObj_heap_same (Array.getElem?_eq_some_iff.1 c).1) (XO.map_set hsz hent (i:=j) (n:=e'.born) (k:=vk) (g:=g) (f:=λe=>{e with key:=vk,val:=v}) λe hx=>?_)⟩
       .simp only[Instr.mapUpdate,Sem.run_bind,run_underlying (cJ ht),Result.andThen_ok,br c dJ,d,hp,he',Option.map_some,Option.getD_some,Ej hs,eW _ c dJ]
       .rw[he'] at hx;cases hx
        exact⟨rfl,rfl,hv⟩
    .cases hg
   .cases hg
 .cases hg
theorem iW{i:Nat}{ob:Ob}(ho:o.op= .mapUpdate t x y z\/o.op= .insert t x y z)(hd:H_d o st.n)(hg:dZ P st.σ t (aB st x) (aB st y) (aB st z)=some (i,ob)):GS P o st ({st with σ:=(i,some ob)::st.σ}.put o.dst (.lit undef)):=by
 intro cx a w K R ⟨β,h⟩ b;obtain⟨w',hv,hr⟩:=H0 h (h.ev x) (h.ev y) (h.ev z) hg;refine h.loose.oper (λc hc=>by rcases ho with ho|ho<;>rw[ho] at hc<;>cases hc) ?_;have hrun:(execOp a.eval o).run P w= .ok .skip w':=by unfold execOp;rcases ho with ho|ho<;>simp only[ho,Sem.run_bind,hv,Result.andThen_ok,Sem.run_pure]
 unfold Oper.wp;rw[hrun];exact b _ _ ⟨β,hr.put o.dst hd (.imm _ _ (.lit _))⟩
def ou(P:Program)(σ:aQ)(t:TypeId)(g:G):Option G:=match pB P t with
 |some _=>match g with
  | .lit (.map none)=>some (.lit (.int .i64 0))
  | .mp _ vs _ _=>some (.lit (.int .i64 vs.length))
  |g=>match gn σ g with
   |some (_,_,es,_)=>some (.lit (.int .i64 es.length))
   |none=>none
 |none=>none
theorem Ta(ho:o.op= .call {callee:= .builtin .len,args:= #[x],argTypes:= #[t]})(hd:H_d o st.n)(hg:ou P st.σ t (aB st x)=some g):GS P o st (st.put o.dst g):=by
 intro cx a w K R ⟨β,h⟩ f;refine h.loose.oper (λc hc=>by rw[ho] at hc;cases hc) ?_;have hrun:∃v,(execOp a.eval o).run P w= .ok (.value v) w/\RV β (Av cx.S0 β st.σ) w g v:=by
  unfold ou at hg;split at hg
  .rename_i q ht;obtain⟨j,et⟩:=q;split at hg
   .rename_i hx;cases hg;have hv:a.eval x= .map none:=by have:=h.ev x;rw[hx] at this;exact this.lit_eq
    refine⟨.int .i64 0,?_,.imm _ _ (.lit _)⟩;unfold execOp;simp[ho,resolve,invoke,builtin,Builtin.len_,hv,goInt,run_underlying (cJ ht)]
   .rename_i k vs l clock hx;cases hg;have hev:=h.ev x;rw[hx] at hev;obtain⟨b,ents,hv,d,hsz,_⟩:=hev.mp_form;refine⟨.int .i64 vs.length,?_,.imm _ _ (.lit _)⟩;unfold execOp;simp[ho,resolve,invoke,builtin,Builtin.len_,hv,goInt,br d dJ,hsz,run_underlying (cJ ht)]
   .split at hg
    .rename_i i ty es clock e;cases hg;obtain⟨ob,b,ents,hx,hob,rfl,hb,hv,d,hks,_,hsz,hent⟩:=gp h (h.ev x) e;refine⟨.int .i64 es.length,?_,.imm _ _ (.lit _)⟩;unfold execOp;simp[ho,resolve,invoke,builtin,Builtin.len_,hv,goInt,br d dJ,hsz,run_underlying (cJ ht)]
    .cases hg
  .cases hg
 obtain⟨v,hrun,hr⟩:=hrun;unfold Oper.wp;rw[hrun];exact f _ _ ⟨β,h.put o.dst hd hr⟩
theorem XO.map_erase{β:Bm}{S:Nat->Prop}{w:World}{es:List (Value×G×Nat)}{ents:Array MapEntry}{clock:Nat}(hsz:ents.size=es.length)(h:∀(j:Nat) (e:MapEntry) (k:Value) (g:G) (n:Nat),ents[j]?=some e->es[j]?=some (k,g,n)->e.key=k/\e.born=n/\RV β S w g e.val)(i:Nat):
  XO β S w (.map (es.eraseIdx i) clock) (.map (ents.eraseIdxIfInBounds i) clock):=by
 have ht:(ents.eraseIdxIfInBounds i).toList=ents.toList.eraseIdx i:=by
  unfold Array.eraseIdxIfInBounds;split
  .simp
  .rename_i hn;rw[List.eraseIdx_of_length_le (by simpa using hn)]
 refine⟨_,rfl,?_,λj k' a n hj=>?_⟩
 .rw[<-Array.length_toList,ht,List.length_eraseIdx,List.length_eraseIdx,Array.length_toList,hsz]
 .rw[<-Array.getElem?_toList,ht]
  rw[List.getElem?_eraseIdx] at hj⊢
  split at hj
  .rename_i hlt
   have hl:=(cr hj).1
   have he:ents[j]?=some (ents[j]'aa):=by simp[show j<ents.size by omega]
   rw[if_pos hlt,Array.getElem?_toList]
   exact⟨_,he,h j _ k' a n he hj⟩
  .rename_i hlt
   have hl:=(cr hj).1
   have he:ents[j+1]?=some (ents[j+1]'aa):=by simp[show j+1<ents.size by omega]
   rw[if_neg hlt,Array.getElem?_toList]
   exact⟨_,he,h (j+1) _ k' a n he hj⟩
def FN(P:Program)(σ:aQ)(t:TypeId)(a b:G):Option (Nat×Ob):=match pB P t,cD b,gn σ a with
 |some (kt,_),some k,some (i,ty,es,clock)=>bif rB P es.isEmpty kt k then
   match B7 P kt k (es.map (·.1)) with
   |some none=>some (i,⟨ty,[],some (.map es clock)⟩)
   |some (some j)=>some (i,⟨ty,[],some (.map (es.eraseIdx j) clock)⟩)
   |none=>none
  else none
 |_,_,_=>none
theorem NM{ob:Ob}(ho:o.op= .call {callee:= .builtin .delete,args:= #[x,y],argTypes:= #[t,t']})(hd:H_d o st.n)(hg:FN P st.σ t (aB st x) (aB st y)=some (i,ob)):GS P o st ({st with σ:=(i,some ob)::st.σ}.put o.dst (.tup [])):=by
 intro cx a w K R ⟨β,h⟩ l;refine h.loose.oper (λc hc=>by rw[ho] at hc;cases hc) ?_;have hrun:∃w',(execOp a.eval o).run P w= .ok (.value (.tuple #[])) w'/\RelB P cx {st with σ:=(i,some ob)::st.σ} a w' β:=by
  unfold FN at hg;split at hg
  .rename_i m et k u ty es clock ht hgk f;have g:=(h.ev y).val hgk;subst g;obtain⟨q,b,ents,hx,hob,rfl,hb,hv,d,hks,_,hsz,hent⟩:=gp h (h.ev x) f;have hemp:ents.isEmpty=es.isEmpty:=by
    cases es with
    |nil=>simpa[Array.isEmpty] using hsz
    |cons x r=>simp[Array.isEmpty,hsz]
   cases hc:rB P es.isEmpty m (a.eval y) with
   |false=>rw[hc] at hg;cases hg
   |true=>
    rw[hc] at hg;simp only[ax] at hg;have e:=ot hc w;rw[<-hks] at hg;split at hg
    .rename_i hkey;cases hg;obtain⟨p,hp,hq⟩:=gQ (w:=w) hkey;rcases hq with⟨_,rfl⟩|⟨_,_,hq,_⟩
     .refine⟨_,?_,h.writeX hob hb (dv _) (World.putObj_heap_same (Array.getElem?_eq_some_iff.1 d).1) (o0:= .map ents clock) ⟨ents,rfl,hsz,λj k' s n hj=>?_⟩⟩
      .unfold execOp;simp only[ho,resolve,invoke,builtin,Sem.run_bind,Sem.run_pure,Result.andThen_ok,List.map_toArray,List.map_cons,List.map_nil,Builtin.delete_,hv];simp only[List.getElem?_toArray,List.getElem?_cons_zero,List.getElem?_cons_succ,Sem.run_bind,run_underlying (cJ ht),Result.andThen_ok,br d dJ,hemp,e,hp,eW _ d dJ,Sem.run_pure]
      .have hl:=(cr hj).1;have he:ents[j]?=some (ents[j]'aa):=by simp[show j<ents.size by omega]
       exact⟨_,he,hent j _ k' s n he hj⟩
     .cases hq
    .rename_i j hkey;cases hg;obtain⟨p,hp,hq⟩:=gQ (w:=w) hkey;rcases hq with⟨hq,_⟩|⟨v,e',hq,he',rfl⟩
     .cases hq
     .cases hq;refine⟨_,?_,h.writeX hob hb (dv _) (World.putObj_heap_same (Array.getElem?_eq_some_iff.1 d).1) (XO.map_erase hsz hent j)⟩;unfold execOp;simp only[ho,resolve,invoke,builtin,Sem.run_bind,Sem.run_pure,Result.andThen_ok,List.map_toArray,List.map_cons,List.map_nil,Builtin.delete_,hv];simp only[List.getElem?_toArray,List.getElem?_cons_zero,List.getElem?_cons_succ,Sem.run_bind,run_underlying (cJ ht),Result.andThen_ok,br d dJ,hemp,e,hp,eW _ d dJ,Sem.run_pure]
    .cases hg
  .cases hg
 obtain⟨w',hrun,hr⟩:=hrun;unfold Oper.wp;rw[hrun];exact l _ _ ⟨β,hr.put o.dst hd (.tup _ _ rfl aC)⟩
def ov(P:Program)(σ:aQ)(t:TypeId)(a b:G):Option (Nat×Ob×G):=match pB P t,cD b,gn σ a with
 |some (kt,et),some k,some (i,ty,es,clock)=>bif rB P false kt k then
   match B7 P kt k (es.map (·.1)) with
   |some none=>((P.info? et).bind (·.zero)).map λz=>(i,⟨ty,[],some (.map (es++[(k,db z,clock)]) (clock+1))⟩,.tup [db z,.lit (.int .i64 clock)])
   |some (some j)=>match es[j]? with
    |some (k',g,n)=>bif Instr.sameBits 10000 k' k then some (i,⟨ty,[],some (.map (es.set j (k,g,n)) clock)⟩,.tup [g,.lit (.int .i64 n)]) else none
    |none=>none
   |none=>none
  else none
 |_,_,_=>none
theorem Kk{S:Nat->Prop}{g g':G}{v':Value}(h:RV β S w g v)(h':RV β S w g' v'):RV β S w (.tup [g,g']) (.tuple #[v,v']):=by
 refine .tup _ _ rfl λi x u hg hu=>?_;match i with
 |0=>simp at hg hu;subst hg;subst hu;exact h
 |1=>simp at hg hu;subst hg;subst hu;exact h'
 |n+2=>simp at hg
theorem yU{i:Nat}{ob:Ob}(ho:o.op= .mapEntry t x y)(hd:H_d o st.n)(hg:ov P st.σ t (aB st x) (aB st y)=some (i,ob,g)):GS P o st ({st with σ:=(i,some ob)::st.σ}.put o.dst g):=by
 intro cx a w K R ⟨β,h⟩ A;refine h.loose.oper (λc hc=>by rw[ho] at hc;cases hc) ?_;have hrun:∃v w',(execOp a.eval o).run P w= .ok (.value v) w'/\RV β (Av cx.S0 β st.σ) w g v/\(∃q,ag st.σ i=some q)/\Keeps (λb=>∃C,β i=some (some (b,C))) w w'/\RelB P cx {st with σ:=(i,some ob)::st.σ} a w' β:=by
  unfold ov at hg;split at hg
  .rename_i B et k D ty es clock ht hgk r;have s:=(h.ev y).val hgk;subst s;obtain⟨d,b,ents,hx,hob,rfl,hb,hv,l,hks,_,hsz,hent⟩:=gp h (h.ev x) r;cases hc:rB P false B (a.eval y) with
   |false=>rw[hc] at hg;cases hg
   |true=>
    rw[hc] at hg;simp only[ax] at hg;have m:=ot hc w;rw[<-hks] at hg;split at hg
    .rename_i hkey;simp only[cn] at hg;obtain⟨z,hz,hg⟩:=hg;cases hg;obtain⟨p,hp,hq⟩:=gQ (w:=w) hkey;rcases hq with⟨_,rfl⟩|⟨_,_,hq,_⟩
     .refine⟨_,_,?_,Kk (.imm _ _ (.glit _ _ z)) (.imm _ _ (.lit (.int .i64 clock))),⟨_,hob⟩,(dv _).mono (λk _ e=>⟨0,by subst e;exact hb⟩),h.writeX hob hb (dv _) (World.putObj_heap_same (Array.getElem?_eq_some_iff.1 l).1) (XO.map_push hsz hent (.imm _ _ (.glit _ _ z)))⟩;unfold execOp;simp only[ho,hv,Instr.mapEntry,Sem.run_bind,run_underlying (cJ ht),Result.andThen_ok,br l dJ,m,hp,pC hz,eW _ l dJ,Sem.run_pure,goInt]
     .cases hq
    .rename_i j hkey;split at hg
     .rename_i k' u n he;cases hs:Instr.sameBits 10000 k' (a.eval y) with
      |false=>rw[hs] at hg;cases hg
      |true=>
       rw[hs] at hg;cases hg;obtain⟨p,hp,hq⟩:=gQ (w:=w) hkey;rcases hq with⟨hq,_⟩|⟨E,e',hq,he',rfl⟩
       .cases hq
       .cases hq;rw[Array.getElem?_toList] at he';obtain⟨rfl,rfl,hr⟩:=hent j e' k' u n he' he;refine⟨_,_,?_,Kk hr (.imm _ _ (.lit (.int .i64 e'.born))),⟨_,hob⟩,(dv _).mono (λk _ e=>⟨0,by subst e;exact hb⟩),h.writeX hob hb (dv _) (World.putObj_heap_same (Array.getElem?_eq_some_iff.1 l).1) (XO.map_set hsz hent (i:=j) (n:=e'.born) (k:=a.eval y) (g:=u) (f:=λe=>{e with key:=a.eval y}) λe hx=>?_)⟩
        .unfold execOp;simp only[ho,hv,Instr.mapEntry,Sem.run_bind,run_underlying (cJ ht),Result.andThen_ok,br l dJ,m,hp,he',Option.map_some,Option.getD_some,Ej hs,eW _ l dJ,Sem.run_pure,goInt]
        .rw[he'] at hx;cases hx;exact⟨rfl,rfl,hr⟩
     .cases hg
    .cases hg
  .cases hg
 obtain⟨v,w',hrun,hr,⟨d,hob⟩,hk,hrel⟩:=hrun;have hk':Keeps (Av cx.S0 β st.σ) w w':=hk.mono λb _ ⟨C,h1⟩=> .inr ⟨i,d,C,hob,h1⟩;unfold Oper.wp;rw[hrun];refine A _ _ ⟨β,hrel.put o.dst hd (hr.step (λ_ _ x=>x) (λb _ hb=>?_) hk')⟩;rcases hb with hb|⟨j,q,C,h1,h2⟩
 .exact .inl hb
 .have h1':ag ((i,some ob)::st.σ) j=some q:=h1;rw[am] at h1';split at h1'
  .subst_vars;exact .inr ⟨_,d,C,hob,h2⟩
  .exact .inr ⟨j,q,C,h1',h2⟩
end
section
variable {P:Program}
def th(P:Program)(o:Oper)(st:St)(S:St->Prop):Prop:=∀cx a w K R,mh P cx st a w->(∀st',S st'->∀b w',mh P cx st' b w'->K b w')->o.wpIn cx.F cx.nn P a w K R
theorem th.gs{o:Oper}{st st':St}{S:St->Prop}(h:th P o st S)(hS:∀s,S s->s=st'):GS P o st st':=λcx a w K R r k=>h cx a w K R r λs hs b w' r'=>k b w' (hS s hs▸r')
theorem GS.gsn{o:Oper}{st st':St}(h:GS P o st st'):th P o st (λs=>s=st'):=λcx a w K R r k=>h cx a w K R r λb w' r'=>k st' rfl b w' r'
def jX(σ:aQ)(a gs g:G):Option (Nat×Ob):=match gn σ a,gs with
 |some (i,ty,es,clock),.lit (.int _ b)=>match es.findIdx? (λe=>(e.2.2:Int)==b) with
  |some j=>match es[j]? with
   |some (k,_,n)=>some (i,⟨ty,[],some (.map (es.set j (k,g,n)) clock)⟩)
   |none=>none
  |none=>none
 |_,_=>none
theorem H1{ents:List MapEntry}(h:ents.map (·.born)=es.map (·.2.2))(b:Int):ents.findIdx? (λe=>(e.born:Int)==b)=es.findIdx? (λe=>(e.2.2:Int)==b):=by
 have h1:(ents.map (·.born)).findIdx? (λ(n:Nat)=>(n:Int)==b)=ents.findIdx? (λe=>(e.born:Int)==b):=by rw[List.findIdx?_map];rfl
 have h2:(es.map (·.2.2)).findIdx? (λ(n:Nat)=>(n:Int)==b)=es.findIdx? (λe=>(e.2.2:Int)==b):=by rw[List.findIdx?_map];rfl
 rw[<-h1,h,h2]
theorem tJ{i:Nat}{ob:Ob}(ho:o.op= .entryStore t x y z)(hd:H_d o st.n)(hg:jX st.σ (aB st x) (aB st y) (aB st z)=some (i,ob)):GS P o st ({st with σ:=(i,some ob)::st.σ}.put o.dst (.lit undef)):=by
 intro cx a w K R ⟨β,h⟩ p;refine h.loose.oper (λc hc=>by rw[ho] at hc;cases hc) ?_;have hrun:∃w',(execOp a.eval o).run P w= .ok .skip w'/\RelB P cx {st with σ:=(i,some ob)::st.σ} a w' β:=by
  unfold jX at hg;split at hg
  .rename_i s ty es clock q b d hy;obtain⟨r,u,ents,hx,hob,rfl,hb,hv,l,hks,m,hsz,hent⟩:=gp h (h.ev x) d;have vy:a.eval y= .int q b:=by have:=h.ev y;rw[hy] at this;exact this.lit_eq
   split at hg
   .rename_i j hj;split at hg
    .rename_i k g0 n he;cases hg;refine⟨_,?_,h.writeX hob hb (dv _) (World.putObj_heap_same (Array.getElem?_eq_some_iff.1 l).1) (XO.map_set hsz hent (i:=j) (n:=n) (k:=k) (g:=aB st z) (f:=λe=>{e with val:=a.eval z}) λe hx=>?_)⟩
     .unfold execOp;rw[<-H1 m] at hj;have hj':ents.findIdx? (λe=>(e.born:Int)==b)=some j:=by rw[<-hj];exact List.findIdx?_toArray _ ents.toList
      simp only[ho,hv,vy,Instr.entryStore,Sem.run_bind,Result.andThen_ok,br l dJ,asInt,asIntOf,Sem.run_pure,hj',eW _ l dJ]
     .obtain⟨h1,h2,_⟩:=hent j e k g0 n hx he;exact⟨h1,h2,h.ev z⟩
    .cases hg
   .cases hg
  .cases hg
 obtain⟨w',hrun,hr⟩:=hrun;unfold Oper.wp;rw[hrun];exact p _ _ ⟨β,hr.put o.dst hd (.imm _ _ (.lit _))⟩
def B9(P:Program)(σ:aQ)(t:TypeId)(gm:G):Option Xob:=match pB P t with
 |some _=>match gm with
  | .lit (.map none)=>some (.iter none 0 [] 0)
  |gm=>match gn σ gm with
   |some (i,_,_,clock)=>some (.iter (some i) clock [] clock)
   |none=>none
 |none=>none
theorem H2{ob:Xob}(ho:o.op= .range t x)(hd:H_d o st.n)(hg:B9 P st.σ t (aB st x)=some ob):
  GS P o st ({st with σ:=(st.c,some ⟨t,[],some ob⟩)::st.σ,c:=st.c+1}.put o.dst (.ref st.c 0)):=by
 intro cx a w K R ⟨β,h⟩ j
 refine h.loose.oper (λc hc=>by rw[ho] at hc;cases hc) ?_
 have hrun:∃o0,(execOp a.eval o).run P w= .ok (.value (.pointer (some ⟨w.heap.size,0,none⟩))) (w.alloc o0)/\XO β (Av cx.S0 β st.σ) w ob o0:=by
  unfold B9 at hg;split at hg
  .rename_i q ht;obtain⟨g,et⟩:=q;split at hg
   .rename_i hx;cases hg;have hv:a.eval x= .map none:=by have:=h.ev x;rw[hx] at this;exact this.lit_eq
    refine⟨_,?_,⟨none,rfl,.inl ⟨rfl,rfl⟩⟩⟩;unfold execOp;simp only[ho,hv,Sem.run_bind,run_range_nilMap w t g et (cJ ht),Result.andThen_ok,Sem.run_pure]
   .split at hg
    .rename_i i ty es clock d;cases hg;obtain⟨m,f,ents,hx,hob,rfl,hb,hv,k,hks,l,hsz,hent⟩:=gp h (h.ev x) d;refine⟨_,?_,⟨some f,rfl,.inr ⟨i,f,0,rfl,rfl,hb⟩⟩⟩;unfold execOp;simp only[ho,hv,Sem.run_bind,run_range_map w t g et f ents clock (cJ ht) k,Result.andThen_ok,Sem.run_pure]
    .cases hg
  .cases hg
 obtain⟨o0,hrun,e⟩:=hrun
 have:=h.allocX (w':=w.alloc o0) ((Keeps.refl _ _).alloc _) (b:=w.heap.size) (ob:=⟨t,[],some ob⟩) (x:=ob) (Nat.le_refl _) (heap_alloc_new w _) rfl rfl e (Nat.le_refl st.c)
 unfold Oper.wp
 rw[hrun]
 exact j _ _ ⟨_,this.put o.dst hd (.ref _ 0 _ 0 aC)⟩
inductive F2 {α β:Type} (R:α->β->Prop):List α->List β->Prop
 |nil:F2 R [] []
 |cons {a b l m} (h:R a b) (t:F2 R l m):F2 R (a::l) (b::m)
theorem F2.of_get{α β:Type}{R:α->β->Prop}:∀{l:List α} {m:List β},l.length=m.length->(∀(i:Nat) a b,l[i]?=some a->m[i]?=some b->R a b)->F2 R l m
 |[],[],_,_=> .nil
 |a::l,b::m,hl,h=> .cons (h 0 a b rfl rfl) (F2.of_get (by simpa using hl) λi x y hx hy=>h (i+1) x y (by simpa using hx) (by simpa using hy))
 |[],b::m,hl,_=>by simp at hl
 |a::l,[],hl,_=>by simp at hl
theorem F2.filter{α β:Type}{R:α->β->Prop}{p:α->Bool}{q:β->Bool}(c:∀a b,R a b->p a=q b):∀{l:List α} {m:List β},F2 R l m->F2 R (l.filter p) (m.filter q)
 |_,_,.nil=> .nil
 |a::l,b::m,.cons h t=>by
  rw[List.filter_cons,List.filter_cons,c a b h];split
  .exact .cons h (F2.filter c t)
  .exact F2.filter c t
theorem F2.append{α β:Type}{R:α->β->Prop}:∀{l l':List α} {m m':List β},F2 R l m->F2 R l' m'->F2 R (l++l') (m++m')
 |_,_,_,_,.nil,h=>h
 |_,_,_,_,.cons h t,h'=> .cons h (F2.append t h')
theorem F2.map{α β α' β':Type}{R:α->β->Prop}{R':α'->β'->Prop}{f:α->α'}{g:β->β'}(hf:∀a b,R a b->R' (f a) (g b)):∀{l:List α} {m:List β},F2 R l m->F2 R' (l.map f) (m.map g)
 |_,_,.nil=> .nil
 |_,_,.cons h t=> .cons (hf _ _ h) (F2.map hf t)
theorem F2.get{α β:Type}{R:α->β->Prop}:∀{l:List α} {m:List β},F2 R l m->∀{i:Nat} {a:α},l[i]?=some a->∃b,m[i]?=some b/\R a b
 |_,_,.nil,i,a,h=>by simp at h
 |_,_,.cons h t,0,a,hi=>by simp at hi;subst hi;exact⟨_,rfl,h⟩
 |_,_,.cons h t,i+1,a,hi=>by obtain⟨b,h1,h2⟩:=F2.get t (by simpa using hi);exact⟨b,by simpa using h1,h2⟩
theorem F2.isEmpty{α β:Type}{R:α->β->Prop}{l:List α}{m:List β}(h:F2 R l m):l.isEmpty=m.isEmpty:=by cases h<;>rfl
theorem F2.all{α β:Type}{R:α->β->Prop}{p:α->Bool}{q:β->Bool}(c:∀a b,R a b->p a=q b):∀{l:List α} {m:List β},F2 R l m->l.all p=m.all q
 |_,_,.nil=>rfl
 |_,_,.cons h t=>by rw[List.all_cons,List.all_cons,c _ _ h,F2.all c t]
def rD(es:List (Value×G×Nat))(since:Nat)(seen:List Nat):List (Option (Value×G×Nat)):=
 let left:=es.filter λe=> !seen.contains e.2.2
 let old:=left.filter λe=>decide (e.2.2<since)
 let new:=left.filter λe=>decide (e.2.2>=since)
 (if old.isEmpty then[none] else[])++(old++new).map some
def gR(σ:aQ):G->Option (Nat×TypeId×Option Nat×Nat×List Nat×Nat)
 | .ref i 0=>match ag σ i with
  |some ⟨t,_,some (.iter m since seen last)⟩=>some (i,t,m,since,seen,last)
  |_=>none
 |_=>none
def V3(st:St)(d:Option Tmp)(i:Nat)(t:TypeId)(m since clock:Nat)(seen:List Nat)(a:List (Option (Value×G×Nat)))(s:St):Prop:=
 (none∈a/\s=st.put d (.tup [.lit (.bool false)]))\/∃k g n,some (k,g,n)∈a/\s={st with σ:=(i,some ⟨t,[],some (.iter (some m) since (seen++[n]) clock)⟩)::st.σ}.put d (.tup [.lit (.bool true),db k,g])
theorem xT{a:Act}(h:RelB P cx st a w β){m:Option Nat}(hv:RV β (Av cx.S0 β st.σ) w g v)(hg:gR st.σ g=some (i,t,m,since,seen,last)):
  ∃ob b c,ag st.σ i=some ob/\ob.t=t/\β i=some (some (b,0))/\v= .pointer (some ⟨b,0,none⟩)/\w.heap[b]?=some (.mapIter c since seen.toArray last)/\((m=none/\c=none)\/∃j d C,m=some j/\c=some d/\β j=some (some (d,C))):=by
 unfold gR at hg
 split at hg
 .rename_i n
  split at hg
  .rename_i p l q e f k ho
   cases hg
   obtain⟨b,C,hb,rfl⟩:=hv.ref_addr
   rcases h.ob i _ ho with⟨_,_,h3⟩|⟨d,x,o,h1,h2,h3,h4,h5⟩|⟨d,C',cur,h1,_⟩
   .rcases h3 with h3|h3<;>cases h3
   .cases h1
    rw[h3] at hb
    cases hb
    obtain⟨c,rfl,h6⟩:=h5
    exact⟨_,_,c,ho,rfl,h3,rfl,h4,h6⟩
   .cases h1
  .cases hg
 .cases hg
theorem Kl(n:Nat)(hn:0<n)(w:World):∃(j:Nat) (a:World),j<n/\Keeps (λ_=>False) w a/\a.heap=w.heap/\(choose (Question.mapNext n)).run P w= .ok j a:=by
 by_cases hf:n<=1
 .exact⟨0,w,hn,Keeps.refl _ _,rfl,by simp[choose,Sem.run,Question.forced,hf]⟩
 .exact⟨_,w.drew,Nat.mod_lt _ hn,⟨rfl,rfl,rfl,Nat.le_refl _,λ_ _ _=>rfl,Nat.le_succ _⟩,rfl,by simp only[choose,Sem.run,Question.forced,decide_eq_true_eq,hf,if_false,Question.cut];rfl⟩
def pD(es:List (Value×G×Nat))(seen:List Nat)(last:Nat):Bool:= !(!seen.isEmpty&& !es.isEmpty&&es.all λe=>decide (e.2.2>=last))
theorem Mf{ty:TypeId}(ho:o.op= .next x false)(hd:H_d o st.n)(hi:gR st.σ (aB st x)=some (i,t,some j,since,seen,last))(hm:gn st.σ (.mref j)=some (j,ty,es,clock))(hok:pD es seen last=true):
  th P o st (V3 st o.dst i t j since clock seen (rD es since seen)):=by
 intro cx a w K R ⟨β,h⟩ L
 refine h.loose.oper (λc hc=>by rw[ho] at hc;cases hc) ?_
 obtain⟨ob,b,Q,hob,rfl,hb,hv,B,E⟩:=xT h (h.ev x) hi
 obtain⟨d,rfl,hb'⟩:∃d,Q=some d/\∃C,β j=some (some (d,C)):=by
  rcases E with⟨h1,_⟩|⟨W,d,C,h1,h2,h3⟩
  .cases h1
  .cases h1;exact⟨d,h2,C,h3⟩
 obtain⟨C,hb'⟩:=hb'
 obtain⟨S,bb,ents,_,M,rfl,hb2,_,l,_,_,hsz,hent⟩:=gp h (.mref j d C hb') hm
 obtain rfl:d=bb:=by rw[hb2] at hb';cases hb';rfl
 have hF:F2 (λ(e:MapEntry) (q:Value×G×Nat)=>e.key=q.1/\e.born=q.2.2/\RV β (Av cx.S0 β st.σ) w q.2.1 e.val) ents.toList es:=F2.of_get (by simpa using hsz) λk e q he hq=>by obtain⟨k',g,n⟩:=q;exact hent k e k' g n (by simpa using he) hq
 have m:=hF.filter (p:=λe=> !(seen.toArray).contains e.born) (q:=λe=> !seen.contains e.2.2) (λe q ⟨_,h2,_⟩=>by simp[h2])
 have s:=m.filter (p:=λe=>decide (e.born<since)) (q:=λe=>decide (e.2.2<since)) (λe q ⟨_,h2,_⟩=>by simp[h2])
 have F:=m.filter (p:=λe=>decide (e.born>=since)) (q:=λe=>decide (e.2.2>=since)) (λe q ⟨_,h2,_⟩=>by simp[h2])
 have htest:(!(seen.toArray).isEmpty&& !ents.isEmpty&&ents.all (λx=>decide (x.born>=last)))=false:=by
  have e1:(seen.toArray).isEmpty=seen.isEmpty:=aC;have e2:ents.isEmpty=es.isEmpty:=by rw[<-hF.isEmpty];simp
  have e3:ents.all (λx=>decide (x.born>=last))=es.all (λe=>decide (e.2.2>=last)):=by rw[<-hF.all (p:=λx=>decide (x.born>=last)) (λe q ⟨_,h2,_⟩=>by simp[h2])];simp
  rw[e1,e2,e3];unfold pD at hok;simpa only[Bool.not_eq_true'] using hok
 obtain⟨f,hcs⟩:∃f:Array (Option MapEntry),f=(if((ents.filter λe=> !(seen.toArray).contains e.born).filter λx=>decide (x.born<since)).isEmpty then#[none] else#[])++(((ents.filter λe=> !(seen.toArray).contains e.born).filter λx=>decide (x.born<since))++((ents.filter λe=> !(seen.toArray).contains e.born).filter λx=>decide (x.born>=since))).map some:=⟨_,rfl⟩
 have hFc:F2 (λ(e:Option MapEntry) (q:Option (Value×G×Nat))=>(e=none/\q=none)\/∃e' z,e=some e'/\q=some z/\e'.key=z.1/\e'.born=z.2.2/\RV β (Av cx.S0 β st.σ) w z.2.1 e'.val) f.toList (rD es since seen):=by
  rw[hcs];unfold rD;simp only[Array.toList_append,Array.toList_map,Array.toList_filter];have e0:((ents.filter λe=> !(seen.toArray).contains e.born).filter λx=>decide (x.born<since)).isEmpty=((es.filter λe=> !seen.contains e.2.2).filter λe=>decide (e.2.2<since)).isEmpty:=by rw[<-s.isEmpty,<-Array.toList_filter,<-Array.toList_filter,Array.isEmpty_toList]
  rw[e0];refine F2.append ?_ ((s.append F).map λe q hq=> .inr ⟨e,q,rfl,rfl,hq⟩);split
  .exact .cons (.inl ⟨rfl,rfl⟩) .nil
  .exact .nil
 have hpos:0<f.size:=by
  rw[hcs];split
  .simp;omega
  .rename_i hne;generalize ((ents.filter λe=> !(seen.toArray).contains e.born).filter λx=>decide (x.born<since))=A at hne;have:0<A.size:=by
    rcases Nat.eq_zero_or_pos A.size with h0|h0
    .exact absurd (by simp[Array.isEmpty,h0]) hne
    .exact h0
   simp only[Array.size_append,Array.size_map,List.size_toArray,List.length_nil];omega
 obtain⟨r,y,hr,hk1,H,v⟩:=Kl (P:=P) f.size hpos w
 have hrr:f.toList[r]?=some (f[r]'hr):=aC
 obtain⟨q,hq,I⟩:=hFc.get hrr
 have hh1:y.heap[b]?=some (.mapIter (some d) since seen.toArray last):=by rw[H];exact B
 have hcr:f[r]?=some (f[r]'hr):=aC
 have hsync:∀{X:Sem Value},X=X:=λ{X}=>rfl
 rcases I with⟨h1,rfl⟩|⟨e',⟨k',U,J⟩,h1,rfl,h2,h3,h4⟩
 .have hrun:(execOp a.eval o).run P w= .ok (.value (.tuple #[.bool false])) y:=by unfold execOp;simp only[ho,hv,Instr.next,Sem.run_bind,br B ww,Result.andThen_ok,br l dJ,htest,Bool.false_eq_true,if_false,<-hcs,v,hcr,h1,Sem.run_pure]
  unfold Oper.wp
  rw[hrun]
  refine L _ (.inl ⟨bO hq,rfl⟩) _ _ ⟨β,(h.world hk1).put o.dst hd (.tup _ _ rfl λi g u hg hu=>?_)⟩
  match i with
  |0=>simp at hg hu;subst hg;subst hu;exact .imm _ _ (.lit _)
  |n+1=>simp at hg
 .have hrun:(execOp a.eval o).run P w= .ok (.value (.tuple #[.bool true,e'.key,e'.val])) (y.putObj b (.mapIter (some d) since (seen.toArray.push e'.born) clock)):=by unfold execOp;simp only[ho,hv,Instr.next,Sem.run_bind,br B ww,Result.andThen_ok,br l dJ,htest,Bool.false_eq_true,if_false,<-hcs,v,hcr,h1,eW _ hh1 ww,Sem.run_pure]
  unfold Oper.wp
  rw[hrun]
  have N:=h.world hk1
  have O:=N.writeX (x:= .iter (some j) since (seen++[J]) clock) hob hb (dv (.mapIter (some d) since (seen.toArray.push e'.born) clock)) (World.putObj_heap_same (Array.getElem?_eq_some_iff.1 hh1).1) ⟨some d,by rw[h3];simp,.inr ⟨j,d,C,rfl,rfl,hb'⟩⟩
  have hkk:Keeps (Av cx.S0 β st.σ) w (y.putObj b (.mapIter (some d) since (seen.toArray.push e'.born) clock)):=(hk1.mono λ_ _ x=>x.elim).trans ((dv _).mono λb0 _ e=>by subst e;exact .inr ⟨i,ob,0,hob,hb⟩)
  have hAv:∀b0,b0<w.heap.size->Av cx.S0 β ((i,some ⟨ob.t,[],some (.iter (some j) since (seen++[J]) clock)⟩)::st.σ) b0->Av cx.S0 β st.σ b0:=by
   rintro b0 _ (hx|⟨k,V,D,h5,h6⟩)
   .exact .inl hx
   .rw[am] at h5;split at h5
    .subst_vars;exact .inr ⟨_,ob,D,hob,h6⟩
    .exact .inr ⟨k,V,D,h5,h6⟩
  refine L _ (.inr ⟨k',U,J,bO hq,rfl⟩) _ _ ⟨β,O.put o.dst hd (.tup _ _ rfl λi g u hg hu=>?_)⟩
  match i with
  |0=>simp at hg hu;subst hg;subst hu;exact .imm _ _ (.lit _)
  |1=>simp at hg hu;subst hg;subst hu;rw[h2];exact .imm _ _ (.glit _ _ _)
  |2=>simp at hg hu;subst hg;subst hu;exact h4.step (λ_ _ x=>x) hAv hkk
  |n+3=>simp at hg
theorem Qn(ho:o.op= .next x false)(hd:H_d o st.n)(hi:gR st.σ (aB st x)=some (i,t,none,since,seen,last)):GS P o st (st.put o.dst (.tup [.lit (.bool false)])):=by
 intro cx a w K R ⟨β,h⟩ e;refine h.loose.oper (λc hc=>by rw[ho] at hc;cases hc) ?_;obtain⟨ob,b,j,hob,rfl,hb,hv,f,d⟩:=xT h (h.ev x) hi;rcases d with⟨_,rfl⟩|⟨_,_,_,h1,_⟩
 .have hrun:(execOp a.eval o).run P w= .ok (.value (.tuple #[.bool false])) w:=by unfold execOp;simp only[ho,hv,Instr.next,Sem.run_bind,br f ww,Result.andThen_ok,Sem.run_pure]
  unfold Oper.wp;rw[hrun];refine e _ _ ⟨β,h.put o.dst hd (.tup _ _ rfl λi g u hg hu=>?_)⟩;match i with
  |0=>simp at hg hu;subst hg;subst hu;exact .imm _ _ (.lit _)
  |n+1=>simp at hg
 .cases h1
def jr(σ:aQ)(g:G):Option G:=match gR σ g with
 |some (_,_,some j,_,seen,last)=>match gn σ (.mref j),seen.getLast? with
  |some (_,_,es,clock),some n=>bif Nat.beq clock last then
    match es.find? (λe=>Nat.beq e.2.2 n) with
    |some (k,g,_)=>some (.tup [db k,g])
    |none=>none
   else none
  |_,_=>none
 |_=>none
theorem Tb(a b:Nat):(a==b)=Nat.beq a b:=by
 cases h:Nat.beq a b with
 |true=>rw[bc h];simp
 |false=>exact beq_eq_false_iff_ne.2 λe=>by rw[e,Nat.beq_refl] at h;cases h
theorem Mg{α β:Type}{R:α->β->Prop}{p:α->Bool}{q:β->Bool}(c:∀a b,R a b->p a=q b):∀{l:List α} {m:List β},F2 R l m->∀{b},m.find? q=some b->∃a,l.find? p=some a/\R a b
 |_,_,.nil,b,h=>by simp at h
 |_,_,.cons h t,b,hb=>by
  rw[List.find?_cons] at hb⊢;rw[c _ _ h];split at hb
  .cases hb;exact⟨_,rfl,h⟩
  .exact Mg c t hb
theorem H3(ho:o.op= .entry x)(hd:H_d o st.n)(hg:jr st.σ (aB st x)=some g):GS P o st (st.put o.dst g):=by
 intro cx a w K R ⟨β,h⟩ s;refine h.loose.oper (λc hc=>by rw[ho] at hc;cases hc) ?_;have hrun:∃v,(execOp a.eval o).run P w= .ok (.value v) w/\RV β (Av cx.S0 β st.σ) w g v:=by
  unfold jr at hg;split at hg
  .rename_i i t j since seen last hi;split at hg
   .rename_i y ty es clock n hm hn;cases hc:Nat.beq clock last with
    |false=>rw[hc] at hg;cases hg
    |true=>
     rw[hc] at hg;simp only[ax] at hg;have:=bc hc;subst this;obtain⟨ob,b,z,hob,rfl,hb,hv,u,f⟩:=xT h (h.ev x) hi;obtain⟨d,rfl,C,hb'⟩:∃d,z=some d/\∃C,β j=some (some (d,C)):=by
      rcases f with⟨h1,_⟩|⟨y,d,C,h1,h2,h3⟩
      .cases h1
      .cases h1;exact⟨d,h2,C,h3⟩
     obtain⟨A,bb,ents,l,r,rfl,hb2,_,m,_,_,hsz,hent⟩:=gp h (.mref j d C hb') hm;cases l;obtain rfl:d=bb:=by rw[hb2] at hb';cases hb';rfl
     have hF:F2 (λ(e:MapEntry) (q:Value×G×Nat)=>e.key=q.1/\e.born=q.2.2/\RV β (Av cx.S0 β st.σ) w q.2.1 e.val) ents.toList es:=F2.of_get (by simpa using hsz) λk e q he hq=>by obtain⟨k',g,n⟩:=q;exact hent k e k' g n (by simpa using he) hq
     split at hg
     .rename_i k B D hf;cases hg;obtain⟨e,he,h1,h2,h3⟩:=Mg (p:=λe=>e.born==n) (λe q ⟨_,h2,_⟩=>by rw[h2];exact Tb _ _) hF hf;have he':ents.find? (λe=>e.born==n)=some e:=by rw[<-he];simp
      have hbk:(seen.toArray).back?=some n:=by simpa using hn
      refine⟨.tuple #[e.key,e.val],?_,Kk (by rw[h1];exact .imm _ _ (.glit _ _ _)) h3⟩;unfold execOp;simp only[ho,hv,Instr.entry,Sem.run_bind,br u ww,Result.andThen_ok,hbk,br m dJ,bne_self_eq_false,Bool.false_eq_true,if_false,he',Sem.run_pure]
     .cases hg
   .cases hg
  .cases hg
 obtain⟨v,hrun,hr⟩:=hrun;unfold Oper.wp;rw[hrun];exact s _ _ ⟨β,h.put o.dst hd hr⟩
end
section
variable {P:Program}
theorem RelB.back{cx:Cx}{st s:St}{a a':Act}{w w':World}{β β1:Bm}{F:Fence}{n:Nat}(h:RelB P cx st a w β)(hr:RelB P ⟨w,GG β st.σ,cx.S0,β,F,n⟩ s a' w' β1)(hgl:s.gl=st.gl):
  RelB P cx {st with σ:=s.σ,c:=s.c} a w' β1/\(∀k x,β k=some x->β1 k=some x)/\Keeps (GG β st.σ) w w':=by
 have hext:∀k x,β k=some x->β1 k=some x:=λk x hx=>(hr.pin k x hx).2
 have hAo:∀b,b<w.heap.size->Av cx.S0 β1 s.σ b->Av cx.S0 β st.σ b:=by
  rintro b hlt (hb|⟨i,ob,C,h1,h2⟩)
  .exact .inl hb
  .rcases hr.own i ob b C h1 h2 with hb|hb
   .exact .inr hb
   .exact absurd hlt (by have:w.heap.size<=b:=hb;omega)
 have hkp:Keeps (Av cx.S0 β st.σ) w w':=hr.keep.mono λb _ hb=> .inr hb
 refine⟨{
  size:=h.size
  defers:=h.defers.keep hr.keep (λD hD hx=>by obtain⟨j,d,E,e,f⟩:=hx;exact h.not_marks e f hD)
  loose:=h.loose
  rnd:=h.rnd
  fr:=λi=>(h.fr i).step hext hAo hkp
  ob:=hr.ob
  inj:=hr.inj
  own:=λk o1 b C h1 h3=>by
   rcases hr.own k o1 b C h1 h3 with hb|hb
   .obtain⟨j,d,E,e,f⟩:=hb;exact h.own j d b E e f
   .have:=h.keep.size;have hb':w.heap.size<=b:=hb;right;omega
  sep:=hr.sep
  fresh:=hr.fresh
  glob:=λg l hl=>hr.glob g l (by rw[hgl];exact hl)
  keep:=h.keep.then hr.keep (λb hb hx=>by
   obtain⟨j,d,E,e,f⟩:=hx;rcases h.own j d b E e f with h1|h1
   .exact h1
   .omega)
  old:=h.old
  pin:=λi x hx=>⟨(h.pin i x hx).1,hext i x (h.pin i x hx).2⟩},hext,hr.keep⟩
theorem RelB.front{cx:Cx}{st:St}{a:Act}{w:World}{β:Bm}{F:Fence}{n m:Nat}{r:Bool}{fr:Fr}{tmps:Array Value}(h:RelB P cx st a w β)(hL:Loose F)(hr:r=false->F.round=none)(hsz:tmps.size=m)(hf:∀i,RV β (Av cx.S0 β st.σ) w (aD fr i) (tmps.getD i undef)):
  RelB P ⟨w,GG β st.σ,cx.S0,β,F,n⟩ ⟨m,st.gl,fr,st.σ,st.c,st.c,r⟩ {tmps:=tmps,defers:=[]} w β:={
 size:=hsz
 defers:= .nil rfl
 loose:=hL
 rnd:=hr
 fr:=hf
 ob:=h.ob
 inj:=h.inj
 own:=λi o b C ho hb=> .inl ⟨i,o,C,ho,hb⟩
 sep:=h.sep
 fresh:=h.fresh
 glob:=h.glob
 keep:=Keeps.refl _ _
 old:=λb hb=>h.keep.lt (h.old b hb)
 pin:=λi x hx=>⟨(by
  rcases Nat.lt_or_ge i st.c with h'|h'
  .exact h'
  .have:=h.fresh i h';have hx':β i=some x:=hx;rw[this] at hx';cases hx'),hx⟩}
theorem Ca{S:Nat->Prop}{gs:List G}{m:Nat}(hsz:vs.size=gs.length)(hn:gs.length<=m)(hv:∀(i:Nat) (g:G) (u:Value),gs[i]?=some g->vs[i]?=some u->RV β S w g u)(i:Nat):
  RV β S w (aD (bQ 0 gs) i) ((vs++Array.replicate (m-vs.size) undef).getD i undef):=by
 rw[px]
 simp only[Nat.zero_le,if_true,Nat.sub_zero]
 cases hg:gs[i]? with
 |none=>exact .junk _
 |some g=>
  have hlt:=(cr hg).1
  have hu:vs[i]?=some (vs[i]'aa):=by simp[show i<vs.size by omega]
  have e:(vs++Array.replicate (m-vs.size) undef).getD i undef=vs[i]'aa:=by rw[Array.getD_eq_getD_getElem?,Array.getElem?_append_left aa,hu];rfl
  rw[e]
  exact hv i g _ hg hu
theorem Ek{a:Act}{fn:Func}{gs:List G}{Q:Exit->St->Prop}(h:RelB P cx st a w β)(f:P.funcs[fid]?=some fn)(hb:fn.body=some body)(hn:gs.length<=fn.ntmps)(hsz:vs.size=gs.length)
  (hv:∀(i:Nat) (g:G) (u:Value),gs[i]?=some g->vs[i]?=some u->RV β (Av cx.S0 β st.σ) w g u) (hT:Tr P body ⟨fn.ntmps,st.gl,bQ 0 gs,st.σ,st.c,st.c,false⟩ Q) (l:∀e s,Q e s->(e= .normal\/e= .ret)/\s.gl=st.gl/\∃b,fn.results.toList.mapM (jV P s)=some b):
  Calls P fid vs w λE w'=>∃v e s b d,E= .returned v/\Q e s/\fn.results.toList.mapM (jV P s)=some b/\RelB P cx {st with σ:=s.σ,c:=s.c} a w' d/\RV d (Av cx.S0 d s.σ) w' (iU b) v/\(∀k x,β k=some x->d k=some x)/\Keeps (GG β st.σ) w w':=by
 refine rq (cx:=⟨w,GG β st.σ,cx.S0,β,Fence.wide,9⟩) f hb hT rfl rfl ⟨β,h.front lP (λ_=>rfl) (by simp[hsz];omega) (Ca hsz hn hv)⟩ ?_
 rintro e s m w' hq ⟨d,hr⟩
 obtain⟨he,hgl,b,hgs⟩:=l e s hq
 obtain⟨v,hres,j⟩:=mP hr hgs
 obtain⟨h1,h2,h3⟩:=h.back hr hgl
 exact⟨he,v,hres,v,e,s,b,d,rfl,hq,hgs,h1,j,h2,h3⟩
theorem NN{fn:Func}{Q:Exit->St->Prop}
  (ho:o.op= .call {callee:= .value f,args:=xs,argTypes:=ats}) (hd:H_d o st.n) (hf:aB st f= .clo (.func fid) fst cap) (hc:aK P fid=true) (d:P.funcs[fid]?=some fn) (hb:fn.body=some body)
  (hn:(fst++xs.toList.map (aB st)++cap).length<=fn.ntmps) (hT:Tr P body ⟨fn.ntmps,st.gl,bQ 0 (fst++xs.toList.map (aB st)++cap),st.σ,st.c,st.c,false⟩ Q) (g:∀e s,Q e s->(e= .normal\/e= .ret)/\s.gl=st.gl/\∃b,fn.results.toList.mapM (jV P s)=some b):
  th P o st (λs'=>∃e s b,Q e s/\fn.results.toList.mapM (jV P s)=some b/\s'={st with σ:=s.σ,c:=s.c}.put o.dst (iU b)):=by
 intro cx a w K R ⟨β,h⟩ i
 obtain⟨vs,hrun,hsz,hv⟩:=lQ h ho hf hc
 refine h.loose.oper (λc hc=>by rw[ho] at hc;cases hc) ?_
 unfold Oper.wp
 rw[hrun]
 refine(Ek h d hb hn hsz hv hT g).mono ?_
 rintro E w' ⟨v,e,s,b,j,rfl,hq,hgs,h1,h2,_⟩
 exact i _ ⟨e,s,b,hq,hgs,rfl⟩ _ _ ⟨j,h1.put o.dst hd h2⟩
theorem RelB.xob{cx:Cx}{st:St}{a:Act}{w:World}{β:Bm}(h:RelB P cx st a w β){i:Nat}{t:TypeId}{l:List G}{x:Xob}(ho:ag st.σ i=some ⟨t,l,some x⟩)(hn:x≠ .resv):∃b o,β i=some (some (b,0))/\w.heap[b]?=some o/\XO β (Av cx.S0 β st.σ) w x o:=by
 rcases h.ob i _ ho with⟨_,_,h3⟩|⟨b,c,o,h1,h2,h3,h4,h5⟩|⟨d,C',cur,h1,_⟩
 .rcases h3 with h3|h3
  .cases h3
  .cases h3;exact absurd rfl hn
 .cases h1;exact⟨b,o,h3,h4,h5⟩
 .cases h1
def sI(P:Program)(st:St)(Q:Exit->St->Prop)(e:Exit)(s:St):Prop:=
 (
  e= .normal\/e= .ret)/\s.gl=st.gl/\∃t a pe n fr ps az9 bd,ag s.σ st.c=some ⟨t,[],some (.loop a pe n fr ps az9 bd)⟩/\a≠ .busy/\
  match pe with
  |none=>Q .normal {st with σ:=(st.c,none)::(st.c,some ⟨t,[],some (.loop .exhausted pe n fr ps az9 bd)⟩)::s.σ,c:=s.c}
  |some c=>Tr P c {st with σ:=(st.c,none)::(st.c,some ⟨t,[],some (.loop .exhausted pe n fr ps az9 bd)⟩)::s.σ,c:=s.c} Q
theorem wx{g:Operand}{ps:Array Tmp}{assign:Code}{Q:Exit->St->Prop}{fn:Func}{fbody:Code}(hr:st.r=false)(hg:aB st g= .clo (.func fid) fst cap)(hc:aK P fid=true)(S:P.funcs[fid]?=some fn)(hb:fn.body=some fbody)
  (hn:(fst++[G.yld st.c]++cap).length<=fn.ntmps) (hres:fn.results.toList=[])
  (hT:Tr P fbody ⟨fn.ntmps,st.gl,bQ 0 (fst++[G.yld st.c]++cap),(st.c,some ⟨0,[],some (.loop .ready none st.n st.fr ps assign body)⟩)::st.σ,st.c+1,st.c+1,false⟩ (sI P st Q)):
  Tr P (.rangeFunc g ps assign body) st Q:=by
 intro cx a w R ⟨β,h⟩ hk
 have hround:cx.F.round=none:=h.rnd hr
 refine wpIn_rangeFunc ?_
 intro B hfnid
 rw[hround]
 have hx:=h.ev g
 rw[hg] at hx
 obtain⟨fs,cs,U,h1,h2,h3,h4⟩:=hx.clo_form
 obtain⟨k,A⟩:∃k:LoopState->Option Code->Loop,k=λst pe=>{state:=st,pending:=pe,fn:=B,tmps:=a.tmps,params:=ps,assign,body,defers:=w.heap.size}:=⟨_,rfl⟩
 obtain⟨q,f⟩:∃q,(w.alloc (.deferred (some []))).alloc (.loop (k .ready none))=q:=⟨_,rfl⟩
 have hW0:RelB P cx st a (w.alloc (.deferred (some []))) β:=h.world ((Keeps.refl _ _).alloc _)
 have hsz0:(w.alloc (.deferred (some []))).heap.size=w.heap.size+1:=aC
 have hL1:q.heap[w.heap.size+1]?=some (.loop (k .ready none)):=by rw[<-f];have:=World.alloc_heap_new (w.alloc (.deferred (some []))) (.loop (k .ready none));rwa [World.size_alloc] at this
 have hD1:q.heap[w.heap.size]?=some (.deferred (some [])):=by rw[<-f];exact(Below.heap_alloc _ _ _ aC).trans (World.alloc_heap_new w _)
 have hk1:Keeps (λ_=>False) (w.alloc (.deferred (some []))) q:=by rw[<-f];exact(Keeps.refl _ _).alloc _
 have M:=hW0.allocX (w':=q) hk1 (b:=w.heap.size+1) (ob:=⟨0,[],some (.loop .ready none st.n st.fr ps assign body)⟩) (x:= .loop .ready none st.n st.fr ps assign body) (by rw[hsz0];exact Nat.le_refl _) hL1 rfl rfl ⟨B,a.tmps,w.heap.size,by rw[A],hW0.size,λj=>hW0.fr j⟩ (Nat.le_refl st.c)
 refine⟨w.heap.size+1,[{target:= .collected w.heap.size,args:= #[]}],q,{target:= .fn (.func fid) cs,args:=fs++ #[.func (.yield (w.heap.size+1)) #[] #[]]},q,fid,
  fs++ #[.func (.yield (w.heap.size+1)) #[] #[]]++cs,q,?_,?_,λ_ _=>h.loose.fn _,?_,h.loose.some,?_⟩
 .rw[<-f,A];exact run_enterLoop_outer _ _ _ _ _
 .simp only[resolve,U]
  simp[go_sem]
 .simp[invoke,go_sem,wq hc]
 refine h.loose.calls ?_
 have hsub:∀b,b<w.heap.size->Av cx.S0 (λi=>if i=st.c then some (some (w.heap.size+1,0)) else β i) ((st.c,some ⟨0,[],some (.loop .ready none st.n st.fr ps assign body)⟩)::st.σ) b->Av cx.S0 β st.σ b:=by
  rintro b hlt (hb|⟨i,ob,C,ho,hb⟩)
  .exact .inl hb
  .rw[am] at ho;by_cases e:i=st.c
   .subst e;simp at hb;omega
   .rw[if_neg (λx=>e x.symm)] at ho;simp only[if_neg e] at hb;exact .inr ⟨i,ob,C,ho,hb⟩
 have hext1:∀i x,β i=some x->(λi=>if i=st.c then some (some (w.heap.size+1,0)) else β i) i=some x:=by
  intro i x hx;have:i≠st.c:=λe=>by rw[e,h.fresh st.c (Nat.le_refl _)] at hx;cases hx
  simp[this,hx]
 have hkw:Keeps (Av cx.S0 β st.σ) w q:=by rw[<-f];exact((Keeps.refl _ _).alloc _).alloc _
 refine(Ek M S hb hn (by simp[h1,h2];omega) (λi g u hg' hu=>?_) hT (λe s (hq:sI P st Q e s)=>⟨hq.1,hq.2.1,[],by rw[hres];rfl⟩)).mono ?_
 .by_cases c1:i<fst.length
  .rw[List.append_assoc,List.getElem?_append_left c1] at hg'
   rw[Array.append_assoc,Array.getElem?_append_left aa] at hu
   exact(h3 i g u hg' hu).step hext1 hsub hkw
  .by_cases c2:i<fst.length+1
   .have e:i=fst.length:=aa
    subst e
    rw[List.append_assoc,List.getElem?_append_right (Nat.le_refl _),Nat.sub_self] at hg'
    rw[Array.append_assoc,Array.getElem?_append_right aa,h1,Nat.sub_self,Array.getElem?_append_left aC] at hu
    simp at hg' hu
    subst hg';subst hu
    exact .yld _ _ 0 aC
   .rw[List.getElem?_append_right cq] at hg'
    rw[Array.getElem?_append_right cq] at hu
    refine(h4 (i-(fst.length+1)) g u ?_ ?_).step hext1 hsub hkw
    .rw[<-hg'];congr 1;simp
    .rw[<-hu];congr 1;simp[h1]
 .rintro E V ⟨v,e,s,gs',β2,rfl,⟨he,hgl,t,ls,pe,n,fr,l,m,p,hob,H,N⟩,hgs,hrel,hrv,I,hkeep⟩
  have hob':ag ({st with σ:=s.σ,c:=s.c}:St).σ st.c=some ⟨t,[],some (.loop ls pe n fr l m p)⟩:=hob
  obtain⟨b,o,hb2,hh,W⟩:=hrel.xob (st:={st with σ:=s.σ,c:=s.c}) hob' (λe=>by cases e)
  have hbl:β2 st.c=some (some (w.heap.size+1,0)):=I st.c _ aC
  rw[hbl] at hb2
  simp only[bg,Prod.mk.injEq,and_true] at hb2
  subst hb2
  obtain⟨J,d,X,rfl,Y,Z⟩:=W
  have O:=run_endLoop (P:=P) hh H
  refine⟨pe,_,O,?_⟩
  have hlt:w.heap.size+1<V.heap.size:=(Array.getElem?_eq_some_iff.1 hh).1
  have hX:=hrel.writeX (x:= .loop .exhausted pe n fr l m p) hob' hbl (dv (.loop {state:= .exhausted,pending:=pe,fn:=J,tmps:=d,params:=l,assign:=m,body:=p,defers:=X})) (World.putObj_heap_same hlt) ⟨J,d,X,rfl,Y,Z⟩
  have z:=hX.kill st.c
  have hD2:V.heap[w.heap.size]?=some (.deferred (some [])):=(hkeep.block _ (Array.getElem?_eq_some_iff.1 hD1).1 (λ⟨j,ob2,C,h5,h6⟩=>M.not_marks h5 h6 hD1)).trans hD1
  have hrelA:mh P cx {st with σ:=(st.c,none)::(st.c,some ⟨t,[],some (.loop .exhausted pe n fr l m p)⟩)::s.σ,c:=s.c} {a with defers:=[{target:= .collected w.heap.size,args:= #[]}]++a.defers} (V.putObj (w.heap.size+1) (.loop {state:= .exhausted,pending:=pe,fn:=J,tmps:=d,params:=l,assign:=m,body:=p,defers:=X})):=by
   refine⟨β2,{z with size:=z.size,defers:=?_,fr:=z.fr}⟩;obtain⟨K,d1,d2,d3⟩:=z.defers;have hold:∀D∈K,D<w.heap.size:=by
    intro D hD;obtain⟨L,f1,f2,f3⟩:=h.defers;have:L.map rp=K.map rp:=f1.symm.trans d1;have hm:L=K:=by
     have hinj:∀x y,rp x=rp y->x=y:=λx y hxy=>by simp only[rp,Deferred.mk.injEq,Target.collected.injEq,and_true] at hxy;exact hxy
     clear f1 f2 f3 d1 d2 d3 hD;induction L generalizing K with
     |nil=>cases K with
      |nil=>rfl
      |cons y r=>simp at this
     |cons x r ih=>cases K with
      |nil=>simp at this
      |cons y r'=>
       simp only[List.map_cons,List.cons.injEq] at this
       rw[hinj _ _ this.1,ih _ this.2]
    subst hm;exact(Array.getElem?_eq_some_iff.1 (f3 D hD).2).1
   refine⟨w.heap.size::K,by simp[d1,rp],List.nodup_cons.2 ⟨λhD=>by have:=hold _ hD;omega,d2⟩,λD hD=>?_⟩;rcases List.mem_cons.1 hD with rfl|hD
   .exact⟨h.keep.size,(World.putObj_heap_other aa).trans hD2⟩
   .exact d3 D hD
  cases pe with
  |none=>exact hk _ _ _ _ N hrelA
  |some c=>exact N cx _ _ _ hrelA hk
def xU:List (Tmp×G)->Fr->Fr
 |[],fr=>fr
 |(p,g)::r,fr=>xU r ((p,g)::fr)
theorem El{β:Bm}{S:Nat->Prop}{w:World}{n:Nat}:∀(l:List (Tmp×G)) (vs:List Value) (fr:Fr) (tmps:Array Value),vs.length=l.length->tmps.size=n->(∀p∈l,p.1<n)->(∀i,RV β S w (aD fr i) (tmps.getD i undef))->(∀(i:Nat) (q:Tmp×G) (u:Value),l[i]?=some q->vs[i]?=some u->RV β S w q.2 u)->
  (((l.map (·.1)).zip vs).foldl (λt (p,v)=>t.setIfInBounds p v) tmps).size=n/\∀i,RV β S w (aD (xU l fr) i) ((((l.map (·.1)).zip vs).foldl (λt (p,v)=>t.setIfInBounds p v) tmps).getD i undef)
 |[],vs,fr,tmps,hl,hs,_,hf,_=>⟨hs,hf⟩
 |(p,g)::r,v::vs,fr,tmps,hl,hs,hp,hf,hv=>by
  refine El r vs ((p,g)::fr) (tmps.setIfInBounds p v) (by simpa using hl) (by simpa using hs) (λq hq=>hp q (by simp[hq])) (λi=>?_) (λi q u hq hu=>hv (i+1) q u (by simpa using hq) (by simpa using hu));have hlt:p<tmps.size:=by rw[hs];exact hp (p,g) aC
  have:=HI {tmps:=tmps,defers:=[]} p v hlt i;simp only[Act.put] at this;rw[this,aO];split
  .exact hv 0 (p,g) v rfl rfl
  .exact hf i
 |(p,g)::r,[],fr,tmps,hl,_,_,_,_=>by simp at hl
def Qo:Exit->Option (Option Code)
 | .normal=>some none
 | .ret=>some (some .ret)
 | .exit id=>some (some (.exit id))
 | .goto t=>some (some (.goto t))
 |_=>none
def rE(P:Program)(st:St)(i:Nat)(S:Option Code->Xob->TypeId->St->Prop)(e:Exit)(s:St):Prop:=
 s.gl=st.gl/\∃j t a pe n fr ps az9 bd,Qo e=some j/\ag s.σ i=some ⟨t,[],some (.loop a pe n fr ps az9 bd)⟩/\S j (.loop (if j.isNone then .ready else .done) j n fr ps az9 bd) t s
theorem Em{o:Oper}{st:St}{f:Operand}{xs:Array Operand}{ats:Array TypeId}{i n:Nat}{t:TypeId}{pe:Option Code}{fr:Fr}{ps:Array Tmp}{az9 bd:Code}{S:Option Code->Xob->TypeId->St->Prop}
  (ho:o.op= .call {callee:= .value f,args:=xs,argTypes:=ats}) (hd:H_d o st.n) (hf:aB st f= .yld i) (hob:ag st.σ i=some ⟨t,[],some (.loop .ready pe n fr ps az9 bd)⟩) (hsz:xs.size=ps.size) (hps:∀p∈ps.toList,p<n)
  (
   hA:Tr P az9 ⟨n,st.gl,xU (ps.toList.zip (xs.toList.map (aB st))) fr,st.σ,st.c,st.c,true⟩ (λe s=>e= .normal/\s.gl=st.gl/\∃W z n' J A B E,ag s.σ i=some ⟨W,[],some (.loop .ready z n' J A B E)⟩/\
   Tr P bd {s with σ:=(i,some ⟨W,[],some (.loop .busy z n' J A B E)⟩)::s.σ} (rE P st i S))):
  th P o st (λs'=>∃j x W s,S j x W s/\s'={st with σ:=(i,some ⟨W,[],some x⟩)::s.σ,c:=s.c}.put o.dst (.lit (.bool j.isNone))):=by
 intro cx a w K R ⟨β,h⟩ hK
 obtain⟨l,o0,hbi,hh,hxo⟩:=h.xob hob (λe=>by cases e)
 obtain⟨fn,tmps,D,rfl,hts,htf⟩:=hxo
 have hfv:a.eval f= .func (.yield l) #[] #[]:=by have:=h.ev f;rw[hf] at this;obtain⟨b,C,h1,h2⟩:=this.yld_form;rw[hbi] at h1;cases h1;exact h2
 have hrun:(execOp a.eval o).run P w= .ok (.round l fn ((ps.zip (xs.map a.eval)).foldl (λt (p,v)=>t.setIfInBounds p v) tmps) az9 bd) w:=by unfold execOp;have hy:=run_yield (P:=P) (args:=xs.map a.eval) hh (by simpa using hsz);simp only[ho,resolve,hfv];simp[go_sem,invoke,Deferred.ofValue,hy]
 refine⟨λg _=>h.loose.fn g,?_⟩
 have hs:o.semAt cx.F.round a.eval=execOp a.eval o:=by
  cases cx.F.round with
  |none=>rfl
  |some l=>exact Oper.semAt_some l _ _ (λc hc=>by rw[ho] at hc;cases hc)
 rw[hs,hrun,Oper.uponIn_round]
 refine⟨h.loose.some,?_⟩
 have hLr:Loose (cx.F.inRound l):=⟨h.loose.fn,h.loose.depth,h.loose.alive⟩
 obtain⟨q1,q2⟩:=El (β:=β) (S:=Av cx.S0 β st.σ) (w:=w) (n:=n) (ps.toList.zip (xs.toList.map (aB st))) (xs.toList.map a.eval) fr tmps cq hts (λp hp=>hps p.1 (List.of_mem_zip hp).1) htf (λk q u hq hu=>by
  rw[List.getElem?_zip_eq_some] at hq;obtain⟨_,I⟩:=hq;rw[List.getElem?_map] at I hu;cases hx:xs.toList[k]? with
  |none=>rw[hx] at hu;cases hu
  |some x=>rw[hx] at I hu;simp at I hu;rw[<-I,<-hu];exact h.ev x)
 have e0:(ps.toList.zip (xs.toList.map (aB st))).map (·.1)=ps.toList:=by rw[List.map_fst_zip];simp;omega
 rw[e0] at q1 q2
 have e1:(ps.zip (xs.map a.eval)).foldl (λt (p,v)=>t.setIfInBounds p v) tmps=(ps.toList.zip (xs.toList.map a.eval)).foldl (λt (p,v)=>t.setIfInBounds p v) tmps:=by rw[<-Array.foldl_toList];congr 1;simp[Array.toList_zip]
 rw[e1]
 refine roundIn_of_wpIn (h.loose.fn fn) ?_
 have hfront:=h.front (F:=cx.F.inRound l) (n:=cx.nn-1) (m:=n) (r:=true) hLr (λhx=>by cases hx) q1 q2
 refine hA ⟨w,GG β st.σ,cx.S0,β,cx.F.inRound l,cx.nn-1⟩ _ w _ ⟨β,hfront⟩ ?_
 .rintro e s a1 w1 ⟨rfl,hgl,W,z,n',J,A,B,E,L,hT2⟩ ⟨β1,hr1⟩
  obtain⟨b1,o1,hb1,hh1,X⟩:=hr1.xob L (λe=>by cases e)
  have hext1:=(hr1.pin i _ hbi).2
  rw[hext1] at hb1
  simp only[bg,Prod.mk.injEq,and_true] at hb1
  subst hb1
  obtain⟨fn1,H,D1,rfl,Y,Z⟩:=X
  have hlt1:l<w1.heap.size:=(Array.getElem?_eq_some_iff.1 hh1).1
  refine⟨_,run_beginRound hh1 rfl,?_⟩
  have hX1:=hr1.writeX (x:= .loop .busy z n' J A B E) L hext1 (dv (.loop {state:= .busy,pending:=z,fn:=fn1,tmps:=H,params:=A,assign:=B,body:=E,defers:=D1})) (World.putObj_heap_same hlt1) ⟨fn1,H,D1,rfl,Y,Z⟩
  refine hT2 ⟨w,GG β st.σ,cx.S0,β,cx.F.inRound l,cx.nn-1⟩ a1 _ _ ⟨β1,hX1⟩ ?_
  rintro e2 s2 a2 w2 ⟨hgl2,j,t2,ls2,pe2,n2,fr2,O,Q,U,hj,M,hS⟩ ⟨β2,N⟩
  obtain⟨b2,o2,hb2,hh2,hxo2⟩:=N.xob M (λe=>by cases e)
  have hext2:=(N.pin i _ hbi).2
  rw[hext2] at hb2
  simp only[bg,Prod.mk.injEq,and_true] at hb2
  subst hb2
  obtain⟨V,d,D2,rfl,hts2,htf2⟩:=hxo2
  have hlt2:l<w2.heap.size:=(Array.getElem?_eq_some_iff.1 hh2).1
  have y:=run_endRound (P:=P) j hh2
  have hX2:=N.writeX (x:= .loop (if j.isNone then .ready else .done) j n2 fr2 O Q U) M hext2 (dv (.loop {state:=if j.isNone then .ready else .done,pending:=j,fn:=V,tmps:=d,params:=O,assign:=Q,body:=U,defers:=D2})) (World.putObj_heap_same hlt2) ⟨V,d,D2,rfl,hts2,htf2⟩
  obtain⟨hback,_,_⟩:=h.back hX2 hgl2
  have hfin:K (a.put o.dst (.bool j.isNone)) (w2.putObj l (.loop {state:=if j.isNone then .ready else .done,pending:=j,fn:=V,tmps:=d,params:=O,assign:=Q,body:=U,defers:=D2})):=
   hK _ ⟨j,_,t2,s2,hS,rfl⟩ _ _ ⟨β2,hback.put o.dst hd (.imm _ _ (.lit _))⟩
  cases e2 with
  |normal=>cases hj;exact⟨_,_,y,hfin⟩
  |ret=>cases hj;exact⟨_,_,y,hfin⟩
  |exit id=>cases hj;exact⟨_,_,y,hfin⟩
  |goto q=>cases hj;exact⟨_,_,y,hfin⟩
  |panic c=>cases hj
  |outgrown=>cases hj
end
section
variable {P:Program}
def BC:Ob:=⟨0,[],some .resv⟩
theorem SQ(st:St):Le P st {st with σ:=(st.c,some BC)::st.σ,c:=st.c+1}:=by rintro cx a w ⟨β,h⟩;exact⟨_,h.virtX 0 (.inr rfl) (Nat.le_refl _)⟩
def ff:Nat->St->St
 |0,s=>s
 |n+1,s=>ff n {s with σ:=(s.c,some BC)::s.σ,c:=s.c+1}
theorem uB:∀(n:Nat) (st:St),Le P st (ff n st)
 |0,st=>Le.refl st
 |n+1,st=>(SQ st).trans (uB n _)
theorem og{a b:aQ}{o:Ob}(h:ag (a++b) i=some o):ag a i=some o\/(i∉a.map (·.1)/\ag b i=some o):=by
 induction a with
 |nil=>exact .inr ⟨aC,h⟩
 |cons x r ih=>
  obtain⟨d,ob⟩:=x;rw[List.cons_append,am] at h;rw[am];split at h
  .rename_i e;rw[if_pos e];exact .inl h
  .rename_i e;rw[if_neg e];rcases ih h with h|⟨h1,h2⟩
   .exact .inl h
   .exact .inr ⟨by simp only[List.map_cons,List.mem_cons,not_or];exact⟨λx=>e x.symm,h1⟩,h2⟩
theorem fY{a b:aQ}(h:i∈a.map (·.1)):ag (a++b) i=ag a i:=by
 induction a with
 |nil=>simp at h
 |cons x r ih=>
  obtain⟨d,ob⟩:=x;rw[List.cons_append,am,am];split
  .rfl
  .rename_i e;simp only[List.map_cons,List.mem_cons] at h;rcases h with h|h
   .exact absurd h.symm e
   .exact ih h
theorem fE{a b:aQ}(h:i∉a.map (·.1)):ag (a++b) i=ag b i:=by
 induction a with
 |nil=>rfl
 |cons x r ih=>obtain⟨d,ob⟩:=x;simp only[List.map_cons,List.mem_cons,not_or] at h;rw[List.cons_append,am,if_neg (λe=>h.1 e.symm)];exact ih h.2
def uC(cx:Cx)(β:Bm)(σ σR:aQ)(b:Nat):Prop:=cx.S0 b\/∃i ob C,ag σ i=some ob/\β i=some (some (b,C))/\ag σR i=none
theorem RelB.frontF{cx:Cx}{st:St}{a:Act}{w:World}{β:Bm}{F:Fence}{n m:Nat}{r:Bool}{fr:Fr}{tmps:Array Value}(h:RelB P cx st a w β)(σR:aQ)(d:∀i o,ag σR i=some o->ag st.σ i=some o)(hL:Loose F)(hr:r=false->F.round=none)(hsz:tmps.size=m)(hf:∀i,RV β (Av cx.S0 β st.σ) w (aD fr i) (tmps.getD i undef)):
  RelB P ⟨w,GG β σR,uC cx β st.σ σR,β,F,n⟩ ⟨m,st.gl,fr,σR,st.c,st.c,r⟩ {tmps:=tmps,defers:=[]} w β/\(∀b,Av (uC cx β st.σ σR) β σR b↔Av cx.S0 β st.σ b):=by
 have hav:∀b,Av (uC cx β st.σ σR) β σR b↔Av cx.S0 β st.σ b:=λb=>by
  constructor
  .rintro((hb|⟨i,ob,C,h1,h2,_⟩)|⟨i,ob,C,h1,h2⟩)
   .exact .inl hb
   .exact .inr ⟨i,ob,C,h1,h2⟩
   .exact .inr ⟨i,ob,C,d i ob h1,h2⟩
  .rintro(hb|⟨i,ob,C,h1,h2⟩)
   .exact .inl (.inl hb)
   .cases hi:ag σR i with
    |none=>exact .inl (.inr ⟨i,ob,C,h1,h2,hi⟩)
    |some o=>exact .inr ⟨i,o,C,hi,h2⟩
 refine⟨{
  size:=hsz
  defers:= .nil rfl
  loose:=hL
  rnd:=hr
  fr:=λi=>(hf i).step (λ_ _ x=>x) (λb _ hb=>(hav b).1 hb) (Keeps.refl _ _)
  ob:=λi o ho=>(h.ob i o (d i o ho)).step (λ_ _ x=>x) (λb _ hb=>(hav b).1 hb) (Keeps.refl _ _) (λ_ _ _=>rfl)
  inj:=λi j o e b C D h1 h2=>h.inj i j o e b C D (d i o h1) (d j e h2)
  own:=λi o b C ho hb=> .inl ⟨i,o,C,ho,hb⟩
  sep:=λi o b C ho hb hx=>by
   rcases hx with hx|⟨j,ob,D,h1,h2,h3⟩
   .exact h.sep i o b C (d i o ho) hb hx
   .have:=h.inj i j o ob b C D (d i o ho) h1 hb h2;subst this;rw[ho] at h3;cases h3
  fresh:=h.fresh
  glob:=λg l hl=>(h.glob g l hl).sub λb _ hb=>(hav b).1 hb
  keep:=Keeps.refl _ _
  old:=λb hb=>by
   rcases hb with hb|⟨i,ob,C,h1,h2,_⟩
   .exact h.keep.lt (h.old b hb)
   .exact h.lt h1 h2
  pin:=λi x hx=>⟨(by
   rcases Nat.lt_or_ge i st.c with h'|h'
   .exact h'
   .have:=h.fresh i h';have hx':β i=some x:=hx;rw[this] at hx';cases hx'),hx⟩},hav⟩
theorem RelB.backF{cx:Cx}{st s:St}{a a':Act}{w w':World}{β β1:Bm}{F:Fence}{n:Nat}{σR τ:aQ}(h:RelB P cx st a w β)(q:∀i o,ag σR i=some o->ag st.σ i=some o)(hr:RelB P ⟨w,GG β σR,uC cx β st.σ σR,β,F,n⟩ s a' w' β1)(hgl:s.gl=st.gl)
  (r:∀i o,ag τ i=some o->ag s.σ i=some o\/(ag st.σ i=some o/\ag σR i=none)):
  RelB P cx {st with σ:=τ,c:=s.c} a w' β1/\∀g v,RV β1 (Av (uC cx β st.σ σR) β1 s.σ) w' g v->RV β1 (Av cx.S0 β1 τ) w' g v:=by
 have hext:∀k x,β k=some x->β1 k=some x:=λk x hx=>(hr.pin k x hx).2
 have hlive:∀i o,ag st.σ i=some o->∃x,β i=some x:=λi o ho=>by
  rcases(h.ob i o ho).at with h1|⟨b,C,_,h1,_⟩
  .exact⟨_,h1⟩
  .exact⟨_,h1⟩
 have hblk:∀i o b C,ag st.σ i=some o->β1 i=some (some (b,C))->β i=some (some (b,C)):=λi o b C ho hb=>by obtain⟨x,hx⟩:=hlive i o ho;rw[hext i x hx] at hb;rw[hx];exact hb
 have hav:∀b,Av cx.S0 β1 τ b->Av (uC cx β st.σ σR) β1 s.σ b:=by
  rintro b (hb|⟨i,ob,C,h1,h2⟩)
  .exact .inl (.inl hb)
  .rcases r i ob h1 with h3|⟨h3,h4⟩
   .exact .inr ⟨i,ob,C,h3,h2⟩
   .exact .inl (.inr ⟨i,ob,C,h3,hblk i ob b C h3 h2,h4⟩)
 have hAo:∀b,b<w.heap.size->Av cx.S0 β1 τ b->Av cx.S0 β st.σ b:=by
  intro b hlt hb;rcases hav b hb with(hb|⟨i,ob,C,h1,h2,_⟩)|⟨i,ob,C,h1,h2⟩
  .exact .inl hb
  .exact .inr ⟨i,ob,C,h1,h2⟩
  .rcases hr.own i ob b C h1 h2 with⟨j,d,E,e,f⟩|hb
   .exact .inr ⟨j,d,E,q j d e,f⟩
   .exact absurd hlt (by have:w.heap.size<=b:=hb;omega)
 have hkp:Keeps (Av cx.S0 β st.σ) w w':=hr.keep.mono λb _ ⟨j,d,E,e,f⟩=> .inr ⟨j,d,E,q j d e,f⟩
 have hframe:∀i o b C,ag st.σ i=some o->ag σR i=none->β i=some (some (b,C))->w'.heap[b]?=w.heap[b]? :=λi o b C ho hn hb=>hr.keep.block b (h.lt ho hb) (λ⟨j,d,E,e,f⟩=>by have:=h.inj i j o d b C E ho (q j d e) hb f;subst this;rw[hn] at e;cases e)
 refine⟨{
  size:=h.size
  defers:=h.defers.keep hr.keep (λD hD ⟨j,d,E,e,f⟩=>h.not_marks (q j d e) f hD)
  loose:=h.loose
  rnd:=h.rnd
  fr:=λi=>(h.fr i).step hext hAo hkp
  ob:=λi o ho=>by
   rcases r i o ho with h1|⟨h1,h2⟩
   .exact(hr.ob i o h1).step (λ_ _ x=>x) (λb _ hb=>hav b hb) (Keeps.refl _ _) (λ_ _ _=>rfl)
   .exact(h.ob i o h1).step hext hAo hkp (λb C hb=>hframe i o b C h1 h2 hb)
  inj:=λi j o p b C D hi hj hbi m=>by
   rcases r i o hi with h1|⟨h1,h2⟩<;>rcases r j p hj with h3|⟨h3,h4⟩
   .exact hr.inj i j o p b C D h1 h3 hbi m
   .exact absurd (.inr ⟨j,p,D,h3,hblk j p b D h3 m,h4⟩) (hr.sep i o b C h1 hbi)
   .exact absurd (.inr ⟨i,o,C,h1,hblk i o b C h1 hbi,h2⟩) (hr.sep j p b D h3 m)
   .exact h.inj i j o p b C D h1 h3 (hblk i o b C h1 hbi) (hblk j p b D h3 m)
  own:=λi o b C hi hbi=>by
   rcases r i o hi with h1|⟨h1,h2⟩
   .rcases hr.own i o b C h1 hbi with⟨j,d,E,e,f⟩|hb
    .exact h.own j d b E (q j d e) f
    .have:=h.keep.size;have hb':w.heap.size<=b:=hb;right;omega
   .exact h.own i o b C h1 (hblk i o b C h1 hbi)
  sep:=λi o b C hi hbi hx=>by
   rcases r i o hi with h1|⟨h1,h2⟩
   .exact hr.sep i o b C h1 hbi (.inl hx)
   .exact h.sep i o b C h1 (hblk i o b C h1 hbi) hx
  fresh:=hr.fresh
  glob:=λg l hl=>(hr.glob g l (by rw[hgl];exact hl)).sub λb _ hb=>hav b hb
  keep:=h.keep.then hr.keep (λb hb ⟨j,d,E,e,f⟩=>by
   rcases h.own j d b E (q j d e) f with h1|h1
   .exact h1
   .omega)
  old:=h.old
  pin:=λi x hx=>⟨(h.pin i x hx).1,hext i x (h.pin i x hx).2⟩},λg v hv=>hv.step (λ_ _ x=>x) (λb _ hb=>hav b hb) (Keeps.refl _ _)⟩
theorem Nz{st:St}{fn:Func}{Q:Exit->St->Prop}{T:Exit->St->aQ->Prop}(σR:aQ)(p:∀i o,ag σR i=some o->ag st.σ i=some o)
  (ho:o.op= .call {callee:= .value f,args:=xs,argTypes:=ats}) (hd:H_d o st.n) (hf:aB st f= .clo (.func fid) fst cap) (hc:aK P fid=true) (g:P.funcs[fid]?=some fn) (hb:fn.body=some body)
  (hn:(fst++xs.toList.map (aB st)++cap).length<=fn.ntmps) (hT:Tr P body ⟨fn.ntmps,st.gl,bQ 0 (fst++xs.toList.map (aB st)++cap),σR,st.c,st.c,false⟩ Q) (q:∀e s,Q e s->(e= .normal\/e= .ret)/\s.gl=st.gl/\∃d,fn.results.toList.mapM (jV P s)=some d)
  (u:(∀i o,ag st.σ i=some o->i<st.c)->∀e s,Q e s->∃τ,T e s τ/\∀i o,ag τ i=some o->ag s.σ i=some o\/(ag st.σ i=some o/\ag σR i=none)):
  th P o st (λs'=>∃e s d τ,Q e s/\fn.results.toList.mapM (jV P s)=some d/\T e s τ/\s'={st with σ:=τ,c:=s.c}.put o.dst (iU d)):=by
 intro cx a w K R ⟨β,h⟩ t
 obtain⟨vs,hrun,hsz,hv⟩:=lQ h ho hf hc
 refine h.loose.oper (λc hc=>by rw[ho] at hc;cases hc) ?_
 unfold Oper.wp
 rw[hrun]
 have hbound:∀i o,ag st.σ i=some o->i<st.c:=λi ob ho=>by
  rcases Nat.lt_or_ge i st.c with hlt|hge
  .exact hlt
  .have hf:=h.fresh i hge;rcases(h.ob i ob ho).at with h1|⟨b,C,_,h1,_⟩<;>rw[hf] at h1<;>cases h1
 obtain⟨hfront,_⟩:=h.frontF (F:=Fence.wide) (n:=9) (m:=fn.ntmps) (r:=false) σR p lP (λ_=>rfl) (by rw[Array.size_append,Array.size_replicate,hsz];omega) (Ca hsz hn hv)
 refine rq (cx:=⟨w,GG β σR,uC cx β st.σ σR,β,Fence.wide,9⟩) g hb hT rfl rfl ⟨β,hfront⟩ ?_
 rintro e s y w' hq ⟨x,hr⟩
 obtain⟨he,hgl,d,hgs⟩:=q e s hq
 obtain⟨v,hres,j⟩:=mP hr hgs
 obtain⟨τ,k,l⟩:=u hbound e s hq
 obtain⟨h1,h2⟩:=h.backF (τ:=τ) p hr hgl l
 exact⟨he,v,hres,t _ ⟨e,s,d,τ,hq,hgs,k,rfl⟩ _ _ ⟨x,h1.put o.dst hd (h2 _ _ j)⟩⟩
end
end Go.Proofs.YtnpdibmpndhkjaaGreatDoor
