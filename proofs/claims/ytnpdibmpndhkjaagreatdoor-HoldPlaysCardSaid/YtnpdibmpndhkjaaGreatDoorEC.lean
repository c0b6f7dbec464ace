/- Texts. -/
import Derived.Laws.StructEq
import Derived.Test.YtnpdibmpndhkjaaGreatDoorFB
namespace Go.Proofs.YtnpdibmpndhkjaaGreatDoor
set_option linter.unusedSectionVars false
set_option linter.unusedVariables false
set_option linter.unusedSimpArgs false
open Go.RowKit
variable {α β:Type}{M c d i id j k low n:Nat}{f fid:FuncId}{L gs l0 m:List G}{gl:List (Nat×List G)}{l:List (Exit×St×Nat)}{o:Oper}{s st st0:St}{E:XEnv}{g gx gy:G}{R u:List Nat}{b cu draw r:Bool}{e:Exit}{ops:Array Oper}{t:TypeId}{C:Option Prop}{ps:List Prop}{ρ:List (Nat×Nat)}{xs ys:Array Value}{p q:Operand}{a z:Int}
section
variable {P:Program}
theorem cQ{σ:aQ}{ob:Option Ob}(h:j<i):ag (jO σ i ob) j=ag σ j:=by rw[lh,if_neg aa]
theorem dB{σ:aQ}{ob:Option Ob}(h:j<i):ag ((i,ob)::σ) j=ag σ j:=by rw[am,if_neg aa]
theorem JL{run:bR}(hr:RunOk P run){σ:aQ}{l:List XR}(h:ra P run fid gs gl σ c=some l):∀q∈l,∀i,i<q.2.2.2->ag q.2.1 i=ag σ i:=by
 unfold ra at h;split at h
 .rename_i fn b;split at h
  .rename_i body hb;cases hcond:(aK P fid&&Nat.ble gs.length fn.ntmps) with
   |false=>rw[hcond] at h;cases h
   |true=>
    rw[hcond] at h;simp only[ax] at h;split at h
    .rename_i m hm;obtain⟨l0,h',hl⟩:=Option.map_eq_some_iff.1 h;obtain⟨_,h2⟩:=bW h';intro q hq;obtain⟨x,hx,r,hr1,a⟩:=h2 q (Bf.1 q (by rw[hl];exact hq));split at hr1
     .cases hr1;obtain rfl:=List.mem_singleton.1 a;exact SE (hr.inv _ _ _ _ hm x hx).2.2
     .cases hr1
    .cases h
  .cases h
 .cases h
theorem Ho{run:bR}(hr:RunOk P run){xs:List G}{σ:aQ}{l:List XR}(h:vS P run k xs gl σ c=some l):∀q∈l,∀i,i<q.2.2.2->ag q.2.1 i=ag σ i:=by
 unfold vS at h;split at h
 .rename_i t pe n fr ps az9 bd hob;cases hcond:(Nat.beq xs.length ps.size&&Xi n ps.toList) with
  |false=>rw[hcond] at h;cases h
  |true=>
   rw[hcond] at h;simp only[ax] at h;split at h
   .rename_i m hm;obtain⟨_,h2⟩:=bW h;intro q hq;obtain⟨x,hx,r,hr1,b⟩:=h2 q hq;obtain⟨_,a1,a2⟩:=hr.inv _ _ _ _ hm x hx;split at hr1
    .split at hr1
     .rename_i l2 d;obtain⟨_,g2⟩:=bW hr1;obtain⟨y,hy,f,a,e⟩:=g2 q b;obtain⟨_,b1,b2⟩:=hr.inv _ _ _ _ d y hy;split at a
      .cases a;obtain rfl:=List.mem_singleton.1 e;intro i hi;have hi1:i<k:=Nat.lt_of_lt_of_le hi (pm _ _);have hi2:i<y.2.2:=Nat.lt_of_lt_of_le hi (q8 _ _);show ag (jO y.2.1.σ k _) i=_;rw[cQ hi1,b2 i hi2];show ag (jO x.2.1.σ k _) i=_;rw[cQ hi1,a2 i (Nat.lt_of_lt_of_le hi2 b1)]
      .cases a
     .cases hr1
    .cases hr1
   .cases h
 .cases h
theorem Bh{run:bR}(hr:RunOk P run){l:List XR}(h:od P run o st=some l):∀q∈l,∀i,i<q.2.2.2->ag q.2.1 i=ag st.σ i:=by
 obtain⟨a,d,ty,b,f,p⟩:=o;have one:∀{g:G} {σ:aQ} {c lo:Nat},(∀i,i<lo->ag σ i=ag st.σ i)->∀q∈[((g,σ,c,lo):XR)],∀i,i<q.2.2.2->ag q.2.1 i=ag st.σ i:=λh q hq=>by obtain rfl:=List.mem_singleton.1 hq;exact h
 unfold od at h;dsimp only at h;split at h
 .simp only[cn] at h;obtain⟨⟨e,l⟩,hg,rfl⟩:=h;exact one λi hi=>dB hi
 .simp only[cn] at h;obtain⟨⟨e,l,n⟩,hg,rfl⟩:=h;exact one λi hi=>dB hi
 .simp only[cn] at h;obtain⟨l,hg,rfl⟩:=h;exact one λi hi=>dB hi
 .simp only[cn] at h;obtain⟨l,hg,rfl⟩:=h;exact one λi hi=>dB hi
 .simp only[cn] at h;obtain⟨⟨i,ob⟩,hg,rfl⟩:=h;exact one λi hi=>cQ hi
 .split at h
  .exact JL hr h
  .exact Ho hr h
  .cases h
 .simp only[cn] at h;obtain⟨⟨e,k,m,l⟩,hg,rfl⟩:=h;refine one λi hi=>?_;have h1:=Nat.lt_of_lt_of_le hi (pm _ _);have h2:=Nat.lt_of_lt_of_le hi (q8 _ _);rw[dB h2,li,if_neg aa]
 .simp only[cn] at h;obtain⟨⟨i,ob⟩,hg,rfl⟩:=h;exact one λi hi=>cQ hi
 .simp only[cn] at h;obtain⟨⟨i,ob⟩,hg,rfl⟩:=h;exact one λi hi=>cQ hi
 .simp only[cn] at h;obtain⟨⟨i,ob,n⟩,hg,rfl⟩:=h;exact one λi hi=>cQ hi
 .rename_i t r;cases hg:rC P t (r.map (aB st)) with
  |false=>rw[hg] at h;cases h
  |true=>rw[hg] at h;cases h;exact one λi hi=>dB hi
 .simp only[cn] at h;obtain⟨⟨i,ob⟩,hg,rfl⟩:=h;exact one λi hi=>cQ hi
 .simp only[cn] at h;obtain⟨⟨i,ob⟩,hg,rfl⟩:=h;exact one λi hi=>cQ hi
 .simp only[cn] at h;obtain⟨⟨i,ob,g⟩,hg,rfl⟩:=h;exact one λi hi=>cQ hi
 .simp only[cn] at h;obtain⟨⟨i,ob⟩,hg,rfl⟩:=h;exact one λi hi=>cQ hi
 .simp only[cn] at h;obtain⟨ob,hg,rfl⟩:=h;exact one λi hi=>dB hi
 .split at h
  .cases h;exact one λi hi=>rfl
  .split at h
   .rename_i i t j since seen last hi _ _ _ es clock hm;cases hok:pD es seen last with
    |false=>rw[hok] at h;cases h
    |true=>
     rw[hok] at h;cases h;intro q hq k hk;obtain⟨x,_,rfl⟩:=List.mem_map.1 hq;cases x with
     |none=>rfl
     |some y=>exact cQ hk
   .cases h
  .cases h
 .cases h
theorem JM{run:bR}{st':St}(hgl:st'.gl=st.gl)(a:st'.σ=st.σ)(hc:st'.c=st.c)(hx:∀x∈o.op.operands,aB st' x=aB st x):od P run o st'=od P run o st:=by
 obtain⟨b,e,ty,d,f,g⟩:=o;unfold od;dsimp only;rw[a,hc,hgl];split
 .rw[Ac (λx hx'=>hx x (by simpa[Op.operands] using hx'))]
 .rename_i t x y;rw[hx x fK,hx y fK]
 .rename_i t x;rw[hx x fK]
 .rfl
 .rename_i t x y;rw[hx x fK,hx y fK]
 .rename_i x xs ats;rw[hx x zG,Ad (λy hy=>hx y (by simp[Op.operands,Call.operands,hy]))]
 .rename_i x y t u;rw[hx x zG,hx y zG]
 .rename_i x y t u;rw[hx x zG,hx y zG]
 .rename_i x t;rw[hx x zG]
 .rename_i x y t u;rw[hx x zG,hx y zG]
 .rename_i t r;cases r with
  |none=>rfl
  |some x=>simp only[Option.map_some];rw[hx x fK]
 .rename_i t x y z;rw[hx x fK,hx y fK,hx z fK]
 .rename_i t x y z;rw[hx x fK,hx y fK,hx z fK]
 .rename_i t x y;rw[hx x fK,hx y fK]
 .rename_i t x y z;rw[hx x fK,hx y fK,hx z fK]
 .rename_i t x;rw[hx x fK]
 .rename_i x;rw[hx x fK]
 .rfl
def gI(P:Program)(E:XEnv):Prop:=(∀fid gs gl σ c l,E.kc fid gs gl σ c=some l->∃run,RunOk P run/\ra P run fid gs gl σ c=some l)/\∀fid gs gl R σ c x,E.kcF fid gs gl R σ c=some x->Qt P fid gs gl R σ c x
def UM(P:Program)(E:XEnv)(run:bR)(o:Oper)(st:St)(fid:FuncId)(gs:List G):Option (List XR):=match E.kc fid gs st.gl st.σ st.c with
 |some l=>some l
 |none=>od P run o st
def LO(P:Program)(E:XEnv)(run:bR)(o:Oper)(st:St):Option (List XR):=match o.op with
 | .call {callee:= .value x,args:=xs,argTypes:=_}=>match aB st x with
  | .clo (.func fid) fst cap=>UM P E run o st fid (fst++xs.toList.map (aB st)++cap)
  |_=>od P run o st
 |_=>od P run o st
theorem vT{run:bR}(hr:RunOk P run)(hk:gI P E){l:List XR}(h:LO P E run o st=some l):∃a,RunOk P a/\od P a o st=some l:=by
 unfold LO at h;split at h
 .rename_i x xs ats ho;split at h
  .rename_i fid fst cap hx;unfold UM at h;split at h
   .rename_i f hl;cases h;obtain⟨a,b,h'⟩:=hk.1 _ _ _ _ _ _ hl;refine⟨a,b,?_⟩;obtain⟨c,d,ty,e,g,i⟩:=o;obtain rfl:d=_:=ho;unfold od;simp only[hx];exact h'
   .exact⟨run,hr,h⟩
  .exact⟨run,hr,h⟩
 .exact⟨run,hr,h⟩
def LP(P:Program)(E:XEnv)(run:bR)(fid:FuncId)(gs:List G)(gl:List (Nat×List G))(R:List Nat)(σR:aQ)(c:Nat):Option XF:=match E.kcF fid gs gl R σR c with
 |some x=>some x
 |none=>mK P run fid gs gl R σR c
def LQ(P:Program)(E:XEnv)(run:bR)(fid:FuncId)(gs:List G)(st:St):Option XF:=(λR=>LP P E run fid gs st.gl R (R.map λi=>(i,ag st.σ i)) st.c) (eV st.σ 0 1000000 gs [])
def JN(P:Program)(E:XEnv)(run:bR)(o:Oper)(st:St)(k:Nat):Option XF:=match o.op with
 | .call {callee:= .value x,args:=xs,argTypes:=_}=>match aB st x with
  | .clo (.func fid) fst cap=>LQ P E run fid (fst++xs.toList.map (aB st)++cap) st
  |_=>none
 |_=>tA P run o st k
theorem Nl{run:bR}(hr:RunOk P run)(hk:gI P E){U:aQ}(hd:H_d o st.n)(h:JN P E run o st k=some (g,U,R,cu,c)):X6 P o st g U R cu c/\(cu=false->c=st.c):=by
 unfold JN at h;split at h
 .rename_i x xs ats ho;obtain⟨a,b,ty,d,e,f⟩:=o;obtain rfl:b=_:=ho;split at h
  .rename_i fid fst cap hx;unfold LQ LP at h;dsimp only at h;split at h
   .rename_i x hl;cases h;obtain⟨h1,h2⟩:=hk.2 _ _ _ _ _ _ _ hl _ st _ _ _ _ _ rfl hd hx rfl rfl rfl rfl rfl;have h2:cu=true:=h2;exact⟨h1,λhf=>by rw[hf] at h2;cases h2⟩
   .refine jT hr hd (k:=k) ?_;unfold tA;simp only[hx];exact h
  .cases h
 .exact jT hr hd h
def vU(P:Program)(ops:Array Oper)(K:St->Prop):List Oper->St->Prop
 |[],st=>K st
 |o::rest,st=>(ce st ops o=some true/\th P o st (vU P ops K rest))\/(ce st ops o=some false/\(∀d,o.dst=some d->d<st.n)/\vU P ops K rest (st.put o.dst (.lit undef)))
theorem ux{ops:Array Oper}{K:St->Prop}{cx:Cx}{Q:Exit->Act->World->Prop}(d:∀st a w,K st->mh P cx st a w->Q .normal a w):∀(l:List Oper) (st:St) (a:Act) (w:World),vU P ops K l st->mh P cx st a w->wpListIn cx.F cx.nn P ops Q l a w
 |[],st,a,w,h,r=>wpListIn_nil (d st a w h r)
 |o::rest,st,a,w,h,r=>by
  obtain⟨β,c⟩:=r;rcases h with⟨hg,hs⟩|⟨hg,hd,hr⟩
  .refine wpListIn_step λK' b=>?_;rw[if_pos (cT c hg)];exact hs cx a w K' Q ⟨β,c⟩ λs hs' e w' r'=>b _ _ (ux d rest s e w' hs' r')
  .refine wpListIn_step λK' b=>?_;rw[if_neg (by rw[cT c hg];simp)];exact⟨λf _=>c.loose.fn f,b _ _ (ux d rest _ _ w hr ⟨β,c.put o.dst hd (.imm _ _ (.lit _))⟩)⟩
theorem lG{l:List Oper}{st:St}{Q:Exit->St->Prop}(h:vU P l.toArray (Q .normal) l st):Tr P (.region id l.toArray false) st Q:=λcx a w R r k=>
 wpIn_region_lit (ux (λst' b w' q r'=>k _ st' b w' q r') l st a w h r)
noncomputable def td(P:Program)(E:XEnv)(run:bR)(ops:Array Oper):List Oper->St->Nat->Option (List (St×Nat))
 |[],s,low=>some [(s,low)]
 |o::r,s,low=>match ce s ops o with
  |some true=>bif pj s.n o.dst then
    (bif lE E o.op then(match Bw P E run o s with
     |some g=>td P E run ops r (s.xput o.dst g) low
     |none=>none)
    else match LO P E run o s with
     |some l=>gZ (λq=>dm q.2.2.1 λc=>dm (mj low q.2.2.2) λa=>td P E run ops r ({s with σ:=q.2.1,c:=c}.xput o.dst q.1) a) l
     |none=>none)
   else none
  |some false=>bif pj s.n o.dst then td P E run ops r (s.xput o.dst (.lit undef)) low else none
  |none=>none
theorem Eqv.want{st s:St}(e:Eqv st s)(ops:Array Oper)(o:Oper):ce s ops o=ce st ops o:=by
 unfold ce;split
 .rfl
 .split
  .rw[e.fr]
  .rfl
theorem th.le{o:Oper}{st s:St}{S:St->Prop}(h:th P o s S)(l:Le P st s):th P o st S:=λcx a w K R r k=>h cx a w K R (l cx a w r) k
theorem lH{E:XEnv}{run:bR}(hr:RunOk P run)(ht:dD P E.tp)(hk:gI P E){ops:Array Oper}:∀(l:List Oper) (s:St) (low:Nat) (L:List (St×Nat)),td P E run ops l s low=some L->∀st,Eqv st s->vU P ops (λs'=>∃q∈L,Eqv s' q.1) l st
 |[],s,low,L,h,st,e=>by simp only[td,bg] at h;subst h;exact⟨_,List.mem_singleton.2 rfl,e⟩
 |o::r,s,low,L,h,st,e=>by
  unfold td at h;split at h
  .rename_i hw;rw[e.want] at hw;cases hd:pj s.n o.dst with
   |false=>rw[hd] at h;cases h
   |true=>
    rw[hd] at h;simp only[ax] at h;have hd':=eN hd;cases hp:lE E o.op with
    |true=>
     rw[hp] at h;simp only[ax] at h;split at h
     .rename_i g hg;refine .inl ⟨hw,((mD hr ht hd' (pq hg)).gsn.le e.le).eqv λs' hs'=>⟨s.put o.dst g,?_,by rw[hs'];exact Eqv.refl _⟩⟩;exact lH hr ht hk r _ _ L h _ (oc (Eqv.refl s) _ _)
     .cases h
    |false=>
     rw[hp] at h;simp only[aM] at h;split at h
     .rename_i m hm;simp only[bo] at h;obtain⟨h1,_⟩:=bW h;obtain⟨d,a,hm'⟩:=vT hr hk hm;refine .inl ⟨hw,((Bg a hd' hm').le e.le).eqv λs' hs'=>?_⟩;obtain⟨q,hq,rfl⟩:=hs';obtain⟨L',b,hsub⟩:=h1 q hq;refine⟨_,?_,Eqv.refl _⟩;have:=lH hr ht hk r _ _ L' b _ (oc (Eqv.refl {s with σ:=q.2.1,c:=q.2.2.1}) o.dst q.1);exact runN_mono (λs' ⟨x,hx,he⟩=>⟨x,hsub x hx,he⟩) _ _ this
     .cases h
  .rename_i hw;rw[e.want] at hw;cases hd:pj s.n o.dst with
   |false=>rw[hd] at h;cases h
   |true=>rw[hd] at h;exact .inr ⟨hw,by rw[<-e.n];exact eN hd,lH hr ht hk r _ _ L h _ (oc e _ _)⟩
  .cases h
 where
 runN_mono {ops:Array Oper} {K K':St->Prop} (hk:∀s,K s->K' s):∀(l:List Oper) (st:St),vU P ops K l st->vU P ops K' l st
  |[],st,h=>hk st h
  |o::r,st,h=>by
   rcases h with⟨h1,h2⟩|⟨h1,h2,h3⟩
   .exact .inl ⟨h1,h2.eqv λs hs=>⟨s,runN_mono hk r s hs,Eqv.refl s⟩⟩
   .exact .inr ⟨h1,h2,runN_mono hk r _ h3⟩
theorem dL(s:St)(d:Option Tmp)(g:G):(s.xput d g).gl=s.gl/\(s.xput d g).σ=s.σ:=by cases d<;>exact⟨rfl,rfl⟩
theorem vV{E:XEnv}{run:bR}(hr:RunOk P run)(hk:gI P E){ops:Array Oper}:∀(l:List Oper) (s:St) (low:Nat) (L:List (St×Nat)),td P E run ops l s low=some L->∀q∈L,q.1.gl=s.gl/\q.2<=low/\∀i,i<q.2->ag q.1.σ i=ag s.σ i
 |[],s,low,L,h,q,hq=>by simp only[td,bg] at h;subst h;obtain rfl:=List.mem_singleton.1 hq;exact⟨rfl,Nat.le_refl _,λ_ _=>rfl⟩
 |o::r,s,low,L,h,q,hq=>by
  unfold td at h;split at h
  .cases hd:pj s.n o.dst with
   |false=>rw[hd] at h;cases h
   |true=>
    rw[hd] at h;simp only[ax] at h;cases hp:lE E o.op with
    |true=>
     rw[hp] at h;simp only[ax] at h;split at h
     .rename_i g hg;obtain⟨a,b,c⟩:=vV hr hk r _ _ L h q hq;rw[(dL s o.dst g).1] at a;rw[(dL s o.dst g).2] at c;exact⟨a,b,c⟩
     .cases h
    |false=>
     rw[hp] at h;simp only[aM] at h;split at h
     .rename_i m hm;simp only[bo] at h;obtain⟨_,h2⟩:=bW h;obtain⟨x,hx,L',d,e⟩:=h2 q hq;obtain⟨a,b,c⟩:=vV hr hk r _ _ L' d q e;rw[(dL _ o.dst x.1).1] at a;rw[(dL _ o.dst x.1).2] at c;obtain⟨j,f,hm'⟩:=vT hr hk hm;refine⟨a,Nat.le_trans b (pm _ _),λi hi=>(c i hi).trans (Bh f hm' x hx i (Nat.lt_of_lt_of_le hi (Nat.le_trans b (q8 _ _))))⟩
     .cases h
  .cases hd:pj s.n o.dst with
   |false=>rw[hd] at h;cases h
   |true=>rw[hd] at h;simp only[ax] at h;obtain⟨a,b,c⟩:=vV hr hk r _ _ L h q hq;rw[(dL _ o.dst _).1] at a;rw[(dL _ o.dst _).2] at c;exact⟨a,b,c⟩
  .cases h
noncomputable def jR(P:Program)(E:XEnv)(run:bR)(ops:Array Oper):List Oper->St->Nat->Option (St×Nat×List OI)
 |[],s,low=>some (s,low,[])
 |o::r,s,low=>match ce s ops o with
  |some true=>bif pj s.n o.dst then
    (bif lE E o.op then(match Bw P E run o s with
     |some g=>dm (bif cG o then 0 else yJ s o) λf=>match jR P E run ops r (s.xput o.dst g) low with
      |some (s',lo,inf)=>some (s',lo,.rd f::inf)
      |none=>none
     |none=>none)
    else bif cG o then none else match LO P E run o s with
     |some [(g,σ,c,lo)]=>dm c λc=>dm lo λlo=>dm (mj low lo) λa=>match jR P E run ops r ({s with σ:=σ,c:=c}.xput o.dst g) a with
      |some (s',lo',inf)=>some (s',lo',.wr lo::inf)
      |none=>none
     |_=>none)
   else none
  |some false=>match jR P E run ops r (s.xput o.dst (.lit undef)) low with
   |some (s',lo,inf)=>some (s',lo,.rd 0::inf)
   |none=>none
  |none=>none
theorem Sm.put{st s:St}(e:Sm st s)(σ:aQ)(c:Nat)(d:Option Tmp)(g:G):Sm ({st with σ:=σ,c:=c}.put d g) ({s with σ:=σ,c:=c}.xput d g):=by
 cases d with
 |none=>exact⟨e.n,e.gl,rfl,rfl,e.p,e.r,e.fr⟩
 |some d=>exact⟨e.n,e.gl,rfl,rfl,e.p,e.r,λi=>by show aD ((d,g)::s.fr) i=aD ((d,g)::st.fr) i;rw[aO,aO,e.fr]⟩
theorem Sm.put'{st s:St}(e:Sm st s)(d:Option Tmp)(g:G):Sm (st.put d g) (s.xput d g):=by
 cases d with
 |none=>exact⟨e.n,e.gl,e.σ,e.c,e.p,e.r,e.fr⟩
 |some d=>exact⟨e.n,e.gl,e.σ,e.c,e.p,e.r,λi=>by show aD ((d,g)::s.fr) i=aD ((d,g)::st.fr) i;rw[aO,aO,e.fr]⟩
theorem mF{E:XEnv}{run:bR}(hr:RunOk P run)(ht:dD P E.tp)(hk:gI P E){ops:Array Oper}{K:St->Prop}:∀(l:List Oper) (s:St) (low:Nat) (s':St) (lo:Nat) (inf:List OI),jR P E run ops l s low=some (s',lo,inf)->∀st,Sm st s->(∀st',Sm st' s'->K st')->S8 P ops K l inf st
 |[],s,low,s',lo,inf,h,st,e,k=>by simp only[jR,bg,Prod.mk.injEq] at h;obtain⟨rfl,_,rfl⟩:=h;exact k st e
 |o::r,s,low,s',lo,inf,h,st,e,k=>by
  unfold jR at h;split at h
  .rename_i hw;rw[e.eqv.want] at hw;cases hd:pj s.n o.dst with
   |false=>rw[hd] at h;cases h
   |true=>
    rw[hd] at h;simp only[ax] at h;have hd':=eN hd;cases hp:lE E o.op with
    |true=>
     rw[hp] at h;simp only[ax] at h;split at h
     .rename_i g hg;rw[bo] at h;split at h
      .rename_i s2 f a h2;cases h;refine⟨g,st.put o.dst g,⟨λhf=>by rw[hf];rfl,.inl ⟨hw,.inr ⟨_,rfl,rfl,λst' h1 h2' h3 h4=>?_⟩⟩⟩,mF hr ht hk r _ _ s' _ _ h2 _ (e.put' o.dst g) k⟩;have hgs:∀x,aB st' x=aB s x\/True:=λx=> .inr trivial;refine mD hr ht (by rw[h1,<-e.n];exact hd') ?_;cases hfr:cG o with
       |true=>
        have:iE P E run o st'=iE P E run o s:=by
         refine Be (h2'.trans e.gl.symm) (λi hi=>?_) (λx hx=>by rw[h4 x hx,e.eqv.gev]);exfalso;obtain⟨v,w,ty,y,z,A⟩:=o;unfold cG at hfr;unfold yJ at hi;cases w with
         |call c=>
          obtain⟨u,args,ats⟩:=c;cases u with
          |builtin b=>cases b<;>simp_all
          |value x=>simp at hfr
          |invoke r m=>simp at hfr
         |_=>simp_all
        rw[this];exact pq hg
       |false=>rw[hfr] at h3;have:iE P E run o st'=iE P E run o s:=Be (h2'.trans e.gl.symm) (λi hi=>(h3 i hi).trans (by rw[e.σ])) (λx hx=>by rw[h4 x hx,e.eqv.gev]);rw[this];exact pq hg
      .cases h
     .cases h
    |false=>
     rw[hp] at h;simp only[aM] at h;cases hfr:cG o with
     |true=>rw[hfr] at h;cases h
     |false=>
      rw[hfr] at h;simp only[aM] at h;split at h
      .rename_i g σ c j hm;obtain⟨p,d,hm'⟩:=vT hr hk hm;simp only[bo] at h;split at h
       .rename_i s2 f a h2;cases h;refine⟨g,{st with σ:=σ,c:=c}.put o.dst g,⟨(λhf=>by rw[hfr] at hf;cases hf),.inl ⟨hw,.inl ⟨j,σ,c,rfl,rfl,λst' hl hx=>?_,λi hi=>(Bh d hm' _ (List.mem_singleton.2 rfl) i hi).trans (by rw[e.σ])⟩⟩⟩,mF hr ht hk r _ _ s' _ _ h2 _ (e.put σ c o.dst g) k⟩;obtain⟨h1,h2',h3,h4,h5⟩:=hl;have:od P p o st'=some [(g,σ,c,j)]:=by rw[<-hm'];exact JM (h2'.trans e.gl.symm) (h3.trans e.σ.symm) (h4.trans e.c.symm) (λx hx'=>by rw[hx x hx',e.eqv.gev])
        refine(Bg d (by rw[h1,<-e.n];exact hd') this).gs λs3 t=>?_;obtain⟨q,hq,rfl⟩:=t;obtain rfl:=List.mem_singleton.1 hq;rfl
       .cases h
      .cases h
  .rename_i hw;rw[e.eqv.want] at hw;split at h
   .rename_i s2 f a h2;cases h;exact⟨.lit undef,_,⟨λ_=>rfl,.inr ⟨hw,rfl,rfl,rfl⟩⟩,mF hr ht hk r _ _ s' _ _ h2 _ (e.put' o.dst _) k⟩
   .cases h
  .cases h
theorem sq{E:XEnv}{run:bR}(hr:RunOk P run)(hk:gI P E){ops:Array Oper}:∀(l:List Oper) (s:St) (low:Nat) (s':St) (lo:Nat) (inf:List OI),jR P E run ops l s low=some (s',lo,inf)->s'.gl=s.gl/\lo<=low/\∀i,i<lo->ag s'.σ i=ag s.σ i
 |[],s,low,s',lo,inf,h=>by simp only[jR,bg,Prod.mk.injEq] at h;obtain⟨rfl,rfl,_⟩:=h;exact⟨rfl,Nat.le_refl _,λ_ _=>rfl⟩
 |o::r,s,low,s',lo,inf,h=>by
  unfold jR at h;split at h
  .cases hd:pj s.n o.dst with
   |false=>rw[hd] at h;cases h
   |true=>
    rw[hd] at h;simp only[ax] at h;cases hp:lE E o.op with
    |true=>
     rw[hp] at h;simp only[ax] at h;split at h
     .rename_i g hg;rw[bo] at h;split at h
      .rename_i s2 f e h2;cases h;obtain⟨a,b,c⟩:=sq hr hk r _ _ _ _ _ h2;rw[(dL s o.dst g).1] at a;rw[(dL s o.dst g).2] at c;exact⟨a,b,c⟩
      .cases h
     .cases h
    |false=>
     rw[hp] at h;simp only[aM] at h;cases hfr:cG o with
     |true=>rw[hfr] at h;cases h
     |false=>
      rw[hfr] at h;simp only[aM] at h;split at h
      .rename_i g σ c m hm;obtain⟨k,j,hm'⟩:=vT hr hk hm;simp only[bo] at h;split at h
       .rename_i s2 f e h2;cases h;obtain⟨a,b,d⟩:=sq hr hk r _ _ _ _ _ h2;rw[(dL _ o.dst g).1] at a;rw[(dL _ o.dst g).2] at d;exact⟨a,Nat.le_trans b (pm _ _),λi hi=>(d i hi).trans (Bh j hm' _ (List.mem_singleton.2 rfl) i (Nat.lt_of_lt_of_le hi (Nat.le_trans b (q8 _ _))))⟩
       .cases h
      .cases h
  .split at h
   .rename_i s2 f e h2;cases h;obtain⟨a,b,c⟩:=sq hr hk r _ _ _ _ _ h2;rw[(dL _ o.dst _).1] at a;rw[(dL _ o.dst _).2] at c;exact⟨a,b,c⟩
   .cases h
  .cases h
def Hp(c:Nat):aQ->aQ->aQ
 |[],σ=>σ
 |(i,ob)::U,σ=>bif Nat.ble c i then(i,ob)::Hp c U σ else jO (Hp c U σ) i ob
theorem ss(c:Nat)(i:Nat):∀(U σ:aQ),ag (Hp c U σ) i=ag (U++σ) i
 |[],σ=>rfl
 |(j,ob)::U,σ=>by
  unfold Hp;rw[List.cons_append,am];cases Nat.ble c j with
  |true=>rw[ax,am,ss c i U σ]
  |false=>rw[aM,lh,ss c i U σ]
theorem lJ{a b:aQ}(i:Nat)(h:ag a i=ag b i):∀(V:aQ),ag (V++a) i=ag (V++b) i
 |[]=>h
 |(j,ob)::V=>by rw[List.cons_append,List.cons_append,am,am,lJ i h V]
def Pr:aQ->Nat->Nat
 |[],m=>m
 |(i,_)::U,m=>Pr U (mj i m)
theorem Fm:∀(U:aQ) (m:Nat),Pr U m<=m
 |[],m=>Nat.le_refl _
 |(i,_)::U,m=>Nat.le_trans (Fm U _) (q8 _ _)
theorem Hq:∀(U:aQ) (m:Nat) {x:Nat},x<Pr U m->x∉U.map (·.1)
 |[],m,x,h=>aC
 |(i,ob)::U,m,x,h=>λhx=>by
  rcases List.mem_cons.1 hx with e|hx
  .have h1:=Nat.le_trans (Fm U (mj i m)) (pm i m);have h2:x<Pr U (mj i m):=h;have e:x=i:=e;omega
  .exact Hq U (mj i m) h hx
def xck(P:Program)(E:XEnv)(run:bR)(s:St)(o:Oper)(g:G)(V:aQ):Bool:=(match iE P E run o {s with σ:=V++s.σ} with
 |some g'=>VA g' g
 |none=>false)&&(dF {s with σ:=V++s.σ} o).all λi=>(dF s o).any (Nat.beq i)
def DS(U σ:aQ):aQ:=(U.map (·.1)).map λi=>(i,ag σ i)
def Nm(o:Oper)(k:Nat):Nat:=bif aai o then k+1 else k
noncomputable def oe(P:Program)(E:XEnv)(run:bR)(ops:Array Oper):List Oper->St->Nat->Nat->Option (St×Nat×List DI)
 |[],s,low,k=>some (s,low,[])
 |o::r,s,low,k=>match ce s ops o with
  |some true=>bif pj s.n o.dst then
    (bif lE E o.op then(match Bw P E run o s with
     |some g=>match oe P E run ops r (s.xput o.dst g) low k with
      |some (s',lo,inf)=>some (s',lo,.rd (dF s o) (xck P E run s o g)::inf)
      |none=>none
     |none=>none)
    else bif cG o then none else match JN P E run o s k with
     |some (g,U,R,cu,c)=>dm c λc=>dm (Pr U low) λa=>dm (Nm o k) λk'=>match oe P E run ops r ({s with σ:=Hp s.c U s.σ,c:=c}.xput o.dst g) a k' with
      |some (s',lo,inf)=>some (s',lo,.wr R U (DS U s.σ) cu::inf)
      |none=>none
     |none=>none)
   else none
  |some false=>bif pj s.n o.dst then(dm (Nm o k) λk'=>match oe P E run ops r (s.xput o.dst (.lit undef)) low k' with
   |some (s',lo,inf)=>some (s',lo,.rd [] (λ_=>false)::inf)
   |none=>none) else none
  |none=>none
theorem SH(e:Eqv st s)(U:aQ)(c:Nat):Eqv {st with σ:=U++st.σ,c:=c} {s with σ:=Hp s.c U s.σ,c:=c}:=
 ⟨e.n,e.gl,e.fr,λi=>by show ag (Hp s.c U s.σ) i=ag (U++st.σ) i;rw[ss];exact lJ i (e.σ i) U,rfl,e.p,e.r⟩
theorem mG{E:XEnv}{run:bR}(hr:RunOk P run)(ht:dD P E.tp)(hkc:gI P E){ops:Array Oper}{K:St->Prop}:∀(l:List Oper) (s:St) (low k:Nat) (s':St) (lo:Nat) (inf:List DI),oe P E run ops l s low k=some (s',lo,inf)->∀st,Eqv st s->(∀st',Eqv st' s'->K st')->PQ P ops K l inf st
 |[],s,low,k,s',lo,inf,h,st,e,f=>by simp only[oe,bg,Prod.mk.injEq] at h;obtain⟨rfl,_,rfl⟩:=h;exact f st e
 |o::r,s,low,k,s',lo,inf,h,st,e,f=>by
  unfold oe at h;split at h
  .rename_i hw;rw[e.want] at hw;cases hd:pj s.n o.dst with
   |false=>rw[hd] at h;cases h
   |true=>
    rw[hd] at h;simp only[ax] at h;have hd':=eN hd;cases hp:lE E o.op with
    |true=>
     rw[hp] at h;simp only[ax] at h;split at h
     .rename_i g hg;split at h
      .rename_i s2 j b h2;cases h;refine⟨g,st.put o.dst g,⟨λhf=>⟨_,by rw[iw hf]⟩,.inl ⟨hw,.inr ⟨_,_,rfl,rfl,λV hV a h1 h2' h3 h4=>?_⟩⟩⟩,mG hr ht hkc r _ _ _ s' _ _ h2 _ (oc e o.dst g) f⟩;have key:iE P E run o {s with σ:=V++s.σ}=some g/\∀i∈dF {s with σ:=V++s.σ} o,i∈dF s o:=by
        rcases hV with rfl|hV
        .exact⟨pq hg,λi hi=>hi⟩
        .unfold xck at hV;simp only[bA] at hV;obtain⟨d,m⟩:=hV;refine⟨?_,λi hi=>?_⟩
         .split at d
          .rename_i u hg';rw[hg',Nt d]
          .cases d
         .obtain⟨x,hx,hb⟩:=List.any_eq_true.1 (List.all_eq_true.1 m i hi);rw[bc hb];exact hx
       refine mD hr ht (by rw[h1,<-e.n];exact hd') ?_;have:iE P E run o a=iE P E run o {s with σ:=V++s.σ}:=mJ (h2'.trans e.gl.symm) (λi hi=>(h3 i (key.2 i hi)).trans (lJ i (e.σ i).symm V)) (λx hx=>by rw[h4 x hx,<-e.gev];cases x<;>rfl);rw[this];exact key.1
      .cases h
     .cases h
    |false=>
     rw[hp] at h;simp only[aM] at h;cases hfr:cG o with
     |true=>rw[hfr] at h;cases h
     |false=>
      rw[hfr] at h;simp only[aM] at h;split at h
      .rename_i g U R cu c hm;simp only[bo] at h;split at h
       .rename_i s2 j b h2;cases h;obtain⟨q,t⟩:=Nl hr hkc hd' hm;refine⟨g,{st with σ:=U++st.σ,c:=c}.put o.dst g,⟨(λhf=>by rw[hfr] at hf;cases hf),.inl ⟨hw,.inl ⟨R,U,_,cu,c,rfl,rfl,(λhf=>(t hf).trans e.c),λx hx=>?_,?_,λa e1 e2 e3 e4 e5 e6=>?_⟩⟩⟩,mG hr ht hkc r _ _ _ s' _ _ h2 _ (oc (SH e U c) o.dst g) f⟩
        .unfold DS;rw[lL,if_pos hx];exact e.σ x
        .unfold DS;simp
        .refine q a (e1.trans e.n.symm) (e2.trans e.gl.symm) (e3.trans ?_) (λhc=>(e4 hc).trans e.c.symm) (λx hx=>(e5 x hx).trans (e.σ x).symm) (λx hx=>(e6 x hx).trans (by rw[e.gev]));simp only[St.pr,e.p,e.r]
       .cases h
      .cases h
  .rename_i hw;rw[e.want] at hw;cases hd:pj s.n o.dst with
   |false=>rw[hd] at h;cases h
   |true=>
    rw[hd] at h;simp only[ax,bo] at h;split at h
    .rename_i s2 j b h2;cases h;exact⟨.lit undef,_,⟨λ_=>⟨_,rfl⟩,.inr ⟨hw,rfl,rfl,_,rfl⟩⟩,mG hr ht hkc r _ _ _ s' _ _ h2 _ (oc e o.dst _) f⟩
    .cases h
  .cases h
theorem su{E:XEnv}{run:bR}{ops:Array Oper}:∀(l:List Oper) (s:St) (low k:Nat) (s':St) (lo:Nat) (inf:List DI),oe P E run ops l s low k=some (s',lo,inf)->s'.gl=s.gl/\lo<=low/\∀i,i<lo->ag s'.σ i=ag s.σ i
 |[],s,low,k,s',lo,inf,h=>by simp only[oe,bg,Prod.mk.injEq] at h;obtain⟨rfl,rfl,_⟩:=h;exact⟨rfl,Nat.le_refl _,λ_ _=>rfl⟩
 |o::r,s,low,k,s',lo,inf,h=>by
  unfold oe at h;split at h
  .cases hd:pj s.n o.dst with
   |false=>rw[hd] at h;cases h
   |true=>
    rw[hd] at h;simp only[ax] at h;cases hp:lE E o.op with
    |true=>
     rw[hp] at h;simp only[ax] at h;split at h
     .rename_i g hg;split at h
      .rename_i s2 f e h2;cases h;obtain⟨a,b,c⟩:=su r _ _ _ _ _ _ h2;rw[(dL s o.dst g).1] at a;rw[(dL s o.dst g).2] at c;exact⟨a,b,c⟩
      .cases h
     .cases h
    |false=>
     rw[hp] at h;simp only[aM] at h;cases hfr:cG o with
     |true=>rw[hfr] at h;cases h
     |false=>
      rw[hfr] at h;simp only[aM] at h;split at h
      .rename_i g U R cu c hm;simp only[bo] at h;split at h
       .rename_i s2 f e h2;cases h;obtain⟨a,b,d⟩:=su r _ _ _ _ _ _ h2;rw[(dL _ o.dst g).1] at a;rw[(dL _ o.dst g).2] at d;refine⟨a,Nat.le_trans b (Fm U low),λi hi=>(d i hi).trans ?_⟩;show ag (Hp s.c U s.σ) i=_;rw[ss,fE (Hq U low (Nat.lt_of_lt_of_le hi b))]
       .cases h
      .cases h
  .cases hd:pj s.n o.dst with
   |false=>rw[hd] at h;cases h
   |true=>
    rw[hd] at h;simp only[ax,bo] at h;split at h
    .rename_i s2 f e h2;cases h;obtain⟨a,b,c⟩:=su r _ _ _ _ _ _ h2;rw[(dL _ o.dst _).1] at a;rw[(dL _ o.dst _).2] at c;exact⟨a,b,c⟩
    .cases h
  .cases h
def LR:Nat->St->St
 |0,s=>s
 |n+1,s=>dm (s.c+1) λc=>LR n {s with σ:=(s.c,some BC)::s.σ,c:=c}
theorem vW:∀(n:Nat) (s:St),LR n s=ff n s
 |0,s=>rfl
 |n+1,s=>by unfold LR ff;rw[bo];exact vW n _
theorem sv:∀(n:Nat) (s:St),(ff n s).n=s.n/\(ff n s).gl=s.gl/\s.c<=(ff n s).c/\∀i,i<s.c->ag (ff n s).σ i=ag s.σ i
 |0,s=>⟨rfl,rfl,Nat.le_refl _,λ_ _=>rfl⟩
 |n+1,s=>by obtain⟨a,b,c,d⟩:=sv n {s with σ:=(s.c,some BC)::s.σ,c:=s.c+1};have hc:s.c+1<=(ff n {s with σ:=(s.c,some BC)::s.σ,c:=s.c+1}).c:=c;refine⟨a,b,by unfold ff;omega,λi hi=>?_⟩;unfold ff;rw[d i (by show i<s.c+1;omega)];exact dB hi
def UN:List Oper->Nat
 |[]=>0
 |o::r=>Nm o (UN r)
noncomputable def vX(P:Program)(E:XEnv)(run:bR)(ops:Array Oper)(s:St)(low:Nat):Option (List (Exit×St×Nat)):=
 match oe P E run ops ops.toList (LR (UN ops.toList) s) (mj low s.c) s.c with
 |some (s',lo,inf)=>bif(dm s.n λn=>kL ops.toList inf n) then some [(.normal,s',lo)] else none
 |none=>none
def SI(E:XEnv)(o:Oper):Bool:=lE E o.op||(match o.op with
 | .alloc _| .box .. | .buildSlice .. | .makeSlice .. | .store .. | .mapUpdate .. | .insert .. | .mapEntry .. | .entryStore .. =>true
 | .call {callee:= .builtin .append,.. }=>true
 | .call {callee:= .value _,.. }=>true
 |_=>false)
def X3(E:XEnv)(l:List Oper)(i:Nat):Bool:=match l[i]? with
 |some o=> !lE E o.op
 |none=>false
def SJ(E:XEnv)(l:List Oper):Bool:=l.all (SI E)&&(eP l).any λq=>X3 E l q.1||X3 E l q.2
theorem kJ(s:St)(d:Option Tmp)(g:G)(i:Nat)(h:d≠some i):aD (s.xput d g).fr i=aD s.fr i:=by
 cases d with
 |none=>rfl
 |some d=>show aD ((d,g)::s.fr) i=_;rw[aO,if_neg (λe=>h (by rw[e]))]
theorem pp{E:XEnv}{run:bR}{ops:Array Oper}:∀(l:List Oper) (s:St) (low:Nat) (L:List (St×Nat)),td P E run ops l s low=some L->∀q∈L,∀i,(∀o∈l,o.dst≠some i)->aD q.1.fr i=aD s.fr i
 |[],s,low,L,h,q,hq,i,hi=>by simp only[td,bg] at h;subst h;obtain rfl:=List.mem_singleton.1 hq;rfl
 |o::r,s,low,L,h,q,hq,i,hi=>by
  have ho:=hi o aC;have hr:∀o∈r,o.dst≠some i:=λo ho=>hi o (by simp[ho]);unfold td at h;split at h
  .cases hd:pj s.n o.dst with
   |false=>rw[hd] at h;cases h
   |true=>
    rw[hd] at h;simp only[ax] at h;cases hp:lE E o.op with
    |true=>
     rw[hp] at h;simp only[ax] at h;split at h
     .exact(pp r _ _ L h q hq i hr).trans (kJ s o.dst _ i ho)
     .cases h
    |false=>
     rw[hp] at h;simp only[aM] at h;split at h
     .simp only[bo] at h;obtain⟨_,h2⟩:=bW h;obtain⟨x,hx,L',a,b⟩:=h2 q hq;exact(pp r _ _ L' a q b i hr).trans (kJ _ o.dst _ i ho)
     .cases h
  .cases hd:pj s.n o.dst with
   |false=>rw[hd] at h;cases h
   |true=>rw[hd] at h;simp only[ax] at h;exact(pp r _ _ L h q hq i hr).trans (kJ s o.dst _ i ho)
  .cases h
theorem mH{E:XEnv}{run:bR}{ops:Array Oper}:∀(l:List Oper) (s:St) (low:Nat) (s':St) (lo:Nat) (inf:List OI),jR P E run ops l s low=some (s',lo,inf)->∀i,(∀o∈l,o.dst≠some i)->aD s'.fr i=aD s.fr i
 |[],s,low,s',lo,inf,h,i,hi=>by simp only[jR,bg,Prod.mk.injEq] at h;obtain⟨rfl,rfl,_⟩:=h;rfl
 |o::r,s,low,s',lo,inf,h,i,hi=>by
  have ho:=hi o aC;have hr:∀o∈r,o.dst≠some i:=λo ho=>hi o (by simp[ho]);unfold jR at h;split at h
  .cases hd:pj s.n o.dst with
   |false=>rw[hd] at h;cases h
   |true=>
    rw[hd] at h;simp only[ax] at h;cases hp:lE E o.op with
    |true=>
     rw[hp] at h;simp only[ax] at h;split at h
     .rw[bo] at h;split at h
      .rename_i s2 b a h2;cases h;exact(mH r _ _ _ _ _ h2 i hr).trans (kJ s o.dst _ i ho)
      .cases h
     .cases h
    |false=>
     rw[hp] at h;simp only[aM] at h;cases hfr:cG o with
     |true=>rw[hfr] at h;cases h
     |false=>
      rw[hfr] at h;simp only[aM] at h;split at h
      .simp only[bo] at h;split at h
       .rename_i s2 b a h2;cases h;exact(mH r _ _ _ _ _ h2 i hr).trans (kJ _ o.dst _ i ho)
       .cases h
      .cases h
  .split at h
   .rename_i s2 b a h2;cases h;exact(mH r _ _ _ _ _ h2 i hr).trans (kJ s o.dst _ i ho)
   .cases h
  .cases h
theorem mI{E:XEnv}{run:bR}{ops:Array Oper}:∀(l:List Oper) (s:St) (low k:Nat) (s':St) (lo:Nat) (inf:List DI),oe P E run ops l s low k=some (s',lo,inf)->∀i,(∀o∈l,o.dst≠some i)->aD s'.fr i=aD s.fr i
 |[],s,low,k,s',lo,inf,h,i,hi=>by simp only[oe,bg,Prod.mk.injEq] at h;obtain⟨rfl,rfl,_⟩:=h;rfl
 |o::r,s,low,k,s',lo,inf,h,i,hi=>by
  have ho:=hi o aC;have hr:∀o∈r,o.dst≠some i:=λo ho=>hi o (by simp[ho]);unfold oe at h;split at h
  .cases hd:pj s.n o.dst with
   |false=>rw[hd] at h;cases h
   |true=>
    rw[hd] at h;simp only[ax] at h;cases hp:lE E o.op with
    |true=>
     rw[hp] at h;simp only[ax] at h;split at h
     .split at h
      .rename_i s2 b a h2;cases h;exact(mI r _ _ _ _ _ _ h2 i hr).trans (kJ s o.dst _ i ho)
      .cases h
     .cases h
    |false=>
     rw[hp] at h;simp only[aM] at h;cases hfr:cG o with
     |true=>rw[hfr] at h;cases h
     |false=>
      rw[hfr] at h;simp only[aM] at h;split at h
      .simp only[bo] at h;split at h
       .rename_i s2 b a h2;cases h;exact(mI r _ _ _ _ _ _ h2 i hr).trans (kJ _ o.dst _ i ho)
       .cases h
      .cases h
  .cases hd:pj s.n o.dst with
   |false=>rw[hd] at h;cases h
   |true=>
    rw[hd] at h;simp only[ax,bo] at h;split at h
    .rename_i s2 b a h2;cases h;exact(mI r _ _ _ _ _ _ h2 i hr).trans (kJ s o.dst _ i ho)
    .cases h
  .cases h
theorem Bi:∀(n:Nat) (s:St),(ff n s).fr=s.fr
 |0,s=>rfl
 |n+1,s=>by unfold ff;exact Bi n _
theorem xC{E:XEnv}{run:bR}{s:St}{ops:Array Oper}(low:Nat):∀(l:List Oper) (fr fr1:Fr),we E l=true->BA s.n l=true->tC P E run s (nr P ops l) fr=some fr1->td P E run ops l {s with fr:=fr} low=some [({s with fr:=fr1},low)]
 |[],fr,fr1,hp,hd,h=>by have h:some fr=some fr1:=h;cases h;rfl
 |o::r,fr,fr1,hp,hd,h=>by
  have h:(match D5 fr (Dl ops o) with
   |some true=>Xj P E run s ⟨Dl ops o,o.dst,HC P o.op,o⟩ fr λg=>tC P E run s (nr P ops r) (tB o.dst g fr)
   |some false=>tC P E run s (nr P ops r) (tB o.dst (.lit undef) fr)
   |none=>none)=some fr1:=h
  simp only[we,BA,List.all_cons,bA] at hp hd;unfold td;rw[<-Bx];have hdk:pj ({s with fr:=fr}:St).n o.dst=true:=hd.1;split at h
  .rename_i hg;obtain⟨g,h1,h2⟩:=Bz h;simp only[hdk,hp.1,ax,HD,h1];have:=xC low r _ _ hp.2 hd.2 h2;rw[wd] at this;exact this
  .rename_i hg;simp only[hdk,ax];have:=xC low r _ _ hp.2 hd.2 h;rw[wd] at this;exact this
  .cases h
theorem uy{E:XEnv}{run:bR}{s:St}{ops:Array Oper}(low:Nat):∀(l:List Oper) (fr fr1:Fr),we E l=true->BA s.n l=true->tC P E run s (nr P ops l) fr=some fr1->∃a,jR P E run ops l {s with fr:=fr} low=some ({s with fr:=fr1},low,a)/\∀q∈a,∃f,q= .rd f
 |[],fr,fr1,hp,hd,h=>by have h:some fr=some fr1:=h;cases h;exact⟨[],rfl,aC⟩
 |o::r,fr,fr1,hp,hd,h=>by
  have h:(match D5 fr (Dl ops o) with
   |some true=>Xj P E run s ⟨Dl ops o,o.dst,HC P o.op,o⟩ fr λg=>tC P E run s (nr P ops r) (tB o.dst g fr)
   |some false=>tC P E run s (nr P ops r) (tB o.dst (.lit undef) fr)
   |none=>none)=some fr1:=h
  simp only[we,BA,List.all_cons,bA] at hp hd;have hdk:pj ({s with fr:=fr}:St).n o.dst=true:=hd.1;split at h
  .rename_i hg;obtain⟨g,h1,h2⟩:=Bz h;obtain⟨a,h3,h4⟩:=uy low r _ _ hp.2 hd.2 h2;rw[wd] at h3;refine⟨.rd (bif cG o then 0 else yJ {s with fr:=fr} o)::a,?_,λq hq=>?_⟩
   .unfold jR;rw[<-Bx,hg];simp only[hdk,hp.1,ax,HD,h1,bo,h3]
   .rcases List.mem_cons.1 hq with rfl|hq
    .exact⟨_,rfl⟩
    .exact h4 q hq
  .rename_i hg;obtain⟨a,h3,h4⟩:=uy low r _ _ hp.2 hd.2 h;rw[wd] at h3;refine⟨.rd 0::a,?_,λq hq=>?_⟩
   .unfold jR;rw[<-Bx,hg];simp only[h3]
   .rcases List.mem_cons.1 hq with rfl|hq
    .exact⟨_,rfl⟩
    .exact h4 q hq
  .cases h
def SK(E:XEnv)(l:List Oper)(a:Bool)(n:Nat):Bool:=we E l&&BA n l&&(!a||wv l n)
noncomputable def Ps(P:Program)(E:XEnv)(run:bR)(ops:Array Oper)(s:St)(low:Nat):Option (List (Exit×St×Nat)):=match s with
 |⟨n,gl,fr,σ,c,p,rr⟩=>match tC P E run ⟨n,gl,fr,σ,c,p,rr⟩ (nr P ops ops.toList) fr with
  |some fr1=>Fu (Bt ops.toList fr fr1) λa=>some [(.normal,⟨n,gl,a,σ,c,p,rr⟩,low)]
  |none=>none
noncomputable def JO(ops:Array Oper)(s:St)(l:Option (List (Exit×St×Nat))):Option (List (Exit×St×Nat)):=match l with
 |some l=>some (l.map λq=>(q.1,{q.2.1 with fr:=Bt ops.toList s.fr q.2.1.fr},q.2.2))
 |none=>none
noncomputable def Hr(x:Operand)(s:St):St:=match x with
 | .tmp t=>{s with fr:=SN t s.fr}
 |_=>s
theorem Hs(x:Operand)(s:St):Le P s (Hr x s):=by
 cases x with
 |tmp t=>exact LV λi=>by rw[xF];split<;>first|exact .inr rfl|exact .inl rfl
 |_=>exact Le.refl s
theorem JP(x:Operand)(s:St):(Hr x s).gl=s.gl/\(Hr x s).σ=s.σ:=by cases x<;>exact⟨rfl,rfl⟩
def Pt:LoopState->Bool
 | .busy=>false
 |_=>true
def JQ(P:Program)(run:bR)(g:Operand)(ps:Array Tmp)(az9 bd:Code)(s:St)(low:Nat):Option (List (Exit×St×Nat)):=bif s.r then none else match aB s g with
 | .clo (.func fid) fst cap=>match P.funcs[fid]? with
  |some fn=>match fn.body,fn.results.toList with
   |some body,[]=>bif aK P fid&&Nat.ble (fst++[G.yld s.c]++cap).length fn.ntmps then
     (dm s.c λc=>match run body ⟨fn.ntmps,s.gl,bQ 0 (fst++[G.yld c]++cap),(c,some ⟨0,[],some (.loop .ready none s.n s.fr ps az9 bd)⟩)::s.σ,c+1,c+1,false⟩ Hd with
     |some l=>gZ (λq=>match tc q.1,ag q.2.1.σ c with
      |true,some ⟨_,[],some (.loop ls pe _ _ _ _ _)⟩=>bif Pt ls then
        (match pe with
        |none=>some [(.normal,{s with σ:=vQ q.2.1.σ c,c:=q.2.1.c},mj low (mj c q.2.2))]
        |some cd=>run cd {s with σ:=vQ q.2.1.σ c,c:=q.2.1.c} (mj low (mj c q.2.2)))
       else none
      |_,_=>none) l
     |none=>none)
    else none
   |_,_=>none
  |none=>none
 |_=>none
def xD(run:bR)(b:Code)(q:Exit×St×Nat):Option (List (Exit×St×Nat)):=match q.1 with
 | .normal=>run b q.2.1 q.2.2
 |_=>some [q]
def DT(run:bR)(b:Code)(m:Option (List (Exit×St×Nat))):Option (List (Exit×St×Nat)):=match m with
 |some l=>gZ (xD run b) l
 |none=>none
def UO(id:Nat)(q:Exit×St×Nat):Exit×St×Nat:=match q.1 with| .exit i=>bif Nat.beq i id then(.normal,q.2) else q|_=>q
def Fo(id:Nat)(m:Option (List (Exit×St×Nat))):Option (List (Exit×St×Nat)):=match m with
 |some l=>some (l.map (UO id))
 |none=>none
def Fp(m:Option (List (Exit×St×Nat))):Option (List (Exit×St×Nat)):=match m with
 |some l=>bif l.all λq=> !A4 q.1 then some l else none
 |none=>none
noncomputable def JR(run:bR)(x:Operand)(a b:Code)(s:St)(low:Nat):Option (List (Exit×St×Nat)):=match tf s.gl s.fr x with
 | .lit (.bool t)=>match t with
  |true=>run a (Hr x s) low
  |false=>run b (Hr x s) low
 |_=>none
noncomputable def Bj(P:Program)(E:XEnv)(run:bR)(ops:Array Oper)(s:St)(low:Nat):Option (List (Exit×St×Nat)):=match td P E run ops ops.toList s low with
 |some l=>some (l.map λq=>(.normal,q.1,q.2))
 |none=>none
noncomputable def vY(P:Program)(E:XEnv)(run:bR)(ops:Array Oper)(s:St)(low:Nat):Option (List (Exit×St×Nat)):=match jR P E run ops ops.toList s low with
 |some (s',lo,inf)=>bif(dm s.n λn=>kN ops.toList inf n) then some [(.normal,s',lo)] else none
 |none=>none
noncomputable def Vx(P:Program)(E:XEnv)(run:bR)(ops:Array Oper)(a:Bool)(s:St)(low:Nat):Option (List (Exit×St×Nat)):=bif dm s.n (SK E ops.toList a) then Ps P E run ops s low else JO ops s (match a with
 |false=>Bj P E run ops s low
 |true=>bif SJ E ops.toList then vX P E run ops s low else vY P E run ops s low)
noncomputable def fD(P:Program)(E:XEnv)(run:bR):bR:=λc s low=>match c with
 | .skip| .label _=>some [(.normal,s,low)]
 | .exit i=>some [(.exit i,s,low)]
 | .ret=>some [(.ret,s,low)]
 | .seq a b=>DT run b (run a s low)
 | .block id a=>Fo id (run a s low)
 | .loop a=>DT run (.loop a) (run a s low)
 | .cond x a b=>JR run x a b s low
 | .region _ ops draw=>Vx P E run ops draw s low
 | .rangeFunc g ps az9 bd=>JQ P run g ps az9 bd s low
 | .scope a=>Fp (run a s low)
 |_=>none
def ko:bR:=λ_ _ _=>none
noncomputable def Ht(P:Program)(E:XEnv)(k:Nat):bR:=Nat.rec ko (λ_ r=>fD P E r) k
structure RunOkL (P:Program) (run:bR):Prop extends RunOk P run where
 loop:∀a s low l,run (.loop a) s low=some l->∃n,LL P a (pn l) n s
theorem Hu{K K':St->Prop}{Q Q':Exit->St->Prop}(hk:∀s,K s->K' s)(hq:∀e s,Q e s->Q' e s)(h:uE K Q e s):uE K' Q' e s:=by cases e<;>simp only[uE] at h⊢<;>first|exact hk s h|exact hq _ s h
theorem LL.mono{c:Code}{Q Q':Exit->St->Prop}(hq:∀e s,Q e s->Q' e s):∀{n m:Nat} {st:St},n<=m->LL P c Q n st->LL P c Q' m st
 |0,m,st,_,h=>h.elim
 |n+1,0,st,hle,h=>aa
 |n+1,m+1,st,hle,h=>Tr.mono h λe s hs=>Hu (λs hs=>LL.mono hq aa hs) hq hs
theorem LL.le{c:Code}{Q:Exit->St->Prop}:∀{n:Nat} {st s:St},Le P st s->LL P c Q n s->LL P c Q n st
 |0,_,_,_,h=>h.elim
 |n+1,_,_,l,h=>Tr.le (P:=P) h l
theorem Bk{m:List (Exit×St×Nat)}(h:∀q∈l,q∈m)(hp:pn l e s):pn m e s:=by obtain⟨q,hq,h1,h2⟩:=hp;exact⟨q,h q hq,h1,h2⟩
theorem DU{K:St->Prop}{Q:Exit->St->Prop}(he:e≠ .normal)(h:Q e st):uE K Q e st:=by
 cases e with
 |normal=>exact absurd rfl he
 |_=>simp only[uE];exact h
theorem UP{Q:Exit->St->Prop}(he:e≠ .exit id)(h:Q e st):pu id Q e st:=by
 cases e with
 |exit i=>simp only[pu];rw[if_neg (λx=>he (by rw[x]))];exact h
 |_=>simp only[pu];exact h
theorem DV{α:Type}{p:α->Nat->Prop}(hm:∀x n m,n<=m->p x n->p x m):∀(l:List α),(∀x∈l,∃n,p x n)->∃N,∀x∈l,p x N
 |[],_=>⟨0,λ_ h=>by cases h⟩
 |x::r,h=>by
  obtain⟨n,hn⟩:=h x aC;obtain⟨N,hN⟩:=DV hm r λy hy=>h y (by simp[hy]);refine⟨max n N,λy hy=>?_⟩;rcases List.mem_cons.1 hy with rfl|hy
  .exact hm _ _ _ (Nat.le_max_left _ _) hn
  .exact hm _ _ _ (Nat.le_max_right _ _) (hN y hy)
theorem DW{run:bR}(hr:RunOk P run){g:Operand}{ps:Array Tmp}{az9 bd:Code}(h:JQ P run g ps az9 bd s low=some l):Tr P (.rangeFunc g ps az9 bd) s (pn l)/\∀q∈l,q.2.1.gl=s.gl/\q.2.2<=low/\∀i,i<q.2.2->ag q.2.1.σ i=ag s.σ i:=by
 unfold JQ at h;cases hsr:s.r with
 |true=>rw[hsr] at h;cases h
 |false=>
  rw[hsr] at h;simp only[aM] at h;split at h
  .rename_i fid fst cap hg;split at h
   .rename_i fn u;split at h
    .rename_i body hb hres;cases hcond:(aK P fid&&Nat.ble (fst++[G.yld s.c]++cap).length fn.ntmps) with
     |false=>rw[hcond] at h;cases h
     |true=>
      rw[hcond] at h;simp only[bA] at hcond;simp only[ax,bo] at h;split at h
      .rename_i m hm;obtain⟨h1,h2⟩:=bW h;have hs0:∀i,i<s.c->ag ((s.c,some (⟨0,[],some (.loop .ready none s.n s.fr ps az9 bd)⟩:Ob))::s.σ) i=ag s.σ i:=λi hi=>dB hi;refine⟨wx hsr hg hcond.1 u hb (cm hcond.2) hres ((hr.tr _ _ _ _ hm).mono ?_),λq hq=>?_⟩
       .rintro e s' ⟨q,a,rfl,he⟩;obtain⟨r,hr1,b⟩:=h1 q a;have hgl:=(hr.inv _ _ _ _ hm q a).1;split at hr1
        .rename_i t f pe n fr j k o hx hob;cases hli:Pt f with
         |false=>rw[hli] at hr1;cases hr1
         |true=>
          rw[hli] at hr1;simp only[ax] at hr1;have hidle:f≠ .busy:=λx=>by rw[x] at hli;cases hli
          have hE:∀x,Eqv {s with σ:=(s.c,none)::(s.c,some x)::s'.σ,c:=s'.c} {n:=s.n,gl:=s.gl,fr:=s.fr,σ:=vQ q.2.1.σ s.c,c:=q.2.1.c,p:=s.p,r:=false}:=λx=>⟨rfl,rfl,λ_=>rfl,λi=>by
           show ag (vQ q.2.1.σ s.c) i=ag ((s.c,none)::(s.c,some x)::s'.σ) i;rw[li,am,am];split
           .rfl
           .exact he.σ i,he.c,rfl,hsr.symm⟩
          refine⟨eO hx,he.gl.symm.trans hgl,t,f,pe,n,fr,j,k,o,by rw[<-he.σ];exact hob,hidle,?_⟩;cases pe with
          |none=>simp only at hr1⊢;cases hr1;exact⟨_,b _ (List.mem_singleton.2 rfl),rfl,hE _⟩
          |some cd=>simp only at hr1⊢;exact((hr.tr _ _ _ _ hr1).mono λe s hp=>Bk b hp).le (hE _).le
        .cases hr1
       .obtain⟨x,hx,r,hr1,d⟩:=h2 q hq;obtain⟨_,_,a2⟩:=hr.inv _ _ _ _ hm x hx;have key:∀i,i<mj low (mj s.c x.2.2)->ag (vQ x.2.1.σ s.c) i=ag s.σ i:=λi hi=>by have e1:=Nat.lt_of_lt_of_le hi (q8 _ _);have e2:=Nat.lt_of_lt_of_le e1 (pm _ _);have e3:=Nat.lt_of_lt_of_le e1 (q8 _ _);rw[li,if_neg aa,a2 i e3];exact hs0 i e2
        split at hr1
        .rename_i t f pe n fr j k o hx' hob;cases hli:Pt f with
         |false=>rw[hli] at hr1;cases hr1
         |true=>
          rw[hli] at hr1;simp only[ax] at hr1;cases pe with
          |none=>simp only at hr1;cases hr1;obtain rfl:=List.mem_singleton.1 d;exact⟨rfl,pm _ _,key⟩
          |some cd=>simp only at hr1;obtain⟨b1,b2,b3⟩:=hr.inv _ _ _ _ hr1 q d;exact⟨b1,Nat.le_trans b2 (pm _ _),λi hi=>(b3 i hi).trans (key i (Nat.lt_of_lt_of_le hi b2))⟩
        .cases hr1
      .cases h
    .cases h
   .cases h
  .cases h
theorem Pu(hm:P.follows .mixedOrders=true){run:bR}(hr:RunOk P run)(ht:dD P E.tp)(hkc:gI P E)(h:vX P E run ops s low=some l):Tr P (.region id ops true) s (pn l):=by
 have ho:ops=ops.toList.toArray:=aC;unfold vX at h;split at h
 .rename_i s1 b c a;rw[bo] at h;cases hk:kL ops.toList c s.n with
  |false=>rw[hk] at h;cases h
  |true=>rw[hk] at h;cases h;rw[vW] at a;refine Tr.le ?_ (uB (UN ops.toList) s);have:=mG hr ht hkc (K:=pn [(.normal,s1,b)] .normal) ops.toList _ _ _ s1 b c a _ (Eqv.refl _) (λst' e=>⟨_,List.mem_singleton.2 rfl,rfl,e⟩);rw[ho] at this⊢;exact pX (l:=ops.toList) hm (by rw[(sv _ s).1];exact hk) this
 .cases h
theorem Nn{run:bR}(h:vX P E run ops s low=some l):∀q∈l,q.2.1.gl=s.gl/\q.2.2<=low/\∀i,i<q.2.2->ag q.2.1.σ i=ag s.σ i:=by
 unfold vX at h;split at h
 .rename_i s1 f e d;rw[bo] at h;cases hk:kL ops.toList e s.n with
  |false=>rw[hk] at h;cases h
  |true=>rw[hk] at h;cases h;intro q hq;obtain rfl:=List.mem_singleton.1 hq;obtain⟨a,b,c⟩:=su _ _ _ _ _ _ _ d;rw[vW] at a c;obtain⟨a1,a2,a3,a4⟩:=sv (UN ops.toList) s;refine⟨a.trans a2,Nat.le_trans b (pm _ _),λi hi=>(c i hi).trans (a4 i (Nat.lt_of_lt_of_le hi (Nat.le_trans b (q8 _ _))))⟩
 .cases h
theorem Hv{run:bR}(hr:RunOk P run)(ht:dD P E.tp)(hkc:gI P E){s:St}{low:Nat}(h:Bj P E run ops s low=some l):Tr P (.region id ops false) s (pn l):=by
 have ho:ops=ops.toList.toArray:=aC;unfold Bj at h;split at h
 .rename_i m a;cases h;have:=lH hr ht hkc ops.toList s low m a s (Eqv.refl s);rw[ho] at this⊢;refine(lG (Q:=λe s'=>e= .normal/\∃q∈m,Eqv s' q.1) (lH.runN_mono (λs' hs'=>⟨rfl,hs'⟩) _ _ this)).mono ?_;rintro e s' ⟨rfl,q,hq,he⟩;exact⟨_,List.mem_map.2 ⟨q,hq,rfl⟩,rfl,he⟩
 .cases h
theorem Hw(hm:P.follows .mixedOrders=true){run:bR}(hr:RunOk P run)(ht:dD P E.tp)(hkc:gI P E){s:St}{low:Nat}(h:vY P E run ops s low=some l):Tr P (.region id ops true) s (pn l):=by
 have ho:ops=ops.toList.toArray:=aC;unfold vY at h;split at h
 .rename_i s1 a b c;rw[bo] at h;cases hk:kN ops.toList b s.n with
  |false=>rw[hk] at h;cases h
  |true=>rw[hk] at h;cases h;have:=mF hr ht hkc (K:=pn [(.normal,s1,a)] .normal) ops.toList s low s1 a b c s (Sm.refl s) (λst' e=>⟨_,List.mem_singleton.2 rfl,rfl,e.eqv⟩);rw[ho] at this⊢;exact zF (l:=ops.toList) hm hk this
 .cases h
theorem JS{l:List Oper}{inf:List OI}(h:wv l n=true)(hi:∀q∈inf,∃f,q= .rd f):kN l inf n=true:=by
 have hg:∀i,∃f,inf.getD i (.rd 0)= .rd f:=λi=>by
  rw[List.getD_eq_getElem?_getD];cases hx:inf[i]? with
  |none=>exact⟨0,rfl⟩
  |some q=>exact hi q (bO hx)
 have hok:∀q:Nat×Nat,Qh (inf.getD q.1 (.rd 0)) (inf.getD q.2 (.rd 0))=true:=λq=>by obtain⟨f,hf⟩:=hg q.1;obtain⟨b,a⟩:=hg q.2;rw[hf,a];rfl
 unfold kN;rw[h,Bool.true_and,List.all_eq_true];exact λq _=>hok q
theorem Pv(hm:P.follows .mixedOrders=true){run:bR}(hr:RunOk P run)(ht:dD P E.tp)(hkc:gI P E)(hq:SK E ops.toList draw s.n=true)(h:Ps P E run ops s low=some l):Tr P (.region id ops draw) s (pn l)/\∀q∈l,q.2.1.gl=s.gl/\q.2.2<=low/\∀i,i<q.2.2->ag q.2.1.σ i=ag s.σ i:=by
 simp only[SK,bA,Bool.or_eq_true,Bool.not_eq_true'] at hq;obtain⟨⟨h1,h2⟩,h3⟩:=hq;unfold Ps at h;obtain⟨n,gl,fr,σ,c,p,d⟩:=s;dsimp only at h;split at h
 .rename_i b hf;rw[Br] at h;cases h;refine⟨?_,λq hq=>?_⟩
  .have hle:Le P (⟨n,gl,b,σ,c,p,d⟩:St) ⟨n,gl,Bt ops.toList fr b,σ,c,p,d⟩:=LV (st:=⟨n,gl,b,σ,c,p,d⟩) λi=>Bu (λi hi=>rj ops.toList fr b hf i hi) i;have hT:Tr P (.region id ops draw) ⟨n,gl,fr,σ,c,p,d⟩ (pn [(.normal,⟨n,gl,b,σ,c,p,d⟩,low)]):=by
    cases draw with
    |false=>refine Hv hr ht hkc (low:=low) ?_;unfold Bj;rw[show td P E run ops ops.toList ⟨n,gl,fr,σ,c,p,d⟩ low=_ from xC (s:=⟨n,gl,fr,σ,c,p,d⟩) low ops.toList fr b h1 h2 hf];rfl
    |true=>refine Hw hm hr ht hkc (low:=low) ?_;obtain⟨g,hi1,hi2⟩:=uy (s:=⟨n,gl,fr,σ,c,p,d⟩) low ops.toList fr b h1 h2 hf;have hi1:jR P E run ops ops.toList ⟨n,gl,fr,σ,c,p,d⟩ low=_:=hi1;unfold vY;rw[hi1];simp only[bo];rw[JS (by simpa using h3) hi2];rfl
   intro cx a w R r k;refine hT cx a w R r λe s' f w' hp r'=>?_;obtain⟨rfl,he⟩:=He hp;exact k .normal ⟨n,gl,Bt ops.toList fr b,σ,c,p,d⟩ f w' ⟨_,List.mem_singleton.2 rfl,rfl,Eqv.refl _⟩ (hle cx f w' (he.rel r'))
  .obtain rfl:=List.mem_singleton.1 hq;exact⟨rfl,Nat.le_refl _,λ_ _=>rfl⟩
 .cases h
theorem Np{m:Option (List (Exit×St×Nat))}(h:JO ops s m=some l)(hm:∀b,m=some b->(Tr P (.region id ops draw) s (pn b)/\∀q∈b,q.2.1.gl=s.gl/\q.2.2<=low/\∀i,i<q.2.2->ag q.2.1.σ i=ag s.σ i)/\∀q∈b,∀i,(∀o∈ops.toList,o.dst≠some i)->aD q.2.1.fr i=aD s.fr i):
  Tr P (.region id ops draw) s (pn l)/\∀q∈l,q.2.1.gl=s.gl/\q.2.2<=low/\∀i,i<q.2.2->ag q.2.1.σ i=ag s.σ i:=by
 unfold JO at h
 split at h
 .rename_i b
  cases h
  obtain⟨⟨hT,hI⟩,hF⟩:=hm b rfl
  refine⟨λcx a w R r k=>hT cx a w R r λe s' c w' hp r'=>?_,λq hq=>?_⟩
  .obtain⟨q,hq,rfl,he⟩:=hp
   exact k _ {q.2.1 with fr:=Bt ops.toList s.fr q.2.1.fr} c w' ⟨_,List.mem_map.2 ⟨q,hq,rfl⟩,rfl,Eqv.refl _⟩ (LV (λi=>Bu (λi hi=>hF q hq i hi) i) cx c w' (he.rel r'))
  .obtain⟨x,hx,rfl⟩:=List.mem_map.1 hq
   exact hI x hx
 .cases h
theorem LS(hm:P.follows .mixedOrders=true){run:bR}(hr:RunOk P run)(ht:dD P E.tp)(hkc:gI P E){id:Nat}(h:Vx P E run ops draw s low=some l):Tr P (.region id ops draw) s (pn l)/\∀q∈l,q.2.1.gl=s.gl/\q.2.2<=low/\∀i,i<q.2.2->ag q.2.1.σ i=ag s.σ i:=by
 unfold Vx at h;rw[bo] at h;cases hq:SK E ops.toList draw s.n with
 |true=>rw[hq] at h;exact Pv hm hr ht hkc hq h
 |false=>
  rw[hq] at h;simp only[aM] at h;refine Np h λc hl=>?_;cases draw with
  |false=>
   have hl:Bj P E run ops s low=some c:=hl;refine⟨⟨Hv hr ht hkc hl,?_⟩,?_⟩
   .unfold Bj at hl;split at hl
    .rename_i m a;cases hl;intro q hq;obtain⟨x,hx,rfl⟩:=List.mem_map.1 hq;exact vV hr hkc _ _ _ _ a x hx
    .cases hl
   .unfold Bj at hl;split at hl
    .rename_i m a;cases hl;intro q hq;obtain⟨x,hx,rfl⟩:=List.mem_map.1 hq;exact pp _ _ _ _ a x hx
    .cases hl
  |true=>
   cases hu:SJ E ops.toList with
   |true=>
    have hl:vX P E run ops s low=some c:=by have hl:(bif SJ E ops.toList then vX P E run ops s low else vY P E run ops s low)=some c:=hl;rw[hu] at hl;exact hl
    refine⟨⟨Pu hm hr ht hkc hl,Nn hl⟩,?_⟩;unfold vX at hl;split at hl
    .rename_i s1 d b a;rw[bo] at hl;cases hk:kL ops.toList b s.n with
     |false=>rw[hk] at hl;cases hl
     |true=>rw[hk] at hl;cases hl;intro q hq i hi;obtain rfl:=List.mem_singleton.1 hq;have:=mI _ _ _ _ _ _ _ a i hi;rw[vW,Bi] at this;exact this
    .cases hl
   |false=>
    have hl:vY P E run ops s low=some c:=by have hl:(bif SJ E ops.toList then vX P E run ops s low else vY P E run ops s low)=some c:=hl;rw[hu] at hl;exact hl
    refine⟨⟨Hw hm hr ht hkc hl,?_⟩,?_⟩
    .unfold vY at hl;split at hl
     .rename_i s1 d b a;rw[bo] at hl;cases hk:kN ops.toList b s.n with
      |false=>rw[hk] at hl;cases hl
      |true=>rw[hk] at hl;cases hl;intro q hq;obtain rfl:=List.mem_singleton.1 hq;exact sq hr hkc _ _ _ _ _ _ a
     .cases hl
    .unfold vY at hl;split at hl
     .rename_i s1 d b a;rw[bo] at hl;cases hk:kN ops.toList b s.n with
      |false=>rw[hk] at hl;cases hl
      |true=>rw[hk] at hl;cases hl;intro q hq;obtain rfl:=List.mem_singleton.1 hq;exact mH _ _ _ _ _ _ a
     .cases hl
theorem Pw(hm:P.follows .mixedOrders=true){run:bR}(hr:RunOkL P run)(ht:dD P E.tp)(hkc:gI P E):RunOkL P (fD P E run):=by
 have d:=hr.toRunOk;have hloop:∀a s low l,fD P E run (.loop a) s low=some l->∃n,LL P a (pn l) n s:=by
  intro a s low l h;simp only[fD,DT] at h;split at h
  .rename_i m j;obtain⟨h1,_⟩:=bW h;obtain⟨N,hN⟩:=DV (p:=λ(q:Exit×St×Nat) n=>q.1= .normal->LL P a (pn l) n q.2.1) (λq n m hle hp hn=>LL.mono (λ_ _ x=>x) hle (hp hn)) m (λq hq=>by
    obtain⟨r,hr1,o⟩:=h1 q hq;unfold xD at hr1;by_cases hn:q.1= .normal
    .rw[hn] at hr1;obtain⟨n,u⟩:=hr.loop _ _ _ _ hr1;exact⟨n,λ_=>LL.mono (λe s hp=>Bk o hp) (Nat.le_refl _) u⟩
    .exact⟨0,λx=>absurd x hn⟩)
   refine⟨N+1,(d.tr _ _ _ _ j).mono ?_⟩;rintro e s' ⟨q,hq,rfl,he⟩;by_cases hn:q.1= .normal
   .rw[hn];exact wm ((hN q hq hn).le he.le)
   .refine DU hn ?_;obtain⟨r,hr1,o⟩:=h1 q hq;unfold xD at hr1;have:r=[q]:=by
     split at hr1
     .rename_i hx;exact absurd hx hn
     .cases hr1;rfl
    subst this;exact⟨q,o q (List.mem_singleton.2 rfl),rfl,he⟩
  .cases h
 refine{tr:=λc s low l h=>?_,inv:=λc s low l h=>?_,loop:=hloop}
 .cases c with
  |skip=>simp only[fD,bg] at h;subst h;exact Fy ⟨_,List.mem_singleton.2 rfl,rfl,Eqv.refl _⟩
  |label k=>simp only[fD,bg] at h;subst h;exact HJ ⟨_,List.mem_singleton.2 rfl,rfl,Eqv.refl _⟩
  |exit k=>simp only[fD,bg] at h;subst h;exact Fz ⟨_,List.mem_singleton.2 rfl,rfl,Eqv.refl _⟩
  |ret=>simp only[fD,bg] at h;subst h;exact PW ⟨_,List.mem_singleton.2 rfl,rfl,Eqv.refl _⟩
  |seq a b=>
   simp only[fD,DT] at h;split at h
   .rename_i m j;obtain⟨h1,_⟩:=bW h;refine BH ((d.tr _ _ _ _ j).mono ?_);rintro e s' ⟨q,hq,rfl,he⟩;obtain⟨r,hr1,o⟩:=h1 q hq;unfold xD at hr1;by_cases hn:q.1= .normal
    .rw[hn] at hr1⊢;exact wm (((d.tr _ _ _ _ hr1).mono λe s hp=>Bk o hp).le he.le)
    .refine DU hn ?_;have:r=[q]:=by
      split at hr1
      .rename_i hx;exact absurd hx hn
      .cases hr1;rfl
     subst this;exact⟨q,o q (List.mem_singleton.2 rfl),rfl,he⟩
   .cases h
  |block id a=>
   simp only[fD,Fo] at h;split at h
   .rename_i m j;cases h;refine BI ((d.tr _ _ _ _ j).mono ?_);rintro e s' ⟨q,hq,rfl,he⟩;have hmem:(match q.1 with| .exit i=>bif Nat.beq i id then((.normal:Exit),q.2) else q|_=>q)∈m.map (λq=>match q.1 with| .exit i=>bif Nat.beq i id then((.normal:Exit),q.2) else q|_=>q):=List.mem_map.2 ⟨q,hq,rfl⟩;by_cases hx:q.1= .exit id
    .rw[hx];refine PX ?_;simp only[hx,Nat.beq_refl,ax] at hmem;exact⟨_,hmem,rfl,he⟩
    .refine UP hx ?_;refine⟨q,?_,rfl,he⟩;split at hmem
     .rename_i i hi;have:Nat.beq i id=false:=by
       cases hb:Nat.beq i id with
       |false=>rfl
       |true=>exact absurd (by rw[hi,bc hb]) hx
      rw[this] at hmem;exact hmem
     .exact hmem
   .cases h
  |loop a=>obtain⟨n,hn⟩:=hloop a s low l h;exact Pm n hn
  |cond x a b=>
   simp only[fD,JR,g7] at h;split at h
   .rename_i t hx;have hx:aB s x= .lit (.bool t):=hx;cases t with
    |true=>exact wk hx ((d.tr _ _ _ _ h).le (Hs x s))
    |false=>exact wk hx ((d.tr _ _ _ _ h).le (Hs x s))
   .cases h
  |region id ops draw=>exact(LS hm d ht hkc h).1
  |rangeFunc g ps az9 bd=>exact(DW d h).1
  |scope a=>
   simp only[fD,Fp] at h;split at h
   .rename_i m j;cases hg:m.all (λq=> !A4 q.1) with
    |false=>rw[hg] at h;cases h
    |true=>rw[hg] at h;cases h;refine Pn ((d.tr _ _ _ _ j).mono ?_);rintro e s' ⟨q,hq,rfl,he⟩;exact⟨by simpa using List.all_eq_true.1 hg q hq,q,hq,rfl,he⟩
   .cases h
  |goto=>simp[fD] at h
  |refuse=>simp[fD] at h
 .have flat:∀{m:List (Exit×St×Nat)} {f:Exit×St×Nat->Option (List (Exit×St×Nat))} {a:Code},run a s low=some m->gZ f m=some l->(∀q r,f q=some r->∀y∈r,y.2.1.gl=q.2.1.gl/\y.2.2<=q.2.2/\∀i,i<y.2.2->ag y.2.1.σ i=ag q.2.1.σ i)->
    ∀q∈l,q.2.1.gl=s.gl/\q.2.2<=low/\∀i,i<q.2.2->ag q.2.1.σ i=ag s.σ i:=by
   intro m f a j hf hq q v
   obtain⟨x,hx,r,hr1,w⟩:=(bW hf).2 q v
   obtain⟨a1,a2,a3⟩:=d.inv _ _ _ _ j x hx
   obtain⟨b1,b2,b3⟩:=hq x r hr1 q w
   exact⟨b1.trans a1,Nat.le_trans b2 a2,λi hi=>(b3 i hi).trans (a3 i (Nat.lt_of_lt_of_le hi b2))⟩
  have one:∀{e:Exit},l=[(e,s,low)]->∀q∈l,q.2.1.gl=s.gl/\q.2.2<=low/\∀i,i<q.2.2->ag q.2.1.σ i=ag s.σ i:=by rintro e rfl q hq;obtain rfl:=List.mem_singleton.1 hq;exact⟨rfl,Nat.le_refl _,λ_ _=>rfl⟩
  have same:∀(q:Exit×St×Nat) r,(some [q]:Option (List (Exit×St×Nat)))=some r->∀y∈r,y.2.1.gl=q.2.1.gl/\y.2.2<=q.2.2/\∀i,i<y.2.2->ag y.2.1.σ i=ag q.2.1.σ i:=by intro q r h y hy;cases h;obtain rfl:=List.mem_singleton.1 hy;exact⟨rfl,Nat.le_refl _,λ_ _=>rfl⟩
  cases c with
  |skip=>simp only[fD,bg] at h;exact one h.symm
  |label k=>simp only[fD,bg] at h;exact one h.symm
  |exit k=>simp only[fD,bg] at h;exact one h.symm
  |ret=>simp only[fD,bg] at h;exact one h.symm
  |seq a b=>
   simp only[fD,DT] at h;split at h
   .rename_i m j;refine flat j h λq r hq=>?_;unfold xD at hq;split at hq
    .exact d.inv _ _ _ _ hq
    .exact same q r hq
   .cases h
  |block id a=>
   simp only[fD,Fo] at h;split at h
   .rename_i m j;cases h;intro q hq;obtain⟨x,hx,rfl⟩:=List.mem_map.1 hq;have:=d.inv _ _ _ _ j x hx;unfold UO;split
    .rename_i i hi;cases Nat.beq i id with
     |true=>exact this
     |false=>exact this
    .exact this
   .cases h
  |loop a=>
   simp only[fD,DT] at h;split at h
   .rename_i m j;refine flat j h λq r hq=>?_;unfold xD at hq;split at hq
    .exact d.inv _ _ _ _ hq
    .exact same q r hq
   .cases h
  |cond x a b=>
   simp only[fD,JR] at h;obtain⟨d1,d2⟩:=JP x s;split at h
   .split at h
    .intro q hq;obtain⟨a1,a2,a3⟩:=d.inv _ _ _ _ h q hq;exact⟨a1.trans d1,a2,λi hi=>(a3 i hi).trans (by rw[d2])⟩
    .intro q hq;obtain⟨a1,a2,a3⟩:=d.inv _ _ _ _ h q hq;exact⟨a1.trans d1,a2,λi hi=>(a3 i hi).trans (by rw[d2])⟩
   .cases h
  |region id ops draw=>exact(LS hm d ht hkc (id:=id) h).2
  |rangeFunc g ps az9 bd=>exact(DW d h).2
  |scope a=>
   simp only[fD,Fp] at h;split at h
   .rename_i m j;cases hg:m.all (λq=> !A4 q.1) with
    |false=>rw[hg] at h;cases h
    |true=>rw[hg] at h;cases h;exact d.inv _ _ _ _ j
   .cases h
  |goto=>simp[fD] at h
  |refuse=>simp[fD] at h
theorem rc(hm:P.follows .mixedOrders=true){E:XEnv}(ht:dD P E.tp)(hkc:gI P E):∀k,RunOkL P (Ht P E k)
 |0=>{tr:=(λ_ _ _ _ h=>by cases h),inv:=(λ_ _ _ _ h=>by cases h),loop:=(λ_ _ _ _ h=>by cases h)}
 |k+1=>Pw hm (rc hm ht hkc k) ht hkc
def UQ:pW:=λ_ _ _=>none
theorem Px:dD P UQ:=λ_ _ _ _ h=>by cases h
end
section
variable {P:Program}
theorem dT:RunOk P ko:=⟨λ_ _ _ _ h=>(by cases h),λ_ _ _ _ h=>(by cases h)⟩
def E0:XEnv:={pf:=λ_=>false,tp:=UQ}
theorem IH:dD P E0.tp:=Px
inductive Hn where
 |v (d:Nat) (g:G)
 |b (d:Nat) (g:G)
 |f (d:Nat) (g:G)
 |l (d:Nat) (gs:List G) (g:G)
 |e (d:Nat) (g:G) (σ:aQ) (c:Nat)
 |g (d:Nat)
 |a (d:Nat) (L:List G) (M:Nat)
 |r (d:Nat) (b:Bool)
 |w (d:Nat) (L:List G)
 |k (d:Nat) (L:List G) (M:Nat)
 |q (d:Nat) (ts:List G) (g:G)
 |c (d:Nat) (g:G)
 |m (d:Nat) (g:G)
 |z (d:Nat) (R:List Nat) (g:G) (U:aQ) (c':Nat)
 |o (d:Nat) (ts:List G) (t:TypeId) (m:Nat) (l:List G)
def Hn.key:Hn->Nat
 | .v d _| .b d _| .f d _| .l d _ _| .e d _ _ _| .a d _ _| .r d _| .k d _ _| .q d _ _| .o d _ _ _ _| .c d _| .m d _| .z d _ _ _ _=>d
 | .w d _=>1000000+d
 | .g _=>999999999
def CL(o:Oper):Nat:=match o.dst with
 |some d=>d
 |none=>match o.op with
  | .store _ (.tmp d) _=>1000000+d
  |_=>999999998
def Ol(o:Oper)(hs:List Hn):Option Hn:=hs.find? λh=>Nat.beq h.key (CL o)
def II:Option Prop->Prop->Prop
 |none,q=>q
 |some p,q=>p/\q
def EM(P:Program)(o:Oper)(st:St)(g:G):Prop:=match o.op with
 | .binOp op t x y _=>∀p q:Operand,b8 P op t p q (aB st x) (aB st y)=some g
 | .indexAddr t x i=>match aB st i with
  | .lit (.int _ k)=>fh P t (aB st x) k=some g
  |_=>False
 | .load t x=>match aB st x with
  | .ptr l o=>dN P t l o=some g
  | .ref i o=>match ag st.σ i with
   |some ob=>dN P t ob.l o=some g
   |none=>False
  |_=>False
 | .slice t x lo hi none=>match aB st x with
  | .sl l n=>(pv (lo.map (aB st))).bind (λa=>(pv (hi.map (aB st))).bind λb=>ig P t (.sl l n) a b)=some g
  | .rsl i o n=>(pv (lo.map (aB st))).bind (λa=>(pv (hi.map (aB st))).bind λb=>ig P t (.rsl i o n) a b)=some g
  |_=>False
 | .call {callee:= .builtin .len,args:=⟨[x]⟩,argTypes:=⟨[t]⟩}=>match aB st x with
  | .lit (.string b)=>nu P t=true/\G.lit (.int .i64 b.size)=g
  |_=>aX P (aB st) st.σ o=some g
 |_=>aX P (aB st) st.σ o=some g
theorem w7(h:EM P o st g):aX P (aB st) st.σ o=some g:=by
 obtain⟨a,d,ty,c,e,f⟩:=o;unfold EM at h;dsimp only at h;split at h
 .rw[rA];exact h _ _
 .rename_i t x i;split at h
  .rename_i hi;simp only[aX,hi,xL,aL];exact h
  .exact h.elim
 .rename_i t x;split at h
  .rename_i hx;simp only[aX,hx,jU];exact h
  .rename_i i j hx;split at h
   .rename_i ob hob;simp only[aX,hx,jU,hob,aL];exact h
   .exact h.elim
  .exact h.elim
 .rename_i t x lo hi;split at h
  .rename_i hx;simp only[aX,hx];exact h
  .rename_i hx;simp only[aX,hx];exact h
  .exact h.elim
 .rename_i x t;split at h
  .rename_i b hx;exact Qf (by unfold Qd;rw[hx];simp only[h.1,if_true];exact congrArg some h.2)
  .exact h
 .exact h
theorem Gq{σ σ':aQ}{s:TypeId}(h:∀i,i∈fR g->ag σ' i=ag σ i):iQ P σ' s t g=iQ P σ s t g:=by
 unfold iQ;split
 .rfl
 .rfl
 .simp only[kK h]
def KU(P:Program)(σ:aQ)(t:TypeId)(ok:Bool)(gm a g:G):Prop:=match gm with
 | .mref i=>bL P [(i,ag σ i)] t ok (.mref i) a=some g
 |gm=>∀σ,bL P σ t ok gm a=some g
theorem EN{σ σ':aQ}{ok:Bool}{gm gk:G}(h:KU P σ t ok gm gk g)(hs:∀i,gm= .mref i->ag σ' i=ag σ i):bL P σ' t ok gm gk=some g:=by
 cases gm with
 |mref i=>have h:bL P [(i,ag σ i)] t ok (.mref i) gk=some g:=h;rw[<-h];refine rh λj hj=>?_;simp only[fR,List.mem_singleton] at hj;subst hj;rw[hs j rfl];simp[am]
 |_=>exact h σ'
def ge(st:St)(o:Oper):Option (FuncId×List G):=match o.op with
 | .call {callee:= .value x,args:=xs,argTypes:=_}=>match aB st x with
  | .clo (.func fid) fst cap=>some (fid,fst++xs.toList.map (aB st)++cap)
  |_=>none
 |_=>none
def oJ(P:Program)(gl:List (Nat×List G))(fid:FuncId)(gs:List G)(σR:aQ)(c:Nat)(g:G)(U:aQ)(c':Nat):Prop:=∀(o:Oper) (st:St) (y:Operand) (xs:Array Operand) (ats:Array TypeId) (fst cap:List G),o.op= .call {callee:= .value y,args:=xs,argTypes:=ats}->(∀d,o.dst=some d->d<st.n)->aB st y= .clo (.func fid) fst cap->fst++xs.toList.map (aB st)++cap=gs->st.gl=gl->(∀q∈σR,ag st.σ q.1=q.2)->st.c=c->GS P o st ({st with σ:=U++st.σ,c:=c'}.put o.dst g)
def nF:Nat->G->Bool
 |0,_=>false
 |_+1,.lit _=>true
 |_+1,.sl _ _=>true
 |_+1,.ptr _ _=>true
 |_+1,.mp _ _ _ _=>true
 |n+1,.agg l=>l.all (nF n)
 |n+1,.tup l=>l.all (nF n)
 |n+1,.clo _ a b=>a.all (nF n)&&b.all (nF n)
 |_,_=>false
theorem aG:∀(n:Nat) (g:G),nF n g=true->bB g
 |0,_,h=>by cases h
 |n+1,g,h=>by
  cases g with
  |lit v=>exact mN v
  |sl l m=>exact FC l m
  |ptr l o=>exact Ah l o
  |mp ks vs ns c=>exact J5 ks vs ns c
  |agg l=>exact L6 λx hx=>aG n x (List.all_eq_true.1 h x hx)
  |tup l=>exact L7 λx hx=>aG n x (List.all_eq_true.1 h x hx)
  |clo fn a b=>simp only[nF,bA] at h;exact L8 (λx hx=>aG n x (List.all_eq_true.1 h.1 x hx)) (λx hx=>aG n x (List.all_eq_true.1 h.2 x hx))
  |_=>cases h
def w8:Nat->G->Bool
 |0,_=>false
 |_+1,.lit _=>true
 |n+1,.agg l=>l.all (w8 n)
 |n+1,.tup l=>l.all (w8 n)
 |_,_=>false
theorem rQ:∀(n:Nat) (g:G),w8 n g=true->zD g
 |0,_,h=>by cases h
 |n+1,g,h=>by
  cases g with
  |lit v=>exact lR v
  |agg l=>exact HM λx hx=>rQ n x (List.all_eq_true.1 h x hx)
  |tup l=>exact HN λx hx=>rQ n x (List.all_eq_true.1 h x hx)
  |_=>cases h
theorem KV:ve P st (.lit (.slice none 0 0)) (.sl [] 0):=λcx a w β r v hv=>by rw[hv.lit_eq];exact .sl [] 0 none 0 (λ_=>undef) (Nat.le_refl _) (Nat.zero_le _) aC aC aC
theorem QY{clock:Nat}{l:List G}{es:List (Value×G×Nat)}(ho:ag st.σ i=some ⟨t,l,some (.map es clock)⟩)(hi:∀e∈es,bB e.2.1):ve P st (.mref i) (.mp (es.map (·.1)) (es.map (·.2.1)) (es.map (·.2.2)) clock):=λcx a w β r v hv=>by
 obtain⟨b,C,hb,rfl⟩:=hv.mref_form;rcases r.ob i _ ho with⟨_,_,h3⟩|⟨d,x,o,h1,h2,h3,h4,h5⟩|⟨d,C',cur,h1,_⟩
 .rcases h3 with h3|h3<;>cases h3
 .cases h1;have c:=hb;rw[h3] at hb;cases hb;obtain⟨ents,rfl,e2,e3⟩:=h5;have hav:=r.sep i _ _ _ ho c;refine .mp _ _ _ _ _ ents hav (r.lt ho c) h4 (by simp[e2]) ?_ ?_ λj g e hg he=>?_
  .apply List.ext_getElem?;intro j;rw[List.getElem?_map,List.getElem?_map,Array.getElem?_toList];cases hj:es[j]? with
   |none=>have:es.length<=j:=List.getElem?_eq_none_iff.1 hj;simp[show ents.size<=j by omega]
   |some q=>obtain⟨k,g,n⟩:=q;obtain⟨e',h6,h7,_⟩:=e3 j k g n hj;rw[h6];simp[h7]
  .apply List.ext_getElem?;intro j;rw[List.getElem?_map,List.getElem?_map,Array.getElem?_toList];cases hj:es[j]? with
   |none=>have:es.length<=j:=List.getElem?_eq_none_iff.1 hj;simp[show ents.size<=j by omega]
   |some q=>obtain⟨k,g,n⟩:=q;obtain⟨e',h6,h7,h8,_⟩:=e3 j k g n hj;rw[h6];simp[h8]
  .rw[List.getElem?_map,cn] at hg;obtain⟨⟨k,f,n⟩,hj,rfl⟩:=hg;obtain⟨e',h6,h7,h8,h9⟩:=e3 j k f n hj;rw[he] at h6;cases h6;exact(hi _ (bO hj) _ _ _ _ h9).sub λd _ hb'=> .inl hb'
 .cases h1
def Da(f:G->G->Option (List Prop×G)):List G->List G->Option (List Prop×List G)
 |[],[]=>some ([],[])
 |g::r,t::r'=>match f g t with
  |some (C,g')=>match Da f r r' with
   |some (D,l)=>some (C++D,g'::l)
   |none=>none
  |none=>none
 |_,_=>none
theorem io{Q:G->G->Prop}{f:G->G->Option (List Prop×G)}(hf:∀g t C c,f g t=some (C,c)->(∀p∈C,p)->Q g c):∀(l t:List G) (C:List Prop) (l':List G),Da f l t=some (C,l')->(∀p∈C,p)->l'.length=l.length/\∀(i:Nat) (g c:G),l[i]?=some g->l'[i]?=some c->Q g c
 |[],[],C,l',h,hC=>by cases h;exact⟨rfl,λi g c e=>by simp at e⟩
 |g::r,t::r',C,l',h,hC=>by
  unfold Da at h;split at h
  .rename_i d g1 h1;split at h
   .rename_i D l1 h2;cases h;obtain⟨k1,k2⟩:=io hf r r' D l1 h2 λp hp=>hC p (List.mem_append_right _ hp);refine⟨by simp[k1],λi a b ha hb=>?_⟩;cases i with
    |zero=>simp at ha hb;subst ha;subst hb;exact hf _ _ _ _ h1 λp hp=>hC p (List.mem_append_left _ hp)
    |succ i=>exact k2 i a b (by simpa using ha) (by simpa using hb)
   .cases h
  .cases h
 |[],_::_,C,l',h,hC=>by cases h
 |_::_,[],C,l',h,hC=>by cases h
def KW(P:Program)(σ:aQ):Nat->G->G->Option (List Prop×G)
 |0,_,_=>none
 |n+1,g,t=>match t with
  | .sl _ m'=>match g with
   | .sl l m=>some ([],.sl l m)
   | .lit (.slice none 0 0)=>some ([],.sl [] 0)
   | .rsl j o m=>match ag σ j with
    |some ob=>match bw P ob.t with
     |some s=>bif Nat.beq o 0 then some ([ob.l.length=m'*s/\(∀x∈ob.l,bB x)/\m=m'],.sl ob.l m') else some ([o+m*s<=ob.l.length/\∀x∈ob.l,bB x],.sl ((ob.l.drop o).take (m*s)) m)
     |none=>none
    |none=>none
   |_=>none
  | .ptr l' _=>match g with
   | .ptr l o=>some ([],.ptr l o)
   | .ref i o=>match ag σ i with
    |some ob=>match Da (KW P σ n) ob.l l' with
     |some (C,r)=>some (C,.ptr r o)
     |none=>none
    |none=>none
   |_=>none
  | .mp _ _ _ _=>match g with
   | .mp ks vs ns c=>some ([],.mp ks vs ns c)
   | .mref j=>match ag σ j with
    |some ⟨_,_,some (.map es clock)⟩=>some ([∀e∈es,bB e.2.1],.mp (es.map (·.1)) (es.map (·.2.1)) (es.map (·.2.2)) clock)
    |_=>none
   |_=>none
  | .agg l'=>match g with
   | .agg l=>match Da (KW P σ n) l l' with
    |some (C,r)=>some (C,.agg r)
    |none=>none
   |_=>none
  | .tup l'=>match g with
   | .tup l=>match Da (KW P σ n) l l' with
    |some (C,r)=>some (C,.tup r)
    |none=>none
   |_=>none
  |_=>bif nF 20 g then some ([],g) else none
theorem rR{st:St}:∀(n:Nat) (g t:G) (C:List Prop) (c:G),KW P st.σ n g t=some (C,c)->(∀p∈C,p)->ve P st g c
 |0,_,_,_,_,h,_=>by cases h
 |n+1,g,t,C,c,h,hC=>by
  unfold KW at h;split at h
  .split at h
   .cases h;exact jB (FC _ _)
   .cases h;exact KV
   .rename_i j o m;split at h
    .rename_i ob ho;split at h
     .rename_i s hs;cases hz:Nat.beq o 0 with
      |true=>
       rw[hz] at h;obtain rfl:=bc hz;cases h;obtain⟨h1,h2,rfl⟩:=hC _ (List.mem_singleton.2 rfl);exact FD ho hs (by rw[h1];omega) h1 λk a b ha hb=>by rw[Nat.zero_add,hb] at ha;cases ha;exact jB (h2 _ (bO hb))
      |false=>rw[hz] at h;cases h;have h1:=hC _ (List.mem_singleton.2 rfl);refine FD ho hs h1.1 cq λk a b ha hb=>?_;have hlt:=(cr hb).1;simp at hlt;rw[List.getElem?_take,if_pos aa,List.getElem?_drop,ha] at hb;cases hb;exact jB (h1.2 _ (bO ha))
     .cases h
    .cases h
   .cases h
  .split at h
   .cases h;exact jB (Ah _ _)
   .split at h
    .rename_i ob ho;split at h
     .rename_i C' r hl;cases h;obtain⟨k1,k2⟩:=io (Q:=ve P st) (λg t C c=>rR n g t C c) _ _ _ _ hl hC;exact Mb ho (Nat.le_of_eq k1) k2
     .cases h
    .cases h
   .cases h
  .split at h
   .cases h;exact jB (J5 _ _ _ _)
   .split at h
    .rename_i t l es clock ho;cases h;exact QY ho (hC _ (List.mem_singleton.2 rfl))
    .cases h
   .cases h
  .split at h
   .split at h
    .rename_i C' r hl;cases h;obtain⟨k1,k2⟩:=io (Q:=ve P st) (λg t C c=>rR n g t C c) _ _ _ _ hl hC;exact L9 k1 k2
    .cases h
   .cases h
  .split at h
   .split at h
    .rename_i C' r hl;cases h;obtain⟨k1,k2⟩:=io (Q:=ve P st) (λg t C c=>rR n g t C c) _ _ _ _ hl hC;exact Ma k1 k2
    .cases h
   .cases h
  .cases hb:nF 20 g with
   |false=>rw[hb] at h;cases h
   |true=>rw[hb] at h;cases h;exact jB (aG 20 g hb)
def IJ:List Prop->Prop
 |[]=>True
 |p::r=>p/\IJ r
theorem w9:∀{l:List Prop},IJ l->∀p∈l,p
 |[],_,p,hp=>by cases hp
 |q::r,h,p,hp=>by
  rcases List.mem_cons.1 hp with rfl|hp
  .exact h.1
  .exact w9 h.2 p hp
def CM(P:Program)(st:St):List G->List G->Prop
 |[],[]=>True
 |g::r,g'::r'=>ve P st g g'/\CM P st r r'
 |_,_=>False
theorem EO{st:St}:∀{l l':List G},CM P st l l'->l'.length=l.length/\∀(i:Nat) (g a:G),l[i]?=some g->l'[i]?=some a->ve P st g a
 |[],[],_=>⟨rfl,λi g a h=>by simp at h⟩
 |x::r,x'::r',h=>by
  obtain⟨h1,h2⟩:=EO h.2;refine⟨by simp[h1],λi g a e e'=>?_⟩;cases i with
  |zero=>simp at e e';subst e;subst e';exact h.1
  |succ i=>exact h2 i g a (by simpa using e) (by simpa using e')
 |[],_::_,h=>h.elim
 |_::_,[],h=>h.elim
def TA(σ:aQ)(c:Nat)(e:TypeId)(s:Nat):G->Option (Nat×Nat×List G×Prop)
 | .lit (.slice none 0 0)=>some (c,0,[],True)
 | .rsl i 0 n=>match ag σ i with
  |some ⟨t,l,none⟩=>bif Nat.beq t e then some (i,n,l,l.length=n*s) else none
  |_=>none
 |_=>none
def QZ(σ:aQ)(s:Nat):G->Option (List G×Nat×Prop)
 | .sl l m=>some (l,m,l.length=m*s)
 | .rsl j o m=>match ag σ j with
  |some ob=>some ((ob.l.drop o).take (m*s),m,o+m*s<=ob.l.length)
  |none=>none
 | .lit (.slice none 0 _)=>some ([],0,True)
 |_=>none
def ME(P:Program)(st:St)(t:TypeId)(f g:G)(L:List G)(M:Nat):Option (TypeId×Nat×Prop):=match dp P t with
 |some e=>match bw P e,jj P e,(P.info? e).map (·.bytes) with
  |some s,some zs,some b=>bif Nat.blt 0 s&&Nat.beq zs.length s&&Nat.blt 0 b then(match TA st.σ st.c e s f,QZ st.σ s g with
   |some (i,n,l,a),some (news,m,d)=>some (e,i,a/\d/\(n+m)*b<=140737488355328/\l++news=L/\n+m=M)
   |_,_=>none) else none
  |_,_,_=>none
 |none=>none
def KX(P:Program)(st:St)(t u:TypeId)(d f:G)(L:List G)(M:Nat):Option (TypeId×Nat×Prop):=match f with
 | .lit (.string b)=>match dp P t with
  |some e=>match bw P e,(P.info? e).bind (·.zero),(P.info? e).map (·.bytes) with
   |some 1,some (.int .u8 0),some 1=>bif nu P u then(match TA st.σ st.c e 1 d with
    |some (i,n,l,a)=>some (e,i,a/\n+b.data.toList.length<=140737488355328/\l++b.data.toList.map gY=L/\n+b.data.toList.length=M)
    |none=>none) else none
   |_,_,_=>none
  |none=>none
 |_=>none
theorem MF{σ:aQ}{s:Nat}{e:TypeId}{l:List G}{C:Prop}(h:TA σ c e s g=some (i,n,l,C))(hC:C):xO σ c e s g=some (i,n,l):=by
 unfold TA at h;split at h
 .cases h;rfl
 .rename_i j m;split at h
  .rename_i t a hs;cases hb:Nat.beq t e with
   |false=>rw[hb] at h;cases h
   |true=>rw[hb] at h;obtain rfl:=bc hb;cases h;simp only[xO,hs,aL];rw[if_pos ⟨trivial,hC,rfl⟩]
  .cases h
 .cases h
theorem Om{u e:TypeId}{C:Prop}(h:KX P st t u gx gy L M=some (e,i,C))(hC:C):Hc P st.σ st.c t u gx gy=some (e,i,M,L):=by
 unfold KX at h;split at h
 .split at h
  .rename_i b e' he;split at h
   .rename_i h1 h2 h3;cases hu:nu P u with
    |false=>rw[hu] at h;cases h
    |true=>
     rw[hu] at h;simp only[ax] at h;split at h
     .rename_i d n l a hs;cases h;obtain⟨c1,c2,rfl,rfl⟩:=hC;unfold Hc;simp only[he,h1,h2,h3,MF hs c1,hu,Bool.true_and,Nat.ble_eq_true_of_le c2,ax]
     .cases h
   .cases h
  .cases h
 .cases h
theorem Q0{σ:aQ}{s m:Nat}{l:List G}{C:Prop}(h:QZ σ s g=some (l,m,C))(hC:C):fO σ s g=some (l,m):=by
 unfold QZ at h;split at h
 .cases h;simp only[fO];rw[if_pos hC]
 .split at h
  .rename_i ob ho;cases h;simp only[fO,ho,aL];rw[if_pos hC]
  .cases h
 .cases h;rfl
 .cases h
theorem CN{e:TypeId}{C:Prop}(h:ME P st t gx gy L M=some (e,i,C))(hC:C):wu P st.σ st.c t gx gy=some (e,i,M,L):=by
 unfold ME at h;split at h
 .rename_i e' he;split at h
  .rename_i s zs b hs hz hb;cases hk:(Nat.blt 0 s&&Nat.beq zs.length s&&Nat.blt 0 b) with
   |false=>rw[hk] at h;cases h
   |true=>
    rw[hk] at h;simp only[ax] at h;simp only[bA] at hk;split at h
    .rename_i g n l d a m f h1 h2;cases h;obtain⟨c1,c2,c3,c4,c5⟩:=hC;have hb1:n+m<=(n+m)*b:=Nat.le_mul_of_pos_right _ (cm hk.2);unfold wu;rw[he,aL,hs,aL,hz,aL,hb,aL,MF h1 c1,aL,Q0 h2 c2];simp only[aL];rw[if_pos ⟨cm hk.1.1,bc hk.1.2,aa,c3⟩,c4,c5]
    .cases h
  .cases h
 .cases h
def Wv(P:Program)(o:Oper)(st:St)(hs:List Hn):Option (Option Prop×G×aQ×Nat):=match Ol o hs with
 |some h=>match h with
  | .v _ g=>some (some (EM P o st g),g,st.σ,st.c)
  | .b _ g=>match o.op with
   | .binOp op t x y _=>some (some (lD op (aB st x) (aB st y)=some g),g,st.σ,st.c)
   |_=>none
  | .f _ g=>match ge st o with
   |some (fid,gs)=>bif aK P fid&&gs.all (nF 20) then some (some (ba P st.gl fid gs g),g,st.σ,st.c) else none
   |none=>none
  | .l _ gs' g=>match ge st o with
   |some (fid,gs)=>bif aK P fid&&w8 20 g then some (some (CM P st gs gs'/\ba P st.gl fid gs' g),g,st.σ,st.c) else none
   |none=>none
  | .e _ g σ c=>some (some (∃lo,od P ko o st=some [(g,σ,c,lo)]),g,σ,c)
  | .a _ L M=>match o.op with
   | .call {callee:= .builtin .append,args:=⟨[x,y]⟩,argTypes:=⟨[t,u]⟩}=>bif Nat.beq t u then(match ME P st t (aB st x) (aB st y) L M with
    |some (e,i,C)=>some (some C,.rsl st.c 0 M,(st.c,some ⟨e,L,none⟩)::vQ st.σ i,st.c+1)
    |none=>none) else(match KX P st t u (aB st x) (aB st y) L M with
    |some (e,i,C)=>some (some C,.rsl st.c 0 M,(st.c,some ⟨e,L,none⟩)::vQ st.σ i,st.c+1)
    |none=>none)
   |_=>none
  | .r _ b=>match iE P E0 ko o st with
   |some (.lit (.bool t))=>some (some (t=b),.lit (.bool b),st.σ,st.c)
   |_=>none
  | .w _ L=>match o.op with
   | .store t x y=>match aB st x with
    | .ref i j=>match ag st.σ i,dH (aB st y),bw P t with
     |some ⟨d,l0,none⟩,some l,some s=>some (some (l.length=s/\j+s<=l0.length/\l0.take j++l++l0.drop (j+s)=L),.lit undef,jO st.σ i (some ⟨d,L,none⟩),st.c)
     |_,_,_=>none
    |_=>none
   |_=>none
  | .k _ L M=>match o.op with
   | .makeSlice t x y=>match dp P t with
    |some e=>some (some (tI P t (aB st x) (aB st y)=some (e,L,M)),.rsl st.c 0 M,(st.c,some ⟨e,L,none⟩)::st.σ,st.c+1)
    |none=>none
   |_=>none
  | .q _ ts g=>match ge st o with
   |some (fid,gs)=>bif aK P fid&&w8 20 g then(match Da (KW P st.σ 20) gs ts with
    |some (C,gs')=>some (some (IJ C/\ba P st.gl fid gs' g),g,st.σ,st.c)
    |none=>none) else none
   |none=>none
  | .o _ ts t m l=>match ge st o with
   |some (fid,gs)=>bif aK P fid then(match Da (KW P st.σ 20) gs ts with
    |some (C,gs')=>some (some (IJ C/\iV P st.gl fid gs' t m l/\∀g∈l,∃v,g= .lit v),.rsl st.c 0 m,(st.c,some ⟨t,l,none⟩)::st.σ,st.c+1)
    |none=>none) else none
   |none=>none
  | .c _ g=>match o.op with
   | .convert s t x=>some (some (iQ P st.σ s t (aB st x)=some g),g,st.σ,st.c)
   | .slice t x (some lo) (some hi) (some mx)=>some (some (sJ P t (aB st x) (aB st lo) (aB st hi) (aB st mx)=some g),g,st.σ,st.c)
   |_=>none
  | .m _ g=>match o.op with
   | .lookup t x y ok=>some (some (KU P st.σ t ok (aB st x) (aB st y) g),g,st.σ,st.c)
   | .entry x=>some (some (jr st.σ (aB st x)=some g),g,st.σ,st.c)
   |_=>none
  | .z _ R g U c'=>match ge st o with
   |some (fid,gs)=>some (some (oJ P st.gl fid gs (R.map λi=>(i,ag st.σ i)) st.c g U c'),g,U++st.σ,c')
   |none=>none
  | .g _=>none
 |none=>match iE P E0 ko o st with
  |some g=>some (none,g,st.σ,st.c)
  |none=>match od P ko o st with
   |some [(g,σ,c,_)]=>some (none,g,σ,c)
   |_=>none
theorem cM{fid:FuncId}{gs:List G}(h:ge st o=some (fid,gs)):∃x xs ats fst cap,o.op= .call {callee:= .value x,args:=xs,argTypes:=ats}/\aB st x= .clo (.func fid) fst cap/\gs=fst++xs.toList.map (aB st)++cap:=by
 unfold ge at h;split at h
 .rename_i x xs ats ho;split at h
  .rename_i a fst cap hx;simp only[bg,Prod.mk.injEq] at h;obtain⟨rfl,rfl⟩:=h;exact⟨x,xs,ats,fst,cap,ho,hx,rfl⟩
  .cases h
 .cases h
theorem sU{σ:aQ}{c lo:Nat}(hd:H_d o st.n)(h:od P ko o st=some [(g,σ,c,lo)]):GS P o st ({st with σ:=σ,c:=c}.put o.dst g):=
 (
  Bg dT hd h).gs λs hs=>by
  obtain⟨q,hq,rfl⟩:=hs
  obtain rfl:=List.mem_singleton.1 hq
  rfl
theorem TB{hs:List Hn}{σ:aQ}(hd:H_d o st.n)(h:Wv P o st hs=some (C,g,σ,c)){X:Prop}(hC:II C X):GS P o st ({st with σ:=σ,c:=c}.put o.dst g)/\X:=by
 unfold Wv at h;split at h
 .split at h
  .simp only[bg,Prod.mk.injEq] at h;obtain⟨rfl,rfl,rfl,rfl⟩:=h;exact⟨fM hd (w7 hC.1),hC.2⟩
  .split at h
   .rename_i A t x y u ho;simp only[bg,Prod.mk.injEq] at h;obtain⟨rfl,rfl,rfl,rfl⟩:=h;refine⟨fM hd ?_,hC.2⟩;obtain⟨d,a,ty,f,m,p⟩:=o;obtain rfl:a=_:=ho;rw[rA];exact jo hC.1
   .cases h
  .split at h
   .rename_i fid gs hc;cases hb:(aK P fid&&gs.all (nF 20)) with
    |false=>rw[hb] at h;cases h
    |true=>rw[hb] at h;simp only[bA] at hb;simp only[ax,bg,Prod.mk.injEq] at h;obtain⟨rfl,rfl,rfl,rfl⟩:=h;obtain⟨x,xs,ats,fst,cap,ho,hx,rfl⟩:=cM hc;exact⟨wt ho hd hx hb.1 (λg hg=>aG 20 g (List.all_eq_true.1 hb.2 g hg)) hC.1,hC.2⟩
   .cases h
  .split at h
   .rename_i fid gs hc;cases hb:(aK P fid&&w8 20 _) with
    |false=>rw[hb] at h;cases h
    |true=>rw[hb] at h;simp only[bA] at hb;simp only[ax,bg,Prod.mk.injEq] at h;obtain⟨rfl,rfl,rfl,rfl⟩:=h;obtain⟨x,xs,ats,fst,cap,ho,hx,rfl⟩:=cM hc;obtain⟨f1,f2⟩:=EO hC.1.1;exact⟨Ai ho hd hx hb.1 f1 f2 hC.1.2 (rQ 20 _ hb.2),hC.2⟩
   .cases h
  .simp only[bg,Prod.mk.injEq] at h;obtain⟨rfl,rfl,rfl,rfl⟩:=h;obtain⟨⟨lo,he⟩,b⟩:=hC;exact⟨sU hd he,b⟩
  .split at h
   .rename_i x y t u ho;cases hb:Nat.beq t u with
    |false=>
     rw[hb] at h;simp only[aM] at h;split at h
     .rename_i e i C hcd;cases h;obtain⟨k,b⟩:=hC;refine⟨sU (lo:=mj i st.c) hd ?_,b⟩;obtain⟨d,a,ty,f,m,p⟩:=o;obtain rfl:a=_:=ho;unfold od;dsimp only;rw[if_neg (λe=>by rw[e,Nat.beq_refl] at hb;cases hb),Om hcd k];rfl
     .cases h
    |true=>
     rw[hb] at h;obtain rfl:=bc hb;simp only[ax] at h;split at h
     .rename_i e i C hcd;cases h;obtain⟨k,b⟩:=hC;refine⟨sU (lo:=mj i st.c) hd ?_,b⟩;obtain⟨d,a,ty,f,m,p⟩:=o;obtain rfl:a=_:=ho;unfold od;dsimp only;rw[if_pos rfl,CN hcd k];rfl
     .cases h
   .cases h
  .split at h
   .rename_i t hv;simp only[bg,Prod.mk.injEq] at h;obtain⟨rfl,rfl,rfl,rfl⟩:=h;obtain⟨rfl,b⟩:=hC;exact⟨mD dT IH hd hv,b⟩
   .cases h
  .split at h
   .rename_i t x y ho;split at h
    .rename_i i j hx;split at h
     .rename_i z l0 l s h1 h2 h3;simp only[bg,Prod.mk.injEq] at h;obtain⟨rfl,rfl,rfl,rfl⟩:=h;obtain⟨⟨k1,k2,rfl⟩,b⟩:=hC;refine⟨sU (lo:=i) hd ?_,b⟩;obtain⟨d,a,ty,f,m,p⟩:=o;obtain rfl:a=_:=ho;unfold od;simp only[FK,hx,h1,h2,h3,aL,k1,k2,and_self,Option.isNone_none,if_true,Option.map_some]
     .cases h
    .cases h
   .cases h
  .split at h
   .rename_i t x y ho;split at h
    .rename_i e he;simp only[bg,Prod.mk.injEq] at h;obtain⟨rfl,rfl,rfl,rfl⟩:=h;obtain⟨k1,b⟩:=hC;refine⟨sU (lo:=st.c) hd ?_,b⟩;obtain⟨d,a,ty,f,m,p⟩:=o;obtain rfl:a=_:=ho;unfold od;simp only[k1,Option.map_some]
    .cases h
   .cases h
  .split at h
   .rename_i fid gs hc;cases hb:(aK P fid&&w8 20 _) with
    |false=>rw[hb] at h;cases h
    |true=>
     rw[hb] at h;simp only[bA] at hb;simp only[ax] at h;split at h
     .rename_i w v hz;cases h;obtain⟨x,xs,ats,fst,cap,ho,hx,rfl⟩:=cM hc;obtain⟨⟨k1,k2⟩,b⟩:=hC;obtain⟨f1,f2⟩:=io (Q:=ve P st) (λg t C r=>rR 20 g t C r) _ _ _ _ hz (w9 k1);exact⟨Ai ho hd hx hb.1 f1 f2 k2 (rQ 20 _ hb.2),b⟩
     .cases h
   .cases h
  .split at h
   .rename_i fid gs hc;cases hb:aK P fid with
    |false=>rw[hb] at h;cases h
    |true=>
     rw[hb] at h;simp only[ax] at h;split at h
     .rename_i w v hz;cases h;obtain⟨x,xs,ats,fst,cap,ho,hx,rfl⟩:=cM hc;obtain⟨⟨k1,k2,k3⟩,b⟩:=hC;obtain⟨f1,f2⟩:=io (Q:=ve P st) (λg t C r=>rR 20 g t C r) _ _ _ _ hz (w9 k1);exact⟨H4 ho hd hx hb f1 f2 k2 k3,b⟩
     .cases h
   .cases h
  .split at h
   .rename_i s t x ho;simp only[bg,Prod.mk.injEq] at h;obtain⟨rfl,rfl,rfl,rfl⟩:=h;exact⟨Bd ho hd hC.1,hC.2⟩
   .rename_i t x lo hi mx ho;simp only[bg,Prod.mk.injEq] at h;obtain⟨rfl,rfl,rfl,rfl⟩:=h;exact⟨En ho hd hC.1,hC.2⟩
   .cases h
  .split at h
   .rename_i t x y ok ho;simp only[bg,Prod.mk.injEq] at h;obtain⟨rfl,rfl,rfl,rfl⟩:=h;exact⟨xS ho hd (EN hC.1 λ_ _=>rfl),hC.2⟩
   .rename_i x ho;simp only[bg,Prod.mk.injEq] at h;obtain⟨rfl,rfl,rfl,rfl⟩:=h;exact⟨H3 ho hd hC.1,hC.2⟩
   .cases h
  .split at h
   .rename_i fid gs hc;simp only[bg,Prod.mk.injEq] at h;obtain⟨rfl,rfl,rfl,rfl⟩:=h;obtain⟨x,xs,ats,fst,cap,ho,hx,rfl⟩:=cM hc;exact⟨hC.1 o st x xs ats fst cap ho hd hx rfl rfl (λq hq=>by obtain⟨i,_,rfl⟩:=List.mem_map.1 hq;rfl) rfl,hC.2⟩
   .cases h
  .cases h
 .split at h
  .rename_i r hv;simp only[bg,Prod.mk.injEq] at h;obtain⟨rfl,rfl,rfl,rfl⟩:=h;exact⟨mD dT IH hd hv,hC⟩
  .split at h
   .rename_i he;simp only[bg,Prod.mk.injEq] at h;obtain⟨rfl,rfl,rfl,rfl⟩:=h;exact⟨sU hd he,hC⟩
   .cases h
def Ww(P:Program)(o:Oper)(st:St):Option G:=match o.op with
 | .binOp op t x y _=>match lD op (aB st x) (aB st y) with
  |some g=>some g
  |none=>aX P (aB st) st.σ o
 | .build t parts=>uH P t (parts.toList.map λq=>(q.1,aB st q.2))
 |_=>aX P (aB st) st.σ o
theorem TC(hd:H_d o st.n)(h:Ww P o st=some g):TG P o st g:=by
 unfold Ww at h;split at h
 .rename_i e t x y u ho;split at h
  .rename_i f hv;cases h;refine rz hd ?_;obtain⟨c,a,ty,d,i,j⟩:=o;obtain rfl:a=_:=ho;rw[rA];exact jo hv
  .exact rz hd h
 .rename_i t b ho;exact HR ho hd h
 .exact rz hd h
def Q1(P:Program)(o:Oper)(st:St)(hs:List Hn):Option (Option Prop×G):=match Ol o hs with
 |some h=>match h with
  | .r _ b=>match Ww P o st with
   |some (.lit (.bool t))=>some (some (t=b),.lit (.bool b))
   |_=>none
  | .v _ g=>some (some (EM P o st g),g)
  | .b _ g=>match o.op with
   | .binOp op t x y _=>some (some (lD op (aB st x) (aB st y)=some g),g)
   |_=>none
  | .f _ g=>match ge st o with
   |some (fid,gs)=>bif aK P fid&&gs.all (nF 20) then some (some (ba P st.gl fid gs g),g) else none
   |none=>none
  |_=>none
 |none=>match o.op with
  | .binOp op t x y _=>match lD op (aB st x) (aB st y) with
   |some g=>some (none,g)
   |none=>match aX P (aB st) st.σ o with
    |some g=>some (none,g)
    |none=>none
  | .build t parts=>match uH P t (parts.toList.map λq=>(q.1,aB st q.2)) with
   |some g=>some (none,g)
   |none=>none
  |_=>match aX P (aB st) st.σ o with
   |some g=>some (none,g)
   |none=>none
theorem Q2{hs:List Hn}(hd:H_d o st.n)(h:Q1 P o st hs=some (C,g)){X:Prop}(hC:II C X):TG P o st g/\X:=by
 unfold Q1 at h;split at h
 .split at h
  .split at h
   .rename_i t hv;simp only[bg,Prod.mk.injEq] at h;obtain⟨rfl,rfl⟩:=h;obtain⟨rfl,f⟩:=hC;exact⟨TC hd hv,f⟩
   .cases h
  .simp only[bg,Prod.mk.injEq] at h;obtain⟨rfl,rfl⟩:=h;exact⟨rz hd (w7 hC.1),hC.2⟩
  .split at h
   .rename_i i t x y u ho;simp only[bg,Prod.mk.injEq] at h;obtain⟨rfl,rfl⟩:=h;refine⟨rz hd ?_,hC.2⟩;obtain⟨b,a,ty,c,j,k⟩:=o;obtain rfl:a=_:=ho;rw[rA];exact jo hC.1
   .cases h
  .split at h
   .rename_i fid gs hc;cases hb:(aK P fid&&gs.all (nF 20)) with
    |false=>rw[hb] at h;cases h
    |true=>rw[hb] at h;simp only[bA] at hb;simp only[ax,bg,Prod.mk.injEq] at h;obtain⟨rfl,rfl⟩:=h;obtain⟨x,xs,ats,fst,cap,ho,hx,rfl⟩:=cM hc;exact⟨SW ho hd hx hb.1 (λg hg=>aG 20 g (List.all_eq_true.1 hb.2 g hg)) hC.1,hC.2⟩
   .cases h
  .cases h
 .split at h
  .rename_i i t x y u ho;split at h
   .rename_i d hv;simp only[bg,Prod.mk.injEq] at h;obtain⟨rfl,rfl⟩:=h;refine⟨rz hd ?_,hC⟩;obtain⟨b,a,ty,c,j,k⟩:=o;obtain rfl:a=_:=ho;rw[rA];exact jo hv
   .split at h
    .rename_i d hv;simp only[bg,Prod.mk.injEq] at h;obtain⟨rfl,rfl⟩:=h;exact⟨rz hd hv,hC⟩
    .cases h
  .rename_i t e ho;split at h
   .rename_i d hv;simp only[bg,Prod.mk.injEq] at h;obtain⟨rfl,rfl⟩:=h;exact⟨HR ho hd hv,hC⟩
   .cases h
  .split at h
   .rename_i d hv;simp only[bg,Prod.mk.injEq] at h;obtain⟨rfl,rfl⟩:=h;exact⟨rz hd hv,hC⟩
   .cases h
inductive Kf where
 |thn (c:Code)
 |blk (id:Nat)
 |lp (B:St->Prop)
inductive SyOut where
 |lp (c:Code) (K:List Kf) (st:St)
 |fin (e:Exit) (st:St)
 |bk (B:St->Prop) (st:St)
 |ct (c:Code) (K:List Kf) (st:St)
abbrev Q3:=Option (Prop×List Nat×SyOut)
def Wx(c:Option Prop)(d:Nat):Q3->Q3
 |some (C,u,out)=>some (II c C,(match c with|some _=>d::u|none=>u),out)
 |none=>none
def EP(P:Program)(ops:Array Oper)(hs:List Hn)(k:St->Q3):List Oper->St->Q3
 |[],st=>k st
 |o::r,st=>match ce st ops o with
  |some true=>bif pj st.n o.dst then(match Wv P o st hs with
   |some (c,g,σ,n)=>Wx c (CL o) (EP P ops hs k r ({st with σ:=σ,c:=n}.put o.dst g))
   |none=>none) else none
  |some false=>bif pj st.n o.dst then EP P ops hs k r (st.put o.dst (.lit undef)) else none
  |none=>none
theorem On{c:Option Prop}{r:Q3}{C:Prop}{out:SyOut}(h:Wx c d r=some (C,u,out)):∃C' a,r=some (C',a,out)/\C=II c C':=by
 cases r with
 |none=>cases h
 |some q=>obtain⟨C',a,b⟩:=q;simp only[Wx,bg,Prod.mk.injEq] at h;obtain⟨rfl,rfl,rfl⟩:=h;exact⟨C',a,rfl,rfl⟩
theorem xa{ops:Array Oper}{hs:List Hn}{k:St->Q3}{out:SyOut}:∀(l:List Oper) (st:St) (C:Prop) (u:List Nat),EP P ops hs k l st=some (C,u,out)->C->D8 P ops (λs=>∃C' b,k s=some (C',b,out)/\C') l st
 |[],st,C,u,h,hC=>⟨C,u,h,hC⟩
 |o::r,st,C,u,h,hC=>by
  unfold EP at h;split at h
  .rename_i hw;cases hd:pj st.n o.dst with
   |false=>rw[hd] at h;cases h
   |true=>
    rw[hd] at h;simp only[ax] at h;split at h
    .rename_i c g σ n ho;obtain⟨C',b,h1,rfl⟩:=On h;obtain⟨hg,a⟩:=TB (eN hd) ho hC;exact .inl ⟨hw,_,hg,xa r _ _ _ h1 a⟩
    .cases h
  .rename_i hw;cases hd:pj st.n o.dst with
   |false=>rw[hd] at h;cases h
   |true=>rw[hd] at h;simp only[ax] at h;exact .inr ⟨hw,eN hd,xa r _ _ _ h hC⟩
  .cases h
def IK(ops:Array Oper)(o:Oper):Option Nat:=match o.guard with
 |some (j,_)=>(ops[j]?).bind (·.dst)
 |none=>none
def KY(ops:Array Oper):List Oper->List Nat
 |[]=>[]
 |o::r=>match IK ops o with
  |some d=>(λl=>bif l.contains d then l else d::l) (KY ops r)
  |none=>KY ops r
def Wy:List Hn->List Nat
 |[]=>[]
 | .g d::r=>d::Wy r
 |_::r=>Wy r
def YZ(b:Bool)(g1 g2:G):G:=match g1,g2 with
 | .lit (.bool x),.lit (.bool y)=> .lit (.bool (bif b then x else y))
 |g1,g2=>bif b then g1 else g2
theorem Y0(g1 g2:G):YZ true g1 g2=g1:=by unfold YZ;split<;>rfl
theorem Y1(g1 g2:G):YZ false g1 g2=g2:=by unfold YZ;split<;>rfl
def EQ(b:Bool):Fr->Fr->Fr
 |(d,g)::r,(d',g')::r'=>bif Nat.beq d d' then(d,YZ b g g')::EQ b r r' else[]
 |_,_=>[]
def CO:Fr->Fr->Bool
 |[],[]=>true
 |(d,_)::r,(d',_)::r'=>Nat.beq d d'&&CO r r'
 |_,_=>false
theorem MG:∀(f1 f2 base:Fr) (i:Nat),CO f1 f2=true->aD (EQ true f1 f2++base) i=aD (f1++base) i
 |[],[],base,i,_=>rfl
 |[],_::_,_,_,h=>by cases h
 |_::_,[],_,_,h=>by cases h
 |(d,g)::r,(d',g')::r',base,i,h=>by
  simp only[CO,bA] at h;unfold EQ;rw[h.1];simp only[ax,List.cons_append,aD,Y0];cases Nat.beq d i with
  |true=>rfl
  |false=>exact MG r r' base i h.2
theorem MH:∀(f1 f2 base:Fr) (i:Nat),CO f1 f2=true->aD (EQ false f1 f2++base) i=aD (f2++base) i
 |[],[],base,i,_=>rfl
 |[],_::_,_,_,h=>by cases h
 |_::_,[],_,_,h=>by cases h
 |(d,g)::r,(d',g')::r',base,i,h=>by
  simp only[CO,bA] at h;obtain rfl:=bc h.1;unfold EQ;rw[Nat.beq_refl];simp only[ax,List.cons_append,aD,Y1];cases Nat.beq d i with
  |true=>rfl
  |false=>exact MH r r' base i h.2
def Oo:Option Tmp->G->Fr
 |some d,g=>[(d,g)]
 |none,_=>[]
def Y2:G->Bool
 | .lit (.bool _)=>true
 |_=>false
def Q4(P:Program)(ops:Array Oper)(hs:List Hn):Nat->List Nat->List Oper->St->Option (List Prop×List Nat×Fr)
 |0,_,_,_=>none
 |_+1,_,[],st=>some ([],[],[])
 |n+1,sg,o::r,st=>bif(match IK ops o with|some d=>sg.contains d&&Y2 (aD st.fr d)|none=>false) then(match IK ops o with
   |some d=>match aD st.fr d with
    | .lit (.bool b)=>match Q4 P ops hs n (sg.filter λx=> !(Nat.beq x d)) (o::r) {st with fr:=(d,.lit (.bool true))::st.fr},Q4 P ops hs n (sg.filter λx=> !(Nat.beq x d)) (o::r) {st with fr:=(d,.lit (.bool false))::st.fr} with
     |some (a,u1,f1),some (e,h,f2)=>bif CO f1 f2 then some (a++e,u1++h,EQ b f1 f2) else none
     |_,_=>none
    |_=>none
   |none=>none)
  else match ce st ops o with
   |some true=>bif pj st.n o.dst then(match Q1 P o st hs with
    |some (c,g)=>match Q4 P ops hs n sg r (st.put o.dst g) with
     |some (ps,u,f)=>some ((match c with|some p=>p::ps|none=>ps),(match c with|some _=>CL o::u|none=>u),f++Oo o.dst g)
     |none=>none
    |none=>none) else none
   |some false=>bif pj st.n o.dst then(match Q4 P ops hs n sg r (st.put o.dst (.lit undef)) with
    |some (ps,u,f)=>some (ps,u,f++Oo o.dst (.lit undef))
    |none=>none) else none
   |none=>none
structure WkS (s S:St):Prop where
 n:S.n=s.n
 gl:S.gl=s.gl
 σ:S.σ=s.σ
 c:S.c=s.c
 p:S.p=s.p
 r:S.r=s.r
 fr:∀i,aD S.fr i=aD s.fr i\/aD S.fr i= .junk
theorem WkS.le{s S:St}(h:WkS s S):Le P s S:=by have:=LV (P:=P) (st:=s) (fr:=S.fr) h.fr;obtain⟨n,gl,fr,σ,c,p,r⟩:=S;obtain⟨d,a,b,σ',c',e,r'⟩:=s;obtain⟨h1,h2,h3,h4,h5,h6,h7⟩:=h;dsimp only at h1 h2 h3 h4 h5 h6;subst h1;subst h2;subst h3;subst h4;subst h5;subst h6;exact this
theorem Sm.putO{st0 st:St}(e:Sm st0 st)(d:Option Tmp)(g:G):Sm (st0.put d g) (st.put d g):=by
 cases d with
 |none=>exact e
 |some d=>exact⟨e.n,e.gl,e.σ,e.c,e.p,e.r,λi=>by show aD ((d,g)::st.fr) i=aD ((d,g)::st0.fr) i;simp only[aD,e.fr i]⟩
theorem Sm.gev{st0 st:St}(e:Sm st0 st)(x:Operand):aB st x=aB st0 x:=by rw[e.eqv.gev]
theorem Y3(e:Sm st0 st)(h:TG P o st g):TG P o st0 g:=λst' ⟨h1,h2,h3,h4,h5⟩ hx=>
 h st' ⟨h1.trans e.n.symm,h2.trans e.gl.symm,h3.trans e.σ.symm,h4.trans e.c.symm,h5.trans (by unfold St.pr;rw[e.p,e.r])⟩ λx hx'=>(hx x hx').trans (e.gev x).symm
theorem Y4(h:TG P o st g):GS P o st (st.put o.dst g):=h st ⟨rfl,rfl,rfl,rfl,rfl⟩ λ_ _=>rfl
theorem D8.mono{ops:Array Oper}{K K':St->Prop}(hk:∀s,K s->K' s):∀(l:List Oper) (st:St),D8 P ops K l st->D8 P ops K' l st
 |[],st,h=>hk st h
 |o::r,st,h=>by
  rcases h with⟨h1,a,h2,h3⟩|⟨h1,h2,h3⟩
  .exact .inl ⟨h1,a,h2,D8.mono hk r a h3⟩
  .exact .inr ⟨h1,h2,D8.mono hk r _ h3⟩
theorem tg.mono{ops:Array Oper}{bars:List Nat}{K K':St->Prop}(hk:∀s,K s->K' s):∀(l:List Oper) (j:Nat) (st:St),tg P ops bars K j l st->tg P ops bars K' j l st
 |[],j,st,h=>hk st h
 |o::r,j,st,h=>by
  rcases h with⟨h1,g,h2,h3⟩|⟨h1,h2⟩|⟨h1,h2,g,σ,c,h3,h4⟩
  .exact .inl ⟨h1,g,h2,tg.mono hk r _ _ h3⟩
  .exact .inr (.inl ⟨h1,tg.mono hk r _ _ h2⟩)
  .exact .inr (.inr ⟨h1,h2,g,σ,c,h3,tg.mono hk r _ _ h4⟩)
theorem MI(e:Sm st0 st)(ops:Array Oper)(o:Oper):ce st ops o=ce st0 ops o:=e.eqv.want ops o
theorem Q5(e:Sm st0 st)(h:aD st.fr d= .lit (.bool b)):Sm st0 {st with fr:=(d,.lit (.bool b))::st.fr}:=⟨e.n,e.gl,e.σ,e.c,e.p,e.r,λi=>by
 show aD ((d,.lit (.bool b))::st.fr) i=aD st0.fr i;rw[aO];split
 .rename_i hd;subst hd;rw[<-e.fr,h]
 .exact e.fr i⟩
theorem KZ{ops:Array Oper}{hs:List Hn}{R:List Oper->St->(St->Prop)->Prop}(hm:∀l st K K',R l st K->(∀s,K s->K' s)->R l st K')(j:∀st K,K st->R [] st K)
  (hst:∀o r st g K,ce st ops o=some true->(∀d,o.dst=some d->d<st.n)->TG P o st g->R r (st.put o.dst g) K->R (o::r) st K) (hno:∀o r st K,ce st ops o=some false->(∀d,o.dst=some d->d<st.n)->R r (st.put o.dst (.lit undef)) K->R (o::r) st K):
  ∀(n:Nat) (sg:List Nat) (l:List Oper) (st:St) (ps:List Prop) (u:List Nat) (f:Fr),Q4 P ops hs n sg l st=some (ps,u,f)->(∀p∈ps,p)->∀a,Sm a st->R l a (λs=>WkS s {a with fr:=f++a.fr})
 |0,_,_,_,_,_,_,h,_,_,_=>by cases h
 |n+1,sg,[],st,ps,u,f,h,hp,a,e=>by cases h;exact j _ _ ⟨rfl,rfl,rfl,rfl,rfl,rfl,λi=> .inl rfl⟩
 |n+1,sg,o::r,st,ps,u,f,h,hp,a,e=>by
  have ih:=KZ (hs:=hs) hm j hst hno n;unfold Q4 at h;generalize (match IK ops o with|some d=>sg.contains d&&Y2 (aD st.fr d)|none=>false)=q at h;cases q with
  |true=>
   simp only[ax] at h;split at h
   .rename_i d hd;split at h
    .rename_i b hb;split at h
     .rename_i v u1 f1 x y f2 h1 h2;cases hk:CO f1 f2 with
      |false=>rw[hk] at h;cases h
      |true=>
      rw[hk] at h;cases h;cases b with
      |true=>exact hm _ _ _ _ (ih _ _ _ _ _ _ h1 (λp hq=>hp p (List.mem_append_left _ hq)) a (Q5 e hb)) λs w=>⟨w.n,w.gl,w.σ,w.c,w.p,w.r,λi=>by rw[MG f1 f2 a.fr i hk];exact w.fr i⟩
      |false=>exact hm _ _ _ _ (ih _ _ _ _ _ _ h2 (λp hq=>hp p (List.mem_append_right _ hq)) a (Q5 e hb)) λs w=>⟨w.n,w.gl,w.σ,w.c,w.p,w.r,λi=>by rw[MH f1 f2 a.fr i hk];exact w.fr i⟩
     .cases h
    .cases h
   .cases h
  |false=>
   simp only[aM] at h;split at h
   .rename_i hw;rw[MI e] at hw;cases hd:pj st.n o.dst with
    |false=>rw[hd] at h;cases h
    |true=>
     rw[hd] at h;simp only[ax] at h;have hd':∀d,o.dst=some d->d<a.n:=by rw[<-e.n];exact eN hd
     split at h
     .rename_i c g ho;split at h
      .rename_i k m t hr;cases h;have hC:II c True:=by
        cases c with
        |none=>trivial
        |some p=>exact⟨hp p aC,trivial⟩
       have hps:∀p∈k,p:=λp hq=>hp p (by cases c with|none=>exact hq|some _=>exact List.mem_cons_of_mem _ hq);refine hst _ _ _ g _ hw hd' (Y3 e (Q2 (eN hd) ho hC).1) ?_;have:=ih _ _ _ _ _ _ hr hps _ (e.putO o.dst g);refine hm _ _ _ _ this λs w=>?_;cases hdst:o.dst with
       |none=>rw[hdst] at w;simpa[Oo,St.put] using w
       |some d=>rw[hdst] at w;simpa[Oo,St.put,List.append_assoc] using w
      .cases h
     .cases h
   .rename_i hw;rw[MI e] at hw;cases hd:pj st.n o.dst with
    |false=>rw[hd] at h;cases h
    |true=>
     rw[hd] at h;simp only[ax] at h;have hd':∀d,o.dst=some d->d<a.n:=by rw[<-e.n];exact eN hd
     split at h
     .rename_i k m t hr;cases h;refine hno _ _ _ _ hw hd' ?_;have:=ih _ _ _ _ _ _ hr hp _ (e.putO o.dst (.lit undef));refine hm _ _ _ _ this λs w=>?_;cases hdst:o.dst with
      |none=>rw[hdst] at w;simpa[Oo,St.put] using w
      |some d=>rw[hdst] at w;simpa[Oo,St.put,List.append_assoc] using w
     .cases h
   .cases h
theorem TD{hs:List Hn}{sg:List Nat}{l:List Oper}{st:St}{f:Fr}(h:Q4 P ops hs n sg l st=some (ps,u,f))(hp:∀p∈ps,p):D8 P ops (λs=>WkS s {st with fr:=f++st.fr}) l st:=
 KZ (P:=P) (R:=λl st K=>D8 P ops K l st) (λl st K K' h hk=>D8.mono hk l st h) (λst K h=>h) (λo r st g K hw hd ht h=> .inl ⟨hw,_,Y4 ht,h⟩) (λo r st K hw hd h=> .inr ⟨hw,hd,h⟩) n sg l st ps u f h hp st (Sm.refl st)
theorem Q6{hs:List Hn}{sg:List Nat}{l:List Oper}{f:Fr}(h:Q4 P ops hs n sg l st=some (ps,u,f))(hp:∀p∈ps,p)(j:Nat):tg P ops [] (λs=>WkS s {st with fr:=f++st.fr}) j l st:=
 KZ (P:=P) (R:=λl st K=>∀j,tg P ops [] K j l st) (λl st K K' h hk j=>tg.mono hk l j st (h j)) (λst K h j=>h) (λo r st g K hw hd ht h j=> .inl ⟨hw,g,ht,h (j+1)⟩) (λo r st K hw hd h j=> .inr (.inl ⟨hw,h (j+1)⟩)) n sg l st ps u f h hp st (Sm.refl st) j
def TE:List Prop->Prop->Prop
 |[],q=>q
 |p::r,q=>p/\TE r q
theorem Gr:∀{l:List Prop} {q:Prop},TE l q->(∀p∈l,p)/\q
 |[],q,h=>⟨λp hp=>(by cases hp),h⟩
 |p::r,q,h=>by
  obtain⟨h1,h2⟩:=Gr h.2;exact⟨λx hx=>by
   rcases List.mem_cons.1 hx with rfl|hx
   .exact h.1
   .exact h1 x hx,h2⟩
theorem CP{f f':G->G->Option (List Prop×G)}:∀(l t:List G),(∀g∈l,∀t,f' g t=f g t)->Da f' l t=Da f l t
 |[],[],h=>rfl
 |g::r,t::r',h=>by unfold Da;rw[h g aC t,CP r r' λg hg=>h g (List.mem_cons_of_mem _ hg)]
 |[],_::_,h=>rfl
 |_::_,[],h=>rfl
def Oq(σ:aQ):Nat->G->List Nat
 |0,_=>[]
 |n+1,g=>match g with
  | .rsl j _ _=>[j]
  | .ref i _=>i::(match ag σ i with
   |some ob=>ob.l.flatMap (Oq σ n)
   |none=>[])
  | .mref i=>[i]
  | .agg l=>l.flatMap (Oq σ n)
  | .tup l=>l.flatMap (Oq σ n)
  |_=>[]
theorem Gs{σ σ':aQ}:∀(n:Nat) (g t:G),(∀j∈Oq σ n g,ag σ' j=ag σ j)->KW P σ' n g t=KW P σ n g t
 |0,g,t,h=>rfl
 |n+1,g,t,h=>by
  unfold KW;cases t with
  |sl l' m'=>
   cases g with
   |rsl j o m=>dsimp only;rw[h j (by simp[Oq])]
   |lit v=>dsimp only;split<;>first|rfl|contradiction
   |_=>rfl
  |ptr l' m'=>
   cases g with
   |ref j o=>
    dsimp only;rw[h j (by simp[Oq])];cases ho:ag σ j with
    |none=>rfl
    |some ob=>
     dsimp only;rw[CP ob.l l' λg hg t=>Gs n g t λk hk=>h k (by simp only[Oq,ho,List.mem_cons,List.mem_flatMap];exact .inr ⟨g,hg,hk⟩)]
   |_=>rfl
  |mp ks vs ns ck=>
   cases g with
   |mref j=>dsimp only;rw[h j (by simp[Oq])]
   |_=>rfl
  |agg l'=>
   cases g with
   |agg l=>dsimp only;rw[CP l l' λg hg t=>Gs n g t λj hj=>h j (by simp only[Oq,List.mem_flatMap];exact⟨g,hg,hj⟩)]
   |_=>rfl
  |tup l'=>
   cases g with
   |tup l=>dsimp only;rw[CP l l' λg hg t=>Gs n g t λj hj=>h j (by simp only[Oq,List.mem_flatMap];exact⟨g,hg,hj⟩)]
   |_=>rfl
  |_=>rfl
theorem Q7{σ σ':aQ}{ts:List G}(h:∀j∈gs.flatMap (Oq σ 20),ag σ' j=ag σ j):Da (KW P σ' 20) gs ts=Da (KW P σ 20) gs ts:=
 CP gs ts λg hg t=>Gs 20 g t λj hj=>h j (List.mem_flatMap.2 ⟨g,hg,hj⟩)
theorem Ot{ρ:Operand->G}{σ σ':aQ}(h:∀t x,o.op= .load t x->∀i∈fR (ρ x),ag σ' i=ag σ i):aX P ρ σ' o=aX P ρ σ o:=by
 obtain⟨e,f,d,g,a,guard⟩:=o;cases f with
 |load t x=>
  have h:=h t x rfl;simp only[aX];unfold jU;cases hx:ρ x with
  |ref i k=>rw[hx] at h;dsimp only;rw[h i (by simp[fR])]
  |_=>rfl
 |slice t x lo hi mx=>cases mx<;>rfl
 |call c=>
  obtain⟨callee,args,ats⟩:=c;cases callee with
  |builtin b=>cases b<;>rfl
  |_=>rfl
 |_=>rfl
theorem sV{st'':St}(h:∀x∈o.op.operands,aB st'' x=aB st x)(hc:ge st o=some (fid,gs)):ge st'' o=some (fid,gs):=by obtain⟨x,xs,ats,fst,cap,ho,hx,rfl⟩:=cM hc;have h1:aB st'' x=aB st x:=h x (by rw[ho];simp[Op.operands,Call.operands]);have h2:xs.toList.map (aB st'')=xs.toList.map (aB st):=List.map_congr_left λy hy=>h y (by rw[ho];simp[Op.operands,Call.operands,Array.mem_toList_iff.1 hy]);unfold ge;rw[ho];dsimp only;rw[h1,hx,h2]
def Wz(P:Program)(o:Oper)(st:St)(hs:List Hn):Option (Option Prop×G×List Nat):=match Ol o hs with
 |some h=>match h with
  | .v _ g=>some (some (EM P o st g),g,dF st o)
  | .b _ g=>match o.op with
   | .binOp op t x y _=>some (some (lD op (aB st x) (aB st y)=some g),g,[])
   |_=>none
  | .r _ b=>match iE P E0 ko o st with
   |some (.lit (.bool t))=>some (some (t=b),.lit (.bool b),dF st o)
   |_=>none
  | .f _ g=>match ge st o with
   |some (fid,gs)=>bif aK P fid&&gs.all (nF 20) then some (some (ba P st.gl fid gs g),g,[]) else none
   |none=>none
  | .q _ ts g=>match ge st o with
   |some (fid,gs)=>bif aK P fid&&w8 20 g then(match Da (KW P st.σ 20) gs ts with
    |some (C,gs')=>some (some (IJ C/\ba P st.gl fid gs' g),g,gs.flatMap (Oq st.σ 20))
    |none=>none) else none
   |none=>none
  | .m _ g=>match o.op with
   | .lookup t x y ok=>some (some (KU P st.σ t ok (aB st x) (aB st y) g),g,dF st o)
   |_=>none
  | .c _ g=>match o.op with
   | .convert s t x=>some (some (iQ P st.σ s t (aB st x)=some g),g,dF st o)
   |_=>none
  |_=>none
 |none=>match iE P E0 ko o st with
  |some g=>some (none,g,dF st o)
  |none=>none
theorem Ou{x:FuncId×List G}(h:ge st o=some x):cG o=false:=by obtain⟨y,xs,ats,fst,cap,ho,_,_⟩:=cM (fid:=x.1) (gs:=x.2) h;unfold cG;rw[ho]
theorem TF{hs:List Hn}(hd:H_d o st.n)(h:Wz P o st hs=some (C,g,R)){X:Prop}(hC:II C X):
  ((cG o=true->R=[])/\∀a:St,a.n=st.n->a.gl=st.gl->(∀x∈R,ag a.σ x=ag st.σ x)->(∀x∈o.op.operands,aB a x=aB st x)->GS P o a (a.put o.dst g))/\X:=by
 unfold Wz at h
 split at h
 .split at h
  .simp only[bg,Prod.mk.injEq] at h
   obtain⟨rfl,rfl,rfl⟩:=h
   refine⟨⟨iw,λa h1 h2 h3 h4=>fM (by rw[h1];exact hd) ?_⟩,hC.2⟩
   have e1:=w7 hC.1
   rw[jW h4,Ot (σ:=st.σ)]
   .exact e1
   .intro t x ho i hi
    refine h3 i ?_
    unfold dF
    rw[ho]
    exact hi
  .split at h
   .rename_i l t x y u ho
    simp only[bg,Prod.mk.injEq] at h
    obtain⟨rfl,rfl,rfl⟩:=h
    refine⟨⟨λ_=>rfl,λa h1 h2 h3 h4=>fM (by rw[h1];exact hd) ?_⟩,hC.2⟩
    have k1:=h4 x (by rw[ho];simp[Op.operands])
    have k2:=h4 y (by rw[ho];simp[Op.operands])
    have hb:=hC.1
    obtain⟨e,b,ty,f,m,p⟩:=o
    obtain rfl:b=_:=ho
    rw[rA,k1,k2]
    exact jo hb
   .cases h
  .split at h
   .rename_i t hv
    simp only[bg,Prod.mk.injEq] at h
    obtain⟨rfl,rfl,rfl⟩:=h
    obtain⟨rfl,d⟩:=hC
    exact⟨⟨iw,λa h1 h2 h3 h4=>mD dT IH (by rw[h1];exact hd) (by rw[mJ h2 h3 h4];exact hv)⟩,d⟩
   .cases h
  .split at h
   .rename_i fid gs hc
    cases hb:(aK P fid&&gs.all (nF 20)) with
    |false=>rw[hb] at h;cases h
    |true=>
     rw[hb] at h
     simp only[bA] at hb
     simp only[ax,bg,Prod.mk.injEq] at h
     obtain⟨rfl,rfl,rfl⟩:=h
     refine⟨⟨λ_=>rfl,λa h1 h2 h3 h4=>?_⟩,hC.2⟩
     obtain⟨x,xs,ats,fst,cap,ho,hx,hgs⟩:=cM (sV h4 hc)
     exact wt ho (by rw[h1];exact hd) hx hb.1 (λg hg=>aG 20 g (List.all_eq_true.1 hb.2 g (by rw[hgs];exact hg))) (by rw[<-hgs,h2];exact hC.1)
   .cases h
  .split at h
   .rename_i fid gs hc
    cases hb:(aK P fid&&w8 20 _) with
    |false=>rw[hb] at h;cases h
    |true=>
     rw[hb] at h
     simp only[bA] at hb
     simp only[ax] at h
     split at h
     .rename_i k j hz
      simp only[bg,Prod.mk.injEq] at h
      obtain⟨rfl,rfl,rfl⟩:=h
      refine⟨⟨λhf=>(by rw[Ou hc] at hf;cases hf),λa h1 h2 h3 h4=>?_⟩,hC.2⟩
      obtain⟨x,xs,ats,fst,cap,ho,hx,hgs⟩:=cM (sV h4 hc)
      have hz':=(Q7 (P:=P) h3).trans hz
      rw[hgs] at hz'
      obtain⟨f1,f2⟩:=io (Q:=ve P a) (λg t C c=>rR 20 g t C c) _ _ _ _ hz' (w9 hC.1.1)
      exact Ai ho (by rw[h1];exact hd) hx hb.1 f1 f2 (by rw[h2];exact hC.1.2) (rQ 20 _ hb.2)
     .cases h
   .cases h
  .split at h
   .rename_i t x y ok ho
    simp only[bg,Prod.mk.injEq] at h
    obtain⟨rfl,rfl,rfl⟩:=h
    refine⟨⟨iw,λa h1 h2 h3 h4=>xS ho (by rw[h1];exact hd) ?_⟩,hC.2⟩
    rw[h4 x (by rw[ho];simp[Op.operands]),h4 y (by rw[ho];simp[Op.operands])]
    refine EN hC.1 λi hi=>h3 i ?_
    unfold dF
    rw[ho]
    dsimp only
    rw[hi]
    simp[fR]
   .cases h
  .split at h
   .rename_i s t x ho
    simp only[bg,Prod.mk.injEq] at h
    obtain⟨rfl,rfl,rfl⟩:=h
    refine⟨⟨iw,λa h1 h2 h3 h4=>Bd ho (by rw[h1];exact hd) ?_⟩,hC.2⟩
    rw[h4 x (by rw[ho];simp[Op.operands]),Gq (σ:=st.σ)]
    .exact hC.1
    .intro i hi
     refine h3 i ?_
     unfold dF
     rw[ho]
     exact hi
   .cases h
  .cases h
 .split at h
  .rename_i c hv
   simp only[bg,Prod.mk.injEq] at h
   obtain⟨rfl,rfl,rfl⟩:=h
   exact⟨⟨iw,λa h1 h2 h3 h4=>mD dT IH (by rw[h1];exact hd) (by rw[mJ h2 h3 h4];exact hv)⟩,hC⟩
  .cases h
def WA(P:Program)(o:Oper)(st:St)(hs:List Hn)(k:Nat):Option (Option Prop×XF):=match Ol o hs with
 |some h=>match h with
  | .a _ L M=>match o.op with
   | .call {callee:= .builtin .append,args:=⟨[x,y]⟩,argTypes:=⟨[t,u]⟩}=>bif Nat.beq t u&&(fX (ag st.σ k)&&Nat.ble st.p k) then(match ME P st t (aB st x) (aB st y) L M with
    |some (e,i,C)=>(match aB st x with
     | .rsl j 0 _=>some (some C,.rsl k 0 M,[(k,some ⟨e,L,none⟩),(i,none)],k::j::fR (aB st y),false,st.c)
     | .lit (.slice none 0 0)=>some (some C,.rsl k 0 M,[(k,some ⟨e,L,none⟩)],k::fR (aB st y),false,st.c)
     |_=>none)
    |none=>none) else none
   |_=>none
  | .w _ L=>match o.op with
   | .store t x y=>match aB st x with
    | .ref i j=>match ag st.σ i,dH (aB st y),bw P t with
     |some ⟨b,l0,none⟩,some l,some s=>some (some (l.length=s/\j+s<=l0.length/\l0.take j++l++l0.drop (j+s)=L),.lit undef,[(i,some ⟨b,L,none⟩)],[i],false,st.c)
     |_,_,_=>none
    |_=>none
   |_=>none
  | .k _ L M=>match o.op with
   | .makeSlice t x y=>match dp P t with
    |some e=>bif fX (ag st.σ k)&&Nat.ble st.p k then some (some (tI P t (aB st x) (aB st y)=some (e,L,M)),.rsl k 0 M,[(k,some ⟨e,L,none⟩)],[k],false,st.c) else none
    |none=>none
   |_=>none
  | .o _ ts t m l=>match ge st o with
   |some (fid,gs)=>bif aK P fid then(match Da (KW P st.σ 20) gs ts with
    |some (C,gs')=>some (some (IJ C/\iV P st.gl fid gs' t m l/\∀g∈l,∃v,g= .lit v),.rsl st.c 0 m,[(st.c,some ⟨t,l,none⟩)],gs.flatMap (Oq st.σ 20),true,st.c+1)
    |none=>none) else none
   |none=>none
  | .z _ R g U c'=>match ge st o with
   |some (fid,gs)=>some (some (oJ P st.gl fid gs (R.map λi=>(i,ag st.σ i)) st.c g U c'),g,U,R,true,c')
   |none=>none
  | .e _ _ U _=>match o.op with
   | .mapUpdate t x y z=>some (some (tA P ko o st k=some (.lit undef,U,fR (aB st x),false,st.c)),.lit undef,U,fR (aB st x),false,st.c)
   |_=>none
  |_=>none
 |none=>match tA P ko o st k with
  |some x=>some (none,x)
  |none=>none
theorem TH{hs:List Hn}{U:aQ}(hd:H_d o st.n)(h:WA P o st hs k=some (C,g,U,R,cu,c)){X:Prop}(hC:II C X):(X6 P o st g U R cu c/\(cu=false->c=st.c))/\X:=by
 unfold WA at h;split at h
 .split at h
  .split at h
   .rename_i x y t u ho;cases hb:(Nat.beq t u&&(fX (ag st.σ k)&&Nat.ble st.p k)) with
    |false=>rw[hb] at h;cases h
    |true=>
     rw[hb] at h;simp only[bA] at hb;obtain⟨hb1,hb2⟩:=hb;obtain rfl:=bc hb1;simp only[ax] at h;split at h
     .rename_i e i w hcd;split at h
      .rename_i j n hx;cases h;refine⟨jT dT hd (k:=k) ?_,hC.2⟩;obtain⟨d,a,ty,f,r,v⟩:=o;obtain rfl:a=_:=ho;unfold tA;dsimp only;rw[hb2.1,hb2.2];simp only[Bool.and_self,ax,hx,if_true];rw[<-hx,CN hcd hC.1];rfl
      .rename_i hx;cases h;refine⟨jT dT hd (k:=k) ?_,hC.2⟩;obtain⟨d,a,ty,f,r,v⟩:=o;obtain rfl:a=_:=ho;unfold tA;dsimp only;rw[hb2.1,hb2.2];simp only[Bool.and_self,ax,hx,if_true];rw[<-hx,CN hcd hC.1];rfl
      .cases h
     .cases h
   .cases h
  .split at h
   .rename_i t x y ho;split at h
    .rename_i i j hx;split at h
     .rename_i B l0 l s h1 h2 h3;cases h;obtain⟨⟨k1,k2,rfl⟩,m⟩:=hC;refine⟨jT dT hd (k:=k) ?_,m⟩;obtain⟨d,a,ty,f,r,v⟩:=o;obtain rfl:a=_:=ho;unfold tA;simp only[FK,hx,h1,h2,h3,aL,k1,k2,and_self,Option.isNone_none,if_true,Option.map_some,fR]
     .cases h
    .cases h
   .cases h
  .split at h
   .rename_i t x y ho;split at h
    .rename_i e he;cases hb:(fX (ag st.σ k)&&Nat.ble st.p k) with
     |false=>rw[hb] at h;cases h
     |true=>rw[hb] at h;cases h;refine⟨jT dT hd (k:=k) ?_,hC.2⟩;obtain⟨d,a,ty,f,r,v⟩:=o;obtain rfl:a=_:=ho;unfold tA;simp only[hb,ax,hC.1,Option.map_some]
    .cases h
   .cases h
  .split at h
   .rename_i fid gs hc;cases hb:aK P fid with
    |false=>rw[hb] at h;cases h
    |true=>
     rw[hb] at h;simp only[ax] at h;split at h
     .rename_i w z hz;cases h;obtain⟨⟨k1,k2,k3⟩,m⟩:=hC;refine⟨⟨λb e1 e2 e3 e4 e5 e6=>?_,λh=>(by cases h)⟩,m⟩;obtain⟨x,xs,ats,fst,cap,ho,hx,hgs⟩:=cM (sV e6 hc);have hz':=(Q7 (P:=P) e5).trans hz;rw[hgs] at hz';obtain⟨f1,f2⟩:=io (Q:=ve P b) (λg t C A=>rR 20 g t C A) _ _ _ _ hz' (w9 k1);have:=H4 ho (by rw[e1];exact hd) hx hb f1 f2 (by rw[e2];exact k2) k3;rw[e4 rfl] at this;exact this
     .cases h
   .cases h
  .split at h
   .rename_i fid gs hc;cases h;obtain⟨hS,m⟩:=hC;refine⟨⟨λb e1 e2 e3 e4 e5 e6=>?_,λh=>(by cases h)⟩,m⟩;obtain⟨x,xs,ats,fst,cap,ho,hx,hgs⟩:=cM (sV e6 hc);have:=hS o b x xs ats fst cap ho (by rw[e1];exact hd) hx hgs.symm e2 (λq hq=>by obtain⟨i,hi,rfl⟩:=List.mem_map.1 hq;exact e5 i hi) (e4 rfl)
    exact this
   .cases h
  .split at h
   .cases h;exact⟨jT dT hd (k:=k) hC.1,hC.2⟩
   .cases h
  .cases h
 .split at h
  .rename_i x hx;cases h;exact⟨jT dT hd hx,hC⟩
  .cases h
def TI(_:aQ):Bool:=false
def yp(P:Program)(ops:Array Oper)(hs:List Hn):List Oper->St->Nat->Option (List Prop×List Nat×St×List DI)
 |[],s,_=>some ([],[],s,[])
 |o::r,s,k=>match ce s ops o with
  |some true=>bif pj s.n o.dst then(match Wz P o s hs with
    |some (C,g,R)=>(match yp P ops hs r (s.put o.dst g) (Nm o k) with
     |some (ps,u,s',inf)=>some ((match C with|some p=>p::ps|none=>ps),(match C with|some _=>CL o::u|none=>u),s',.rd R TI::inf)
     |none=>none)
    |none=>bif cG o then none else(match WA P o s hs k with
     |some (C,g,U,R,cu,c)=>(match yp P ops hs r ({s with σ:=U++s.σ,c:=c}.put o.dst g) (Nm o k) with
      |some (ps,u,s',inf)=>some ((match C with|some p=>p::ps|none=>ps),(match C with|some _=>CL o::u|none=>u),s',.wr R U (DS U s.σ) cu::inf)
      |none=>none)
     |none=>none)) else none
  |some false=>bif pj s.n o.dst then(match yp P ops hs r (s.put o.dst (.lit undef)) (Nm o k) with
   |some (ps,u,s',inf)=>some (ps,u,s',.rd [] TI::inf)
   |none=>none) else none
  |none=>none
theorem MJ(h:∀p∈(match C with|some p=>p::ps|none=>ps),p):II C True/\∀p∈ps,p:=by
 cases C with
 |none=>exact⟨trivial,h⟩
 |some q=>exact⟨⟨h q aC,trivial⟩,λp hp=>h p (List.mem_cons_of_mem _ hp)⟩
theorem sX{ops:Array Oper}{hs:List Hn}{K:St->Prop}:∀(l:List Oper) (s:St) (k:Nat) (ps:List Prop) (u:List Nat) (s':St) (inf:List DI),yp P ops hs l s k=some (ps,u,s',inf)->(∀p∈ps,p)->K s'->PQ P ops K l inf s
 |[],s,k,ps,u,s',inf,h,hp,b=>by cases h;exact b
 |o::r,s,k,ps,u,s',inf,h,hp,b=>by
  unfold yp at h;split at h
  .rename_i hw;cases hd:pj s.n o.dst with
   |false=>rw[hd] at h;cases h
   |true=>
    rw[hd] at h;simp only[ax] at h;split at h
    .rename_i C g R h1;split at h
     .rename_i d j s2 a h2;cases h;obtain⟨hc,hp'⟩:=MJ hp;obtain⟨⟨k1,k2⟩,_⟩:=TF (eN hd) h1 hc;refine⟨g,s.put o.dst g,⟨λhf=>⟨TI,by rw[k1 hf]⟩,.inl ⟨hw,.inr ⟨R,TI,rfl,rfl,λV hV e e1 e2 e3 e4=>k2 e e1 e2 (λx hx=>?_) e4⟩⟩⟩,sX r _ _ _ _ _ _ h2 hp' b⟩;rcases hV with rfl|hV
      .exact e3 x hx
      .cases hV
     .cases h
    .cases hfr:cG o with
     |true=>rw[hfr] at h;cases h
     |false=>
      rw[hfr] at h;simp only[aM] at h;split at h
      .rename_i C g U R cu c h1;split at h
       .rename_i d j s2 a h2;cases h;obtain⟨hc,hp'⟩:=MJ hp;obtain⟨⟨f,i⟩,_⟩:=TH (eN hd) h1 hc;refine⟨g,{s with σ:=U++s.σ,c:=c}.put o.dst g,⟨(λhf=>by rw[hfr] at hf;cases hf),.inl ⟨hw,.inl ⟨R,U,_,cu,c,rfl,rfl,i,λx hx=>?_,?_,f⟩⟩⟩,sX r _ _ _ _ _ _ h2 hp' b⟩
        .unfold DS;rw[lL,if_pos hx]
        .unfold DS;simp
       .cases h
      .cases h
  .rename_i hw;cases hd:pj s.n o.dst with
   |false=>rw[hd] at h;cases h
   |true=>
    rw[hd] at h;simp only[ax] at h;split at h
    .rename_i d j s2 a h2;cases h;exact⟨.lit undef,_,⟨λ_=>⟨_,rfl⟩,.inr ⟨hw,rfl,rfl,_,rfl⟩⟩,sX r _ _ _ _ _ _ h2 hp b⟩
    .cases h
  .cases h
def MK(P:Program)(ops:Array Oper)(hs:List Hn)(st:St):Option (List Prop×List Nat×St):=match yp P ops hs ops.toList (ff (UN ops.toList) st) st.c with
 |some (ps,u,s,inf)=>bif kL ops.toList inf st.n then some (ps,u,s) else none
 |none=>none
theorem Q8(hm:P.follows .mixedOrders=true){hs:List Hn}{Q:Exit->St->Prop}(h:MK P ops hs st=some (ps,u,s))(hp:∀p∈ps,p)(b:Q .normal s):Tr P (.region id ops true) st Q:=by
 unfold MK at h;split at h
 .rename_i c d s' a h1;cases hk:kL ops.toList a st.n with
  |false=>rw[hk] at h;cases h
  |true=>rw[hk] at h;cases h;refine Tr.le ?_ (uB (UN ops.toList) st);have:=sX (K:=Q .normal) ops.toList _ _ _ _ _ _ h1 hp b;have hx:=pX (id:=id) (l:=ops.toList) (st:=ff (UN ops.toList) st) (Q:=Q) hm (by rw[(sv (UN ops.toList) st).1];exact hk) (by rwa [Array.toArray_toList]);rwa [Array.toArray_toList] at hx
 .cases h
def rgK(k:St->Q3):Option (List Prop×List Nat×St)->Q3
 |some (ps,u,s)=>match k s with
  |some (C,u',out)=>some (TE ps C,u++u',out)
  |none=>none
 |none=>none
def Y5(k:St->Q3)(st:St):Option (List Prop×List Nat×Fr)->Q3
 |some (ps,u,f)=>match k {st with fr:=f++st.fr} with
  |some (C,u',out)=>some (TE ps C,u++u',out)
  |none=>none
 |none=>none
def Q9(hs:List Hn)(ops:Array Oper):List Nat:=(λl=>bif l.contains 0 then KY ops ops.toList else l) (Wy hs)
def Y6(ops:Array Oper)(sg:List Nat):Bool:=ops.toList.any λo=>match IK ops o with|some d=>sg.contains d|none=>false
def U9(cut:Nat):Operand->Bool
 | .tmp d=>Nat.beq d cut
 |_=>false
def sy(P:Program)(hs:List Hn)(cut:Nat):Nat->Code⊕Exit->List Kf->St->Q3
 |0,_,_,_=>none
 |n+1,.inl c,K,st=>match c with
  | .skip=>sy P hs cut n (.inr .normal) K st
  | .label _=>sy P hs cut n (.inr .normal) K st
  | .seq a b=>sy P hs cut n (.inl a) (.thn b::K) st
  | .block id c=>sy P hs cut n (.inl c) (.blk id::K) st
  | .region id ops draw=>bif Nat.beq cut (2000000+id) then some (True,[],.ct (.region id ops draw) K st) else bif Y6 ops (Q9 hs ops) then(bif !draw||xQ ops.toList [] st.n then Y5 (λs=>sy P hs cut n (.inr .normal) K s) st (Q4 P ops hs 1000 (Q9 hs ops) ops.toList st) else none) else bif draw then rgK (λs=>sy P hs cut n (.inr .normal) K s) (MK P ops hs st)
   else EP P ops hs (λs=>sy P hs cut n (.inr .normal) K s) ops.toList st
  | .cond x a b=>bif U9 cut x then some (True,[],.ct (.cond x a b) K st) else match aB st x with
   | .lit (.bool t)=>bif t then sy P hs cut n (.inl a) K st else sy P hs cut n (.inl b) K st
   |_=>none
  | .loop c=>some (True,[],.lp c K st)
  | .rangeFunc g ps a b=>some (True,[],.ct (.rangeFunc g ps a b) K st)
  | .exit id=>sy P hs cut n (.inr (.exit id)) K st
  | .ret=>sy P hs cut n (.inr .ret) K st
  |_=>none
 |n+1,.inr e,K,st=>match K with
  |[]=>some (True,[],.fin e st)
  | .thn b::K=>match e with
   | .normal=>sy P hs cut n (.inl b) K st
   |_=>sy P hs cut n (.inr e) K st
  | .blk id::K=>match e with
   | .exit i=>bif Nat.beq i id then sy P hs cut n (.inr .normal) K st else sy P hs cut n (.inr (.exit i)) K st
   |_=>sy P hs cut n (.inr e) K st
  | .lp B::K=>match e with
   | .normal=>some (True,[],.bk B st)
   |_=>sy P hs cut n (.inr e) K st
def Z1(P:Program)(Q:Exit->St->Prop):Exit->St->Prop:=λe s=>∃s',Le P s s'/\Q e s'
def LeB(P:Program)(B:St->Prop):St->Prop:=λs=>∃s',Le P s s'/\B s'
def dz(P:Program):List Kf->(Exit->St->Prop)->Exit->St->Prop
 |[],Q=>Z1 P Q
 | .thn b::K,Q=>uE (λs=>Tr P b s (dz P K Q)) (dz P K Q)
 | .blk id::K,Q=>pu id (dz P K Q)
 | .lp B::K,Q=>uE (LeB P B) (dz P K Q)
def Res(P:Program)(Q:Exit->St->Prop):SyOut->Prop
 | .lp c K st=>Tr P (.loop c) st (dz P K Q)
 | .fin e st=>Z1 P Q e st
 | .bk B st=>LeB P B st
 | .ct c K st=>Tr P c st (dz P K Q)
theorem Tr.leQ{c:Code}{st:St}{Q:Exit->St->Prop}(h:Tr P c st (Z1 P Q)):Tr P c st Q:=λcx a w R r k=>h cx a w R r λe s b w' ⟨s',h1,h2⟩ r'=>k e s' b w' h2 (h1 cx b w' r')
theorem pQ{Q:Exit->St->Prop}{s s':St}(l:Le P s s'):∀(K:List Kf) (e:Exit),dz P K Q e s'->dz P K Q e s
 |[],e,h=>by obtain⟨t,h1,h2⟩:=h;exact⟨t,l.trans h1,h2⟩
 | .thn b::K,e,h=>by
  unfold dz at h⊢;cases e with
  |normal=>unfold uE at h⊢;exact h.le l
  |_=>unfold uE at h⊢;exact pQ l K _ h
 | .blk id::K,e,h=>by
  unfold dz at h⊢;cases e with
  |exit i=>
   by_cases hi:i=id
   .subst hi;refine PX (pQ l K _ ?_);unfold pu at h;simpa using h
   .refine PY hi (pQ l K _ ?_);unfold pu at h;simpa[hi] using h
  |_=>unfold pu at h⊢;exact pQ l K _ h
 | .lp B::K,e,h=>by
  unfold dz at h⊢;cases e with
  |normal=>unfold uE at h⊢;obtain⟨t,h1,h2⟩:=h;exact⟨t,l.trans h1,h2⟩
  |_=>unfold uE at h⊢;exact pQ l K _ h
def CQ(P:Program)(Q:Exit->St->Prop)(K:List Kf)(st:St):Code⊕Exit->Prop
 | .inl c=>Tr P c st (dz P K Q)
 | .inr e=>dz P K Q e st
theorem K0(hm:P.follows .mixedOrders=true){Q:Exit->St->Prop}{K:List Kf}{hs:List Hn}{f:Fr}(hdd:(!draw||xQ ops.toList [] st.n)=true)(hr:Q4 P ops hs 1000 (Q9 hs ops) ops.toList st=some (ps,u,f))(hp:∀p∈ps,p)(a:dz P K Q .normal {st with fr:=f++st.fr}):Tr P (.region id ops draw) st (dz P K Q):=by
 cases draw with
 |true=>
  have hd:xQ ops.toList [] st.n=true:=by simpa using hdd
  have:=BW (id:=id) (Q:=λe s=>e= .normal/\WkS s {st with fr:=f++st.fr}) hm hd (by simp only[true_and];simpa using Q6 hr hp 0)
  rw[Array.toArray_toList] at this;exact this.mono λe s hq=>by obtain⟨rfl,hw⟩:=hq;exact pQ hw.le K _ a
 |false=>
  have:=D9 (P:=P) (id:=id) (l:=ops.toList) (st:=st) (Q:=λe s=>e= .normal/\WkS s {st with fr:=f++st.fr}) (by simp only[true_and];simpa using TD hr hp)
  rw[Array.toArray_toList] at this;exact this.mono λe s hq=>by obtain⟨rfl,hw⟩:=hq;exact pQ hw.le K _ a
theorem oK(hm:P.follows .mixedOrders=true){Q:Exit->St->Prop}{hs:List Hn}{cut:Nat}{out:SyOut}(d:Res P Q out):∀(n:Nat) (m:Code⊕Exit) (K:List Kf) (st:St) (C:Prop) (u:List Nat),sy P hs cut n m K st=some (C,u,out)->C->CQ P Q K st m
 |0,m,K,st,C,u,h,hC=>by cases h
 |n+1,.inl c,K,st,C,u,h,hC=>by
  have ih:=oK hm (hs:=hs) (cut:=cut) d n;unfold sy at h;show Tr P c st (dz P K Q);split at h
  .exact Fy (ih _ _ _ _ _ h hC)
  .exact HJ (ih _ _ _ _ _ h hC)
  .exact BH (ih _ _ _ _ _ h hC)
  .exact BI (ih _ _ _ _ _ h hC)
  .rename_i id ops g;cases hcut:Nat.beq cut (2000000+id) with
   |true=>rw[hcut] at h;simp only[ax,bg,Prod.mk.injEq] at h;obtain⟨rfl,rfl,rfl⟩:=h;exact d
   |false=>
   rw[hcut] at h;simp only[aM] at h;cases hg:Y6 ops (Q9 hs ops) with
   |true=>
    rw[hg] at h;simp only[ax] at h;cases hdd:(!g||xQ ops.toList [] st.n) with
    |false=>rw[hdd] at h;cases h
    |true=>
     rw[hdd] at h;simp only[ax] at h;cases hr:Q4 P ops hs 1000 (Q9 hs ops) ops.toList st with
     |none=>rw[hr] at h;cases h
     |some q=>
      obtain⟨ps,u1,f⟩:=q;rw[hr] at h;simp only[Y5] at h;split at h
      .rename_i o p k h1;cases h;obtain⟨hp,j⟩:=Gr hC;exact K0 hm hdd hr hp (ih (.inr .normal) K _ _ _ h1 j)
      .cases h
   |false=>
    rw[hg] at h;simp only[aM] at h;cases g with
    |true=>
     simp only[ax] at h;cases hr:MK P ops hs st with
     |none=>rw[hr] at h;cases h
     |some q=>
      obtain⟨ps,u1,s1⟩:=q;rw[hr] at h;simp only[rgK] at h;split at h
      .rename_i o p k h1;cases h;obtain⟨hp,j⟩:=Gr hC;exact Q8 hm hr hp (ih (.inr .normal) K _ _ _ h1 j)
      .cases h
    |false=>
     simp only[aM] at h;have hx:=xa _ _ _ _ h hC;have:=D9 (id:=id) (Q:=λe s=>e= .normal/\∃C' l,sy P hs cut n (.inr .normal) K s=some (C',l,out)/\C') (by simp only[true_and];simpa using hx)
     rw[Array.toArray_toList] at this;refine this.mono λe s hq=>?_;obtain⟨rfl,C',l,h1,h2⟩:=hq;exact ih _ _ _ _ _ h1 h2
  .rename_i x a b;cases hcut:U9 cut x with
   |true=>rw[hcut] at h;simp only[ax,bg,Prod.mk.injEq] at h;obtain⟨rfl,rfl,rfl⟩:=h;exact d
   |false=>
    rw[hcut] at h;simp only[aM] at h;split at h
    .rename_i t ht;refine wk ht ?_;cases t with
     |true=>exact ih _ _ _ _ _ h hC
     |false=>exact ih _ _ _ _ _ h hC
    .cases h
  .simp only[bg,Prod.mk.injEq] at h;obtain⟨rfl,rfl,rfl⟩:=h;exact d
  .simp only[bg,Prod.mk.injEq] at h;obtain⟨rfl,rfl,rfl⟩:=h;exact d
  .exact Fz (ih _ _ _ _ _ h hC)
  .exact PW (ih _ _ _ _ _ h hC)
  .cases h
 |n+1,.inr e,K,st,C,u,h,hC=>by
  have ih:=oK hm (hs:=hs) (cut:=cut) d n;unfold sy at h;show dz P K Q e st;split at h
  .simp only[bg,Prod.mk.injEq] at h;obtain⟨rfl,rfl,rfl⟩:=h;exact d
  .rename_i b K;unfold dz;split at h
   .exact wm (ih _ _ _ _ _ h hC)
   .rename_i hne;exact DU hne (ih _ _ _ _ _ h hC)
  .rename_i id K;unfold dz;split at h
   .rename_i i;cases hb:Nat.beq i id with
    |true=>rw[hb] at h;obtain rfl:=bc hb;exact PX (ih _ _ _ _ _ h hC)
    |false=>rw[hb] at h;exact PY (λe=>by subst e;rw[Nat.beq_refl] at hb;cases hb) (ih _ _ _ _ _ h hC)
   .rename_i hne;exact UP (λe=>hne _ e) (ih _ _ _ _ _ h hC)
  .rename_i B K;unfold dz;split at h
   .simp only[bg,Prod.mk.injEq] at h;obtain⟨rfl,rfl,rfl⟩:=h;exact wm d
   .rename_i hne;exact DU hne (ih _ _ _ _ _ h hC)
end
section
variable {P:Program}
def cR(ρ:List (Nat×Nat)):Nat:=ρ.foldr (λq m=>A8 (q.1+1) m) 0
theorem Va:∀{ρ:List (Nat×Nat)} {q:Nat×Nat},q∈ρ->q.1<cR ρ
 |x::r,q,h=>by
  show q.1<A8 (x.1+1) (cR r);rcases List.mem_cons.1 h with rfl|h
  .exact xz _ _
  .exact Nat.lt_of_lt_of_le (Va h) (xA _ _)
def ER(ρ:List (Nat×Nat))(p:Nat):Bool:=(ρ.all λq=>match dq ρ q.1 with|some k=>Nat.beq k q.2|none=>false)&&(ρ.all λq=>ρ.all λa=> !(Nat.beq q.2 a.2)||Nat.beq q.1 a.1)&&(List.range p).all λi=>match dq ρ i with|some k=>Nat.beq k i|none=>false
theorem Gt(h:dq ρ i=some j):(i,j)∈ρ:=by unfold dq at h;rw[List.lookup_eq_some_iff] at h;obtain⟨l1,l2,rfl,_⟩:=h;simp
variable {c:Code} {K:List Kf} {st:St} {Q:Exit->St->Prop}
structure Lp (ι:Type) where
 S:ι->St
 μ:ι->Nat
def Lp.B{ι:Type}(L:Lp ι)(i:ι):St->Prop:=λs=>∃j,s=L.S j/\L.μ j<L.μ i
theorem TJ{ι:Type}(L:Lp ι)(a:ι)(h:∀i,Tr P c (L.S i) (dz P (.lp (L.B i)::K) Q)):Tr P (.loop c) (L.S a) (dz P K Q):=
 L4 L.S L.μ a (Le.refl _) λi=>(h i).mono λe s hq=>by
  unfold dz at hq;cases e with
  |normal=>
   refine wm ?_;have hq:LeB P (L.B i) s:=by unfold uE at hq;exact hq
   obtain⟨s',h1,j,rfl,h2⟩:=hq;exact⟨j,h1,h2⟩
  |_=>unfold uE at hq⊢;exact hq
def ai(fn:Func):Code:=fn.body.getD .skip
theorem Y7{r:G}(fn:Func)(hf:P.funcs[f]?=some fn)(hb:fn.body.isSome=true)(hn:Nat.ble gs.length fn.ntmps=true)(h:Tr P (ai fn) ⟨fn.ntmps,gl,bQ 0 gs,[],0,0,false⟩ (dz P [] (tH P fn r))):ba P gl f gs r:=
 HL hf (c:=ai fn) (by unfold ai;cases hx:fn.body with|none=>rw[hx] at hb;cases hb|some c=>rfl) (cm hn) h.leQ
end
section
variable {P:Program}
variable {c:Code} {K:List Kf} {st:St}
end
class Mix (P:Program):Prop where
 mx:P.follows .mixedOrders=true
structure HP where
 h:Option Hn
 p:Prop
 t:p
def hv(d:Nat){X:Option G}{g:G}(t:X=some g):HP:=⟨some (.v d g),X=some g,t⟩
def hV(d:Nat){X:Operand->Operand->Option G}{g:G}(t:∀p q,X p q=some g):HP:=⟨some (.v d g),∀p q,X p q=some g,t⟩
def hb(d:Nat){X:Option G}{g:G}(t:X=some g):HP:=⟨some (.b d g),X=some g,t⟩
def hf(d:Nat){P:Program}{gl:List (Nat×List G)}{f:FuncId}{gs:List G}{g:G}(t:ba P gl f gs g):HP:=⟨some (.f d g),ba P gl f gs g,t⟩
def hl(d:Nat){P:Program}{gl:List (Nat×List G)}{f:FuncId}{st:St}{gs gs':List G}{g:G}(a:CM P st gs gs')(t2:ba P gl f gs' g):HP:=⟨some (.l d gs' g),CM P st gs gs'/\ba P gl f gs' g,a,t2⟩
def hg(d:Nat):HP:=⟨some (.g d),True,trivial⟩
def ha(d:Nat)(L:List G)(M:Nat){p:Prop}(t:p):HP:=⟨some (.a d L M),p,t⟩
def hc{p:Prop}(t:p):HP:=⟨none,p,t⟩
def bK(l:List HP):List Hn:=l.filterMap (·.h)
def vb(A:List HP):List Nat->Prop
 |[]=>True
 |d::r=>match A.find? (λx=>match x.h with|some h=>Nat.beq h.key d|none=>false) with
  |some x=>x.p/\vb A r
  |none=>False
theorem Ra(A:List HP):∀u:List Nat,(∀d∈u,(A.find? (λx=>match x.h with|some h=>Nat.beq h.key d|none=>false)).isSome=true)->vb A u
 |[],_=>trivial
 |d::r,h=>by
  have h1:=h d aC;unfold vb;split
  .rename_i x hx;exact⟨x.t,Ra A r λd hd=>h d (List.mem_cons_of_mem _ hd)⟩
  .rename_i hx;rw[hx] at h1;cases h1
def qe(A:List HP)(u:List Nat):Bool:=u.all λd=>(A.find? (λx=>match x.h with|some h=>Nat.beq h.key d|none=>false)).isSome
theorem kA{A:List HP}(h:qe A u=true):vb A u:=Ra A u λd hd=>List.all_eq_true.1 h d hd
def OY(s:St):List (Nat×Nat):=s.σ.map λq=>(q.1,q.1)
def xb(s:St):List Nat:=s.fr.map (·.1)
section
variable {P:Program} [M:Mix P] {c:Code} {K:List Kf} {st:St} {Q:Exit->St->Prop} {ι:Type}
end
section
variable {P:Program}
theorem fP{s:Sem α}{f:α->Sem β}{a:α}(h:bt P s=some a):bt P (s>>=f)=bt P (f a):=by rw[dd,h];rfl
theorem Qr{c:Prop}[Decidable c]{a b:Sem α}:bt P (if c then a else b)=if c then bt P a else bt P b:=by split<;>rfl
theorem xV{d:Nat}{fs:Array Field}(ht:bt P (underlying t)=some (.struct fs))(hp:P.stoodInHeld t=false):bt P (Op.equalIn (d+1) t (.agg xs) (.agg ys))=bt P (Op.eqFields d xs ys fs.toList):=by
 unfold Op.equalIn;rw[fP ht];simp only[];rw[fP (show bt P Go.program=some P from rfl)];rw[hp];simp only[Bool.false_eq_true,if_false];rw[<-Array.forIn_toList];generalize fs.toList=l;clear ht;induction l with
 |nil=>rfl
 |cons f fs ih=>
  rw[dd] at ih;rw[dd,List.forIn_cons,dd];unfold Op.eqFields;by_cases hn:f.name≠ "_"
  .rw[if_pos hn,if_pos hn];simp only[dd];cases bt P (part f.type xs f.offset) with
   |none=>rfl
   |some a=>
   cases bt P (part f.type ys f.offset) with
   |none=>rfl
   |some b=>
   simp only[aL];cases bt P (Op.equalIn d f.type a b) with
   |none=>rfl
   |some r=>
   cases r with
   |false=>rfl
   |true=>exact ih
  .rw[if_neg hn,if_neg hn];exact ih
theorem uJ{d:Nat}{f:Field}{fs:List Field}{k k':IntKind}{a b:Int}(hn:f.name≠ "_")(hx:bt P (part f.type xs f.offset)=some (.int k a))(hy:bt P (part f.type ys f.offset)=some (.int k b))(ht:bt P (underlying f.type)=some (.int k')):bt P (Op.eqFields (d+1) xs ys (f::fs))=if a=b then bt P (Op.eqFields (d+1) xs ys fs) else some false:=by
 rw[Op.eqFields,if_pos hn,fP hx,fP hy];have e:bt P (Op.equalIn (d+1) f.type (.int k a) (.int k b))=some (a==b):=by unfold Op.equalIn;rw[fP ht];simp only[if_true];rfl
 rw[fP e,Qr];by_cases h:a=b
 .simp[h]
 .rw[if_neg h,if_pos (by simp[h])];rfl
theorem Qs{d:Nat}{xs ys us vs:Array Value}{f:Field}{fs:List Field}(hn:f.name≠ "_")(hx:bt P (part f.type xs f.offset)=some (.agg us))(hy:bt P (part f.type ys f.offset)=some (.agg vs))(he:bt P (Op.equalIn d f.type (.agg us) (.agg vs))=some r):bt P (Op.eqFields d xs ys (f::fs))=if r=true then bt P (Op.eqFields d xs ys fs) else some false:=by rw[Op.eqFields,if_pos hn,fP hx,fP hy,fP he,Qr];cases r<;>rfl
theorem Cb{l:List G}{us vs:List Value}(hl:rt l=some us)(hm:rt m=some vs)(hg:bt P (eqGuard .neq t p q (.agg us.toArray) (.agg vs.toArray))=some ())(he:bt P (Op.equalIn 10000 t (.agg us.toArray) (.agg vs.toArray))=some r):b8 P .neq t p q (.agg l) (.agg m)=some (.lit (.bool (!r))):=by
 unfold b8;simp only[cD,hl,hm,Option.map_some];rw[fP hg];have e:bt P (binOp .neq t (.agg us.toArray) (.agg vs.toArray))=some (.bool (!r)):=by show bt P (Op.equalIn 10000 t (.agg us.toArray) (.agg vs.toArray)>>=λb=>pure (Value.bool (!b)))=_;rw[fP he];rfl
 rw[e];rfl
theorem Eo{l:List G}{us vs:List Value}(hl:rt l=some us)(hm:rt m=some vs)(hg:bt P (eqGuard .eql t p q (.agg us.toArray) (.agg vs.toArray))=some ())(he:bt P (Op.equalIn 10000 t (.agg us.toArray) (.agg vs.toArray))=some r):b8 P .eql t p q (.agg l) (.agg m)=some (.lit (.bool r)):=by
 unfold b8;simp only[cD,hl,hm,Option.map_some];rw[fP hg];have e:bt P (binOp .eql t (.agg us.toArray) (.agg vs.toArray))=some (.bool r):=by show bt P (Op.equalIn 10000 t (.agg us.toArray) (.agg vs.toArray)>>=λb=>pure (Value.bool b))=_;rw[fP he];rfl
 rw[e];rfl
end
abbrev iG(z:Int):G:= .lit (.int .i64 z)
abbrev uG(z:Int):G:= .lit (.int .u64 z)
abbrev bG(b:Bool):G:= .lit (.bool b)
theorem Mx(h: -9223372036854775808<=z/\z<9223372036854775808):IntKind.i64.wrap z=z:=w64 aa
theorem ad{b:Int}(h:a+b=z)(hb: -9223372036854775808<=z/\z<9223372036854775808):lD .add (iG a) (iG b)=some (iG z):=by subst h;show some (iG (IntKind.i64.wrap (a+b)))=_;rw[Mx hb]
theorem sb{b:Int}(h:a-b=z)(hb: -9223372036854775808<=z/\z<9223372036854775808):lD .sub (iG a) (iG b)=some (iG z):=by subst h;show some (iG (IntKind.i64.wrap (a-b)))=_;rw[Mx hb]
theorem dec{q:Nat}(h:q<4611686018427387904):lD .sub (iG ((q+1:Nat):Int)) (iG 1)=some (iG (q:Int)):=sb aa aa
theorem Xl{q:Nat}(h:q<4611686018427387904):lD .add (iG (q:Int)) (iG 1)=some (iG ((q+1:Nat):Int)):=ad aa aa
section
variable {α:Type} {f:α->List G} {k:Nat}
theorem QP(hk:∀x,(f x).length=k)(l:List α):(l.flatMap f).length=l.length*k:=by
 induction l with
 |nil=>simp
 |cons x r ih=>rw[List.flatMap_cons,List.length_append,ih,hk,List.length_cons,Nat.add_mul];omega
theorem sQ(hk:∀x,(f x).length=k):∀(l:List α) (i:Nat),(l.flatMap f).drop (i*k)=(l.drop i).flatMap f
 |l,0=>aC
 |[],i+1=>aC
 |x::r,i+1=>by rw[List.flatMap_cons,Nat.add_mul,Nat.one_mul,List.drop_append,hk,Nat.add_sub_cancel,sQ hk r i,List.drop_of_length_le (by rw[hk];omega)];rfl
theorem yk(hk:∀x,(f x).length=k):∀(l:List α) (i:Nat),(l.flatMap f).take (i*k)=(l.take i).flatMap f
 |l,0=>aC
 |[],i+1=>aC
 |x::r,i+1=>by rw[List.flatMap_cons,Nat.add_mul,Nat.one_mul,Nat.add_comm,List.take_append,hk,Nat.add_sub_cancel_left,yk hk r i,List.take_of_length_le (by rw[hk];omega)];rfl
theorem wQ(hk:∀x,(f x).length=k){l:List α}{x:α}(h:l[i]?=some x):((l.flatMap f).drop (i*k)).take k=f x:=by rw[sQ hk];have hi:=(cr h).1;have hx:=(cr h).2;rw[List.drop_eq_getElem_cons hi,List.flatMap_cons,List.take_append_of_le_length (by rw[hk];exact Nat.le_refl _),List.take_of_length_le (by rw[hk];exact Nat.le_refl _),hx]
theorem l9{l:List α}{x:α}(h:l[i]?=some x):i*k+k<=l.length*k:=by have hi:=(cr h).1;have:=Nat.mul_le_mul_right k (Nat.succ_le_of_lt hi);rwa [Nat.succ_mul] at this
end
structure RowTy (P:Program) (ts te:TypeId) (k:Nat) {α:Type} (f:α->List G):Prop where
 el:dp P ts=some te
 sz:bw P te=some k
 kp:0<k
 ln:∀x,(f x).length=k
 im:∀x,(f x).all (nF 19)=true
section
variable {P:Program} {ts te:TypeId} {k:Nat} {α:Type} {f:α->List G}
abbrev aE(f:α->List G)(l:List α):G:= .sl (l.flatMap f) l.length
theorem RowTy.im'(R:RowTy P ts te k f)(x:α):∀g∈f x,bB g:=λg hg=>aG 19 g (List.all_eq_true.1 (R.im x) g hg)
theorem RowTy.imm(R:RowTy P ts te k f)(l:List α):∀g∈l.flatMap f,bB g:=λg hg=>by obtain⟨x,_,hx⟩:=List.mem_flatMap.1 hg;exact R.im' x g hx
theorem RowTy.len(R:RowTy P ts te k f)(l:List α):(l.flatMap f).length=l.length*k:=QP R.ln l
theorem RowTy.ix(R:RowTy P ts te k f){l:List α}{i:Nat}{x:α}(h:l[i]?=some x):fh P ts (aE f l) (i:Int)=some (.ptr (l.flatMap f) (i*k)):=by have hi:=(cr h).1;have hb:=l9 (k:=k) h;have hl:=R.len l;have hk:=R.kp;simp only[fh,R.el,R.sz,aL];rw[if_pos (by refine⟨aa,aa,?_⟩;rw[hl,Int.toNat_natCast];omega),Int.toNat_natCast]
theorem RowTy.ixr(R:RowTy P ts te k f)(j:Nat){l:List α}{i o:Nat}{x:α}(h:l[i]?=some x):fh P ts (.rsl j o l.length) (i:Int)=some (.ref j (o+i*k)):=by have hi:=(cr h).1;simp only[fh,R.el,R.sz,aL];rw[if_pos aa,Int.toNat_natCast]
theorem RowTy.pt(R:RowTy P ts te k f)(ha:fg P te=some true){l:List α}{i:Nat}{x:α}(h:l[i]?=some x):dN P te (l.flatMap f) (i*k)=some (.agg (f x)):=by have hb:=l9 (k:=k) h;simp only[dN,ha,R.sz];rw[if_pos (by rw[R.len];exact hb),wQ R.ln h]
theorem RowTy.pt1(R:RowTy P ts te 1 f)(ha:fg P te=some false){l:List α}{i:Nat}{x:α}(h:l[i]?=some x){g:G}(hg:f x=[g]:=by rfl):dN P te (l.flatMap f) (i*1)=some g:=by have e:=wQ (f:=f) (k:=1) R.ln h;rw[hg] at e;have e2:=congrArg (λz=>z[0]?) e;simp only[List.getElem?_take,List.getElem?_drop,Nat.lt_one_iff,if_true,Nat.add_zero] at e2;simp only[dN,ha];exact e2
theorem RowTy.fd(R:RowTy P ts te k f){t:TypeId}(ha:fg P t=some false){l:List α}{i j:Nat}{x:α}{g:G}(h:l[i]?=some x)(hg:(f x)[j]?=some g):dN P t (l.flatMap f) (i*k+j)=some g:=by have e:=wQ (f:=f) (k:=k) R.ln h;have hj:=(cr hg).1;rw[R.ln] at hj;simp only[dN,ha];rw[<-e,List.getElem?_take,if_pos hj,List.getElem?_drop] at hg;exact hg
theorem RowTy.one(R:RowTy P ts te k f)(x:α):0+1*k<=(f x).length:=by rw[R.ln];omega
theorem RowTy.snoc(R:RowTy P ts te k f)(l:List α)(x:α):l.flatMap f++((f x).drop 0).take (1*k)=(l++[x]).flatMap f:=by rw[List.drop_zero,Nat.one_mul,List.take_of_length_le (by rw[R.ln];exact Nat.le_refl _),List.flatMap_append];simp
def Tn(d:Nat)(R:RowTy P ts te k f)(b:Nat)(l:List α)(x:α)(hb:(l.length+1)*b<=140737488355328):HP:=ha d ((l++[x]).flatMap f) (l++[x]).length (p:=(l.flatMap f).length=l.length*k/\0+1*k<=(f x).length/\(l.length+1)*b<=140737488355328/\l.flatMap f++((f x).drop 0).take (1*k)=(l++[x]).flatMap f/\l.length+1=(l++[x]).length) ⟨R.len l,R.one x,hb,R.snoc l x,aC⟩
theorem RowTy.pre(R:RowTy P ts te k f)(j:Nat){n q:Nat}(h:q<=n):ig P ts (.rsl j 0 n) none (some (q:Int))=some (.rsl j 0 q):=by have:=R.kp;simp only[ig,R.el,R.sz,aL];rw[if_neg aa,if_pos aa,Int.toNat_natCast]
theorem RowTy.suf(R:RowTy P ts te k f)(j:Nat){n q:Nat}(h:q<=n):ig P ts (.rsl j 0 n) (some (q:Int)) none=some (.rsl j (0+q*k) (n-q)):=by have:=R.kp;simp only[ig,R.el,R.sz,aL];rw[if_neg aa,if_pos aa,Int.toNat_natCast]
end
theorem bS{o:Option α}{f:α->Option β}{r:β}(h:o.bind f=some r):∃y,o=some y/\f y=some r:=Option.bind_eq_some_iff.1 h
theorem bC{c:Bool}{a b:Option α}{r:α}(h:(bif c then a else b)=some r):(c=true/\a=some r)\/(c=false/\b=some r):=by
 cases c
 .exact .inr ⟨rfl,h⟩
 .exact .inl ⟨rfl,h⟩
def KN{σ ρ:Type}(step:σ->Option (σ⊕ρ)):Nat->σ->Option ρ
 |0,_=>none
 |n+1,s=>match step s with
  |none=>none
  |some (.inl s')=>KN step n s'
  |some (.inr r)=>some r
def FU:Nat:=4611686018427387904
def loop{σ ρ:Type}(step:σ->Option (σ⊕ρ))(s:σ):Option ρ:=KN step FU s
def ma{α β γ:Type}(x:α⊕β)(k:α->Option γ)(q:β->Option γ):Option γ:=match x with
 | .inl a=>k a
 | .inr b=>q b
def wI(z:Int):Int:=IntKind.i64.wrap z
def wU(z:Int):Nat:=(IntKind.u64.wrap z).toNat
def ah{α:Type}(l:List α):Int:=(l.length:Int)
def aS{α:Type}(l:List α)(i:Int):Option α:=if 0<=i then l[i.toNat]? else none
def ji{α:Type}(l:List α)(i:Int)(x:α):Option (List α):=if 0<=i/\i.toNat<l.length then some (l.set i.toNat x) else none
def tq{α:Type}(l:List α)(i:Int):Option (List α):=if 0<=i/\i.toNat<=l.length then some (l.take i.toNat) else none
def mc{α:Type}(l:List α)(i:Int):Option (List α):=if 0<=i/\i.toNat<=l.length then some (l.drop i.toNat) else none
def aT{α:Type}(b:Nat)(l r:List α):Option (List α):=if(l.length+r.length)*b<=140737488355328 then some (l++r) else none
def Gg(a b:Int):Option Int:=if b=0 then none else some (IntKind.i64.wrap (a.tdiv b))
def u9(a b:Int):Option Int:=if b=0 then none else some (a.tmod b)
def rP{α:Type}(b:Nat)(z:α)(n:Int):Option (List α):=if 0<=n/\b*n.toNat<=281474976710656/\n<=9223372036854775807 then some (List.replicate n.toNat z) else none
theorem cB{X:Option G}{t:Bool}(h:X=some (bG t))(e:t=b):X=some (bG b):=e▸h
def bq:List Nat->Code->Code
 |[],c=>c
 |0::r,.seq a _=>bq r a
 |1::r,.seq _ b=>bq r b
 |2::r,.block _ c=>bq r c
 |2::r,.loop c=>bq r c
 |3::r,.cond _ a _=>bq r a
 |4::r,.cond _ _ b=>bq r b
 |_,_=> .skip
def bE:List Nat->Code->List (St->Prop)->List Kf->List Kf
 |0::r,.seq a b,Bs,K=>bE r a Bs (.thn b::K)
 |1::r,.seq _ b,Bs,K=>bE r b Bs K
 |2::r,.block id c,Bs,K=>bE r c Bs (.blk id::K)
 |2::r,.loop c,B::Bs,K=>bE r c Bs (.lp B::K)
 |3::r,.cond _ a _,Bs,K=>bE r a Bs K
 |4::r,.cond _ _ b,Bs,K=>bE r b Bs K
 |_,_,_,K=>K
def c7(m:Bool)(p:List Nat)(c:Code):Code⊕Exit:=bif m then .inr .normal else .inl (bq p c)
section
variable {P:Program}
def Gp(P:Program)(fn:Func)(Q:Exit->St->Prop)(Bs:List (St->Prop))(m:Bool)(p:List Nat)(st:St):Prop:=CQ P Q (bE p (ai fn) Bs []) st (c7 m p (ai fn))
theorem m8{Q:Exit->St->Prop}{K:List Kf}:∀(a:List Kf) (e:Exit) (s:St),dz P a (dz P K Q) e s->dz P (a++K) Q e s
 |[],e,s,h=>by obtain⟨s',l,h⟩:=h;exact pQ l K e h
 | .thn b::a,e,s,h=>by
  show dz P (.thn b::(a++K)) Q e s;unfold dz at h⊢;cases e with
  |normal=>unfold uE at h⊢;exact h.mono λe s h=>m8 a e s h
  |_=>unfold uE at h⊢;exact m8 a _ s h
 | .blk id::a,e,s,h=>by
  show dz P (.blk id::(a++K)) Q e s;unfold dz at h⊢;cases e with
  |exit i=>
   unfold pu at h⊢;by_cases hi:i=id
   .simp only[hi,if_true] at h⊢;exact m8 a _ s h
   .simp only[hi,if_false] at h⊢;exact m8 a _ s h
  |_=>unfold pu at h⊢;exact m8 a _ s h
 | .lp B::a,e,s,h=>by
  show dz P (.lp B::(a++K)) Q e s;unfold dz at h⊢;cases e with
  |normal=>unfold uE at h⊢;exact h
  |_=>unfold uE at h⊢;exact m8 a _ s h
theorem QQ{Q:Exit->St->Prop}{K a:List Kf}{m:Code⊕Exit}(h:CQ P (dz P K Q) a st m):CQ P Q (a++K) st m:=by
 cases m with
 |inl c=>exact Tr.mono h λe s h=>m8 a e s h
 |inr e=>exact m8 a e st h
theorem Oi:Wk P st ρ (.lit (.slice none 0 0)) (.sl [] 0):=λcx a w β r v hv=>by rw[hv.lit_eq];exact .imm _ _ (.sl [] 0 none 0 (λ_=>undef) (Nat.le_refl _) (Nat.zero_le _) aC aC aC)
theorem CE{i j:Nat}{ob:Ob}(h:dq ρ i=some j)(ho:ag st.σ j=some ob):Wk P st ρ (.lit (.slice none 0 0)) (.rsl i 0 0):=λcx a w β r v hv=>by rw[hv.lit_eq];refine .rsl0 i 0 ?_;rw[h,aL];rcases(r.ob j ob ho).at with h2|⟨b,C,c,h2,_⟩<;>rw[h2]<;>simp
def QR(P:Program)(σ:aQ)(ρ:List (Nat×Nat))(cl:Bool):Nat->G->G->Option (List Prop×G)
 |0,_,_=>none
 |n+1,g,t=>match t with
  | .junk=>some ([],.junk)
  | .sl _ m'=>match g with
   | .sl l m=>some ([],.sl l m)
   | .lit (.slice none 0 0)=>some ([],.sl [] 0)
   | .rsl j o m=>match ag σ j with
    |some ob=>match bw P ob.t with
     |some s=>bif ρ.all λq=> !(Nat.beq q.2 j) then(bif Nat.beq o 0 then some ([ob.l.length=m'*s/\(∀x∈ob.l,bB x)/\m=m'],.sl ob.l m') else some ([o+m*s<=ob.l.length/\∀x∈ob.l,bB x],.sl ((ob.l.drop o).take (m*s)) m)) else none
     |none=>none
    |none=>none
   |_=>none
  | .rsl i _ m'=>match g with
   | .rsl j o m=>match dq ρ i with
    |some k=>bif Nat.beq k j then some ([m=m'],.rsl i o m') else none
    |none=>none
   | .lit (.slice none 0 0)=>match dq ρ i with
    |some k=>match ag σ k with
     |some _=>some ([],.rsl i 0 0)
     |none=>none
    |none=>none
   |_=>none
  | .ref i _=>match g with
   | .ref j o=>match dq ρ i with
    |some k=>bif Nat.beq k j then some ([],.ref i o) else none
    |none=>none
   |_=>none
  | .mref i=>match g with
   | .mref j=>match dq ρ i with
    |some k=>bif Nat.beq k j then some ([],.mref i) else none
    |none=>none
   |_=>none
  | .ptr l' _=>match g with
   | .ptr l o=>some ([],.ptr l o)
   | .ref j o=>match ag σ j with
    |some ob=>bif ρ.all λq=> !(Nat.beq q.2 j) then(match Da (QR P σ ρ cl n) ob.l l' with
     |some (C,r)=>some (C++[∀x∈r,bB x],.ptr r o)
     |none=>none) else none
    |none=>none
   |_=>none
  | .mp _ _ _ _=>match g with
   | .mp ks vs ns c=>some ([],.mp ks vs ns c)
   | .mref j=>match ag σ j with
    |some ⟨_,_,some (.map es clock)⟩=>bif ρ.all λq=> !(Nat.beq q.2 j) then some ([∀e∈es,bB e.2.1],.mp (es.map (·.1)) (es.map (·.2.1)) (es.map (·.2.2)) clock) else none
    |_=>none
   |_=>none
  | .yld i=>match g with
   | .yld j=>match dq ρ i with
    |some k=>bif Nat.beq k j then some ([],.yld i) else none
    |none=>none
   |_=>none
  | .clo _ a' b'=>match g with
   | .clo f a b=>bif cl then(match Da (QR P σ ρ cl n) a a' with
    |some (C,r)=>match Da (QR P σ ρ cl n) b b' with
     |some (D,r')=>some (C++D,.clo f r r')
     |none=>none
    |none=>none) else some ([bB (.clo f a b)],.clo f a b)
   |_=>none
  | .agg l'=>match g with
   | .agg l=>match Da (QR P σ ρ cl n) l l' with
    |some (C,r)=>some (C,.agg r)
    |none=>none
   |_=>none
  | .tup l'=>match g with
   | .tup l=>match Da (QR P σ ρ cl n) l l' with
    |some (C,r)=>some (C,.tup r)
    |none=>none
   |_=>none
  |_=>bif nF 20 g then some ([],g) else none
theorem nE{st:St}{ρ:List (Nat×Nat)}{cl:Bool}:∀(n:Nat) (g t:G) (C:List Prop) (a:G),QR P st.σ ρ cl n g t=some (C,a)->(∀p∈C,p)->Wk P st ρ g a
 |0,_,_,_,_,h,_=>by cases h
 |n+1,g,t,C,a,h,hC=>by
  unfold QR at h;split at h
  .cases h;exact FE
  .split at h
   .cases h;exact ry (FC _ _)
   .cases h;exact Oi
   .rename_i j o m;split at h
    .rename_i ob ho;split at h
     .rename_i s hs;cases hk:(ρ.all λq=> !(Nat.beq q.2 j)) with
      |false=>rw[hk] at h;cases h
      |true=>
       rw[hk] at h;have hk':∀p∈ρ,p.2≠j:=λp hp e=>by have:=List.all_eq_true.1 hk p hp;rw[e,Nat.beq_refl] at this;cases this
       simp only[ax] at h;cases hz:Nat.beq o 0 with
       |true=>rw[hz] at h;obtain rfl:=bc hz;cases h;obtain⟨h1,h2,rfl⟩:=hC _ (List.mem_singleton.2 rfl);have:=BS (P:=P) (st:=st) (ρ:=ρ) (o:=0) (n:=m) hk' ho hs (by rw[h1];omega) h2;rwa [List.drop_zero,List.take_of_length_le (by rw[h1];exact Nat.le_refl _)] at this
       |false=>rw[hz] at h;cases h;have h1:=hC _ (List.mem_singleton.2 rfl);exact BS hk' ho hs h1.1 h1.2
     .cases h
    .cases h
   .cases h
  .split at h
   .split at h
    .rename_i k hr;cases hb:Nat.beq k _ with
     |false=>rw[hb] at h;cases h
     |true=>rw[hb] at h;obtain rfl:=bc hb;cases h;obtain rfl:=hC _ (List.mem_singleton.2 rfl);exact P4 hr
    .cases h
   .split at h
    .rename_i k hr;split at h
     .rename_i ob ho;cases h;exact CE hr ho
     .cases h
    .cases h
   .cases h
  .split at h
   .split at h
    .rename_i k hr;cases hb:Nat.beq k _ with
     |false=>rw[hb] at h;cases h
     |true=>rw[hb] at h;obtain rfl:=bc hb;cases h;exact VH hr
    .cases h
   .cases h
  .split at h
   .split at h
    .rename_i k hr;cases hb:Nat.beq k _ with
     |false=>rw[hb] at h;cases h
     |true=>rw[hb] at h;obtain rfl:=bc hb;cases h;exact SU hr
    .cases h
   .cases h
  .split at h
   .cases h;exact ry (Ah _ _)
   .rename_i j o;split at h
    .rename_i ob ho;cases hk:(ρ.all λq=> !(Nat.beq q.2 j)) with
     |false=>rw[hk] at h;cases h
     |true=>
      rw[hk] at h;have hk':∀p∈ρ,p.2≠j:=λp hp e=>by have:=List.all_eq_true.1 hk p hp;rw[e,Nat.beq_refl] at this;cases this
      simp only[ax] at h;split at h
      .rename_i C' r hl;cases h;obtain⟨k1,k2⟩:=io (Q:=Wk P st ρ) (λg t C a=>nE n g t C a) _ _ _ _ hl (λp hp=>hC p (List.mem_append_left _ hp));exact J7 hk' ho k1 k2 (hC _ (List.mem_append_right _ (List.mem_singleton.2 rfl)))
      .cases h
    .cases h
   .cases h
  .split at h
   .cases h;exact ry (J5 _ _ _ _)
   .rename_i j;split at h
    .rename_i t l es clock ho;cases hk:(ρ.all λq=> !(Nat.beq q.2 j)) with
     |false=>rw[hk] at h;cases h
     |true=>
      rw[hk] at h;have hk':∀p∈ρ,p.2≠j:=λp hp e=>by have:=List.all_eq_true.1 hk p hp;rw[e,Nat.beq_refl] at this;cases this
      cases h;exact HO hk' ho (hC _ (List.mem_singleton.2 rfl))
    .cases h
   .cases h
  .split at h
   .split at h
    .rename_i k hr;cases hb:Nat.beq k _ with
     |false=>rw[hb] at h;cases h
     |true=>rw[hb] at h;obtain rfl:=bc hb;cases h;exact VI hr
    .cases h
   .cases h
  .split at h
   .cases cl with
    |false=>cases h;exact ry (hC _ (List.mem_singleton.2 rfl))
    |true=>
     simp only[ax] at h;split at h
     .rename_i C' r hl;split at h
      .rename_i D r' hl';cases h;obtain⟨k1,k2⟩:=io (Q:=Wk P st ρ) (λg t C a=>nE n g t C a) _ _ _ _ hl λp hp=>hC p (List.mem_append_left _ hp);obtain⟨m1,m2⟩:=io (Q:=Wk P st ρ) (λg t C a=>nE n g t C a) _ _ _ _ hl' λp hp=>hC p (List.mem_append_right _ hp);exact VL k1 m1 k2 m2
      .cases h
     .cases h
   .cases h
  .split at h
   .split at h
    .rename_i C' r hl;cases h;obtain⟨k1,k2⟩:=io (Q:=Wk P st ρ) (λg t C a=>nE n g t C a) _ _ _ _ hl hC;exact VJ k1 k2
    .cases h
   .cases h
  .split at h
   .split at h
    .rename_i C' r hl;cases h;obtain⟨k1,k2⟩:=io (Q:=Wk P st ρ) (λg t C a=>nE n g t C a) _ _ _ _ hl hC;exact VK k1 k2
    .cases h
   .cases h
  .cases hb:nF 20 g with
   |false=>rw[hb] at h;cases h
   |true=>rw[hb] at h;cases h;exact ry (aG 20 g hb)
inductive Rk where
 |row
 |clo
 |app (A B B' L:List G)
def Wh(P:Program)(σ:aQ)(ρ:List (Nat×Nat))(cl:Bool)(fr:Fr):Fr->Option (List Prop×Fr)
 |[]=>some ([],[])
 |(k,t)::r=>match QR P σ ρ cl 20 (aD fr k) t with
  |some (C,g)=>match Wh P σ ρ cl fr r with
   |some (D,f)=>some (C++D,(k,g)::f)
   |none=>none
  |none=>none
theorem QS{st:St}{ρ:List (Nat×Nat)}{cl:Bool}:∀(r:Fr) (C:List Prop) (f:Fr),Wh P st.σ ρ cl st.fr r=some (C,f)->(∀p∈C,p)->J6 P st ρ f
 |[],C,f,h,_=>by cases h;exact HQ
 |(k,t)::r,C,f,h,hC=>by
  unfold Wh at h;split at h
  .rename_i a g h1;split at h
   .rename_i D f1 h2;cases h;exact NF (nE 20 _ _ _ _ h1 λp hp=>hC p (List.mem_append_left _ hp)) (QS r _ _ h2 λp hp=>hC p (List.mem_append_right _ hp))
   .cases h
  .cases h
def Yz(kd:List (Nat×Rk)):Bool:=kd.any λq=>match q.2 with| .clo=>true|_=>false
def wkC(P:Program)(σ:aQ)(ρ:List (Nat×Nat))(kd:List (Nat×Rk))(i:Nat)(l a:List G):Option (List Prop×List G):=match kd.find? (λq=>Nat.beq q.1 i) with
 |some (_,.row)=>some ([∀g∈l,bB g],l)
 |some (_,.clo)=>none
 |some (_,.app A B B' L)=>match Da (QR P σ ρ (Yz kd) 20) B B' with
  |some (C,B'')=>some ((l=A++B/\(∀g∈A,bB g)/\A++B''=L)::C,L)
  |none=>none
 |none=>Da (QR P σ ρ (Yz kd) 20) l a
theorem Wi{kd:List (Nat×Rk)}{l l':List G}{C:List Prop}{r:List G}(h:wkC P st.σ ρ kd i l l'=some (C,r))(hC:∀p∈C,p):r.length=l.length/\∀(k:Nat) (g a:G),l[k]?=some g->r[k]?=some a->Wk P st ρ g a:=by
 unfold wkC at h;split at h
 .cases h;exact⟨rfl,P8 (hC _ (List.mem_singleton.2 rfl))⟩
 .cases h
 .rename_i A B B' L _;split at h
  .rename_i b B'' hB;cases h;obtain⟨rfl,h2,rfl⟩:=hC _ (List.mem_cons_self ..);obtain⟨k1,k2⟩:=io (Q:=Wk P st ρ) (λg t C a=>nE 20 g t C a) _ _ _ _ hB λp hp=>hC p (List.mem_cons_of_mem _ hp);refine⟨by simp[k1],λk g a h3 h4=>?_⟩;by_cases hk:k<A.length
   .rw[List.getElem?_append_left hk] at h3 h4;rw[h3] at h4;cases h4;exact ry (h2 g (bO h3))
   .rw[List.getElem?_append_right aa] at h3 h4;exact k2 _ _ _ h3 h4
  .cases h
 .exact io (Q:=Wk P st ρ) (λg t C a=>nE 20 g t C a) _ _ _ _ h hC
theorem My{st:St}{ρ:List (Nat×Nat)}{cl:Bool}{fr:Fr}:∀(r:Fr) (C:List Prop) (f:Fr),Wh P st.σ ρ cl fr r=some (C,f)->(∀p∈C,p)->∀d,Wk P st ρ (aD fr d) (aD f d)
 |[],C,f,h,_,d=>by cases h;exact FE
 |(k,t)::r,C,f,h,hC,d=>by
  unfold Wh at h;split at h
  .rename_i a g h1;split at h
   .rename_i D f1 h2;cases h;rw[aO];split
    .rename_i e;subst e;exact nE 20 _ _ _ _ h1 λp hp=>hC p (List.mem_append_left _ hp)
    .exact My r _ _ h2 (λp hp=>hC p (List.mem_append_right _ hp)) d
   .cases h
  .cases h
def Wj(P:Program)(σ:aQ)(ρ:List (Nat×Nat))(cl:Bool):Xob->Option Xob->Option (List Prop×Xob)
 | .loop ls pe n fr ps a b,some (.loop _ _ _ fr' _ _ _)=>match Wh P σ ρ cl fr fr' with
  |some (C,f)=>some (C,.loop ls pe n f ps a b)
  |none=>none
 | .map es cl,some (.map _ _)=>some ([∀q∈es,bB q.2.1],.map es cl)
 | .iter (some j) since seen last,some (.iter (some i) _ _ _)=>match dq ρ i with
  |some k=>bif Nat.beq k j then some ([],.iter (some i) since seen last) else none
  |none=>none
 |_,_=>none
theorem Tp{cl:Bool}{x:Xob}{t:Option Xob}{C:List Prop}{x':Xob}(h:Wj P st.σ ρ cl x t=some (C,x'))(hC:∀p∈C,p):Xk P st ρ x x'/\x≠ .resv:=by
 unfold Wj at h;split at h
 .split at h
  .rename_i hf;cases h;exact⟨P7 (My _ _ _ hf hC),aC⟩
  .cases h
 .cases h;refine⟨SV rfl λk a c b d m e e1 e2=>?_,aC⟩;rw[e1] at e2;cases e2;exact⟨rfl,rfl,ry (hC _ (List.mem_singleton.2 rfl) _ (bO e1))⟩
 .split at h
  .rename_i k hk;cases hb:Nat.beq k _ with
   |false=>rw[hb] at h;cases h
   |true=>rw[hb] at h;cases h;rw[bc hb] at hk;exact⟨P6 hk,aC⟩
  .cases h
 .cases h
def Wl(P:Program)(σ:aQ)(ρ:List (Nat×Nat))(kd:List (Nat×Rk)):aQ->Option (List Prop×aQ)
 |[]=>some ([],[])
 |(_,none)::r=>Wl P σ ρ kd r
 |(i,some ob')::r=>match dq ρ i with
  |some j=>match ag σ j with
   |some ⟨t,l,none⟩=>match wkC P σ ρ kd i l ob'.l with
    |some (C,l')=>match Wl P σ ρ kd r with
     |some (D,τ)=>some (C++D,(i,some ⟨t,l',none⟩)::τ)
     |none=>none
    |none=>none
   |some ⟨t,_,some x⟩=>match Wj P σ ρ (Yz kd) x ob'.x with
    |some (C,x')=>match Wl P σ ρ kd r with
     |some (D,τ)=>some (C++D,(i,some ⟨t,[],some x'⟩)::τ)
     |none=>none
    |none=>none
   |_=>none
  |none=>none
theorem CF{st:St}{ρ:List (Nat×Nat)}{kd:List (Nat×Rk)}:∀(r:aQ) (C:List Prop) (τ:aQ),Wl P st.σ ρ kd r=some (C,τ)->(∀p∈C,p)->Dp P st ρ τ
 |[],C,τ,h,_=>by cases h;exact BT
 |(_,none)::r,C,τ,h,hC=>CF r C τ h hC
 |(i,some ob')::r,C,τ,h,hC=>by
  unfold Wl at h;split at h
  .rename_i j hr;split at h
   .rename_i t l ho;split at h
    .rename_i a c h1;split at h
     .rename_i D b h2;cases h;obtain⟨k1,k2⟩:=Wi h1 λp hp=>hC p (List.mem_append_left _ hp);exact xP hr ho rfl rfl (by rw[k1];exact Nat.le_refl _) k2 (CF r _ _ h2 λp hp=>hC p (List.mem_append_right _ hp))
     .cases h
    .cases h
   .rename_i t l0 x ho;split at h
    .rename_i a d h1;split at h
     .rename_i D b h2;cases h;obtain⟨k1,k2⟩:=Tp h1 λp hp=>hC p (List.mem_append_left _ hp);exact J8 hr ho rfl rfl k1 k2 (CF r _ _ h2 λp hp=>hC p (List.mem_append_right _ hp))
     .cases h
    .cases h
   .cases h
  .cases h
def zj:List TypeId->St->St
 |[],st=>st
 |t::r,st=>zj r {st with σ:=(st.c,some ⟨t,[],none⟩)::st.σ,c:=st.c+1}
theorem CG:∀(l:List TypeId) (st:St),Le P st (zj l st)
 |[],st=>Le.refl _
 |t::r,st=>Le.trans (by rintro cx a w ⟨β,h⟩;exact⟨_,h.virt t (k:=st.c) (Nat.le_refl _)⟩) (CG r _)
def Iw(P:Program)(vs:List TypeId)(ρ:List (Nat×Nat))(kd:List (Nat×Rk))(J:St)(s:St):Option (List Prop×St):=(λs=>bif ER ρ s.p then(match Wh P s.σ ρ (Yz kd) s.fr J.fr with
 |some (C,f)=>match Wl P s.σ ρ kd J.σ with
  |some (D,τ)=>some (C++D,⟨s.n,s.gl,f,τ,cR ρ,s.p,s.r⟩)
  |none=>none
 |none=>none) else none) (zj vs s)
theorem sR{vs:List TypeId}{kd:List (Nat×Rk)}{J S:St}{C:List Prop}(h:Iw P vs ρ kd J s=some (C,S))(hC:∀p∈C,p):Le P s S:=by
 refine(CG vs s).trans ?_;unfold Iw at h;generalize zj vs s=st at h⊢;dsimp only at h;cases hk:ER ρ st.p with
 |false=>rw[hk] at h;cases h
 |true=>
  rw[hk] at h;simp only[ax] at h;split at h
  .rename_i a f h1;split at h
   .rename_i D τ h2;cases h;simp only[ER,bA] at hk;obtain⟨⟨k1,k2⟩,k3⟩:=hk;refine NG ρ rfl rfl rfl (λi hi=>?_) (λi b j h1 h2=>?_) (λq hq=>Va hq) (QS _ _ _ h1 λp hp=>hC p (List.mem_append_left _ hp)) (CF _ _ _ h2 λp hp=>hC p (List.mem_append_right _ hp)) rfl
    .have:=List.all_eq_true.1 k3 i (List.mem_range.2 hi);split at this
     .rename_i k hk;rw[hk,bc this]
     .cases this
    .have:=List.all_eq_true.1 (List.all_eq_true.1 k2 _ (Gt h1)) _ (Gt h2);simp only[Nat.beq_refl,Bool.not_true,Bool.false_or] at this;exact bc this
   .cases h
  .cases h
def pR(A:List HP):List Prop:=A.map (·.p)
theorem wR(A:List HP):∀p∈pR A,p:=λp hp=>by obtain⟨x,_,rfl⟩:=List.mem_map.1 hp;exact x.t
def Xm(P:Program)(hs:List Hn)(m:Code⊕Exit)(K:List Kf)(vs:List TypeId)(ρ:List (Nat×Nat))(kd:List (Nat×Rk))(J st:St):Option (Prop×List Nat×List Prop×St):=match sy P hs 1000000 1000 m K st with
 |some (C,u,.fin .normal s)=>match Iw P vs ρ kd J s with
  |some (L,s')=>some (C,u,L,s')
  |none=>none
 |_=>none
def Xn(P:Program)(hs:List Hn)(m:Code⊕Exit)(K:List Kf)(vs:List TypeId)(ρ:List (Nat×Nat))(kd:List (Nat×Rk))(J st:St):Option (Prop×List Nat×List Prop×St×(St->Prop)):=match sy P hs 1000000 1000 m K st with
 |some (C,u,.bk B s)=>match Iw P vs ρ kd J s with
  |some (L,s')=>some (C,u,L,s',B)
  |none=>none
 |_=>none
def Xo(P:Program)(hs:List Hn)(m:Code⊕Exit)(K:List Kf)(fn:Func)(r:G)(st:St):Option (Prop×List Nat×List Prop×G):=match sy P hs 1000000 1000 m K st with
 |some (C,u,.fin e s)=>match tc e,vR P s fn.results.toList with
  |true,some gs=>match KW P s.σ 20 (iU gs) r with
   |some (L,g)=>some (C,u,L,g)
   |none=>none
  |_,_=>none
 |_=>none
def YA(x:Option (Prop×List Nat×List Prop×St)):List Nat:=match x with|some (_,u,_)=>u|none=>[0]
def YB(x:Option (Prop×List Nat×List Prop×St×(St->Prop))):List Nat:=match x with|some (_,u,_)=>u|none=>[0]
def YC(x:Option (Prop×List Nat×List Prop×G)):List Nat:=match x with|some (_,u,_)=>u|none=>[0]
variable [M:Mix P] {fn:Func} {Q:Exit->St->Prop} {r:G} {Bs Bs':List (St->Prop)} {m:Bool} {p q:List Nat} {st:St}
theorem Gh{gs:List G}(hf:P.funcs[f]?=some fn)(h:Gp P fn (tH P fn r) [] false [] ⟨fn.ntmps,gl,bQ 0 gs,[],0,0,false⟩)(hb:fn.body.isSome=true:=by kernel_rfl)(hn:Nat.ble gs.length fn.ntmps=true:=by kernel_rfl):ba P gl f gs r:=Y7 fn hf hb hn h
def Wm(fn:Func)(Bs Bs':List (St->Prop))(p q:List Nat):List Kf:=(bE p (ai fn) Bs []).take ((bE p (ai fn) Bs []).length-(bE q (ai fn) Bs' []).length)
theorem yl(q:List Nat){J:St}(A O:List HP)(b:Gp P fn Q Bs' true q J)(vs:List TypeId:=[])(ρ:List (Nat×Nat):=OY J)(kd:List (Nat×Rk):=[])(hk:qe A (YA (Xm P (bK A) (c7 m p (ai fn)) (Wm fn Bs Bs' p q) vs ρ kd J st))=true:=by kernel_rfl)(e:Xm P (bK A) (c7 m p (ai fn)) (Wm fn Bs Bs' p q) vs ρ kd J st=some (vb A (YA (Xm P (bK A) (c7 m p (ai fn)) (Wm fn Bs Bs' p q) vs ρ kd J st)),YA (Xm P (bK A) (c7 m p (ai fn)) (Wm fn Bs Bs' p q) vs ρ kd J st),pR O,J):=by kernel_rfl)(a:Wm fn Bs Bs' p q++bE q (ai fn) Bs' []=bE p (ai fn) Bs []:=by kernel_rfl):Gp P fn Q Bs m p st:=by
 have hC:=kA hk;generalize YA _=u at hC e;generalize vb A u=C at hC e;unfold Gp;rw[<-a];refine QQ ?_;unfold Xm at e;split at e
 .rename_i c d s h1;split at e
  .rename_i L s' h2;cases e;exact oK M.mx (out:= .fin .normal s) (Q:=dz P (bE q (ai fn) Bs' []) Q) ⟨_,sR h2 (wR O),b⟩ 1000 _ _ _ _ _ h1 hC
  .cases e
 .cases e
theorem jw{J:St}{B:St->Prop}(A O:List HP)(hB:B J)(vs:List TypeId:=[])(ρ:List (Nat×Nat):=OY J)(kd:List (Nat×Rk):=[])(hk:qe A (YB (Xn P (bK A) (c7 m p (ai fn)) (bE p (ai fn) Bs []) vs ρ kd J st))=true:=by kernel_rfl)(e:Xn P (bK A) (c7 m p (ai fn)) (bE p (ai fn) Bs []) vs ρ kd J st=some (vb A (YB (Xn P (bK A) (c7 m p (ai fn)) (bE p (ai fn) Bs []) vs ρ kd J st)),YB (Xn P (bK A) (c7 m p (ai fn)) (bE p (ai fn) Bs []) vs ρ kd J st),pR O,J,B):=by kernel_rfl):Gp P fn Q Bs m p st:=by
 have hC:=kA hk;generalize YB _=u at hC e;generalize vb A u=C at hC e;unfold Gp;unfold Xn at e;split at e
 .rename_i a b B' s h1;split at e
  .rename_i L s' h2;cases e;exact oK M.mx (out:= .bk B s) ⟨_,sR h2 (wR O),hB⟩ 1000 _ _ _ _ _ h1 hC
  .cases e
 .cases e
theorem Ar(A O:List HP)(hk:qe A (YC (Xo P (bK A) (c7 m p (ai fn)) (bE p (ai fn) Bs []) fn r st))=true:=by kernel_rfl)(e:Xo P (bK A) (c7 m p (ai fn)) (bE p (ai fn) Bs []) fn r st=some (vb A (YC (Xo P (bK A) (c7 m p (ai fn)) (bE p (ai fn) Bs []) fn r st)),YC (Xo P (bK A) (c7 m p (ai fn)) (bE p (ai fn) Bs []) fn r st),pR O,r):=by kernel_rfl):Gp P fn (tH P fn r) Bs m p st:=by
 have hC:=kA hk;generalize YC _=u at hC e;generalize vb A u=C at hC e;unfold Gp;unfold Xo at e;split at e
 .rename_i a b x s h1;split at e
  .rename_i gs hx hg;split at e
   .rename_i L g hq;cases e;refine oK M.mx (out:= .fin x s) ⟨s,Le.refl _,?_⟩ 1000 _ _ _ _ _ h1 hC;show tH P fn r x s;unfold tH;exact⟨eO hx,gs,gh hg,rR 20 _ _ _ _ hq (wR O)⟩
   .cases e
  .cases e
 .cases e
def Xp(P:Program)(hs:List Hn)(m:Code⊕Exit)(K:List Kf)(fn:Func)(t:TypeId)(st:St):Option (Prop×List Nat×Prop×Nat×List G):=match sy P hs 1000000 1000 m K st with
 |some (C,u,.fin e s)=>match tc e,fn.results with
  |true,⟨[.tmp x]⟩=>match aD s.fr x with
   | .rsl i 0 n=>match ag s.σ i with
    |some ⟨t',l,none⟩=>bif Nat.beq t t'&&Nat.beq s.p 0 then some (C,u,∀g∈l,bB g,n,l) else none
    |_=>none
   | .lit (.slice none 0 0)=>bif Nat.beq s.p 0 then some (C,u,∀g∈([]:List G),bB g,0,[]) else none
   |_=>none
  |_,_=>none
 |_=>none
def YD(x:Option (Prop×List Nat×Prop×Nat×List G)):List Nat:=match x with|some (_,u,_)=>u|none=>[0]
theorem YE{fn:Func}{st:St}{x:Tmp}(hp:st.p=0)(h:fn.results= #[.tmp x])(hv:aD st.fr x= .lit (.slice none 0 0))(he:e= .normal\/e= .ret):Z1 P (zE P fn (.rsl 0 0 0) [(0,some ⟨t,[],none⟩)]) e st:=by
 refine⟨zj [t] st,CG _ _,he,[.lit (.slice none 0 0)],[(0,st.c)],?_,?_,?_,?_,?_⟩
 .rw[h];show[ResultVar.tmp x].mapM (jV P (zj [t] st))=_;simp only[List.mapM_cons,List.mapM_nil,jV];rw[show aD (zj [t] st).fr x=aD st.fr x from rfl,hv];rfl
 .intro i hi;have:(zj [t] st).p=st.p:=rfl;omega
 .intro a b j h1 h2;have a1:=fj h1;have a2:=fj h2;simp at a1 a2;omega
 .show Wk P _ _ (.lit (.slice none 0 0)) _;exact CE (j:=st.c) (by simp[dq]) (by show ag ((st.c,some ⟨t,[],none⟩)::st.σ) st.c=_;rw[am,if_pos rfl])
 .exact xP (j:=st.c) (by simp[dq]) (by show ag ((st.c,some ⟨t,[],none⟩)::st.σ) st.c=_;rw[am,if_pos rfl]) rfl rfl (Nat.le_refl _) (λk g d h1 h2=>by cases h2) BT
theorem EI{l:List G}(A:List HP)(hi:∀g∈l,bB g)(a:Nat:=n)(hn:a=n:=by rfl)(hk:qe A (YD (Xp P (bK A) (c7 m p (ai fn)) (bE p (ai fn) Bs []) fn t st))=true:=by kernel_rfl)(e:Xp P (bK A) (c7 m p (ai fn)) (bE p (ai fn) Bs []) fn t st=some (vb A (YD (Xp P (bK A) (c7 m p (ai fn)) (bE p (ai fn) Bs []) fn t st)),YD (Xp P (bK A) (c7 m p (ai fn)) (bE p (ai fn) Bs []) fn t st),∀g∈l,bB g,a,l):=by kernel_rfl):Gp P fn (zE P fn (.rsl 0 0 n) [(0,some ⟨t,l,none⟩)]) Bs m p st:=by
 subst hn;have hC:=kA hk;generalize YD _=u at hC e;generalize vb A u=C at hC e;unfold Gp;unfold Xp at e;split at e
 .rename_i d f x s h1;split at e
  .rename_i b hx hres;have hr:fn.results= #[.tmp b]:=hres;split at e
   .rename_i i h hv;split at e
    .rename_i c j ho;cases hb:(Nat.beq t c&&Nat.beq s.p 0) with
     |false=>rw[hb] at e;cases e
     |true=>rw[hb] at e;simp only[bA] at hb;obtain rfl:=bc hb.1;have hp:=bc hb.2;simp only[ax,bg,Prod.mk.injEq] at e;obtain⟨rfl,rfl,_,rfl,rfl⟩:=e;exact oK M.mx (out:= .fin x s) ⟨s,Le.refl _,aan hp hr hv ho hi (eO hx)⟩ 1000 _ _ _ _ _ h1 hC
    .cases e
   .rename_i hv;cases hb:Nat.beq s.p 0 with
    |false=>rw[hb] at e;cases e
    |true=>rw[hb] at e;have hp:=bc hb;simp only[ax,bg,Prod.mk.injEq] at e;obtain⟨rfl,rfl,_,rfl,rfl⟩:=e;exact oK M.mx (out:= .fin x s) (YE hp hr hv (eO hx)) 1000 _ _ _ _ _ h1 hC
   .cases e
  .cases e
 .cases e
def Xq(P:Program)(hs:List Hn)(m:Code⊕Exit)(K:List Kf)(fn:Func)(ρ:List (Nat×Nat))(kd:List (Nat×Rk))(r:G)(σ1:aQ)(st:St):Option (Prop×List Nat×List Prop×G×aQ):=match sy P hs 1000000 1000 m K st with
 |some (C,u,.fin e s)=>match tc e,vR P s fn.results.toList with
  |true,some gs=>match QR P s.σ ρ (Yz kd) 20 (iU gs) r,Wl P s.σ ρ kd σ1 with
   |some (L,g),some (D,τ)=>bif ER ρ s.p then some (C,u,L++D,g,τ) else none
   |_,_=>none
  |_,_=>none
 |_=>none
def YF(x:Option (Prop×List Nat×List Prop×G×aQ)):List Nat:=match x with|some (_,u,_)=>u|none=>[0]
theorem ZT{r:G}{σ1:aQ}(A O:List HP)(ρ:List (Nat×Nat))(kd:List (Nat×Rk))(hk:qe A (YF (Xq P (bK A) (c7 m p (ai fn)) (bE p (ai fn) Bs []) fn ρ kd r σ1 st))=true:=by kernel_rfl)(e:Xq P (bK A) (c7 m p (ai fn)) (bE p (ai fn) Bs []) fn ρ kd r σ1 st=some (vb A (YF (Xq P (bK A) (c7 m p (ai fn)) (bE p (ai fn) Bs []) fn ρ kd r σ1 st)),YF (Xq P (bK A) (c7 m p (ai fn)) (bE p (ai fn) Bs []) fn ρ kd r σ1 st),pR O,r,σ1):=by kernel_rfl):Gp P fn (zE P fn r σ1) Bs m p st:=by
 have hC:=kA hk;generalize YF _=u at hC e;generalize vb A u=C at hC e;unfold Gp;unfold Xq at e;split at e
 .rename_i a b x s h1;split at e
  .rename_i gs hx hg;split at e
   .rename_i L g D τ h2 h3;cases hb:ER ρ s.p with
    |false=>rw[hb] at e;cases e
    |true=>
     rw[hb] at e;simp only[ax,bg,Prod.mk.injEq] at e;obtain⟨rfl,rfl,hL,rfl,rfl⟩:=e;have hp:∀p∈L++D,p:=by rw[hL];exact wR O
     simp only[ER,bA] at hb;obtain⟨⟨k1,k2⟩,k3⟩:=hb;refine oK M.mx (out:= .fin x s) ⟨s,Le.refl _,eO hx,gs,ρ,gh hg,λi hi=>?_,λi c j h1 h2=>?_,nE 20 _ _ _ _ h2 λp hq=>hp p (List.mem_append_left _ hq),CF _ _ _ h3 λp hq=>hp p (List.mem_append_right _ hq)⟩ 1000 _ _ _ _ _ h1 hC
     .have:=List.all_eq_true.1 k3 i (List.mem_range.2 hi);split at this
      .rename_i k hk;rw[hk,bc this]
      .cases this
     .have:=List.all_eq_true.1 (List.all_eq_true.1 k2 _ (Gt h1)) _ (Gt h2);simp only[Nat.beq_refl,Bool.not_true,Bool.false_or] at this;exact bc this
   .cases e
  .cases e
 .cases e
theorem ZU{σ0 σ1:aQ}{a:Nat}(hf:P.funcs[f]?=some fn)(h:Gp P fn (zE P fn r σ1) [] false [] ⟨fn.ntmps,gl,bQ 0 gs,σ0,a,a,false⟩)(hp:∀i,i<a->∃ob,ag σ0 i=some ob)(hb:fn.body.isSome=true:=by kernel_rfl)(hn:Nat.ble gs.length fn.ntmps=true:=by kernel_rfl):OU P gl f gs σ0 a a r σ1:=
 Ee hf (c:=ai fn) (by unfold ai;cases hx:fn.body with|none=>rw[hx] at hb;cases hb|some c=>rfl) (cm hn) hp (Tr.leQ (by exact h))
theorem wS{gs0:List G}{l:List G}{r:G}{i c:Nat}(hc:aK P f=true)(hF:OU P gl f gs0 [(0,some ⟨t,l,none⟩)] 1 1 r [(0,some ⟨t,l,none⟩)])(hr:bB r)(hl:∀g∈l,bB g)(h:i<c)(hln:gs0.length=gs.length)(hi:∀(j:Nat) (g d:G),gs[j]?=some g->gs0[j]?=some d->(∃o n,g= .rsl i o n/\d= .rsl 0 o n)\/(d=g/\bB g)):oJ P gl f gs [(i,some ⟨t,l,none⟩)] c r [] c:=by
 intro o st y xs ats fst cap ho hd hx hgs hgl v s;have hob:ag st.σ i=some ⟨t,l,none⟩:=v (i,some ⟨t,l,none⟩) aC;subst hgl;subst s;refine B1 (fst:=fst) (cap:=cap) (σ':=[]++st.σ) (c':=st.c) (r':=r) [(0,i)] [(i,0)] [] ho hd hx hc hF (by rw[hgs];exact hln) (λj g d h1 h2=>?_) (λa b j h1 h2=>?_) aC (NH (j:=i) (by simp[dq]) aC hob rfl rfl (Nat.le_refl _) (λk g d h1 h2=>?_) BY) (Nat.le_refl _) (λk j hk hlt=>?_) (λk k' j h1 h2=>?_) (λq hq=>?_) (λk u hk=>?_) (FH hr)
 .rw[hgs] at h1;rcases hi j g d h1 h2 with⟨w,n,rfl,rfl⟩|⟨rfl,h3⟩
  .exact VY (by simp[dq])
  .exact FG h3
 .have a1:=fj h1;have a2:=fj h2;simp at a1 a2;omega
 .rw[h1] at h2;cases h2;exact FG (hl g (bO h1))
 .have:=fj hk;simp at this;obtain⟨rfl,rfl⟩:=this;exact⟨aa,by simp[dq]⟩
 .have a1:=fj h1;have a2:=fj h2;simp at a1 a2;omega
 .simp at hq;subst hq;exact h
 .have hk:ag st.σ k=some u:=hk;by_cases e:k=i
  .subst e;rw[hob] at hk;cases hk;refine .inl ⟨0,⟨t,l,none⟩,by simp[dq],by rw[am,if_pos rfl],rfl,Nat.le_refl _,λe=>e,⟨rfl,rfl⟩,λx g d h1 h2=>?_⟩;rw[h1] at h2;cases h2;exact FH (hl g (bO h1))
  .refine .inr ⟨?_,hk,by simpa using e,aC⟩;simp only[dq,List.lookup];have:(k==i)=false:=by simpa using e
   rw[this]
theorem Tq(h:dq [(c,0),(c+1,1),(c+2,2),(c+3,3)] k=some j):k=c+j/\j<4:=by have a:=fj h;simp at a;omega
theorem m9(c:Nat){j:Nat}(h:j<4):dq [(c,0),(c+1,1),(c+2,2),(c+3,3)] (c+j)=some j:=by
 have e1:(c+1==c)=false:=aC;have e2:(c+2==c)=false:=aC;have e3:(c+3==c)=false:=aC;have e4:(c+2==c+1)=false:=aC;have e5:(c+3==c+1)=false:=aC;have e6:(c+3==c+2)=false:=aC;match j,h with
 |0,_=>simp[dq,List.lookup]
 |1,_=>simp[dq,List.lookup,e1]
 |2,_=>simp[dq,List.lookup,e2,e4]
 |3,_=>simp[dq,List.lookup,e3,e5,e6]
theorem Ts{i n t2 s:TypeId}{l1 l2 l3:List G}{r r':G}{c:Nat}(hc:aK P f=true)(hF:OU P gl f gs [] 0 0 r [(0,some ⟨i,l0,none⟩),(1,some ⟨n,l1,none⟩),(2,some ⟨t2,l2,none⟩),(3,some ⟨s,l3,none⟩)])(hg:∀g∈gs,bB g)(hr:Rn [(c,0),(c+1,1),(c+2,2),(c+3,3)] r r')(h0:∀g∈l0,bB g)(h1:∀g∈l1,bB g)(h2:∀g∈l2,bB g)(h3:∀g∈l3,bB g):oJ P gl f gs [] c r' [(c,some ⟨i,l0,none⟩),(c+1,some ⟨n,l1,none⟩),(c+2,some ⟨t2,l2,none⟩),(c+3,some ⟨s,l3,none⟩)] (c+4):=by
 intro o st y xs ats fst cap ho hd hx hgs hgl w h;subst hgl;subst h;have key:∀(k:Nat) (l:List G),(∀g∈l,bB g)->∀(x:Nat) (g d:G),l[x]?=some g->l[x]?=some d->Rn [(st.c,0),(st.c+1,1),(st.c+2,2),(st.c+3,3)] g d:=λk l hl x g d a b=>by rw[a] at b;cases b;exact FH (hl g (bO a))
 refine B1 (fst:=fst) (cap:=cap) (c':=st.c+4) (r':=r') [] [(st.c,0),(st.c+1,1),(st.c+2,2),(st.c+3,3)] [] ho hd hx hc hF (by rw[hgs]) (λj g d a b=>?_) (by simp[dq]) aC BY aa (λk j hk hlt=>?_) (λk k' j a b=>?_) (λq hq=>?_) (λk t hk=>?_) hr
 .rw[hgs] at a;rw[a] at b;cases b;exact FG (hg g (bO a))
 .have:=Tq hk;omega
 .have a1:=Tq a;have a2:=Tq b;omega
 .simp at hq;rcases hq with rfl|rfl|rfl|rfl<;>simp<;>omega
 .simp only[List.cons_append,List.nil_append,am] at hk;split at hk
  .cases hk;subst_vars;exact .inl ⟨0,_,m9 st.c (j:=0) a9,by rw[am,if_pos rfl],rfl,Nat.le_refl _,λe=>e,⟨rfl,rfl⟩,key 0 _ h0⟩
  .split at hk
   .cases hk;subst_vars;exact .inl ⟨1,_,m9 st.c (j:=1) a9,by simp[am],rfl,Nat.le_refl _,λe=>e,⟨rfl,rfl⟩,key 0 _ h1⟩
   .split at hk
    .cases hk;subst_vars;exact .inl ⟨2,_,m9 st.c (j:=2) a9,by simp[am],rfl,Nat.le_refl _,λe=>e,⟨rfl,rfl⟩,key 0 _ h2⟩
    .split at hk
     .cases hk;subst_vars;exact .inl ⟨3,_,m9 st.c (j:=3) a9,by simp[am],rfl,Nat.le_refl _,λe=>e,⟨rfl,rfl⟩,key 0 _ h3⟩
     .refine .inr ⟨?_,hk,aC,aC⟩;rename_i u n1 n2 v;cases hr:dq [(st.c,0),(st.c+1,1),(st.c+2,2),(st.c+3,3)] k with
      |none=>rfl
      |some j=>have:=Tq hr;omega
theorem Gi{gs:List G}{d:TypeId}{n c:Nat}(hc:aK P f=true)(hF:iV P gl f gs d n l0)(hg:∀g∈gs,bB g)(h0:∀g∈l0,bB g):oJ P gl f gs [] c (.rsl c 0 n) [(c,some ⟨d,l0,none⟩)] (c+1):=by
 intro o st y xs ats fst cap ho hd hx hgs hgl t h;subst hgl;subst h;refine B1 (fst:=fst) (cap:=cap) (c':=st.c+1) (r':= .rsl st.c 0 n) (r:= .rsl 0 0 n) (σ1:=[(0,some ⟨d,l0,none⟩)]) [] [(st.c,0)] [] ho hd hx hc hF (by rw[hgs]) (λj g l a b=>?_) (by simp[dq]) aC BY aa (λk j hk hlt=>?_) (λk k' j a b=>?_) (λq hq=>?_) (λk s hk=>?_) (BZ (by simp[dq]))
 .rw[hgs] at a;rw[a] at b;cases b;exact FG (hg g (bO a))
 .have:=fj hk;simp at this;omega
 .have a1:=fj a;have a2:=fj b;simp at a1 a2;omega
 .simp at hq;subst hq;simp
 .simp only[List.cons_append,List.nil_append,am] at hk;split at hk
  .cases hk;subst_vars;exact .inl ⟨0,_,by simp[dq],by rw[am,if_pos rfl],rfl,Nat.le_refl _,λe=>e,⟨rfl,rfl⟩,λx g l a b=>by rw[a] at b;cases b;exact FH (h0 g (bO a))⟩
  .refine .inr ⟨?_,hk,aC,aC⟩;rename_i i;simp only[dq,List.lookup];have:(k==st.c)=false:=by simpa using Ne.symm i
   rw[this]
theorem OW{gs:List G}{l:List G}(hf:P.funcs[f]?=some fn)(h:Gp P fn (zE P fn (.rsl 0 0 n) [(0,some ⟨t,l,none⟩)]) [] false [] ⟨fn.ntmps,gl,bQ 0 gs,[],0,0,false⟩)(hb:fn.body.isSome=true:=by kernel_rfl)(hn:Nat.ble gs.length fn.ntmps=true:=by kernel_rfl):iV P gl f gs t n l:=
 NJ hf (cd:=ai fn) (by unfold ai;cases hx:fn.body with|none=>rw[hx] at hb;cases hb|some c=>rfl) (cm hn) (Tr.leQ (by exact h))
theorem dNx(b:List Nat)(h:Gp P fn Q Bs false b st)(e:bE q (ai fn) Bs []= .thn (bq b (ai fn))::bE b (ai fn) Bs []:=by kernel_rfl):Gp P fn Q Bs true q st:=by unfold Gp;rw[e];exact wm h
def Xr(P:Program)(hs:List Hn)(m:Code⊕Exit)(K:List Kf)(vs:List TypeId)(ρ:List (Nat×Nat))(kd:List (Nat×Rk))(J st:St):Option (Prop×List Nat×List Prop×St×Code×List Kf):=match sy P hs 1000000 1000 m K st with
 |some (C,u,.lp c K' s)=>match Iw P vs ρ kd J s with
  |some (L,s')=>some (C,u,L,s',c,K')
  |none=>none
 |_=>none
def Si(x:Option (Prop×List Nat×List Prop×St×Code×List Kf)):List Nat:=match x with|some (_,u,_)=>u|none=>[0]
def Oj(fn:Func)(Bs:List (St->Prop))(b:List Nat):List Kf:=(bE b (ai fn) (Bs++[λ_=>False]) []).tail
theorem pN{σ ρ':Type}{step:σ->Option (σ⊕ρ')}{s0:σ}{x:ρ'}(S:σ->St)(b:List Nat)(hl:loop step s0=some x)(A O:List HP)(h:∀(B:St->Prop) (s:σ) (v:σ⊕ρ'),step s=some v->(∀s',v= .inl s'->B (S s'))->(∀y,v= .inr y->y=x)->Gp P fn Q (Bs++[B]) false b (S s))(vs:List TypeId:=[])(ρ:List (Nat×Nat):=OY (S s0))(kd:List (Nat×Rk):=[])
  (hk:qe A (Si (Xr P (bK A) (c7 m p (ai fn)) (bE p (ai fn) Bs []) vs ρ kd (S s0) st))=true:=by kernel_rfl)
  (e:Xr P (bK A) (c7 m p (ai fn)) (bE p (ai fn) Bs []) vs ρ kd (S s0) st=some (vb A (Si (Xr P (bK A) (c7 m p (ai fn)) (bE p (ai fn) Bs []) vs ρ kd (S s0) st)),Si (Xr P (bK A) (c7 m p (ai fn)) (bE p (ai fn) Bs []) vs ρ kd (S s0) st),pR O,S s0,bq b (ai fn),Oj fn Bs b):=by kernel_rfl)
  (e2:∀B,bE b (ai fn) (Bs++[B]) []= .lp B::Oj fn Bs b:=by intro B;kernel_rfl):Gp P fn Q Bs m p st:=by
 have hC:=kA hk
 generalize Si _=u at hC e
 generalize vb A u=C at hC e
 unfold Gp
 unfold Xr at e
 split at e
 rotate_left
 .cases e
 rename_i d f c K' s1 h1
 split at e
 rotate_left
 .cases e
 rename_i L s' h2
 simp only[bg,Prod.mk.injEq] at e
 obtain⟨rfl,rfl,rfl,rfl,rfl,rfl⟩:=e
 refine oK M.mx (out:= .lp (bq b (ai fn)) (Oj fn Bs b) s1) (Tr.le ?_ (sR h2 (wR O))) 1000 _ _ _ _ _ h1 hC
 unfold loop at hl
 have key:=TJ (P:=P) (Q:=Q) (c:=bq b (ai fn)) (K:=Oj fn Bs b) (ι:={q:Nat×σ//KN step q.1 q.2=some x}) ⟨λq=>S q.1.2,λq=>q.1.1⟩ ⟨(FU,s0),hl⟩ (by
  rintro⟨⟨n,s⟩,hn⟩;have hn:KN step n s=some x:=hn;cases n with
  |zero=>cases hn
  |succ n=>
   unfold KN at hn;split at hn
   .cases hn
   .rename_i s' hs;have:=h (λt=>t=S s'/\KN step n s'=some x) s (.inl s') hs (λa e=>by cases e;exact⟨rfl,hn⟩) (λy e=>by cases e);unfold Gp at this;rw[e2] at this;refine Tr.mono this λe t ht=>?_;unfold dz at ht⊢;cases e with
    |normal=>unfold uE at ht⊢;obtain⟨u,hu,rfl,hx⟩:=ht;exact⟨_,hu,⟨(n,s'),hx⟩,rfl,Nat.lt_succ_self _⟩
    |_=>unfold uE at ht⊢;exact ht
   .rename_i y hs;cases hn;have:=h (λt=>False) s (.inr x) hs (λa e=>by cases e) (λy e=>by cases e;rfl);unfold Gp at this;rw[e2] at this;refine Tr.mono this λe t ht=>?_;unfold dz at ht⊢;cases e with
    |normal=>unfold uE at ht⊢;obtain⟨u,hu,hx⟩:=ht;exact hx.elim
    |_=>unfold uE at ht⊢;exact ht)
 exact key
def wT:Code->Nat
 | .cond (.tmp d) _ _=>d
 | .region id _ _=>2000000+id
 |_=>1000000
def Xs(P:Program)(hs:List Hn)(cut:Nat)(m:Code⊕Exit)(K:List Kf)(vs:List TypeId)(ρ:List (Nat×Nat))(kd:List (Nat×Rk))(J st:St):Option (Prop×List Nat×List Prop×St×Code×List Kf):=match sy P hs cut 1000 m K st with
 |some (C,u,.ct c K' s)=>match Iw P vs ρ kd J s with
  |some (L,s')=>some (C,u,L,s',c,K')
  |none=>none
 |_=>none
theorem pO(q:List Nat)(J:St)(A O:List HP)(a:Gp P fn Q Bs false q J)(vs:List TypeId:=[])(ρ:List (Nat×Nat):=OY J)(kd:List (Nat×Rk):=[])
  (hk:qe A (Si (Xs P (bK A) (wT (bq q (ai fn))) (c7 m p (ai fn)) (bE p (ai fn) Bs []) vs ρ kd J st))=true:=by kernel_rfl)
  (e:Xs P (bK A) (wT (bq q (ai fn))) (c7 m p (ai fn)) (bE p (ai fn) Bs []) vs ρ kd J st=some (vb A (Si (Xs P (bK A) (wT (bq q (ai fn))) (c7 m p (ai fn)) (bE p (ai fn) Bs []) vs ρ kd J st)),Si (Xs P (bK A) (wT (bq q (ai fn))) (c7 m p (ai fn)) (bE p (ai fn) Bs []) vs ρ kd J st),pR O,J,bq q (ai fn),bE q (ai fn) Bs []):=by kernel_rfl):Gp P fn Q Bs m p st:=by
 have hC:=kA hk
 generalize Si _=u at hC e
 generalize vb A u=C at hC e
 unfold Gp
 unfold Xs at e
 split at e
 rotate_left
 .cases e
 rename_i b d c K' s1 h1
 split at e
 rotate_left
 .cases e
 rename_i L s' h2
 simp only[bg,Prod.mk.injEq] at e
 obtain⟨rfl,rfl,rfl,rfl,rfl,rfl⟩:=e
 exact oK M.mx (out:= .ct (bq q (ai fn)) (bE q (ai fn) Bs []) s1) (Tr.le a (sR h2 (wR O))) 1000 _ _ _ _ _ h1 hC
theorem Ix(q:List Nat)(J:St)(a:Gp P fn Q Bs true q J)(h:Gp P fn Q Bs true q J->Gp P fn Q Bs m p st):Gp P fn Q Bs m p st:=h a
end
end Go.Proofs.YtnpdibmpndhkjaaGreatDoor
