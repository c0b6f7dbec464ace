/- Texts. -/
import Derived.Lib.SliceRun
import Derived.Test.YtaiecngnppbhlaaGreatDoorProg
import Derived.Test.YtaiecngnppbhlaaGreatDoorGW
namespace Go.Proofs.YtaiecngnppbhlaaGreatDoor
set_option linter.unusedSectionVars false
set_option linter.unusedVariables false
set_option linter.unusedSimpArgs false
open Go.RowKit Tryz
variable (gl:List (Nat×List G))
variable {α:Type}{a b i r z:Int}{P:Program}{k k':IntKind}{J S s st:St}{ρ:List (Nat×Nat)}{gs gs0 l l' l0:List G}{c j n:Nat}{t ts:TypeId}{C:List Prop}{vs:List TypeId}{f:FuncId}{fn:Func}{x y:Operand}{q:List Nat}
abbrev iG(z:Int):G:= .lit (.int .i64 z)
abbrev uG(z:Int):G:= .lit (.int .u64 z)
abbrev bG(b:Bool):G:= .lit (.bool b)
theorem Mx(h: -9223372036854775808<=z/\z<9223372036854775808):IntKind.i64.wrap z=z:=w64 aa
theorem ad(h:a+b=z)(hb: -9223372036854775808<=z/\z<9223372036854775808):lD .add (iG a) (iG b)=some (iG z):=by subst h;show some (iG (IntKind.i64.wrap (a+b)))=_;rw[Mx hb]
theorem sb{a b z:Int}(h:a-b=z)(hb: -9223372036854775808<=z/\z<9223372036854775808):lD .sub (iG a) (iG b)=some (iG z):=by subst h;show some (iG (IntKind.i64.wrap (a-b)))=_;rw[Mx hb]
theorem dec{q:Nat}(h:q<4611686018427387904):lD .sub (iG ((q+1:Nat):Int)) (iG 1)=some (iG (q:Int)):=by grind [sb]
theorem Xl{q:Nat}(h:q<4611686018427387904):lD .add (iG (q:Int)) (iG 1)=some (iG ((q+1:Nat):Int)):=by grind [ad]
section
variable {α:Type} {f:α->List G} {k:Nat}
theorem QP(hk:∀x,(f x).length=k)(l:List α):(l.flatMap f).length=l.length*k:=by induction l<;>grind
theorem sQ(hk:∀x,(f x).length=k):∀(l:List α) (i:Nat),(l.flatMap f).drop (i*k)=(l.drop i).flatMap f
 |l,0=>aC
 |[],i+1=>aC
 |x::r,i+1=>by rw[List.flatMap_cons,Nat.add_mul,Nat.one_mul,List.drop_append,hk,Nat.add_sub_cancel,sQ hk r i,List.drop_of_length_le (by grind)];rfl
theorem yk(hk:∀x,(f x).length=k):∀(l:List α) (i:Nat),(l.flatMap f).take (i*k)=(l.take i).flatMap f
 |l,0=>aC
 |[],i+1=>aC
 |x::r,i+1=>by rw[List.flatMap_cons,Nat.add_mul,Nat.one_mul,Nat.add_comm,List.take_append,hk,Nat.add_sub_cancel_left,yk hk r i,List.take_of_length_le (by grind)];rfl
theorem wQ(hk:∀x,(f x).length=k){l:List α}{i:Nat}{x:α}(h:l[i]?=some x):((l.flatMap f).drop (i*k)).take k=f x:=by grind [sQ,List.drop_eq_getElem_cons]
theorem l9{l:List α}{i:Nat}{x:α}(h:l[i]?=some x):i*k+k<=l.length*k:=by have hi:=(cr h).1;have:=Nat.mul_le_mul_right k (Nat.succ_le_of_lt hi);grind
end
structure RowTy (P:Program) (ts te:TypeId) (k:Nat) {α:Type} (f:α->List G):Prop where
 el:dp P ts=some te
 sz:bw P te=some k
 kp:0<k
 ln:∀x,(f x).length=k
 im:∀x,(f x).all (nF 19)=true
section
variable {P:Program} {ts te:TypeId} {k:Nat} {α:Type} {f:α->List G}
abbrev aE(f:α->List G)(l:List α):G:= .sl (l.flatMap f) l.length
theorem RowTy.im'(R:RowTy P ts te k f)(x:α):∀g∈f x,bB g:=by grind [RowTy,aG]
theorem RowTy.imm(R:RowTy P ts te k f)(l:List α):∀g∈l.flatMap f,bB g:=λg hg=>by obtain⟨x,_,hx⟩:=List.mem_flatMap.1 hg;exact R.im' x g hx
theorem RowTy.len(R:RowTy P ts te k f)(l:List α):(l.flatMap f).length=l.length*k:=QP R.ln l
theorem RowTy.ix(R:RowTy P ts te k f){l:List α}{i:Nat}{x:α}(h:l[i]?=some x):fh P ts (aE f l) (i:Int)=some (.ptr (l.flatMap f) (i*k)):=by have hi:=(cr h).1;have hb:=l9 (k:=k) h;have hl:=R.len l;have hk:=R.kp;simp only[fh,R.el,R.sz,aL];grind
theorem RowTy.ixr(R:RowTy P ts te k f)(j:Nat){l:List α}{i o:Nat}{x:α}(h:l[i]?=some x):fh P ts (.rsl j o l.length) (i:Int)=some (.ref j (o+i*k)):=by have hi:=(cr h).1;simp only[fh,R.el,R.sz,aL];grind
theorem RowTy.pt(R:RowTy P ts te k f)(ha:fg P te=some true){l:List α}{i:Nat}{x:α}(h:l[i]?=some x):dN P te (l.flatMap f) (i*k)=some (.agg (f x)):=by grind [RowTy,l9,dN,len,wQ]
theorem RowTy.pt1(R:RowTy P ts te 1 f)(ha:fg P te=some false){l:List α}{i:Nat}{x:α}(h:l[i]?=some x){g:G}(hg:f x=[g]:=by rfl):dN P te (l.flatMap f) (i*1)=some g:=by have e:=wQ (f:=f) (k:=1) R.ln h;rw[hg] at e;have e2:=congrArg (λz=>z[0]?) e;grind [dN]
theorem RowTy.fd(R:RowTy P ts te k f){t:TypeId}(ha:fg P t=some false){l:List α}{i j:Nat}{x:α}{g:G}(h:l[i]?=some x)(hg:(f x)[j]?=some g):dN P t (l.flatMap f) (i*k+j)=some g:=by have e:=wQ (f:=f) (k:=k) R.ln h;grind [dN]
def afN(d:Nat)(R:RowTy P ts te k f)(b:Nat)(l r:List α)(hb:(l.length+r.length)*b<=140737488355328):HP:=ha d ((l++r).flatMap f) (l++r).length (p:=(l.flatMap f).length=l.length*k/\(r.flatMap f).length=r.length*k/\(l.length+r.length)*b<=140737488355328/\l.flatMap f++r.flatMap f=(l++r).flatMap f/\l.length+r.length=(l++r).length) (by grind [RowTy.len])
theorem RowTy.snoc(R:RowTy P ts te k f)(l:List α)(x:α):l.flatMap f++((f x).drop 0).take (1*k)=(l++[x]).flatMap f:=by grind [RowTy]
def Tn(d:Nat)(R:RowTy P ts te k f)(b:Nat)(l:List α)(x:α)(hb:(l.length+1)*b<=140737488355328):HP:=ha d ((l++[x]).flatMap f) (l++[x]).length (p:=(l.flatMap f).length=l.length*k/\0+1*k<=(f x).length/\(l.length+1)*b<=140737488355328/\l.flatMap f++((f x).drop 0).take (1*k)=(l++[x]).flatMap f/\l.length+1=(l++[x]).length) (by grind [RowTy.len,RowTy.snoc])
theorem RowTy.pre(R:RowTy P ts te k f)(j:Nat){n q:Nat}(h:q<=n):ig P ts (.rsl j 0 n) none (some (q:Int))=some (.rsl j 0 q):=by have:=R.kp;simp only[ig,R.el,R.sz,aL];grind
theorem RowTy.suf(R:RowTy P ts te k f)(j:Nat){n q:Nat}(h:q<=n):ig P ts (.rsl j 0 n) (some (q:Int)) none=some (.rsl j (0+q*k) (n-q)):=by have:=R.kp;simp only[ig,R.el,R.sz,aL];grind
end
def qg(κ:Nat->Option Nat):Nat->G->G
 |0,_=> .junk
 |n+1,g=>match g with
  | .lit v=> .lit v
  | .agg l=> .agg (l.map (qg κ n))
  | .tup l=> .tup (l.map (qg κ n))
  | .clo f a b=> .clo f (a.map (qg κ n)) (b.map (qg κ n))
  | .ifc t x=> .ifc t (qg κ n x)
  | .ref i o=>match κ i with|some k=> .ref k o|none=> .junk
  | .rsl i o m=>match κ i with|some k=> .rsl k o m|none=> .junk
  | .mref i=>match κ i with|some k=> .mref k|none=> .junk
  | .yld i=>match κ i with|some k=> .yld k|none=> .junk
  | .rsr i m=>match κ i with|some k=> .rsr k m|none=> .junk
  | .ptr l o=> .ptr l o
  | .sl l m=> .sl l m
  | .mp a b c d=> .mp a b c d
  | .junk=> .junk
theorem IG{β β2:Bm}{S:Nat->Prop}{w:World}{κ:Nat->Option Nat}(hκ:∀i k,κ i=some k->β2 k=β i):∀(n:Nat) (g:G) (v:Value),RV β S w g v->RV β2 S w (qg κ n g) v
 |0,g,v,h=> .junk v
 |n+1,g,v,h=>by
  have ih:=IG (w:=w) (S:=S) hκ n;have el:∀(l:List G) (us:Array Value),(∀(i:Nat) (g:G) (u:Value),l[i]?=some g->us[i]?=some u->RV β S w g u)->∀(i:Nat) (g:G) (u:Value),(l.map (qg κ n))[i]?=some g->us[i]?=some u->RV β2 S w g u:=by grind
  have im:∀(l:List G) (us:Array Value),(∀(i:Nat) (g:G) (u:Value),l[i]?=some g->us[i]?=some u->IV S w g u)->∀(i:Nat) (g:G) (u:Value),(l.map (qg κ n))[i]?=some g->us[i]?=some u->RV β2 S w g u:=by grind [RV]
  cases h with
  |imm _ _ h=>
   cases h with
   |lit=>exact .imm _ _ (.lit v)
   |agg l us hl h1 h=>exact .agg _ us (by grind) h1 (im l us h)
   |tup l us hl h=>exact .tup _ us (by grind) (im l us h)
   |ptr l o b off us hs hb hc h1 h=>exact .imm _ _ (.ptr l o b off us hs hb hc h1 h)
   |sl l m a cap us hn hm ha h1 h=>exact .imm _ _ (.sl l m a cap us hn hm ha h1 h)
   |clo f a b fs cs hf hc h h'=>exact .clo f _ _ fs cs (by grind) (by grind) (im a fs h) (im b cs h')
   |ifc t x u h=>exact .ifc t _ u (ih x u (.imm _ _ h))
   |mp ks vs ns clock b ents hs hb ho hl hk hn h=>exact .imm _ _ (.mp ks vs ns clock b ents hs hb ho hl hk hn h)
  |agg l us hl h1 h=>exact .agg _ us (by grind) h1 (el l us h)
  |tup l us hl h=>exact .tup _ us (by grind) (el l us h)
  |clo f a b fs cs hf hc h h'=>exact .clo f _ _ fs cs (by grind) (by grind) (el a fs h) (el b cs h')
  |ifc t x u h=>exact .ifc t _ u (ih x u h)
  |ref i o b C h=>grind [qg,RV]
  |rsl0 i o h=>grind [qg,RV]
  |rsl i o m b C o' cap h hn hm ho c=>grind [qg,RV]
  |mref i b C h=>grind [qg,RV]
  |rsr i m b C h hn hm=>grind [qg,RV]
  |yld i b C h=>grind [qg,RV]
  |junk=>exact .junk v
def Wu(κ:Nat->Option Nat)(l a:List G):Prop:=a=l.map (qg κ 20)\/(a=l/\∀g∈l,bB g)
def RnE(κ:Nat->Option Nat)(l a:List (Value×G×Nat)):Prop:=a=l.map (λe=>(e.1,qg κ 20 e.2.1,e.2.2))\/(a=l/\∀e∈l,bB e.2.1)
def MB(κ:Nat->Option Nat)(o a:Ob):Prop:=a.t=o.t/\match o.x,a.x with
 |none,none=>Wu κ o.l a.l
 |some (.map es c),some (.map es' c')=>o.l=[]/\a.l=[]/\c'=c/\RnE κ es es'
 |_,_=>False
theorem Wu.get{β β2:Bm}{S:Nat->Prop}{w:World}{κ:Nat->Option Nat}{l l':List G}(h:Wu κ l l')(hκ:∀i k,κ i=some k->β2 k=β i){j:Nat}{g':G}(hg:l'[j]?=some g'):∃g,l[j]?=some g/\∀v,RV β S w g v->RV β2 S w g' v:=by
 rcases h with rfl|⟨rfl,hi⟩
 .grind [IG]
 .exact⟨g',hg,λv hv=> .imm _ _ (hi g' (bO hg) _ _ _ _ hv)⟩
theorem Wu.len{κ:Nat->Option Nat}{l l':List G}(h:Wu κ l l'):l'.length=l.length:=by
 rcases h with rfl|⟨rfl,_⟩
 .simp
 .rfl
theorem U8{β β2:Bm}{S:Nat->Prop}{w:World}{κ:Nat->Option Nat}(hκ:∀i k,κ i=some k->β2 k=β i){i k:Nat}{o o':Ob}(h:RO P β S w i o)(hr:MB κ o o')(hk:β2 k=β i):RO P β2 S w k o':=by
 obtain⟨t,l,x⟩:=o;obtain⟨t',m,a⟩:=o';obtain⟨e,hr⟩:=hr;simp only at e hr;subst e;rcases h with⟨h1,h2,h3⟩|⟨b,y,q,h1,h2,h3,h4,h5⟩|⟨b,C,cur,hx,h1,h2,h3,h4,h5,h6⟩
 .simp only at h2 h3;rcases h3 with rfl|rfl
  .cases a with
   |some a=>exact hr.elim
   |none=>exact .inl ⟨hk.trans h1,by have:=hr.len;grind,.inl rfl⟩
  grind
 .simp only at h1 h2;subst h1;cases y with
  |map es c=>
   cases a with
   |none=>exact hr.elim
   |some a=>
    cases a with
    |map es' c'=>
     obtain⟨_,e1,rfl,he⟩:=hr;refine .inr (.inl ⟨b,_,q,rfl,e1,hk.trans h3,h4,?_⟩);obtain⟨ents,g1,g2,d⟩:=h5;rcases he with rfl|⟨rfl,hi⟩
     .refine⟨ents,g1,by grind,λj kk g n hj=>?_⟩;grind [IG]
     .refine⟨ents,g1,g2,λj kk g n hj=>?_⟩;obtain⟨e,e1,e2,e3,e4⟩:=d j kk g n hj;exact⟨e,e1,e2,e3,.imm _ _ (hi _ (bO hj) _ _ _ _ e4)⟩
    |iter _ _ _ _=>exact hr.elim
    |loop _ _ _ _ _ _ _=>exact hr.elim
    |resv=>exact hr.elim
  |iter _ _ _ _=>grind
  |loop _ _ _ _ _ _ _=>grind
  |resv=>grind
 .simp only at hx h2 h3 h5 h6;subst hx;cases a with
  |some a=>exact hr.elim
  |none=>have hl:m.length=l.length:=Wu.len hr;refine .inr (.inr ⟨b,C,cur,rfl,hk.trans h1,h2,h3,h4,by grind,λj g hg=>?_⟩);obtain⟨g0,f,hv⟩:=Wu.get (S:=S) (w:=w) hr hκ hg;grind
section
variable {P:Program}
theorem abc(n:Nat)(g:G):Wk P st ρ g (qg (lE ρ) n g):=λcx a w β r v hv=>
 (IG (β2:=λi=>(dq ρ i).bind β) (λi k h=>by rw[M1 h];rfl) n g v hv).step (by grind) (by grind) (Keeps.refl _ _)
theorem abU(h:Wu (lE ρ) l l'):∀(k:Nat) (g a:G),l[k]?=some g->l'[k]?=some a->Wk P st ρ g a:=λk g a h1 h2=>by
 rcases h with rfl|⟨rfl,hi⟩
 all_goals grind [abc,ry]
def Ge(κ:Nat->Option Nat)(s b:Option Ob):Prop:=∀a,b=some a->∃ob,s=some ob/\MB κ ob a
theorem KJ{i:Nat}{o':Option Ob}{σ:aQ}(h1:dq ρ i=some j)(h:Ge (lE ρ) (ag st.σ j) o')(hr:Dp P st ρ σ):Dp P st ρ ((i,o')::σ):=λk d hk=>by
 rw[bj] at hk;split at hk
 .subst_vars;obtain⟨⟨t,l,x⟩,e,h2,h3⟩:=h d rfl;obtain⟨t',g,f⟩:=d;cases x with
  |none=>
   cases f with
   |some _=>exact h3.elim
   |none=>have hl:=Wu.len h3;simp only at hl;exact⟨j,_,h1,e,h2,by grind,(by grind),abU h3,trivial⟩
  |some x=>
   cases x with
   |map es c=>
    cases f with
    |none=>exact h3.elim
    |some f=>
     cases f with
     |map es' c'=>
      obtain⟨e1,e2,rfl,he⟩:=h3;simp only at e1 e2;subst e1 e2;refine⟨j,_,h1,e,h2,Nat.le_refl _,λe=>e,(by grind),SV ?_ λk a a' b b' m n g1 g2=>?_,(by grind)⟩
      .rcases he with rfl|⟨rfl,_⟩
       .simp
       .rfl
      .rcases he with rfl|⟨rfl,hi⟩
       all_goals grind [abc,ry]
     |iter _ _ _ _=>exact h3.elim
     |loop _ _ _ _ _ _ _=>exact h3.elim
     |resv=>exact h3.elim
   |iter _ _ _ _=>grind
   |loop _ _ _ _ _ _ _=>grind
   |resv=>grind
 .exact hr k d hk
end
theorem bS{β:Type}{o:Option α}{f:α->Option β}{r:β}(h:o.bind f=some r):∃y,o=some y/\f y=some r:=Option.bind_eq_some_iff.1 h
theorem bC{c:Bool}{a b:Option α}{r:α}(h:(bif c then a else b)=some r):(c=true/\a=some r)\/(c=false/\b=some r):=by grind
def KN{σ ρ:Type}(step:σ->Option (σ⊕ρ)):Nat->σ->Option ρ
 |0,_=>none
 |n+1,s=>match step s with
  |none=>none
  |some (.inl s')=>KN step n s'
  |some (.inr r)=>some r
def FU:Nat:=4611686018427387904
def bo{σ ρ:Type}(step:σ->Option (σ⊕ρ))(s:σ):Option ρ:=KN step FU s
def ma{α β γ:Type}(x:α⊕β)(k:α->Option γ)(q:β->Option γ):Option γ:=match x with
 | .inl a=>k a
 | .inr b=>q b
def wI(z:Int):Int:=IntKind.i64.wrap z
def wU(z:Int):Nat:=(IntKind.u64.wrap z).toNat
def ah{α:Type}(l:List α):Int:=(l.length:Int)
def aS{α:Type}(l:List α)(i:Int):Option α:=if 0<=i then l[i.toNat]? else none
def ji{α:Type}(l:List α)(i:Int)(x:α):Option (List α):=if 0<=i/\i.toNat<l.length then some (l.set i.toNat x) else none
def tq{α:Type}(l:List α)(i:Int):Option (List α):=if 0<=i/\i.toNat<=l.length then some (l.take i.toNat) else none
def mc{α:Type}(l:List α)(i:Int):Option (List α):=if 0<=i/\i.toNat<=l.length then some (l.drop i.toNat) else none
def aT{α:Type}(b:Nat)(l r:List α):Option (List α):=if(l.length+r.length)*b<=140737488355328 then some (l++r) else none
def Gg(a b:Int):Option Int:=if b=0 then none else some (IntKind.i64.wrap (a.tdiv b))
def u9(a b:Int):Option Int:=if b=0 then none else some (a.tmod b)
def rP{α:Type}(b:Nat)(z:α)(n:Int):Option (List α):=if 0<=n/\b*n.toNat<=281474976710656/\n<=9223372036854775807 then some (List.replicate n.toNat z) else none
theorem cB{X:Option G}{t b:Bool}(h:X=some (bG t))(e:t=b):X=some (bG b):=e▸h
def bq:List Nat->Code->Code
 |[],c=>c
 |0::r,.seq a _=>bq r a
 |1::r,.seq _ b=>bq r b
 |2::r,.block _ c=>bq r c
 |2::r,.loop c=>bq r c
 |3::r,.cond _ a _=>bq r a
 |4::r,.cond _ _ b=>bq r b
 |_,_=> .skip
def bE:List Nat->Code->List (St->Prop)->List Kf->List Kf
 |0::r,.seq a b,Bs,K=>bE r a Bs (.thn b::K)
 |1::r,.seq _ b,Bs,K=>bE r b Bs K
 |2::r,.block id c,Bs,K=>bE r c Bs (.blk id::K)
 |2::r,.loop c,B::Bs,K=>bE r c Bs (.lp B::K)
 |3::r,.cond _ a _,Bs,K=>bE r a Bs K
 |4::r,.cond _ _ b,Bs,K=>bE r b Bs K
 |_,_,_,K=>K
def qu(m:Bool)(p:List Nat)(c:Code):Code⊕Exit:=bif m then .inr .normal else .inl (bq p c)
section
variable {P:Program}
def Gp(P:Program)(fn:Func)(Q:Exit->St->Prop)(Bs:List (St->Prop))(m:Bool)(p:List Nat)(st:St):Prop:=CQ P Q (bE p (ai fn) Bs []) st (qu m p (ai fn))
theorem m8{Q:Exit->St->Prop}{K:List Kf}:∀(a:List Kf) (e:Exit) (s:St),dz P a (dz P K Q) e s->dz P (a++K) Q e s
 |[],e,s,h=>by obtain⟨s',l,h⟩:=h;grind [pQ]
 | .thn b::a,e,s,h=>by
  show dz P (.thn b::(a++K)) Q e s;unfold dz at h⊢;cases e with
  |normal=>unfold uE at h⊢;exact h.mono λe s h=>m8 a e s h
  |_=>unfold uE at h⊢;exact m8 a _ s h
 | .blk id::a,e,s,h=>by
  show dz P (.blk id::(a++K)) Q e s;unfold dz at h⊢;cases e with
  |exit i=>
   unfold pu at h⊢;by_cases hi:i=id
   .simp only[hi,if_true] at h⊢;exact m8 a _ s h
   .simp only[hi,if_false] at h⊢;exact m8 a _ s h
  |_=>unfold pu at h⊢;exact m8 a _ s h
 | .lp B::a,e,s,h=>by
  show dz P (.lp B::(a++K)) Q e s;unfold dz at h⊢;cases e with
  |normal=>grind [uE]
  |_=>unfold uE at h⊢;exact m8 a _ s h
theorem QQ{Q:Exit->St->Prop}{K a:List Kf}{m:Code⊕Exit}(h:CQ P (dz P K Q) a st m):CQ P Q (a++K) st m:=by
 cases m with
 |inl c=>exact Tr.mono h (by grind [m8])
 |inr e=>exact m8 a e st h
theorem Oi:Wk P st ρ (.lit (.slice none 0 0)) (.sl [] 0):=λcx a w β r v hv=>by rw[hv.lit_eq];exact .imm _ _ (.sl [] 0 none 0 (λ_=>undef) (Nat.le_refl _) (Nat.zero_le _) aC aC aC)
theorem CE{i j:Nat}{ob:Ob}(h:dq ρ i=some j)(ho:ag st.σ j=some ob):Wk P st ρ (.lit (.slice none 0 0)) (.rsl i 0 0):=λcx a w β r v hv=>by grind [RV.lit_eq,RV,RO.at]
def QR(P:Program)(σ:aQ)(ρ:List (Nat×Nat))(cl:Bool):Nat->G->G->Option (List Prop×G)
 |0,_,_=>none
 |n+1,g,t=>match t with
  | .junk=>some ([],.junk)
  | .sl _ m'=>match g with
   | .sl l m=>some ([],.sl l m)
   | .lit (.slice none 0 0)=>some ([],.sl [] 0)
   | .rsl j o m=>match ag σ j with
    |some ob=>match bw P ob.t with
     |some s=>bif ρ.all λq=> !(Nat.beq q.2 j) then(bif Nat.beq o 0 then some ([ob.l.length=m'*s/\(∀x∈ob.l,bB x)/\m=m'],.sl ob.l m') else some ([o+m*s<=ob.l.length/\∀x∈ob.l,bB x],.sl ((ob.l.drop o).take (m*s)) m)) else none
     |none=>none
    |none=>none
   |_=>none
  | .rsl i _ m'=>match g with
   | .rsl j o m=>match dq ρ i with
    |some k=>bif Nat.beq k j then some ([m=m'],.rsl i o m') else none
    |none=>none
   | .rsr j m=>match dq ρ i with
    |some k=>bif Nat.beq k j then some ([m=m'],.rsl i 0 m') else none
    |none=>none
   | .lit (.slice none 0 0)=>match dq ρ i with
    |some k=>match ag σ k with
     |some _=>some ([],.rsl i 0 0)
     |none=>none
    |none=>none
   |_=>none
  | .ref i _=>match g with
   | .ref j o=>match dq ρ i with
    |some k=>bif Nat.beq k j then some ([],.ref i o) else none
    |none=>none
   |_=>none
  | .mref i=>match g with
   | .mref j=>match dq ρ i with
    |some k=>bif Nat.beq k j then some ([],.mref i) else none
    |none=>none
   |_=>none
  | .ptr l' _=>match g with
   | .ptr l o=>some ([],.ptr l o)
   | .ref j o=>match ag σ j with
    |some ob=>bif ρ.all λq=> !(Nat.beq q.2 j) then(match Da (QR P σ ρ cl n) ob.l l' with
     |some (C,r)=>some (C++[∀x∈r,bB x],.ptr r o)
     |none=>none) else none
    |none=>none
   |_=>none
  | .mp _ _ _ _=>match g with
   | .mp ks vs ns c=>some ([],.mp ks vs ns c)
   | .mref j=>match ag σ j with
    |some ⟨_,_,some (.map es clock)⟩=>bif ρ.all λq=> !(Nat.beq q.2 j) then some ([∀e∈es,bB e.2.1],.mp (es.map (·.1)) (es.map (·.2.1)) (es.map (·.2.2)) clock) else none
    |_=>none
   |_=>none
  | .yld i=>match g with
   | .yld j=>match dq ρ i with
    |some k=>bif Nat.beq k j then some ([],.yld i) else none
    |none=>none
   |_=>none
  | .clo _ a' b'=>match g with
   | .clo f a b=>bif cl then(match Da (QR P σ ρ cl n) a a' with
    |some (C,r)=>match Da (QR P σ ρ cl n) b b' with
     |some (D,r')=>some (C++D,.clo f r r')
     |none=>none
    |none=>none) else some ([bB (.clo f a b)],.clo f a b)
   |_=>none
  | .agg l'=>match g with
   | .agg l=>match Da (QR P σ ρ cl n) l l' with
    |some (C,r)=>some (C,.agg r)
    |none=>none
   |_=>none
  | .tup l'=>match g with
   | .tup l=>match Da (QR P σ ρ cl n) l l' with
    |some (C,r)=>some (C,.tup r)
    |none=>none
   |_=>none
  |_=>bif nF 20 g then some ([],g) else none
theorem nE{st:St}{ρ:List (Nat×Nat)}{cl:Bool}:∀(n:Nat) (g t:G) (C:List Prop) (a:G),QR P st.σ ρ cl n g t=some (C,a)->(∀p∈C,p)->Wk P st ρ g a
 |0,_,_,_,_,h,_=>by cases h
 |n+1,g,t,C,a,h,b=>by
  unfold QR at h;split at h
  .grind [FE]
  .split at h
   .grind [ry,FC]
   .grind [Oi]
   .rename_i j o m;split at h
    .rename_i ob ho;split at h
     .rename_i s hs;cases hk:(ρ.all λq=> !(Nat.beq q.2 j)) with
      |false=>grind
      |true=>
       rw[hk] at h;have hk':∀p∈ρ,p.2≠j:=by grind [Nat.beq_refl]
       simp only[aN] at h;cases hz:Nat.beq o 0 with
       |true=>rw[hz] at h;obtain rfl:=bc hz;cases h;obtain⟨h1,h2,rfl⟩:=b _ (List.mem_singleton.2 rfl);have:=BS (P:=P) (st:=st) (ρ:=ρ) (o:=0) (n:=m) hk' ho hs (by rw[h1];omega) h2;grind
       |false=>rw[hz] at h;cases h;have h1:=b _ (List.mem_singleton.2 rfl);grind [BS]
     .cases h
    .cases h
   .cases h
  .split at h
   .split at h
    .rename_i k hr;cases hb:Nat.beq k _ with
     |false=>rw[hb] at h;cases h
     |true=>rw[hb] at h;obtain rfl:=bc hb;cases h;obtain rfl:=b _ (List.mem_singleton.2 rfl);exact P4 hr
    .cases h
   .split at h
    .rename_i k hr;cases hb:Nat.beq k _ with
     |false=>rw[hb] at h;cases h
     |true=>rw[hb] at h;obtain rfl:=bc hb;cases h;obtain rfl:=b _ (List.mem_singleton.2 rfl);exact abF hr
    .cases h
   all_goals grind [CE]
  .grind [bc,VH]
  .grind [bc,SU]
  .split at h
   .grind [ry,Ah]
   .rename_i j o;split at h
    .rename_i ob ho;cases hk:(ρ.all λq=> !(Nat.beq q.2 j)) with
     |false=>grind
     |true=>
      rw[hk] at h;have hk':∀p∈ρ,p.2≠j:=by grind [Nat.beq_refl]
      simp only[aN] at h;split at h
      .rename_i C' r hl;cases h;obtain⟨k1,k2⟩:=io (Q:=Wk P st ρ) (λg t C a=>nE n g t C a) _ _ _ _ hl (λp hp=>b p (by grind));exact J7 hk' ho k1 k2 (b _ (by grind))
      .cases h
    .cases h
   .cases h
  .split at h
   .grind [ry,J5]
   .rename_i j;split at h
    .rename_i t l es clock ho;cases hk:(ρ.all λq=> !(Nat.beq q.2 j)) with
     |false=>grind
     |true=>
      rw[hk] at h;have hk':∀p∈ρ,p.2≠j:=by grind [Nat.beq_refl]
      cases h;exact HO hk' ho (b _ (by grind))
    .cases h
   .cases h
  .grind [bc,VI]
  .split at h
   .cases cl with
    |false=>cases h;exact ry (b _ (by grind))
    |true=>
     simp only[aN] at h;split at h
     .rename_i C' r hl;split at h
      .rename_i D r' c;cases h;obtain⟨k1,k2⟩:=io (Q:=Wk P st ρ) (λg t C a=>nE n g t C a) _ _ _ _ hl λp hp=>b p (by grind);obtain⟨m1,m2⟩:=io (Q:=Wk P st ρ) (λg t C a=>nE n g t C a) _ _ _ _ c λp hp=>b p (by grind);grind [VL]
      .cases h
     .cases h
   .cases h
  .split at h
   .split at h
    .rename_i C' r hl;cases h;obtain⟨k1,k2⟩:=io (Q:=Wk P st ρ) (λg t C a=>nE n g t C a) _ _ _ _ hl b;exact VJ k1 k2
    .cases h
   .cases h
  .split at h
   .split at h
    .rename_i C' r hl;cases h;obtain⟨k1,k2⟩:=io (Q:=Wk P st ρ) (λg t C a=>nE n g t C a) _ _ _ _ hl b;exact VK k1 k2
    .cases h
   .cases h
  grind [ry,aG]
inductive Rk where
 |row
 |clo
 |app (A B B' L:List G)
 |any
def Wh(P:Program)(σ:aQ)(ρ:List (Nat×Nat))(cl:Bool)(fr:Fr):Fr->Option (List Prop×Fr)
 |[]=>some ([],[])
 |(k,t)::r=>match QR P σ ρ cl 20 (aD fr k) t with
  |some (C,g)=>match Wh P σ ρ cl fr r with
   |some (D,f)=>some (C++D,(k,g)::f)
   |none=>none
  |none=>none
theorem QS{st:St}{ρ:List (Nat×Nat)}{cl:Bool}:∀(r:Fr) (C:List Prop) (f:Fr),Wh P st.σ ρ cl st.fr r=some (C,f)->(∀p∈C,p)->J6 P st ρ f
 |[],C,f,h,_=>by cases h;exact HQ
 |(k,t)::r,C,f,h,a=>by
  unfold Wh at h;split at h
  .rename_i b g h1;split at h
   .rename_i D f1 h2;cases h;exact NF (nE 20 _ _ _ _ h1 λp hp=>a p (by grind)) (QS r _ _ h2 λp hp=>a p (by grind))
   .cases h
  .cases h
def Yz(kd:List (Nat×Rk)):Bool:=kd.any λq=>match q.2 with| .clo=>true|_=>false
def wkC(P:Program)(σ:aQ)(ρ:List (Nat×Nat))(kd:List (Nat×Rk))(i:Nat)(l a:List G):Option (List Prop×List G):=match kd.find? (λq=>Nat.beq q.1 i) with
 |some (_,.row)=>some ([∀g∈l,bB g],l)
 |some (_,.clo)=>none
 |some (_,.any)=>none
 |some (_,.app A B B' L)=>match Da (QR P σ ρ (Yz kd) 20) B B' with
  |some (C,B'')=>some ((l=A++B/\(∀g∈A,bB g)/\A++B''=L)::C,L)
  |none=>none
 |none=>Da (QR P σ ρ (Yz kd) 20) l a
theorem Wi{kd:List (Nat×Rk)}{i:Nat}{r:List G}(h:wkC P st.σ ρ kd i l l'=some (C,r))(a:∀p∈C,p):r.length=l.length/\∀(k:Nat) (g g':G),l[k]?=some g->r[k]?=some g'->Wk P st ρ g g':=by
 unfold wkC at h;split at h
 .cases h;exact⟨rfl,P8 (a _ (by grind))⟩
 .cases h
 .cases h
 .rename_i A B B' L _;split at h
  .rename_i b B'' hB;cases h;obtain⟨rfl,h2,rfl⟩:=a _ (List.mem_cons_self ..);obtain⟨k1,k2⟩:=io (Q:=Wk P st ρ) (by grind [nE]) _ _ _ _ hB (by grind [List.mem_cons_of_mem]);grind [ry]
  .cases h
 .exact io (Q:=Wk P st ρ) (by grind [nE]) _ _ _ _ h a
theorem My{st:St}{ρ:List (Nat×Nat)}{cl:Bool}{fr:Fr}:∀(r:Fr) (C:List Prop) (f:Fr),Wh P st.σ ρ cl fr r=some (C,f)->(∀p∈C,p)->∀d,Wk P st ρ (aD fr d) (aD f d)
 |[],C,f,h,_,d=>by cases h;exact FE
 |(k,t)::r,C,f,h,a,d=>by
  unfold Wh at h;split at h
  .rename_i b g h1;split at h
   .rename_i D f1 h2;cases h;rw[aO];split
    .rename_i e;subst e;exact nE 20 _ _ _ _ h1 λp hp=>a p (by grind)
    .exact My r _ _ h2 (λp hp=>a p (by grind)) d
   .cases h
  .cases h
def Wj(P:Program)(σ:aQ)(ρ:List (Nat×Nat))(cl:Bool):Xob->Option Xob->Option (List Prop×Xob)
 | .loop ls pe n fr ps a b,some (.loop _ _ _ fr' _ _ _)=>match Wh P σ ρ cl fr fr' with
  |some (C,f)=>some (C,.loop ls pe n f ps a b)
  |none=>none
 | .map es cl,some (.map _ _)=>some ([∀q∈es,bB q.2.1],.map es cl)
 | .iter (some j) since seen last,some (.iter (some i) _ _ _)=>match dq ρ i with
  |some k=>bif Nat.beq k j then some ([],.iter (some i) since seen last) else none
  |none=>none
 |_,_=>none
theorem Tp{cl:Bool}{x:Xob}{t:Option Xob}{x':Xob}(h:Wj P st.σ ρ cl x t=some (C,x'))(c:∀p∈C,p):Xk P st ρ x x'/\x≠ .resv:=by
 unfold Wj at h;split at h
 .grind [P7,My]
 .cases h;refine⟨SV rfl λk a a' b b' m d e1 e2=>?_,aC⟩;rw[e1] at e2;cases e2;exact⟨rfl,rfl,ry (c _ (List.mem_singleton.2 rfl) _ (bO e1))⟩
 all_goals grind [bc,P6]
def kdA(kd:List (Nat×Rk))(i:Nat):Bool:=kd.any λq=>Nat.beq q.1 i&&(match q.2 with| .any=>true|_=>false)
def Wl(P:Program)(σ:aQ)(ρ:List (Nat×Nat))(kd:List (Nat×Rk)):aQ->Option (List Prop×aQ)
 |[]=>some ([],[])
 |(i,o')::r=>bif kdA kd i then(match dq ρ i with
  |some j=>match Wl P σ ρ kd r with
   |some (D,τ)=>some (Ge (lE ρ) (ag σ j) o'::D,(i,o')::τ)
   |none=>none
  |none=>none) else match o' with
  |none=>Wl P σ ρ kd r
  |some ob'=>match dq ρ i with
  |some j=>match ag σ j with
   |some ⟨t,l,none⟩=>match wkC P σ ρ kd i l ob'.l with
    |some (C,l')=>match Wl P σ ρ kd r with
     |some (D,τ)=>some (C++D,(i,some ⟨t,l',none⟩)::τ)
     |none=>none
    |none=>none
   |some ⟨t,_,some x⟩=>match Wj P σ ρ (Yz kd) x ob'.x with
    |some (C,x')=>match Wl P σ ρ kd r with
     |some (D,τ)=>some (C++D,(i,some ⟨t,[],some x'⟩)::τ)
     |none=>none
    |none=>none
   |_=>none
  |none=>none
theorem CF{st:St}{ρ:List (Nat×Nat)}{kd:List (Nat×Rk)}:∀(r:aQ) (C:List Prop) (τ:aQ),Wl P st.σ ρ kd r=some (C,τ)->(∀p∈C,p)->Dp P st ρ τ
 |[],C,τ,h,_=>by cases h;exact BT
 |(i,o')::r,C,τ,h,a=>by
  unfold Wl at h;cases hk:kdA kd i with
  |true=>
   rw[hk] at h;simp only[aN] at h;split at h
   .rename_i j hr;split at h
    .rename_i D b h2;cases h;exact KJ hr (by simp_all) (CF r _ _ h2 (by grind [List.mem_cons_of_mem]))
    .cases h
   .cases h
  |false=>
  rw[hk] at h;simp only[cG] at h;cases o' with
  |none=>exact CF r C τ h a
  |some ob'=>
  simp only at h;split at h
  .rename_i j hr;split at h
   .rename_i t l ho;split at h
    .rename_i c d h1;split at h
     .rename_i D b h2;cases h;obtain⟨k1,k2⟩:=Wi h1 λp hp=>a p (by grind);exact xP hr ho rfl rfl (by grind) k2 (CF r _ _ h2 λp hp=>a p (by grind))
     .cases h
    .cases h
   .rename_i t l0 x ho;split at h
    .rename_i c e h1;split at h
     .rename_i D b h2;cases h;obtain⟨k1,k2⟩:=Tp h1 λp hp=>a p (by grind);exact J8 hr ho rfl rfl k1 k2 (CF r _ _ h2 λp hp=>a p (by grind))
     .cases h
    .cases h
   .cases h
  .cases h
def zj:List TypeId->St->St
 |[],st=>st
 |t::r,st=>zj r {st with σ:=(st.c,some ⟨t,[],none⟩)::st.σ,c:=st.c+1}
theorem CG:∀(l:List TypeId) (st:St),Le P st (zj l st)
 |[],st=>Le.refl _
 |t::r,st=>Le.trans (by rintro cx a w ⟨β,h⟩;exact⟨_,h.virt t (k:=st.c) (Nat.le_refl _)⟩) (CG r _)
def OP(P:Program)(vs:List TypeId)(ρ:List (Nat×Nat))(kd:List (Nat×Rk))(J:St)(s:St):Option (List Prop×St):=(λs=>bif ER ρ s.p then(match Wh P s.σ ρ (Yz kd) s.fr J.fr with
 |some (C,f)=>match Wl P s.σ ρ kd J.σ with
  |some (D,τ)=>some (C++D,⟨s.n,s.gl,f,τ,cR ρ,s.p,s.r⟩)
  |none=>none
 |none=>none) else none) (zj vs s)
theorem Sv{kd:List (Nat×Rk)}(h:OP P vs ρ kd J s=some (C,S))(a:∀p∈C,p):Le P s S:=by
 refine(CG vs s).trans ?_;unfold OP at h;generalize zj vs s=st at h⊢;dsimp only at h;cases hk:ER ρ st.p with
 |false=>grind
 |true=>
  rw[hk] at h;simp only[aN] at h;split at h
  .rename_i b f h1;split at h
   .rename_i D τ h2;cases h;simp only[ER,bA] at hk;obtain⟨⟨k1,k2⟩,k3⟩:=hk;refine NG ρ rfl rfl rfl (λi hi=>?_) (λi c j h1 h2=>?_) (λq hq=>Va hq) (QS _ _ _ h1 λp hp=>a p (by grind)) (CF _ _ _ h2 λp hp=>a p (by grind)) rfl
    .grind [bc]
    .have:=List.all_eq_true.1 (List.all_eq_true.1 k2 _ (Gt h1)) _ (Gt h2);grind [Nat.beq_refl,bc]
   .cases h
  .cases h
def gob:G->Option Nat
 | .ref i _=>some i
 | .rsl i _ _=>some i
 | .rsr i _=>some i
 | .mref i=>some i
 |_=>none
def prw(t g:G):List (Nat×Nat):=match gob t with
 |some i=>match gob g with
  |some j=>[(i,j)]
  |none=>[]
 |none=>[]
def adR(σ:aQ):Nat->List G->List Nat
 |0,_=>[]
 |n+1,l=>l.flatMap λg=>match g with
  | .rsl i _ _=>[i]
  | .ref i _=>match ag σ i with
   |some ⟨_,l',none⟩=>adR σ n l'
   |_=>[]
  |_=>[]
def afP(l:List Nat):List Nat:=l.foldr (λi r=>bif r.any (Nat.beq i) then r else i::r) []
def aM(J s:St)(R:List Nat):Nat->List (Nat×Nat)->List (Nat×Nat)
 |0,M=>M
 |n+1,M=>aM J s R n (M++M.flatMap λq=>bif R.any (Nat.beq q.1) then[] else match ag J.σ q.1,ag s.σ q.2 with
  |some ⟨_,l',none⟩,some ⟨_,l,none⟩=>(List.zipWith prw l' l).flatten
  |_,_=>[])
def aRw(J:St):List Nat:=afP (adR J.σ 4 (J.fr.map (·.2)))
def aMr(J s:St):List (Nat×Nat):=aM J s (aRw J) 2 (J.fr.flatMap λq=>prw q.2 (aD s.fr q.1))
def aUn(J s:St):List Nat:=(aRw J).filter λi=>(aMr J s).all λq=> !(Nat.beq q.1 i)
def aVs(J s:St):List TypeId:=(aUn J s).map λi=>match ag J.σ i with
 |some ob=>ob.t
 |none=>0
def ixN(i:Nat):List Nat->Option Nat
 |[]=>none
 |j::r=>bif Nat.beq i j then some 0 else(ixN i r).map (·+1)
def aRo(J s:St):List (Nat×Nat):=J.σ.map λq=>(q.1,match dq (aMr J s) q.1 with
 |some j=>j
 |none=>match ixN q.1 (aUn J s) with
  |some k=>s.c+k
  |none=>q.1)
def aKd(kd:List (Nat×Rk))(J:St):List (Nat×Rk):=match kd with
 |[]=>(aRw J).map λi=>(i,.row)
 |_=>kd
def Iw(P:Program)(vs:List TypeId)(ρ:List (Nat×Nat))(kd:List (Nat×Rk))(J:St)(s:St):Option (List Prop×St):=match ρ with
 |[]=>OP P (aVs J s) (aRo J s) (aKd kd J) J s
 |_=>OP P vs ρ (aKd kd J) J s
theorem sR{kd:List (Nat×Rk)}(h:Iw P vs ρ kd J s=some (C,S))(a:∀p∈C,p):Le P s S:=by unfold Iw at h;split at h<;>exact Sv h a
def pR(A:List HP):List Prop:=A.map (·.p)
theorem wR(A:List HP):∀p∈pR A,p:=λp hp=>by obtain⟨x,_,rfl⟩:=List.mem_map.1 hp;exact x.t
def Xm(P:Program)(hs:List Hn)(m:Code⊕Exit)(K:List Kf)(vs:List TypeId)(ρ:List (Nat×Nat))(kd:List (Nat×Rk))(J st:St):Option (Prop×List Nat×List Prop×St):=match sy P hs 1000000 1000 m K st with
 |some (C,u,.fin .normal s)=>match Iw P vs ρ kd J s with
  |some (L,s')=>some (C,u,L,s')
  |none=>none
 |_=>none
def Xn(P:Program)(hs:List Hn)(m:Code⊕Exit)(K:List Kf)(vs:List TypeId)(ρ:List (Nat×Nat))(kd:List (Nat×Rk))(J st:St):Option (Prop×List Nat×List Prop×St×(St->Prop)):=match sy P hs 1000000 1000 m K st with
 |some (C,u,.bk B s)=>match Iw P vs ρ kd J s with
  |some (L,s')=>some (C,u,L,s',B)
  |none=>none
 |_=>none
def Xo(P:Program)(hs:List Hn)(m:Code⊕Exit)(K:List Kf)(fn:Func)(r:G)(st:St):Option (Prop×List Nat×List Prop×G):=match sy P hs 1000000 1000 m K st with
 |some (C,u,.fin e s)=>match tc e,vR P s fn.results.toList with
  |true,some gs=>match KW P s.σ 20 (iU gs) r with
   |some (L,g)=>some (C,u,L,g)
   |none=>none
  |_,_=>none
 |_=>none
def ky{β:Type}(x:Option (Prop×List Nat×β)):List Nat:=match x with|some (_,u,_)=>u|none=>[0]
def B5{β:Type}(A:List HP)(x:Option (Prop×List Nat×β))(j:β):Prop:=qe A (ky x)=true/\x=some (XQ A (ky x),ky x,j)
theorem B5.out{β:Type}{A:List HP}{x:Option (Prop×List Nat×β)}{j:β}(h:B5 A x j):∃C u,C/\x=some (C,u,j):=⟨_,_,kA h.1,h.2⟩
variable [M:Mix P] {fn:Func} {Q:Exit->St->Prop} {r:G} {Bs Bs':List (St->Prop)} {m:Bool} {p q:List Nat} {st:St}
theorem Gh{gl:List (Nat×List G)}{gs:List G}(hf:P.funcs[f]?=some fn)(h:Gp P fn (tH P fn r) [] false [] ⟨fn.ntmps,gl,bQ 0 gs,[],0,0,false⟩)(hb:fn.body.isSome=true:=by kernel_rfl)(hn:Nat.ble gs.length fn.ntmps=true:=by kernel_rfl):ba P gl f gs r:=Y7 fn hf hb hn h
def Wm(fn:Func)(Bs Bs':List (St->Prop))(p q:List Nat):List Kf:=(bE p (ai fn) Bs []).take ((bE p (ai fn) Bs []).length-(bE q (ai fn) Bs' []).length)
theorem yl(q:List Nat){J:St}(A O:List HP)(kk:Gp P fn Q Bs' true q J)(vs:List TypeId:=[])(ρ:List (Nat×Nat):=[])(kd:List (Nat×Rk):=[])(hk:B5 A (Xm P (bK A) (qu m p (ai fn)) (Wm fn Bs Bs' p q) vs ρ kd J st) (pR O,J):=by exact⟨aH,aH⟩)(a:Wm fn Bs Bs' p q++bE q (ai fn) Bs' []=bE p (ai fn) Bs []:=by kernel_rfl):Gp P fn Q Bs m p st:=by
 obtain⟨C,u,b,e⟩:=hk.out;unfold Gp;rw[<-a];refine QQ ?_;unfold Xm at e;split at e
 .rename_i c d s h1;split at e
  .rename_i L s' h2;cases e;exact oK M.mx (out:= .fin .normal s) (Q:=dz P (bE q (ai fn) Bs' []) Q) ⟨_,sR h2 (wR O),kk⟩ 1000 _ _ _ _ _ h1 b
  .cases e
 .cases e
theorem jw{B:St->Prop}(A O:List HP)(hB:B J)(vs:List TypeId:=[])(ρ:List (Nat×Nat):=[])(kd:List (Nat×Rk):=[])(hk:B5 A (Xn P (bK A) (qu m p (ai fn)) (bE p (ai fn) Bs []) vs ρ kd J st) (pR O,J,B):=by exact⟨aH,aH⟩):Gp P fn Q Bs m p st:=by
 obtain⟨C,u,a,e⟩:=hk.out;unfold Gp;unfold Xn at e;split at e
 .rename_i b c B' s h1;split at e
  .rename_i L s' h2;cases e;exact oK M.mx (out:= .bk B s) ⟨_,sR h2 (wR O),hB⟩ 1000 _ _ _ _ _ h1 a
  .cases e
 .cases e
theorem Ar(A O:List HP)(hk:B5 A (Xo P (bK A) (qu m p (ai fn)) (bE p (ai fn) Bs []) fn r st) (pR O,r):=by exact⟨aH,aH⟩):Gp P fn (tH P fn r) Bs m p st:=by
 obtain⟨C,u,a,e⟩:=hk.out;unfold Gp;unfold Xo at e;split at e
 .rename_i b c x s h1;split at e
  .rename_i gs hx hg;split at e
   .rename_i L g hq;cases e;refine oK M.mx (out:= .fin x s) ⟨s,Le.refl _,?_⟩ 1000 _ _ _ _ _ h1 a;grind [tH,eO,gh,rR,wR]
   .cases e
  .cases e
 .cases e
def Xp(P:Program)(hs:List Hn)(m:Code⊕Exit)(K:List Kf)(fn:Func)(t:TypeId)(st:St):Option (Prop×List Nat×Prop×Nat×List G):=match sy P hs 1000000 1000 m K st with
 |some (C,u,.fin e s)=>match tc e,fn.results with
  |true,⟨[.tmp x]⟩=>match aD s.fr x with
   | .rsl i 0 n=>match ag s.σ i with
    |some ⟨t',l,none⟩=>bif Nat.beq t t'&&Nat.beq s.p 0 then some (C,u,∀g∈l,bB g,n,l) else none
    |_=>none
   | .lit (.slice none 0 0)=>bif Nat.beq s.p 0 then some (C,u,∀g∈([]:List G),bB g,0,[]) else none
   |_=>none
  |_,_=>none
 |_=>none
theorem YE{fn:Func}{st:St}{x:Tmp}(hp:st.p=0)(h:fn.results= #[.tmp x])(hv:aD st.fr x= .lit (.slice none 0 0)){e:Exit}(he:e= .normal\/e= .ret):Z1 P (zE P fn (.rsl 0 0 0) [(0,some ⟨t,[],none⟩)]) e st:=by
 refine⟨zj [t] st,CG _ _,he,[.lit (.slice none 0 0)],[(0,st.c)],?_,?_,?_,?_,?_⟩
 .grind [jV,zj]
 .grind [zj]
 .intro a b j h1 h2;have a1:=fj h1;have a2:=fj h2;grind
 .show Wk P _ _ (.lit (.slice none 0 0)) _;exact CE (j:=st.c) (by simp[dq]) (by show ag ((st.c,some ⟨t,[],none⟩)::st.σ) st.c=_;rw[bj,if_pos rfl])
 .exact xP (j:=st.c) (by simp[dq]) (by show ag ((st.c,some ⟨t,[],none⟩)::st.σ) st.c=_;rw[bj,if_pos rfl]) rfl rfl (Nat.le_refl _) (by grind) BT
theorem EI{l:List G}(A:List HP)(hi:∀g∈l,bB g)(a:Nat:=n)(hn:a=n:=by rfl)(hk:B5 A (Xp P (bK A) (qu m p (ai fn)) (bE p (ai fn) Bs []) fn t st) (∀g∈l,bB g,a,l):=by exact⟨aH,aH⟩):Gp P fn (zE P fn (.rsl 0 0 n) [(0,some ⟨t,l,none⟩)]) Bs m p st:=by
 subst hn;obtain⟨C,u,b,e⟩:=hk.out;unfold Gp;unfold Xp at e;split at e
 .rename_i d f x s h1;split at e
  .rename_i c hx hres;have hr:fn.results= #[.tmp c]:=hres;split at e
   .rename_i i h hv;split at e
    .rename_i t' j ho;cases hb:(Nat.beq t t'&&Nat.beq s.p 0) with
     |false=>grind
     |true=>rw[hb] at e;simp only[bA] at hb;obtain rfl:=bc hb.1;have hp:=bc hb.2;simp only[aN,gL,Prod.mk.injEq] at e;obtain⟨rfl,rfl,_,rfl,rfl⟩:=e;exact oK M.mx (out:= .fin x s) ⟨s,Le.refl _,(by grind [aan,eO])⟩ 1000 _ _ _ _ _ h1 b
    .cases e
   .rename_i hv;cases hb:Nat.beq s.p 0 with
    |false=>grind
    |true=>rw[hb] at e;have hp:=bc hb;simp only[aN,gL,Prod.mk.injEq] at e;obtain⟨rfl,rfl,_,rfl,rfl⟩:=e;exact oK M.mx (out:= .fin x s) (YE hp hr hv (eO hx)) 1000 _ _ _ _ _ h1 b
   .cases e
  .cases e
 .cases e
def Xq(P:Program)(hs:List Hn)(m:Code⊕Exit)(K:List Kf)(fn:Func)(ρ:List (Nat×Nat))(kd:List (Nat×Rk))(r:G)(σ1:aQ)(st:St):Option (Prop×List Nat×List Prop×G×aQ):=match sy P hs 1000000 1000 m K st with
 |some (C,u,.fin e s)=>match tc e,vR P s fn.results.toList with
  |true,some gs=>match QR P s.σ ρ (Yz kd) 20 (iU gs) r,Wl P s.σ ρ kd σ1 with
   |some (L,g),some (D,τ)=>bif ER ρ s.p then some (C,u,L++D,g,τ) else none
   |_,_=>none
  |_,_=>none
 |_=>none
theorem ZT{r:G}{σ1:aQ}(A O:List HP)(ρ:List (Nat×Nat))(kd:List (Nat×Rk))(hk:B5 A (Xq P (bK A) (qu m p (ai fn)) (bE p (ai fn) Bs []) fn ρ kd r σ1 st) (pR O,r,σ1):=by exact⟨aH,aH⟩):Gp P fn (zE P fn r σ1) Bs m p st:=by
 obtain⟨C,u,a,e⟩:=hk.out;unfold Gp;unfold Xq at e;split at e
 .rename_i b c x s h1;split at e
  .rename_i gs hx hg;split at e
   .rename_i L g D τ h2 h3;cases hb:ER ρ s.p with
    |false=>grind
    |true=>
     rw[hb] at e;simp only[aN,gL,Prod.mk.injEq] at e;obtain⟨rfl,rfl,hL,rfl,rfl⟩:=e;have hp:∀p∈L++D,p:=by grind [wR]
     simp only[ER,bA] at hb;obtain⟨⟨k1,k2⟩,k3⟩:=hb;refine oK M.mx (out:= .fin x s) ⟨s,Le.refl _,eO hx,gs,ρ,gh hg,λi hi=>?_,λi d j h1 h2=>?_,nE 20 _ _ _ _ h2 λp hq=>hp p (by grind),CF _ _ _ h3 λp hq=>hp p (by grind)⟩ 1000 _ _ _ _ _ h1 a
     .grind [bc]
     .have:=List.all_eq_true.1 (List.all_eq_true.1 k2 _ (Gt h1)) _ (Gt h2);grind [Nat.beq_refl,bc]
   .cases e
  .cases e
 .cases e
theorem ZU{gl:List (Nat×List G)}{gs:List G}{σ0 σ1:aQ}{a:Nat}(hf:P.funcs[f]?=some fn)(h:Gp P fn (zE P fn r σ1) [] false [] ⟨fn.ntmps,gl,bQ 0 gs,σ0,a,a,false⟩)(hp:∀i,i<a->∃ob,ag σ0 i=some ob)(hb:fn.body.isSome=true:=by kernel_rfl)(hn:Nat.ble gs.length fn.ntmps=true:=by kernel_rfl):OU P gl f gs σ0 a a r σ1:=
 Ee hf (c:=ai fn) (by unfold ai;cases hx:fn.body<;>grind) (gX hn) hp (Tr.leQ (by exact h))
theorem wS{gl:List (Nat×List G)}{r:G}{i c:Nat}(hc:aK P f=true)(hF:OU P gl f gs0 [(0,some ⟨t,l,none⟩)] 1 1 r [(0,some ⟨t,l,none⟩)])(hr:bB r)(hl:∀g∈l,bB g)(h:i<c)(hln:gs0.length=gs.length)(hi:∀(j:Nat) (g d:G),gs[j]?=some g->gs0[j]?=some d->(∃o n,g= .rsl i o n/\d= .rsl 0 o n)\/(d=g/\bB g)):oJ P gl f gs [(i,some ⟨t,l,none⟩)] c r [] c:=by
 intro o st y xs ats fst cap ho hd hx hgs hgl u e;have hob:ag st.σ i=some ⟨t,l,none⟩:=by simp_all
 subst hgl;subst e;refine B1 (fst:=fst) (cap:=cap) (σ':=[]++st.σ) (c':=st.c) (r':=r) [(0,i)] [(i,0)] [] ho hd hx hc hF (by grind) (λj g d h1 h2=>?_) (λa b j h1 h2=>?_) aC (NH (j:=i) (by simp[dq]) aC hob rfl rfl (Nat.le_refl _) (λk g d h1 h2=>?_) BY) (Nat.le_refl _) (λk j hk hlt=>?_) (λk k' j h1 h2=>?_) (by grind) (λk s hk=>?_) (FH hr);all_goals grind [VY,dq,FG,FH]
theorem Tq{k:Nat}(h:dq [(c,0),(c+1,1),(c+2,2),(c+3,3)] k=some j):k=c+j/\j<4:=by have a:=fj h;grind
theorem m9(c:Nat){j:Nat}(h:j<4):dq [(c,0),(c+1,1),(c+2,2),(c+3,3)] (c+j)=some j:=by
 have e1:(c+1==c)=false:=aC;have e2:(c+2==c)=false:=aC;have e3:(c+3==c)=false:=aC;have e4:(c+2==c+1)=false:=aC;have e5:(c+3==c+1)=false:=aC;have e6:(c+3==c+2)=false:=aC;match j,h with
 |0,_=>grind [dq]
 |1,_=>grind [dq]
 |2,_=>grind [dq]
 |3,_=>simp[dq,List.lookup,e3,e5,e6]
theorem Ts{gl:List (Nat×List G)}{i n t2 s:TypeId}{l1 l2 l3:List G}{r r':G}{c:Nat}(hc:aK P f=true)(hF:OU P gl f gs [] 0 0 r [(0,some ⟨i,l0,none⟩),(1,some ⟨n,l1,none⟩),(2,some ⟨t2,l2,none⟩),(3,some ⟨s,l3,none⟩)])(hg:∀g∈gs,bB g)(hr:Rn [(c,0),(c+1,1),(c+2,2),(c+3,3)] r r')(h0:∀g∈l0,bB g)(h1:∀g∈l1,bB g)(h2:∀g∈l2,bB g)(h3:∀g∈l3,bB g):oJ P gl f gs [] c r' [(c,some ⟨i,l0,none⟩),(c+1,some ⟨n,l1,none⟩),(c+2,some ⟨t2,l2,none⟩),(c+3,some ⟨s,l3,none⟩)] (c+4):=by
 intro o st y xs ats fst cap ho hd hx hgs hgl u h;subst hgl;subst h;have key:∀(k:Nat) (l:List G),(∀g∈l,bB g)->∀(x:Nat) (g d:G),l[x]?=some g->l[x]?=some d->Rn [(st.c,0),(st.c+1,1),(st.c+2,2),(st.c+3,3)] g d:=λk l hl x g d a b=>by rw[a] at b;cases b;exact FH (hl g (bO a))
 refine B1 (fst:=fst) (cap:=cap) (c':=st.c+4) (r':=r') [] [(st.c,0),(st.c+1,1),(st.c+2,2),(st.c+3,3)] [] ho hd hx hc hF (by rw[hgs]) (λj g d a b=>?_) (by simp[dq]) aC BY aa (λk j hk hlt=>?_) (λk k' j a b=>?_) (λq hq=>?_) (λk t hk=>?_) hr
 .grind [FG]
 .have:=Tq hk;omega
 .have a1:=Tq a;grind [Tq]
 .simp at hq;rcases hq with rfl|rfl|rfl|rfl<;>simp<;>omega
 .simp only[List.cons_append,List.nil_append,bj] at hk;split at hk
  .cases hk;subst_vars;exact .inl ⟨0,_,m9 st.c (j:=0) dL,by grind,rfl,Nat.le_refl _,λe=>e,⟨rfl,rfl⟩,key 0 _ h0⟩
  .split at hk
   .cases hk;subst_vars;exact .inl ⟨1,_,m9 st.c (j:=1) dL,by simp[bj],rfl,Nat.le_refl _,λe=>e,⟨rfl,rfl⟩,key 0 _ h1⟩
   .split at hk
    .cases hk;subst_vars;exact .inl ⟨2,_,m9 st.c (j:=2) dL,by simp[bj],rfl,Nat.le_refl _,λe=>e,⟨rfl,rfl⟩,key 0 _ h2⟩
    .split at hk
     .cases hk;subst_vars;exact .inl ⟨3,_,m9 st.c (j:=3) dL,by simp[bj],rfl,Nat.le_refl _,λe=>e,⟨rfl,rfl⟩,key 0 _ h3⟩
     grind [dq]
theorem DE{gl:List (Nat×List G)}{gs:List G}{d:TypeId}{n c:Nat}(hc:aK P f=true)(hF:iV P gl f gs d n l0)(hg:∀g∈gs,bB g)(h0:∀g∈l0,bB g):oJ P gl f gs [] c (.rsl c 0 n) [(c,some ⟨d,l0,none⟩)] (c+1):=by intro o st y xs ats fst cap ho hd hx hgs hgl i e;subst hgl;subst e;refine B1 (fst:=fst) (cap:=cap) (c':=st.c+1) (r':= .rsl st.c 0 n) (r:= .rsl 0 0 n) (σ1:=[(0,some ⟨d,l0,none⟩)]) [] [(st.c,0)] [] ho hd hx hc hF (by rw[hgs]) (λj g l a b=>?_) (by simp[dq]) aC BY aa (λk j hk hlt=>?_) (λk k' j a b=>?_) (by grind) (λk h hk=>?_) (BZ (by simp[dq]));all_goals grind [FG,dq,FH]
theorem OW{gl:List (Nat×List G)}{gs:List G}{n:Nat}(hf:P.funcs[f]?=some fn)(h:Gp P fn (zE P fn (.rsl 0 0 n) [(0,some ⟨t,l,none⟩)]) [] false [] ⟨fn.ntmps,gl,bQ 0 gs,[],0,0,false⟩)(hb:fn.body.isSome=true:=by kernel_rfl)(hn:Nat.ble gs.length fn.ntmps=true:=by kernel_rfl):iV P gl f gs t n l:=
 NJ hf (cd:=ai fn) (by unfold ai;cases hx:fn.body<;>grind) (gX hn) (Tr.leQ (by exact h))
theorem dNx(b:List Nat)(h:Gp P fn Q Bs false b st)(e:bE q (ai fn) Bs []= .thn (bq b (ai fn))::bE b (ai fn) Bs []:=by kernel_rfl):Gp P fn Q Bs true q st:=by unfold Gp;rw[e];exact wm h
def Xr(P:Program)(hs:List Hn)(m:Code⊕Exit)(K:List Kf)(vs:List TypeId)(ρ:List (Nat×Nat))(kd:List (Nat×Rk))(J st:St):Option (Prop×List Nat×List Prop×St×Code×List Kf):=match sy P hs 1000000 1000 m K st with
 |some (C,u,.lp c K' s)=>match Iw P vs ρ kd J s with
  |some (L,s')=>some (C,u,L,s',c,K')
  |none=>none
 |_=>none
def Oj(fn:Func)(Bs:List (St->Prop))(b:List Nat):List Kf:=(bE b (ai fn) (Bs++[λ_=>False]) []).tail
theorem pN{σ ρ':Type}{step:σ->Option (σ⊕ρ')}{s0:σ}{x:ρ'}(S:σ->St)(b:List Nat)(hl:bo step s0=some x)(A O:List HP)(h:∀(B:St->Prop) (s:σ) (v:σ⊕ρ'),step s=some v->(∀s',v= .inl s'->B (S s'))->(∀y,v= .inr y->y=x)->Gp P fn Q (Bs++[B]) false b (S s))(vs:List TypeId:=[])(ρ:List (Nat×Nat):=[])(kd:List (Nat×Rk):=[])
  (hk:B5 A (Xr P (bK A) (qu m p (ai fn)) (bE p (ai fn) Bs []) vs ρ kd (S s0) st) (pR O,S s0,bq b (ai fn),Oj fn Bs b):=by exact⟨aH,aH⟩)
  (e2:∀B,bE b (ai fn) (Bs++[B]) []= .lp B::Oj fn Bs b:=by intro B;kernel_rfl):Gp P fn Q Bs m p st:=by
 obtain⟨C,u,d,e⟩:=hk.out
 unfold Gp
 unfold Xr at e
 split at e
 rotate_left
 .cases e
 rename_i f g c K' s1 h1
 split at e
 rotate_left
 .cases e
 rename_i L s' h2
 simp only[gL,Prod.mk.injEq] at e
 obtain⟨rfl,rfl,rfl,rfl,rfl,rfl⟩:=e
 refine oK M.mx (out:= .lp (bq b (ai fn)) (Oj fn Bs b) s1) (Tr.le ?_ (sR h2 (wR O))) 1000 _ _ _ _ _ h1 d
 unfold bo at hl
 have key:=TJ (P:=P) (Q:=Q) (c:=bq b (ai fn)) (K:=Oj fn Bs b) (ι:={q:Nat×σ//KN step q.1 q.2=some x}) ⟨λq=>S q.1.2,λq=>q.1.1⟩ ⟨(FU,s0),hl⟩ (by
  rintro⟨⟨n,s⟩,hn⟩;have hn:KN step n s=some x:=hn;cases n with
  |zero=>cases hn
  |succ n=>
   unfold KN at hn;split at hn
   .cases hn
   .rename_i s' hs;have:=h (λt=>t=S s'/\KN step n s'=some x) s (.inl s') hs (λa e=>by cases e;exact⟨rfl,hn⟩) (λy e=>by cases e);unfold Gp at this;rw[e2] at this;refine Tr.mono this λe t ht=>?_;unfold dz at ht⊢;cases e with
    |normal=>unfold uE at ht⊢;obtain⟨u,hu,rfl,hx⟩:=ht;exact⟨_,hu,⟨(n,s'),hx⟩,rfl,Nat.lt_succ_self _⟩
    |_=>grind [uE]
   .rename_i y hs;cases hn;have:=h (λt=>False) s (.inr x) hs (λa e=>by cases e) (λy e=>by cases e;rfl);unfold Gp at this;rw[e2] at this;refine Tr.mono this λe t ht=>?_;unfold dz at ht⊢;cases e with
    |normal=>unfold uE at ht⊢;obtain⟨u,hu,hx⟩:=ht;exact hx.elim
    |_=>grind [uE])
 exact key
def wT:Code->Nat
 | .cond (.tmp d) _ _=>d
 | .region id _ _=>2000000+id
 |_=>1000000
def Xs(P:Program)(hs:List Hn)(cut:Nat)(m:Code⊕Exit)(K:List Kf)(vs:List TypeId)(ρ:List (Nat×Nat))(kd:List (Nat×Rk))(J st:St):Option (Prop×List Nat×List Prop×St×Code×List Kf):=match sy P hs cut 1000 m K st with
 |some (C,u,.ct c K' s)=>match Iw P vs ρ kd J s with
  |some (L,s')=>some (C,u,L,s',c,K')
  |none=>none
 |_=>none
theorem pO(q:List Nat)(J:St)(A O:List HP)(kk:Gp P fn Q Bs false q J)(vs:List TypeId:=[])(ρ:List (Nat×Nat):=[])(kd:List (Nat×Rk):=[])
  (hk:B5 A (Xs P (bK A) (wT (bq q (ai fn))) (qu m p (ai fn)) (bE p (ai fn) Bs []) vs ρ kd J st) (pR O,J,bq q (ai fn),bE q (ai fn) Bs []):=by exact⟨aH,aH⟩):Gp P fn Q Bs m p st:=by
 obtain⟨C,u,a,e⟩:=hk.out
 unfold Gp
 unfold Xs at e
 split at e
 rotate_left
 .cases e
 rename_i b d c K' s1 h1
 split at e
 rotate_left
 .cases e
 rename_i L s' h2
 simp only[gL,Prod.mk.injEq] at e
 obtain⟨rfl,rfl,rfl,rfl,rfl,rfl⟩:=e
 exact oK M.mx (out:= .ct (bq q (ai fn)) (bE q (ai fn) Bs []) s1) (Tr.le kk (sR h2 (wR O))) 1000 _ _ _ _ _ h1 a
theorem Ix(q:List Nat)(J:St)(kk:Gp P fn Q Bs true q J)(h:Gp P fn Q Bs true q J->Gp P fn Q Bs m p st):Gp P fn Q Bs m p st:=h kk
end
def hr(d:Nat){c b:Bool}(t:c=b):HP:=⟨some (.r d b),c=b,t⟩
def hw(d:Nat)(L:List G){p:Prop}(t:p):HP:=⟨some (.w d L),p,t⟩
def hk(d:Nat)(L:List G)(M:Nat){p:Prop}(t:p):HP:=⟨some (.k d L M),p,t⟩
def hq(d:Nat)(ts:List G)(O:List HP){P:Program}{gl:List (Nat×List G)}{f:FuncId}{gs:List G}{g:G}(t:ba P gl f gs g):HP:=⟨some (.q d ts g),IJ (O.map (·.p))/\ba P gl f gs g,by
 refine⟨?_,t⟩;induction O with
 |nil=>trivial
 |cons x r ih=>exact⟨x.t,ih⟩⟩
def ho(d:Nat)(ts:List G)(O:List HP){P:Program}{gl:List (Nat×List G)}{f:FuncId}{gs:List G}{ty:TypeId}{m:Nat}{l:List G}(t:iV P gl f gs ty m l)(h:∀g∈l,∃v,g= .lit v):HP:=⟨some (.o d ts ty m l),IJ (O.map (·.p))/\iV P gl f gs ty m l/\∀g∈l,∃v,g= .lit v,by
 refine⟨?_,t,h⟩;induction O with
 |nil=>trivial
 |cons x r ih=>exact⟨x.t,ih⟩⟩
def hm(d:Nat){P:Program}{t:TypeId}{ok:Bool}{gm gk g:G}(h:∀σ,bL P σ t ok gm gk=some g):HP:=⟨some (.m d g),∀σ,bL P σ t ok gm gk=some g,h⟩
theorem bf:∀g∈([]:List G),bB g:=by grind
theorem aY{x:G}{l:List G}(hx:bB x)(h:∀g∈l,bB g):∀g∈x::l,bB g:=by grind
theorem jf{gl:List (Nat×List G)}{g:G}{c:Nat}(hc:aK P f=true)(hF:ba P gl f gs g)(hg:∀x∈gs,bB x):oJ P gl f gs [] c g [] c:=λo st y xs ats fst cap ho hd hx hgs hgl b a=>by subst hgs;subst hgl;subst a;exact wt ho hd hx hc hg hF
structure FnV (P:Program) (gl:List (Nat×List G)) (fid:FuncId) (fst cap:List G) {α β:Type} (ca:α->List G) (cb:β->G) (p:α->Option β):Prop where
 ok:aK P fid=true
 im1:∀g∈fst,bB g
 im2:∀g∈cap,bB g
 fn:∀x r,p x=some r->ba P gl fid (fst++ca x++cap) (cb r)
theorem FnV.im{P:Program}{gl:List (Nat×List G)}{fid:FuncId}{fst cap:List G}{α β:Type}{ca:α->List G}{cb:β->G}{p:α->Option β}(h:FnV P gl fid fst cap ca cb p):bB (.clo (.func fid) fst cap):=L8 h.im1 h.im2
theorem FnV.cs{P:Program}{gl:List (Nat×List G)}{fid:FuncId}{fst cap:List G}{α β:Type}{ca:α->List G}{cb:β->G}{p:α->Option β}(h:FnV P gl fid fst cap ca cb p){x:α}{r:β}(e:p x=some r)(hx:∀g∈ca x,bB g){c:Nat}:oJ P gl fid (fst++ca x++cap) [] c (cb r) [] c:=by grind [FnV,jf]
def hz(d:Nat)(R:List Nat){P:Program}{gl:List (Nat×List G)}{f:FuncId}{gs:List G}{σR:aQ}{c:Nat}{g:G}{U:aQ}{c':Nat}(t:oJ P gl f gs σR c g U c'):HP:=⟨some (.z d R g U c'),oJ P gl f gs σR c g U c',t⟩
theorem cF{gl:List (Nat×List G)}{t b:Bool}(h:ba P gl f gs (bG t))(e:t=b):ba P gl f gs (bG b):=e▸h
theorem cS{gl:List (Nat×List G)}{σR U:aQ}{c c':Nat}{t b:Bool}(h:oJ P gl f gs σR c (bG t) U c')(e:t=b):oJ P gl f gs σR c (bG b) U c':=e▸h
theorem cV{X:Operand->Operand->Option G}{t b:Bool}(h:∀p q,X p q=some (bG t))(e:t=b):∀p q,X p q=some (bG b):=e▸h
def OX(f:G->G->G):List G->List G->List G
 |g::r,t::r'=>f g t::OX f r r'
 |_,_=>[]
def nz:Nat->G->G->G
 |0,g,_=>g
 |n+1,g,t=>match t with
  | .sl _ _=>match g with
   | .lit (.slice none 0 0)=> .sl [] 0
   |g=>g
  | .agg l'=>match g with
   | .agg l=> .agg (bif Nat.beq l.length l'.length then OX (nz n) l l' else l)
   |g=>g
  |_=>g
theorem AQ{f:G->G->G}:∀(l t:List G),l.length=t.length->(OX f l t).length=l.length
 |[],[],_=>rfl
 |g::r,t::r',h=>by simp only[OX,List.length_cons,AQ r r' (by grind)]
theorem sS{f:G->G->G}:∀(l t:List G),l.length=t.length->∀(i:Nat) (g':G),(OX f l t)[i]?=some g'->∃g a,l[i]?=some g/\g'=f g a
 |[],[],_,i,g',h=>by simp[OX] at h
 |g::r,t::r',h,i,g',hg=>by
  cases i with
  |zero=>grind [OX]
  |succ i=>simp only[OX,List.getElem?_cons_succ] at hg;simpa using sS r r' (by grind) i g' hg
theorem UX{S:Nat->Prop}{w:World}:∀(n:Nat) (g t:G) (v:Value),IV S w g v->IV S w (nz n g t) v
 |0,g,t,v,h=>h
 |n+1,g,t,v,h=>by
  unfold nz;split
  .split
   .cases h;exact .sl [] 0 none 0 (λ_=>undef) (Nat.le_refl _) (Nat.zero_le _) aC aC aC
   .exact h
  .split
   .rename_i c _ l;cases hb:Nat.beq l.length c.length with
    |false=>exact h
    |true=>
     have hl:=bc hb;cases h with
     |agg _ us h2 h1 hr=>refine .agg _ us (by grind [AQ]) h1 λi d u hg hu=>?_;obtain⟨g,a,b,rfl⟩:=sS _ _ hl i d hg;exact UX n g a u (by grind)
   .exact h
  .exact h
theorem UY{gl:List (Nat×List G)}{r:G}{ts:List G}(gs:List G)(h:ba P gl f ts r)(hl:gs.length=ts.length:=by rfl)(e:OX (nz 20) gs ts=ts:=by kernel_rfl):ba P gl f gs r:=λw S vs hS hG hsz a=>by refine h w S vs hS hG aa λi g u hg hu=>?_;grind [sS,UX]
theorem Gj{f:α->List G}(hf:∀x,∀g∈f x,∃v,g= .lit v)(l:List α):∀g∈l.flatMap f,∃v,g= .lit v:=by grind
def wY(z:Int):UInt8:=UInt8.ofNat (IntKind.u8.wrap z).toNat
theorem YG(z:Int):0<=IntKind.u64.wrap z:=by show 0<=z%18446744073709551616;grind
theorem zk(z:Int):((wU z:Nat):Int)=IntKind.u64.wrap z:=Int.toNat_of_nonneg (YG z)
theorem C8(z:Int):some (G.lit (.int .u64 (IntKind.u64.wrap z)))=some (uG (wU z)):=by rw[zk]
theorem gV(a b:Int):lD .add (uG a) (uG b)=some (uG (wU (a+b))):=by rw[zk];rfl
theorem YH(a b:Int):lD .sub (uG a) (uG b)=some (uG (wU (a-b))):=by rw[zk];rfl
theorem na(a b:Int):lD .mul (uG a) (uG b)=some (uG (wU (a*b))):=by rw[zk];rfl
theorem iD(a b:Nat)(h:b≠0):lD .rem (uG a) (uG b)=some (uG ((a%b:Nat):Int)):=by show(if(b:Int)=0 then none else some (uG (Int.tmod a b)))=_;grind
theorem zm(a b:Nat)(h:b≠0):lD .quo (uG a) (uG b)=some (uG (wU (a/b:Nat))):=by show(if(b:Int)=0 then none else some (uG (IntKind.u64.wrap (Int.tdiv a b))))=_;grind [zk]
theorem Tt(h:Gg a b=some r):lD .quo (iG a) (iG b)=some (iG r):=by unfold Gg at h;show(if b=0 then none else some (iG (IntKind.i64.wrap (a.tdiv b))))=_;grind
theorem KO(h:u9 a b=some r):lD .rem (iG a) (iG b)=some (iG r):=by unfold u9 at h;show(if b=0 then none else some (iG (a.tmod b)))=_;grind
def CH(a b:Nat):Option Nat:=if b=0 then none else some (a%b)
theorem YI{a b r:Nat}(h:CH a b=some r):lD .rem (uG a) (uG b)=some (uG r):=by grind [CH,iD]
def hE(a b:Int):Int:=if b>a then b else a
def iI(a b:Int):Int:=if b<a then b else a
abbrev sG(s:List UInt8):G:= .lit (.string ⟨s.toArray⟩)
abbrev Iy:G:= .lit (.slice none 0 0)
theorem YJ(z:Int):((wY z).toNat:Int)=IntKind.u8.wrap z:=by
 have h1:0<=IntKind.u8.wrap z/\IntKind.u8.wrap z<256:=by show 0<=z%256/\z%256<256;grind
 grind [wY,UInt8.toNat_ofNat']
theorem YK(a b:UInt8):lD .add (gY a) (gY b)=some (gY (wY ((a.toNat:Int)+(b.toNat:Int)))):=by show some (G.lit (.int .u8 (IntKind.u8.wrap _)))=some (G.lit (.int .u8 ((wY _).toNat:Int)));rw[YJ]
def Gk(s:List UInt8):Option (List UInt8):=if s.length<=9223372036854775807 then some s else none
theorem Iz(z:Int):some (G.lit (.int .u8 (IntKind.u8.wrap z)))=some (gY (wY z)):=by
 have h1:0<=IntKind.u8.wrap z/\IntKind.u8.wrap z<256:=by show 0<=z%256/\z%256<256;grind
 grind [wY,UInt8.toNat_ofNat']
theorem jP{l:List α}{x:α}(h:aS l i=some x):0<=i/\l[i.toNat]?=some x:=by grind [aS]
section
variable {P:Program} {ts te:TypeId} {k:Nat} {α:Type} {f:α->List G}
theorem RowTy.ixZ(R:RowTy P ts te k f){l:List α}{i:Int}{x:α}(h:aS l i=some x):fh P ts (aE f l) i=some (.ptr (l.flatMap f) (i.toNat*k)):=by obtain⟨h1,h2⟩:=jP h;grind [ix]
theorem RowTy.ptZ(R:RowTy P ts te k f)(ha:fg P te=some true){l:List α}{i:Int}{x:α}(h:aS l i=some x):dN P te (l.flatMap f) (i.toNat*k)=some (.agg (f x)):=R.pt ha (jP h).2
theorem RowTy.p1Z(R:RowTy P ts te 1 f)(ha:fg P te=some false){l:List α}{i:Int}{x:α}(h:aS l i=some x){g:G}(hg:f x=[g]:=by rfl):dN P te (l.flatMap f) (i.toNat*1)=some g:=R.pt1 ha (jP h).2 hg
theorem RowTy.fdZ(R:RowTy P ts te k f){t:TypeId}(ha:fg P t=some false){l:List α}{i:Int}{x:α}{g:G}(j:Nat)(h:aS l i=some x)(hg:(f x)[j]?=some g:=by rfl):dN P t (l.flatMap f) (i.toNat*k+j)=some g:=R.fd ha (jP h).2 hg
theorem RowTy.fs(R:RowTy P ts te k f){t:TypeId}{n:Nat}(ha:fg P t=some true)(hs:bw P t=some n){l:List α}{i j:Nat}{x:α}(h:l[i]?=some x)(hj:j+n<=k):dN P t (l.flatMap f) (i*k+j)=some (.agg (((f x).drop j).take n)):=by have hb:=l9 (k:=k) h;have e:=wQ (f:=f) (k:=k) R.ln h;grind [dN,len,List.drop_drop,List.drop_take]
theorem RowTy.fsZ(R:RowTy P ts te k f){t:TypeId}{n:Nat}(ha:fg P t=some true)(hs:bw P t=some n)(j:Nat)(hj:j+n<=k){l:List α}{i:Int}{x:α}(h:aS l i=some x):dN P t (l.flatMap f) (i.toNat*k+j)=some (.agg (((f x).drop j).take n)):=R.fs ha hs (jP h).2 hj
theorem RowTy.ixrZ(R:RowTy P ts te k f)(j:Nat){l:List α}{i:Int}{x:α}(h:aS l i=some x):fh P ts (.rsl j 0 l.length) i=some (.ref j (0+i.toNat*k)):=by obtain⟨h1,h2⟩:=jP h;have:=R.ixr j (o:=0) h2;grind
theorem RowTy.pt0Z(R:RowTy P ts te k f)(ha:fg P te=some true){l:List α}{i:Int}{x:α}(h:aS l i=some x):dN P te (l.flatMap f) (0+i.toNat*k)=some (.agg (f x)):=by grind [ptZ]
theorem RowTy.p10Z(R:RowTy P ts te 1 f)(ha:fg P te=some false){l:List α}{i:Int}{x:α}(h:aS l i=some x){g:G}(hg:f x=[g]:=by rfl):dN P te (l.flatMap f) (0+i.toNat*1)=some g:=by grind [p1Z]
theorem RowTy.fd0Z(R:RowTy P ts te k f){t:TypeId}(ha:fg P t=some false){l:List α}{i:Int}{x:α}{g:G}(j:Nat)(h:aS l i=some x)(hg:(f x)[j]?=some g:=by rfl):dN P t (l.flatMap f) (0+i.toNat*k+j)=some g:=by grind [fdZ]
theorem RowTy.fs0Z(R:RowTy P ts te k f){t:TypeId}{n:Nat}(ha:fg P t=some true)(hs:bw P t=some n)(j:Nat)(hj:j+n<=k){l:List α}{i:Int}{x:α}(h:aS l i=some x):dN P t (l.flatMap f) (0+i.toNat*k+j)=some (.agg (((f x).drop j).take n)):=by grind [fsZ]
theorem sT{l l':List α}{x:α}(h:ji l i x=some l'):0<=i/\i.toNat<l.length/\l'=l.set i.toNat x:=by grind [ji]
theorem Tu{l l':List α}{x:α}(h:ji l i x=some l'):∃y,aS l i=some y:=by obtain⟨h1,h2,_⟩:=sT h;exact⟨l[i.toNat],by grind [aS]⟩
theorem RowTy.ixsZ(R:RowTy P ts te k f)(j:Nat){l l':List α}{i:Int}{x:α}(h:ji l i x=some l'):fh P ts (.rsl j 0 l.length) i=some (.ref j (0+i.toNat*k)):=by grind [RowTy,Tu,ixrZ]
theorem wW(hk:∀x,(f x).length=k)(x:α):∀(l:List α) (i:Nat),i<l.length->(l.flatMap f).take (i*k)++f x++(l.flatMap f).drop (i*k+k)=(l.set i x).flatMap f
 |[],i,h=>by cases h
 |y::r,0,h=>by grind
 |y::r,i+1,h=>by
  have ih:=wW hk x r i (by grind);rw[List.set_cons_succ,List.flatMap_cons,List.flatMap_cons,<-ih];have e1:(f y++r.flatMap f).take ((i+1)*k)=f y++(r.flatMap f).take (i*k):=by grind [Nat.succ_mul]
  have e2:(f y++r.flatMap f).drop ((i+1)*k+k)=(r.flatMap f).drop (i*k+k):=by rw[List.drop_append,hk,List.drop_of_length_le (by grind),List.nil_append];grind
  grind
theorem RowTy.putZ(R:RowTy P ts te k f){l l':List α}{i:Int}{x:α}(h:ji l i x=some l'):(f x).length=k/\0+i.toNat*k+k<=(l.flatMap f).length/\(l.flatMap f).take (0+i.toNat*k)++f x++(l.flatMap f).drop (0+i.toNat*k+k)=l'.flatMap f:=by obtain⟨h1,h2,rfl⟩:=sT h;grind [RowTy,len,wW]
theorem RowTy.putF(R:RowTy P ts te k f){l l':List α}{i:Int}{x x':α}(h:ji l i x'=some l')(hx:aS l i=some x)(a n:Nat){gs:List G}(hg:gs.length=n)(d:a+n<=k)(hf:f x'=(f x).take a++gs++(f x).drop (a+n)):gs.length=n/\0+i.toNat*k+a+n<=(l.flatMap f).length/\(l.flatMap f).take (0+i.toNat*k+a)++gs++(l.flatMap f).drop (0+i.toNat*k+a+n)=l'.flatMap f:=by
 obtain⟨h1,h2,rfl⟩:=sT h;obtain⟨_,hx⟩:=jP hx;have e0:l.set i.toNat x=l:=by apply List.ext_getElem?;grind
 have b:=l9 (k:=k) (fy h2);have c:=wW R.ln x l i.toNat h2;rw[e0] at c;have e:=wW R.ln x' l i.toNat h2;refine⟨hg,?_,?_⟩
 .rw[R.len];omega
 .rw[Nat.zero_add,<-e,hf];have la:((l.flatMap f).take (i.toNat*k)).length=i.toNat*k:=by grind [len]
  have lx:=R.ln x;generalize hA:(l.flatMap f).take (i.toNat*k)=A at*;generalize hB:(l.flatMap f).drop (i.toNat*k+k)=B at*;rw[<-c];have e1:(A++f x++B).take (i.toNat*k+a)=A++(f x).take a:=by rw[List.append_assoc,List.take_append,la,List.take_of_length_le aa,Nat.add_sub_cancel_left,List.take_append_of_le_length aa]
  have e2:(A++f x++B).drop (i.toNat*k+a+n)=(f x).drop (a+n)++B:=by rw[List.append_assoc,List.drop_append,la,List.drop_of_length_le aa,List.nil_append,show i.toNat*k+a+n-i.toNat*k=a+n by omega,List.drop_append_of_le_length aa]
  grind
theorem jx{b:Nat}{l r y:List α}(h:aT b l r=some y):(l.length+r.length)*b<=140737488355328/\y=l++r:=by grind [aT]
def bF:List Nat->List G->List G
 |[],l=>l
 |k::r,l=>bF r (l.set k Iy)
theorem el{α:Type}(l:List α):l.length=l.length:=rfl
theorem RowTy.al(R:RowTy P ts te k f)(l:List α){m:Nat}(e:m=l.length:=by rfl):(l.flatMap f).length=l.length*k/\(∀x∈l.flatMap f,bB x)/\m=l.length:=⟨R.len l,R.imm l,e⟩
theorem hZ{l l':List α}{x:α}(h:ji l i x=some l'):l.length=l'.length:=by obtain⟨_,_,rfl⟩:=sT h;simp
def dg(d:Nat)(R:RowTy P ts te k f){b:Nat}{l r y:List α}(h:aT b l r=some y):HP:=ha d (y.flatMap f) y.length (p:=(l.flatMap f).length=l.length*k/\0+r.length*k<=(r.flatMap f).length/\(l.length+r.length)*b<=140737488355328/\l.flatMap f++((r.flatMap f).drop 0).take (r.length*k)=y.flatMap f/\l.length+r.length=y.length) (by obtain⟨h1,rfl⟩:=jx h;grind [RowTy.len])
def eu(d:Nat)(R:RowTy P ts te k f){b:Nat}{l r y:List α}(h:aT b l r=some y):HP:=ha d (y.flatMap f) y.length (p:=(l.flatMap f).length=l.length*k/\(r.flatMap f).length=r.length*k/\(l.length+r.length)*b<=140737488355328/\l.flatMap f++r.flatMap f=y.flatMap f/\l.length+r.length=y.length) (by obtain⟨h1,rfl⟩:=jx h;grind [RowTy.len])
def YL(d:Nat)(R:RowTy P ts te k f){b:Nat}{r y:List α}(h:aT b [] r=some y):HP:=ha d (y.flatMap f) y.length (p:=True/\0+r.length*k<=(r.flatMap f).length/\(0+r.length)*b<=140737488355328/\[]++((r.flatMap f).drop 0).take (r.length*k)=y.flatMap f/\0+r.length=y.length) (by obtain⟨h1,rfl⟩:=jx h;grind [RowTy.len])
def wX(d:Nat)(R:RowTy P ts te k f){b:Nat}{r y:List α}(h:aT b [] r=some y):HP:=ha d (y.flatMap f) y.length (p:=True/\(r.flatMap f).length=r.length*k/\(0+r.length)*b<=140737488355328/\[]++r.flatMap f=y.flatMap f/\0+r.length=y.length) (by obtain⟨h1,rfl⟩:=jx h;grind [RowTy.len])
def Tv(d:Nat)(R:RowTy P ts te k f){b:Nat}{l y:List α}{x:α}(h:aT b l [x]=some y)(c:List G)(hc:c.length=k):HP:=ha d (l.flatMap f++c) y.length (p:=(l.flatMap f).length=l.length*k/\0+1*k<=c.length/\(l.length+1)*b<=140737488355328/\l.flatMap f++(c.drop 0).take (1*k)=l.flatMap f++c/\l.length+1=y.length) (by obtain⟨h1,rfl⟩:=jx h;grind [RowTy.len])
theorem RowTy.app(R:RowTy P ts te k f){b:Nat}{l y:List α}{x:α}(h:aT b l [x]=some y):(∀g∈l.flatMap f,bB g)/\l.flatMap f++f x=y.flatMap f:=by obtain⟨h1,rfl⟩:=jx h;grind [imm]
def ZV(R:RowTy P ts te k f){b:Nat}{l y:List α}{x:α}(h:aT b l [x]=some y)(c:List G):HP:=hc (p:=l.flatMap f++c=l.flatMap f++c/\(∀g∈l.flatMap f,bB g)/\l.flatMap f++f x=y.flatMap f) (by grind [RowTy.app])
theorem ym{l y:List α}(h:tq l i=some y):0<=i/\i.toNat<=l.length/\y=l.take i.toNat:=by grind [tq]
theorem yn{l y:List α}(h:mc l i=some y):0<=i/\i.toNat<=l.length/\y=l.drop i.toNat:=by grind [mc]
theorem RowTy.preZI(R:RowTy P ts te k f){l y:List α}{i:Int}(h:tq l i=some y):ig P ts (aE f l) none (some i)=some (aE f y):=by obtain⟨h1,h2,rfl⟩:=ym h;simp only[ig,R.el,R.sz,aL,aE];grind [RowTy,yk]
theorem RowTy.sufZI(R:RowTy P ts te k f){l y:List α}{i:Int}(h:mc l i=some y):ig P ts (aE f l) (some i) none=some (aE f y):=by obtain⟨h1,h2,rfl⟩:=yn h;simp only[ig,R.el,R.sz,aL,aE];grind [RowTy,len,sQ]
theorem RowTy.preZ(R:RowTy P ts te k f)(j:Nat){l y:List α}{i:Int}(h:tq l i=some y):ig P ts (.rsl j 0 l.length) none (some i)=some (.rsl j 0 i.toNat):=by grind [ym,pre,Int.toNat_of_nonneg]
theorem RowTy.sufZ(R:RowTy P ts te k f)(j:Nat){l y:List α}{i:Int}(h:mc l i=some y):ig P ts (.rsl j 0 l.length) (some i) none=some (.rsl j (0+i.toNat*k) (l.length-i.toNat)):=by grind [yn,suf,Int.toNat_of_nonneg]
theorem KP{b:Nat}{z:α}{n:Int}{l:List α}(h:rP b z n=some l):0<=n/\b*n.toNat<=281474976710656/\n<=9223372036854775807/\l=List.replicate n.toNat z:=by grind [rP]
theorem Wn(v:Value)(n:Nat):bN [v] n=List.replicate n v:=by unfold bN;apply List.ext_getElem;all_goals grind
theorem QT{x:α}{g:G}(hg:f x=[g])(n:Nat):(List.replicate n x).flatMap f=List.replicate n g:=by induction n<;>grind
theorem mk1(R:RowTy P ts te 1 f){v:Value}{b:Nat}{x:α}{n:Int}{l:List α}(h:rP b x n=some l)(hz:jj P te=some [v])(hb:(P.info? te).map (·.bytes)=some b)(hx:f x=[.lit v]):tI P ts (iG n) (iG n)=some (te,l.flatMap f,l.length):=by obtain⟨h1,h2,h3,rfl⟩:=KP h;grind [RowTy,tI,Nat.beq_refl,Nat.ble_eq_true_of_le,Wn,List.map_replicate,QT]
def hmk(d:Nat)(R:RowTy P ts te 1 f){v:Value}{b:Nat}{x:α}{n:Int}{l:List α}(h:rP b x n=some l)(hz:jj P te=some [v]:=by kernel_rfl)(hb:(P.info? te).map (·.bytes)=some b:=by kernel_rfl)(hx:f x=[.lit v]:=by rfl):HP:=hk d (l.flatMap f) l.length (mk1 R h hz hb hx)
def CI(i:Nat)(gs gs0:List G):Prop:=∀(j:Nat) (g g':G),gs[j]?=some g->gs0[j]?=some g'->(∃o n,g= .rsl i o n/\g'= .rsl 0 o n)\/(g'=g/\bB g)
theorem wZ{i:Nat}:CI i [] []:=λj g a h=>by simp at h
theorem w5{i o n:Nat}(h:CI i gs gs0):CI i (.rsl i o n::gs) (.rsl 0 o n::gs0):=λj g a h1 h2=>by
 cases j with
 |zero=>grind
 |succ j=>exact h j g a (by grind) (by grind)
theorem CJ{i:Nat}{g0:G}(hg:bB g0)(h:CI i gs gs0):CI i (g0::gs) (g0::gs0):=λj g a h1 h2=>by
 cases j with
 |zero=>grind
 |succ j=>exact h j g a (by grind) (by grind)
theorem eB{gs:List G}(h:gs.all (nF 20)=true):∀g∈gs,bB g:=by grind [aG]
theorem rn4{c a b d e:Nat}:Rn [(c,0),(c+1,1),(c+2,2),(c+3,3)] (.agg [.rsl 0 0 a,.rsl 1 0 b,.rsl 2 0 d,.rsl 3 0 e]) (.agg [.rsl c 0 a,.rsl (c+1) 0 b,.rsl (c+2) 0 d,.rsl (c+3) 0 e]):=VZ rfl λi g h h1 h2=>by
 match i with
 |0=>simp at h1 h2;subst h1;subst h2;exact BZ (m9 c (j:=0) dL)
 |1=>grind [BZ,m9]
 |2=>grind [BZ,m9]
 |3=>grind [BZ,m9]
 |n+4=>simp at h1
end
section
variable {P:Program}
theorem th.mn{o:Oper}{st:St}{S T:St->Prop}(h:th P o st S)(k:∀s,S s->T s):th P o st T:=λcx a w K R r hk=>h cx a w K R r λs hs=>hk s (k s hs)
theorem QU{o:Oper}{st:St}{e:TypeId}{l:List G}{n:Nat}{u:Bool}(ho:∃z,o.op= .binOp .eql ts x (.const (.slice none 0 0)) z)(ht:P.underlying ts=some (.slice e))(hd:pp o st.n)(hx:aB st x= .sl l n):th P o st (λs=>∃b,(b=true->l=[])/\s=st.put o.dst (bG b)):=by
 obtain⟨z,ho⟩:=ho;intro cx a w K R ⟨β,h⟩ d;refine h.loose.oper (λc hc=>by rw[ho] at hc;cases hc) ?_;have hv:=h.ev x;rw[hx] at hv;obtain⟨ad,cap,us,hv,_,_,ha,_⟩:=hv.sl_cells;have hrun:(execOp a.eval o).run P w= .ok (.value (.bool ad.isNone)) w:=by unfold execOp;have hk:a.eval (.const (.slice none 0 0))= .slice none 0 0:=rfl;simp[ho,hv,hk,eqGuard,Lib.run_eql_slice_nil w ts e ad n cap 0 0 ht]
 unfold Oper.wp;rw[hrun];refine d _ ⟨ad.isNone,λhn=>?_,rfl⟩ _ _ ⟨β,h.put o.dst hd (.imm _ _ (.lit _))⟩;cases l with
 |nil=>rfl
 |cons g r=>obtain⟨b,f,e,_⟩:=ha 0 aC;rw[e] at hn;cases hn
end
section
variable {P:Program} {fn:Func} {Q:Exit->St->Prop} {Bs:List (St->Prop)} {p:List Nat} {st:St}
def QV(P:Program)(c:Code)(x b f:Nat)(d e:TypeId):Bool:=match c with
 | .region _ ⟨[⟨some g,.move (.tmp x'),_,_,_,none⟩,⟨some h,.binOp .eql t' (.tmp a) (.const (.slice none 0 0)) _,_,_,_,none⟩]⟩ false=>Nat.beq g b&&Nat.beq h f&&Nat.beq x x'&&Nat.beq a b&&Nat.beq t' d&&(match P.underlying d with|some (.slice e')=>Nat.beq e e'|_=>false)
 |_=>false
theorem IA(x i j:Nat)(t e:TypeId)(hx:aD st.fr x= .sl l n)(h1:i<st.n)(h2:j<st.n)(h:∀b,(b=true->l=[])->Gp P fn Q Bs true p ((st.put (some i) (.sl l n)).put (some j) (bG b)))(hc:QV P (bq p (ai fn)) x i j t e=true:=by kernel_rfl):Gp P fn Q Bs false p st:=by
 unfold Gp qu at h⊢;simp only[aN,cG] at h⊢;revert hc;generalize bq p (ai fn)=c;intro hc;unfold QV at hc;split at hc
 .rename_i id v w f g af1 r t' a z k m q;simp only[bA] at hc;obtain⟨⟨⟨⟨⟨e1,e2⟩,e3⟩,e4⟩,e5⟩,e6⟩:=hc;obtain rfl:=bc e1;obtain rfl:=bc e2;obtain rfl:=bc e3;obtain rfl:=bc e4;obtain rfl:=bc e5;split at e6
  .rename_i e' hu;obtain rfl:=bc e6;unfold CQ;refine lG (l:=[_,_]) ?_;have g1:GS P ⟨some a,.move (.tmp x),f,g,af1,none⟩ st (st.put (some a) (.sl l n)):=fM (o:=⟨some a,.move (.tmp x),f,g,af1,none⟩) (λd hd=>by cases hd;exact h1) (by show some (aD st.fr x)=_;rw[hx]);refine .inl ⟨rfl,g1.gsn.mn ?_⟩;rintro s rfl;have g2:=QU (P:=P) (o:=⟨some r,.binOp .eql t' (.tmp a) (.const (.slice none 0 0)) z,k,m,q,none⟩) (st:=st.put (some a) (.sl l n)) (u:=true) ⟨z,rfl⟩ hu (λd hd=>by cases hd;exact h2) (l:=l) (n:=n) (by show aD _ _=_;simp[St.put,aD]);refine .inl ⟨rfl,g2.mn ?_⟩;rintro s ⟨b,hb,rfl⟩;exact h b hb
  .cases e6
 .cases hc
end
section
attribute [local irreducible] Tr dz Gp
def ptG:Nat->Nat->List Nat->List Nat
 |0,_,l=>l
 |f+1,n,l=>bif Nat.ble n 1 then l else ptG f (n/10) (n%10::l)
instance(n:Nat):OfNat (List Nat) n:=⟨ptG 60 n []⟩
def rI(n:Nat):List (Nat×Nat):=(List.range n).map λi=>(i,i)
abbrev s0(n:Nat)(gl:List (Nat×List G))(fr:Fr)(σ:aQ)(c p:Nat):St:=⟨n,gl,fr,σ,c,p,false⟩
abbrev ob(i t:Nat)(l:List G):Nat×Option Ob:=(i,some ⟨t,l,none⟩)
def RD{α:Type}(A:List HP)(e:Option α)(r:α)(X:Prop):Prop:=e=some r->X
def Yw{β:Type}(q:Nat×β):List (Nat×β)->List (Nat×β)
 |[]=>[q]
 |z::r=>bif Nat.beq z.1 q.1 then q::r else bif Nat.blt q.1 z.1 then q::z::r else z::Yw q r
def sx(d:List Nat)(ad:Fr)(σ:aQ)(c:Nat)(s:St):St:=⟨s.n,s.gl,ad.foldr Yw (s.fr.filter λq=> !d.any (Nat.beq q.1)),σ,c,s.p,s.r⟩
def sk(d:List Nat)(ad:Fr)(σ:aQ)(c:Nat)(s:St):St:=⟨s.n,s.gl,ad.foldr Yw (s.fr.filter λq=>d.any (Nat.beq q.1)),σ,c,s.p,s.r⟩
def so(d:List Nat)(ad:Fr)(l:aQ)(c:Nat)(s:St):St:=sx d ad (l.foldr Yw s.σ) c s
def sp(d:List Nat)(ad:Fr)(l:aQ)(c:Nat)(s:St):St:=sk d ad (l.foldr Yw s.σ) c s
def sf(d:List Nat)(ad:Fr)(s:St):St:=sx d ad s.σ s.c s
def sg(d:List Nat)(ad:Fr)(s:St):St:=sk d ad s.σ s.c s
abbrev c0{α:Type}(x:α):α:=x
abbrev c1{α β:Type}(x:β):α⊕β:= .inr x
abbrev c2{α β γ:Type}(x:β):α⊕(β⊕γ):= .inr (.inl x)
abbrev c3{α β γ:Type}(x:γ):α⊕(β⊕γ):= .inr (.inr x)
abbrev c4{α β:Type}(x:α):α⊕β:= .inl x
section
variable {P:Program} {α β σ X V:Type} {A:List HP} {e:Option α} {r:α} {Y:Prop}
theorem ak{e:Option β}{F:β->Option α}(k:∀y,e=some y->RD A (F y) r Y):RD A (e.bind F) r Y:=λh=>by obtain⟨y,e1,h⟩:=bS h;exact k y e1 h
theorem aw(L:List HP)(k:RD (L++A) e r Y):RD A e r Y:=k
theorem aF(d:Nat){c:Bool}{a b:Option α}(k1:∀{t:c=true},RD (hr d t::A) a r Y)(k2:∀{t:c=false},RD (hr d t::A) b r Y):RD A (bif c then a else b) r Y:=λh=>by
 rcases bC h with⟨t,h⟩|⟨t,h⟩
 .exact k1 (t:=t) h
 .exact k2 (t:=t) h
theorem kV{c:Bool}{a b:Option α}(k1:c=true->RD A a r Y)(k2:c=false->RD A b r Y):RD A (bif c then a else b) r Y:=by grind
variable [M:Mix P] {fn:Func} {Q:Exit->St->Prop} {Bs Bs':List (St->Prop)} {m:Bool} {p:List Nat} {st:St}
theorem eH(l:List Nat){c:Bool}{a b:Option α}(k1:∀{t:c=true},RD A a r (Gp P fn Q Bs m p (sf [] (l.map λd=>(d,bG true)) st)))(k2:∀{t:c=false},RD A b r (Gp P fn Q Bs m p (sf [] (l.map λd=>(d,bG false)) st)))(h:sf [] (l.map λd=>(d,bG c)) st=st:=by kernel_rfl):RD A (bif c then a else b) r (Gp P fn Q Bs m p st):=by grind
def eP(P:Program)(gl:List (Nat×List G))(e:Option α)(f:FuncId)(gs:List G)(g:α->G):Prop:=∀⦃r⦄,e=some r->ba P gl f gs (g r)
def rX(P:Program)(gl:List (Nat×List G))(e:Option (List β))(f:FuncId)(gs:List G)(t:TypeId)(c:β->List G):Prop:=∀⦃r⦄,e=some r->iV P gl f gs t r.length (r.flatMap c)
theorem cy{fn:Func}{gl:List (Nat×List G)}{gs:List G}{g:α->G}(hf:P.funcs[f]?=some fn)(h:∀{Q r},(∀a,r=a->Q=tH P fn (g a))->RD [] e r (Gp P fn Q [] false [] ⟨fn.ntmps,gl,bQ 0 gs,[],0,0,false⟩))(hb:fn.body.isSome=true:=by kernel_rfl)(hn:Nat.ble gs.length fn.ntmps=true:=by kernel_rfl):eP P gl e f gs g:=λr h0=>Gh hf (h (by grind) h0) hb hn
theorem gc{fn:Func}{gl:List (Nat×List G)}{c:β->List G}{e:Option (List β)}(hf:P.funcs[f]?=some fn)(h:∀{Q r},(∀a,r=a->Q=zE P fn (.rsl 0 0 a.length) [(0,some ⟨t,a.flatMap c,none⟩)])->RD [] e r (Gp P fn Q [] false [] ⟨fn.ntmps,gl,bQ 0 gs,[],0,0,false⟩))(hb:fn.body.isSome=true:=by kernel_rfl)(hn:Nat.ble gs.length fn.ntmps=true:=by kernel_rfl):rX P gl e f gs t c:=λr h0=>OW hf (h (by grind) h0) hb hn
theorem Yx{fn:Func}{gl:List (Nat×List G)}{σ0:aQ}(g:α->G)(s1:α->aQ)(hf:P.funcs[f]?=some fn)(h0:e=some r)(hp:∀i,i<c->∃ob,ag σ0 i=some ob)(h:∀{Q},(∀a,r=a->Q=zE P fn (g a) (s1 a))->RD [] e r (Gp P fn Q [] false [] ⟨fn.ntmps,gl,bQ 0 gs,σ0,c,c,false⟩))(hb:fn.body.isSome=true:=by kernel_rfl)(hn:Nat.ble gs.length fn.ntmps=true:=by kernel_rfl):OU P gl f gs σ0 c c (g r) (s1 r):=ZU hf (h (by grind) h0) hp hb hn
theorem cC{e:Option β}{F:β->Option α}(q:List Nat)(J:β->St->St)(c:∀y,RD [] (F y) r (Gp P fn Q Bs true q (J y st)))(h:∀y,(∀z,y=z->Gp P fn Q Bs true q (J z st))->RD A e y (Gp P fn Q Bs m p st)):RD A (e.bind F) r (Gp P fn Q Bs m p st):=λh0=>by obtain⟨y,e1,h1⟩:=bS h0;exact h y (λz hz=>by subst hz;exact c y h1) e1
theorem rdM{e:Option (X⊕α)}{F:X->Option α}(q:List Nat)(J:X->St->St)(c:∀y,RD [] (F y) r (Gp P fn Q Bs true q (J y st)))(h:∀j,(∀y,j= .inl y->Gp P fn Q Bs true q (J y st))->(∀w,j= .inr w->w=r)->RD A e j (Gp P fn Q Bs m p st)):RD A (e.bind λj=>ma j F some) r (Gp P fn Q Bs m p st):=λh0=>by
 obtain⟨j,e1,h1⟩:=bS h0;refine h j (λy hy=>?_) (λw hw=>?_) e1
 .subst hy;exact c y h1
 .subst hw;exact cP h1
def aay(P:Program)(fn:Func)(Bs:List (St->Prop))(m:Bool)(p q:List Nat)(A O:List HP)(vs:List TypeId)(ρ:List (Nat×Nat))(kd:List (Nat×Rk))(J st:St):Prop:=B5 A (Xs P (bK A) (wT (bq q (ai fn))) (qu m p (ai fn)) (bE p (ai fn) Bs []) vs ρ kd J st) (pR O,J,bq q (ai fn),bE q (ai fn) Bs [])
theorem cN(q:List Nat)(J:St->St)(O:List HP)(k:RD [] e r (Gp P fn Q Bs false q (J st)))(vs:List TypeId:=[])(ρ:List (Nat×Nat):=[])(kd:List (Nat×Rk):=[])(h:aay P fn Bs m p q A O vs ρ kd (J st) st:=by exact⟨aH,aH⟩):RD A e r (Gp P fn Q Bs m p st):=λh0=>pO q (J st) A O (k h0) vs ρ kd h
def Yy(P:Program)(fn:Func)(Bs:List (St->Prop))(m:Bool)(p b:List Nat)(A O:List HP)(vs:List TypeId)(ρ:List (Nat×Nat))(kd:List (Nat×Rk))(J st:St):Prop:=(B5 A (Xr P (bK A) (qu m p (ai fn)) (bE p (ai fn) Bs []) vs ρ kd J st) (pR O,J,bq b (ai fn),Oj fn Bs b))/\∀B,bE b (ai fn) (Bs++[B]) []= .lp B::Oj fn Bs b
theorem rdL{step:σ->Option (σ⊕β)}{s0:σ}{F:β->Option α}(q b:List Nat)(J:β->St->St)(S:σ->St->St)(O:List HP)(c:∀y,RD [] (F y) r (Gp P fn Q Bs true q (J y st)))(h:∀{B:St->Prop} {v:σ⊕β} (s:σ),(∀s',v= .inl s'->B (S s' st))->(∀y,v= .inr y->Gp P fn Q Bs true q (J y st))->RD [] (step s) v (Gp P fn Q (Bs++[B]) false b (S s st)))(vs:List TypeId:=[])(ρ:List (Nat×Nat):=[])(kd:List (Nat×Rk):=[])(k:Yy P fn Bs m p b A O vs ρ kd (S s0 st) st:=by exact⟨⟨aH,aH⟩,λ_=>aH⟩):RD A ((bo step s0).bind F) r (Gp P fn Q Bs m p st):=λh0=>by obtain⟨x,e1,h1⟩:=bS h0;exact pN (λs=>S s st) b e1 A O (λB s v hv h5 h4=>h s h5 (λy hy=>h4 y hy▸c x h1) hv) vs ρ kd k.1 k.2
theorem qf{step:σ->Option (σ⊕(X⊕V))}{s0:σ}{F:X->Option α}{rs:V->α}{Z:V->Prop}(q b:List Nat)(J:X->St->St)(S:σ->St->St)(O:List HP)(K:∀q,r=rs q->Z q)(c:∀y,RD [] (F y) r (Gp P fn Q Bs true q (J y st)))(h:∀{B:St->Prop} {v:σ⊕(X⊕V)} (s:σ),(∀s',v= .inl s'->B (S s' st))->(∀y,v= .inr (.inl y)->Gp P fn Q Bs true q (J y st))->(∀q,v= .inr (.inr q)->Z q)->RD [] (step s) v (Gp P fn Q (Bs++[B]) false b (S s st)))(vs:List TypeId:=[])(ρ:List (Nat×Nat):=[])(kd:List (Nat×Rk):=[])(k:Yy P fn Bs m p b A O vs ρ kd (S s0 st) st:=by exact⟨⟨aH,aH⟩,λ_=>aH⟩):RD A ((bo step s0).bind λx=>ma x F λq=>some (rs q)) r (Gp P fn Q Bs m p st):=λh0=>by
 obtain⟨x,e1,h1⟩:=bS h0;refine pN (λs=>S s st) b e1 A O (λB s v hv h5 h4=>h s h5 (λy hy=>?_) (λz hz=>?_) hv) vs ρ kd k.1 k.2
 .have:=h4 _ hy;subst this;exact c y h1
 .have:=h4 _ hz;subst this;exact K z (cP h1).symm
def aaz(P:Program)(fn:Func)(Bs Bs':List (St->Prop))(m:Bool)(p q:List Nat)(A O:List HP)(vs:List TypeId)(ρ:List (Nat×Nat))(kd:List (Nat×Rk))(J st:St):Prop:=(B5 A (Xm P (bK A) (qu m p (ai fn)) (Wm fn Bs Bs' p q) vs ρ kd J st) (pR O,J))/\Wm fn Bs Bs' p q++bE q (ai fn) Bs' []=bE p (ai fn) Bs []
theorem aA{J:β->St}{t:β}(c:β->α)(d:∀y,r=c y->Gp P fn Q Bs' true q (J y))(O:List HP)(vs:List TypeId:=[])(ρ:List (Nat×Nat):=[])(kd:List (Nat×Rk):=[])(h:aaz P fn Bs Bs' m p q A O vs ρ kd (J t) st:=by exact⟨⟨aH,aH⟩,aH⟩):RD A (some (c t)) r (Gp P fn Q Bs m p st):=λh0=>yl q A O (by grind) vs ρ kd h.1 h.2
def aaA(P:Program)(fn:Func)(Bs:List (St->Prop))(m:Bool)(p:List Nat)(A O:List HP)(vs:List TypeId)(ρ:List (Nat×Nat))(kd:List (Nat×Rk))(B:St->Prop)(J st:St):Prop:=B5 A (Xn P (bK A) (qu m p (ai fn)) (bE p (ai fn) Bs []) vs ρ kd J st) (pR O,J,B)
theorem cj{B:St->Prop}{J:β->St}{t:β}{r:β⊕α}(k5:∀s',r= .inl s'->B (J s'))(O:List HP)(vs:List TypeId:=[])(ρ:List (Nat×Nat):=[])(kd:List (Nat×Rk):=[])(h:aaA P fn Bs m p A O vs ρ kd B (J t) st:=by exact⟨aH,aH⟩):RD A (some (.inl t)) r (Gp P fn Q Bs m p st):=λh0=>jw A O (by grind) vs ρ kd h
def aaB(P:Program)(fn:Func)(Bs:List (St->Prop))(m:Bool)(p:List Nat)(A O:List HP)(g:G)(st:St):Prop:=B5 A (Xo P (bK A) (qu m p (ai fn)) (bE p (ai fn) Bs []) fn g st) (pR O,g)
theorem aP{g:β->G}{a:β}(c:β->α)(K:∀a,r=c a->Q=tH P fn (g a))(O:List HP)(h:aaB P fn Bs m p A O (g a) st:=by exact⟨aH,aH⟩):RD A (some (c a)) r (Gp P fn Q Bs m p st):=λh0=>by rw[K a (by grind)];exact Ar A O h
def aaC(P:Program)(fn:Func)(Bs:List (St->Prop))(m:Bool)(p:List Nat)(A:List HP)(t:TypeId)(l:List G)(c:Nat)(st:St):Prop:=B5 A (Xp P (bK A) (qu m p (ai fn)) (bE p (ai fn) Bs []) fn t st) (∀g∈l,bB g,c,l)
theorem mr{f:β->List G}{a:List β}(c:List β->α)(K:∀a,r=c a->Q=zE P fn (.rsl 0 0 a.length) [(0,some ⟨t,a.flatMap f,none⟩)])(hi:∀g∈a.flatMap f,bB g)(d:Nat:=a.length)(hn:d=a.length:=by rfl)(h:aaC P fn Bs m p A t (a.flatMap f) d st:=by exact⟨aH,aH⟩):RD A (some (c a)) r (Gp P fn Q Bs m p st):=λh0=>by rw[K a (by grind)];exact EI A hi d hn h
def aaD(P:Program)(fn:Func)(Bs:List (St->Prop))(m:Bool)(p:List Nat)(A O:List HP)(ρ:List (Nat×Nat))(kd:List (Nat×Rk))(g:G)(σ1:aQ)(st:St):Prop:=B5 A (Xq P (bK A) (qu m p (ai fn)) (bE p (ai fn) Bs []) fn ρ kd g σ1 st) (pR O,g,σ1)
theorem rdU{g:β->G}{σ1:β->aQ}{a:β}(c:β->α)(K:∀a,r=c a->Q=zE P fn (g a) (σ1 a))(O:List HP)(ρ:List (Nat×Nat))(kd:List (Nat×Rk))(h:aaD P fn Bs m p A O ρ kd (g a) (σ1 a) st:=by exact⟨aH,aH⟩):RD A (some (c a)) r (Gp P fn Q Bs m p st):=λh0=>by rw[K a (by grind)];exact ZT A O ρ kd h
end
section
variable {P:Program} {ts te:TypeId} {k:Nat} {α:Type} {f:α->List G}
theorem RowTy.fdY(R:RowTy P ts te k f){t:TypeId}(ha:fg P t=some false)(j:Nat){g:α->G}(hg:∀x,(f x)[j]?=some (g x):=by intro _;rfl){l:List α}{i:Int}{x:α}(h:aS l i=some x):dN P t (l.flatMap f) (i.toNat*k+j)=some (g x):=R.fdZ ha j h (hg x)
theorem RowTy.fd0Y(R:RowTy P ts te k f){t:TypeId}(ha:fg P t=some false)(j:Nat){g:α->G}(hg:∀x,(f x)[j]?=some (g x):=by intro _;rfl){l:List α}{i:Int}{x:α}(h:aS l i=some x):dN P t (l.flatMap f) (0+i.toNat*k+j)=some (g x):=R.fd0Z ha j h (hg x)
theorem RowTy.p1Y(R:RowTy P ts te 1 f)(ha:fg P te=some false){g:α->G}(hg:∀x,f x=[g x]:=by intro _;rfl){l:List α}{i:Int}{x:α}(h:aS l i=some x):dN P te (l.flatMap f) (i.toNat*1)=some (g x):=R.p1Z ha h (hg x)
theorem RowTy.p10Y(R:RowTy P ts te 1 f)(ha:fg P te=some false){g:α->G}(hg:∀x,f x=[g x]:=by intro _;rfl){l:List α}{i:Int}{x:α}(h:aS l i=some x):dN P te (l.flatMap f) (0+i.toNat*1)=some (g x):=R.p10Z ha h (hg x)
theorem RowTy.fo(R:RowTy P ts te k f){gl:List (Nat×List G)}{fid:FuncId}{gs:List G}{l:List α}(h:iV P gl fid gs te l.length (l.flatMap f)):ba P gl fid gs (aE f l):=h.fn R.sz (R.len _) (R.imm _)
abbrev fx(R:RowTy P ts te k f)(l:List α):List HP:=[hc (el l),hc (R.imm l)]
end
section
variable {P:Program} {α β:Type} {A:List HP} {e:Option β} {F:β->Option α} {r:α} {Y:Prop}
theorem iZ(H:∀{y},e=some y->HP)(k:∀y {h:e=some y},RD (H h::A) (F y) r Y):RD A (e.bind F) r Y:=ak λy h=>k y (h:=h)
theorem dI(d:Nat){gl:List (Nat×List G)}{g:β->G}(H:eP P gl e f gs g)(k:∀y {h:e=some y},RD (hf d (H h)::A) (F y) r Y):RD A (e.bind F) r Y:=ak λy h=>k y (h:=h)
theorem mH(d:Nat){te:TypeId}{k:Nat}{δ:Type}{c:δ->List G}{e:Option (List δ)}{F:List δ->Option α}{gl:List (Nat×List G)}{gs:List G}(R:RowTy P ts te k c)(H:rX P gl e f gs te c)(kk:∀y {h:e=some y},RD (hf d (R.fo (H h))::A) (F y) r Y):RD A (e.bind F) r Y:=ak λy h=>kk y (h:=h)
theorem rdv(d:Nat){X:β->Option G}{g:β->G}(H:∀{y},e=some y->X y=some (g y))(k:∀y {h:e=some y},RD (bR d (H h)::A) (F y) r Y):RD A (e.bind F) r Y:=ak λy h=>k y (h:=h)
theorem dV(d:Nat){X:β->Option G}{g:β->G}(H:∀{y},e=some y->X y=some (g y))(c:Nat){X':β->Option G}{g':β->G}(H':∀{y},e=some y->X' y=some (g' y))(k:∀y {h:e=some y},RD (bR d (H h)::bR c (H' h)::A) (F y) r Y):RD A (e.bind F) r Y:=ak λy h=>k y (h:=h)
variable [M:Mix P] {fn:Func} {Q:Exit->St->Prop} {Bs Bs':List (St->Prop)} {m:Bool} {p:List Nat} {st:St}
theorem rv{g:α->G}{a:α}(K:∀a,r=a->Q=tH P fn (g a))(h:aaB P fn Bs m p A [] (g a) st:=by exact⟨aH,aH⟩):RD A (some a) r (Gp P fn Q Bs m p st):=aP c0 K [] h
theorem rx{J:α->St}{t:α}(c:∀y,r=y->Gp P fn Q Bs' true q (J y))(h:aaz P fn Bs Bs' m p q A [] [] [] [] (J t) st:=by exact⟨⟨aH,aH⟩,aH⟩):RD A (some t) r (Gp P fn Q Bs m p st):=aA c0 c [] [] [] [] h
theorem rb{B:St->Prop}{J:β->St}{t:β}{r:β⊕α}(k5:∀s',r= .inl s'->B (J s'))(h:aaA P fn Bs m p A [] [] [] [] B (J t) st:=by exact⟨aH,aH⟩):RD A (some (.inl t)) r (Gp P fn Q Bs m p st):=cj k5 [] [] [] [] h
section
variable {a b:Option α} {e:Option Bool}
theorem tl(q:List Nat)(S:St->St)(O:List HP)(d:Nat)(k1:RD [] a r (Gp P fn Q Bs true q (sf [] [(d,bG true)] (S st))))(k2:RD [] b r (Gp P fn Q Bs true q (sf [] [(d,bG false)] (S st))))(h:∀{y},(∀z,y=z->Gp P fn Q Bs true q (sf [] [(d,bG z)] (S st)))->RD [] e y (Gp P fn Q Bs false q (S st)))(vs:List TypeId:=[])(ρ:List (Nat×Nat):=[])(kd:List (Nat×Rk):=[])(c:aay P fn Bs m p q A O vs ρ kd (S st) st:=by exact⟨aH,aH⟩):RD A (e.bind λj=>bif j then a else b) r (Gp P fn Q Bs m p st):=cN q S O (cC q (λj=>sf [] [(d,bG j)]) (fun|true=>k1|false=>k2) λ_ k=>h k) vs ρ kd c
theorem MY(q:List Nat)(S:St->St)(O:List HP)(d:Nat)(k1:RD [] a r (Gp P fn Q Bs true q (sk [] [(d,bG true)] [] 0 (S st))))(k2:RD [] b r (Gp P fn Q Bs true q (sk [] [(d,bG false)] [] 0 (S st))))(h:∀{y},(∀z,y=z->Gp P fn Q Bs true q (sk [] [(d,bG z)] [] 0 (S st)))->RD [] e y (Gp P fn Q Bs false q (S st)))(vs:List TypeId:=[])(ρ:List (Nat×Nat):=[])(kd:List (Nat×Rk):=[])(c:aay P fn Bs m p q A O vs ρ kd (S st) st:=by exact⟨aH,aH⟩):RD A (e.bind λj=>bif j then a else b) r (Gp P fn Q Bs m p st):=cN q S O (cC q (λj=>sk [] [(d,bG j)] [] 0) (fun|true=>k1|false=>k2) λ_ k=>h k) vs ρ kd c
end
variable {σ X V:Type}
theorem lS{step:σ->Option (σ⊕β)}{s0:σ}{F:β->Option α}(q:List Nat)(J:β->St->St)(S:σ->St->St)(O:List HP)(c:∀y,RD [] (F y) r (Gp P fn Q Bs true q (J y st)))(h:∀{B:St->Prop} {v:σ⊕β} (s:σ),(∀s',v= .inl s'->B (S s' st))->(∀y,v= .inr y->Gp P fn Q Bs true q (J y st))->RD [] (step s) v (Gp P fn Q (Bs++[B]) false (q++[2,2]) (S s st)))(vs:List TypeId:=[])(ρ:List (Nat×Nat):=[])(kd:List (Nat×Rk):=[])(k:Yy P fn Bs m p (q++[2,2]) A O vs ρ kd (S s0 st) st:=by exact⟨⟨aH,aH⟩,λ_=>aH⟩):RD A ((bo step s0).bind F) r (Gp P fn Q Bs m p st):=rdL q (q++[2,2]) J S O c h vs ρ kd k
theorem uy{step:σ->Option (σ⊕(X⊕V))}{s0:σ}{F:X->Option α}{rs:V->α}{Z:V->Prop}(q:List Nat)(J:X->St->St)(S:σ->St->St)(O:List HP)(K:∀q,r=rs q->Z q)(c:∀y,RD [] (F y) r (Gp P fn Q Bs true q (J y st)))(h:∀{B:St->Prop} {v:σ⊕(X⊕V)} (s:σ),(∀s',v= .inl s'->B (S s' st))->(∀y,v= .inr (.inl y)->Gp P fn Q Bs true q (J y st))->(∀q,v= .inr (.inr q)->Z q)->RD [] (step s) v (Gp P fn Q (Bs++[B]) false (q++[2,2]) (S s st)))(vs:List TypeId:=[])(ρ:List (Nat×Nat):=[])(kd:List (Nat×Rk):=[])(k:Yy P fn Bs m p (q++[2,2]) A O vs ρ kd (S s0 st) st:=by exact⟨⟨aH,aH⟩,λ_=>aH⟩):RD A ((bo step s0).bind λx=>ma x F λq=>some (rs q)) r (Gp P fn Q Bs m p st):=qf q (q++[2,2]) J S O K c h vs ρ kd k
end
end
instance:Mix prog:=⟨aH⟩
def cZ(x:Int):List G:=[iG x]
theorem tZ:fg prog 3=some false:=aH
def cW(x:Nat):List G:=[uG x]
theorem tW:fg prog 34=some false:=aH
structure DIdent where
 By:Int
 Seq:Int
 Sum:Nat
 deriving DecidableEq
def aj(x:DIdent):List G:=[iG x.By,iG x.Seq,uG x.Sum]
theorem aW:fg prog 36=some true:=aH
theorem jz:bw prog 36=some 3:=aH
structure DTerm where
 Kind:Int
 Of:DIdent
 N:Int
 M:Int
 deriving DecidableEq
def cO(x:Bool):List G:=[bG x]
theorem tO:fg prog 4=some false:=aH
structure D23K where
 Lead:Bool
 Of:DIdent
 N:Int
 Private:Nat
 deriving DecidableEq
structure D23H where
 Device:Int
 L:List D23K
def cY(x:UInt8):List G:=[gY x]
theorem tY:fg prog 5=some false:=aH
theorem rY:RowTy prog 37 5 1 cY:=⟨aH,aH,dL,λ_=>rfl,λ_=>rfl⟩
theorem lY(l:List UInt8):∀g∈l.flatMap cY,∃v,g= .lit v:=Gj (λx g hg=>by simp only[cY,List.mem_cons,List.not_mem_nil,or_false] at hg;rcases hg with rfl<;>exact⟨_,rfl⟩) l
theorem rZ:RowTy prog 22 3 1 cZ:=⟨aH,aH,dL,λ_=>rfl,λ_=>rfl⟩
theorem lZ(l:List Int):∀g∈l.flatMap cZ,∃v,g= .lit v:=Gj (λx g hg=>by simp only[cZ,List.mem_cons,List.not_mem_nil,or_false] at hg;rcases hg with rfl<;>exact⟨_,rfl⟩) l
structure DCard where
 Device:Int
 Member:Int
 Lead:Nat
 Keep:Nat
 Sign:Nat
 deriving DecidableEq
def bv(x:DCard):List G:=[iG x.Device,iG x.Member,uG x.Lead,uG x.Keep,uG x.Sign]
theorem E2:fg prog 106=some true:=aH
theorem Pb:fg prog 26=some false:=aH
structure DBox where
 To:Nat
 Eph:Nat
 Body:Nat
 Tag:Nat
 deriving DecidableEq
def cz(x:DBox):List G:=[uG x.To,uG x.Eph,uG x.Body,uG x.Tag]
theorem UL:fg prog 209=some true:=aH
theorem E3:fg prog 39=some false:=aH
structure DNode where
 Pub:Nat
 Boxes:List DBox
def bY(x:DNode):List G:=[uG x.Pub,aE cz x.Boxes]
theorem Pc:fg prog 96=some true:=aH
theorem tLY:fg prog 37=some false:=aH
def Jc(x:List Int):List G:=[aE cZ x]
theorem Vs:fg prog 22=some false:=aH
structure DSealed where
 Of:DIdent
 Body:List UInt8
def bp(x:DSealed):List G:=[iG x.Of.By,iG x.Of.Seq,uG x.Of.Sum,aE cY x.Body]
theorem GM:fg prog 238=some true:=aH
structure DSig where
 R:Nat
 S:Nat
 deriving DecidableEq
def yy(x:DSig):List G:=[uG x.R,uG x.S]
structure DOp where
 By:Int
 Seq:Int
 Kind:Int
 At:Int
 Past:List DIdent
 Device:Int
 Old:Int
 Member:Int
 Role:Int
 Path:List DNode
 Epoch:DIdent
 N:Int
 Body:List UInt8
 Refs:List Nat
 Of:DIdent
 Guards:List Int
 Need:Int
 Wait:Int
 Boxes:List DBox
 Pub:Nat
 Hist:List DSealed
 Sig:DSig
def aJ(x:DOp):List G:=[iG x.By,iG x.Seq,iG x.Kind,iG x.At,aE aj x.Past,iG x.Device,iG x.Old,iG x.Member,iG x.Role,aE bY x.Path,iG x.Epoch.By,iG x.Epoch.Seq,uG x.Epoch.Sum,iG x.N,aE cY x.Body,aE cW x.Refs,iG x.Of.By,iG x.Of.Seq,uG x.Of.Sum,aE cZ x.Guards,iG x.Need,iG x.Wait,aE cz x.Boxes,uG x.Pub,aE bp x.Hist,uG x.Sig.R,uG x.Sig.S]
theorem GN:fg prog 44=some true:=aH
def OT(x:List Bool):List G:=[aE cO x]
theorem Vt:fg prog 164=some false:=aH
structure D12G where
 Cards:List DCard
 L:List DOp
 IDs:List DIdent
 Up:List (List Int)
 In:List (List Bool)
def aI(x:D12G):List G:=[aE bv x.Cards,aE aJ x.L,aE aj x.IDs,aE Jc x.Up,aE OT x.In]
theorem bT:RowTy prog 24 106 5 bv:=⟨aH,aH,dL,λ_=>rfl,λ_=>rfl⟩
theorem eJ:RowTy prog 25 44 27 aJ:=⟨aH,aH,dL,λ_=>rfl,λ_=>rfl⟩
theorem ac:RowTy prog 26 36 3 aj:=⟨aH,aH,dL,λ_=>rfl,λ_=>rfl⟩
theorem kF(l:List DIdent):∀g∈l.flatMap aj,∃v,g= .lit v:=Gj (λx g hg=>by simp only[aj,List.mem_cons,List.not_mem_nil,or_false] at hg;rcases hg with rfl|rfl|rfl<;>exact⟨_,rfl⟩) l
theorem bZ:RowTy prog 33 96 2 bY:=⟨aH,aH,dL,λ_=>rfl,λ_=>rfl⟩
theorem f9:RowTy prog 39 209 4 cz:=⟨aH,aH,dL,λ_=>rfl,λ_=>rfl⟩
theorem rW:RowTy prog 38 34 1 cW:=⟨aH,aH,dL,λ_=>rfl,λ_=>rfl⟩
theorem lW(l:List Nat):∀g∈l.flatMap cW,∃v,g= .lit v:=Gj (λx g hg=>by simp only[cW,List.mem_cons,List.not_mem_nil,or_false] at hg;rcases hg with rfl<;>exact⟨_,rfl⟩) l
theorem bH:RowTy prog 40 238 4 bp:=⟨aH,aH,dL,λ_=>rfl,λ_=>rfl⟩
theorem nH:RowTy prog 27 22 1 Jc:=⟨aH,aH,dL,λ_=>rfl,λ_=>rfl⟩
theorem zV:RowTy prog 28 164 1 OT:=⟨aH,aH,dL,λ_=>rfl,λ_=>rfl⟩
theorem rO:RowTy prog 164 4 1 cO:=⟨aH,aH,dL,λ_=>rfl,λ_=>rfl⟩
theorem lO(l:List Bool):∀g∈l.flatMap cO,∃v,g= .lit v:=Gj (λx g hg=>by simp only[cO,List.mem_cons,List.not_mem_nil,or_false] at hg;rcases hg with rfl<;>exact⟨_,rfl⟩) l
structure D23Act where
 At:Int
 N:Int
 Private:Nat
 deriving DecidableEq
structure D15M where
 N:Int
 Role:Int
 Is:Bool
 ID:DIdent
 Guards:List Int
 Need:Int
 Wait:Int
 Objected:Bool
 Last:Int
def jG(x:D15M):List G:=[iG x.N,iG x.Role,bG x.Is,iG x.ID.By,iG x.ID.Seq,uG x.ID.Sum,aE cZ x.Guards,iG x.Need,iG x.Wait,bG x.Objected,iG x.Last]
theorem LG:fg prog 173=some true:=aH
structure D15V where
 Of:DIdent
 By:Int
 Device:Int
 At:Int
 deriving DecidableEq
def nJ(x:D15V):List G:=[iG x.Of.By,iG x.Of.Seq,uG x.Of.Sum,iG x.By,iG x.Device,iG x.At]
theorem Pd:fg prog 259=some true:=aH
structure D15R where
 Cards:List DCard
 In:List Int
 Gone:List Int
 L:List D15M
 Back:Int
 V:List D15V
def aU(x:D15R):List G:=[aE bv x.Cards,aE cZ x.In,aE cZ x.Gone,aE jG x.L,iG x.Back,aE nJ x.V]
theorem bI:RowTy prog 83 173 11 jG:=⟨aH,aH,dL,λ_=>rfl,λ_=>rfl⟩
theorem bV:RowTy prog 84 259 6 nJ:=⟨aH,aH,dL,λ_=>rfl,λ_=>rfl⟩
structure D16L where
 Row:List Int
 Void:List Bool
 Fork:List Bool
 Decided:List Bool
def fU(x:D16L):List G:=[aE cZ x.Row,aE cO x.Void,aE cO x.Fork,aE cO x.Decided]
theorem E4(l:List UInt8):l.flatMap cY=l.map gY:=by
 induction l with
 |nil=>rfl
 |cons x r ih=>rw[List.flatMap_cons,ih];rfl
theorem aaf(s:List UInt8):nu prog 9=true/\G.lit (.int .i64 ((⟨s.toArray⟩:ByteArray).size:Int))=iG (ah s):=⟨aH,rfl⟩
def hL(d:Nat)(s:List UInt8):HP:=⟨some (.v d (iG (ah s))),nu prog 9=true/\G.lit (.int .i64 ((⟨s.toArray⟩:ByteArray).size:Int))=iG (ah s),aaf s⟩
theorem Vu{s t:List UInt8}(h:Gk s=some t):iQ prog [] 9 37 (sG s)=some (aE cY t):=by
 unfold Gk at h;split at h
 .rename_i hl;cases h;have e1:dp prog 37=some 5:=aH;have e2:xR prog 5=some .u8:=aH;have e3:nu prog 9=true:=aH;unfold iQ;simp only[e1,e2,e3,Bool.true_and];rw[Nat.ble_eq_true_of_le (by simpa using hl)];simp only[aN,Kb,aE,E4]
 .cases h
def hcB(d:Nat){s t:List UInt8}(h:Gk s=some t):HP:=⟨some (.c d (aE cY t)),iQ prog [] 9 37 (sG s)=some (aE cY t),Vu h⟩
theorem xl:∀l:List UInt8,A5 (l.map gY)=some l
 |[]=>rfl
 |x::r=>by have h:=x.toNat_lt;simp only[List.map_cons,gY,A5];rw[if_pos aa,xl r];simp
theorem aag(l:List UInt8):iQ prog [] 37 9 (aE cY l)=some (sG l):=by have e1:dp prog 37=some 5:=aH;have e2:xR prog 5=some .u8:=aH;have e3:nu prog 9=true:=aH;unfold iQ;simp only[aE,e1,e2,fO,E4,List.length_map,Nat.mul_one,if_true,xl,e3,Bool.true_and,Nat.beq_refl,aN]
def XY(d:Nat)(l:List UInt8):HP:=⟨some (.c d (sG l)),iQ prog [] 37 9 (aE cY l)=some (sG l),aag l⟩
def XZ(d:Nat){l s y:List UInt8}(h:aT 1 l s=some y):HP:=ha d (y.flatMap cY) y.length (p:=(l.flatMap cY).length=l.length*1/\l.length+s.length<=140737488355328/\l.flatMap cY++s.map gY=y.flatMap cY/\l.length+s.length=y.length) (by obtain⟨h1,rfl⟩:=jx h;exact⟨rY.len l,aa,by rw[List.flatMap_append,E4 s],List.length_append.symm⟩)
def Pe(x:DIdent):List Value:=[.int .i64 x.By,.int .i64 x.Seq,.int .u64 (x.Sum:Int)]
theorem Pf(d:Nat)(i j:DIdent):bt prog (Op.equalIn (d+3) 36 (.agg (Pe i).toArray) (.agg (Pe j).toArray))=some (decide (i=j)):=by
 obtain⟨a,b,c⟩:=i;obtain⟨x,y,z⟩:=j;rw[xV (fs:= #[⟨ "By",3,0,false, "", "",0⟩,⟨ "Seq",3,1,false, "", "",8⟩,⟨ "Sum",34,2,false, "", "",16⟩]) aH aH];simp only[Array.toList];rw[uJ (k:= .i64) (k':= .i64) (a:=a) (b:=x) dL aH aH aH];rw[uJ (k:= .i64) (k':= .i64) (a:=b) (b:=y) dL aH aH aH];rw[uJ (k:= .u64) (k':= .u64) (a:=(c:Int)) (b:=(z:Int)) dL aH aH aH];simp only[DIdent.mk.injEq];by_cases h1:a=x
 .by_cases h2:b=y
  .by_cases h3:c=z
   .simp[h1,h2,h3,Op.eqFields,bz]
   .have:¬((c:Int)=(z:Int)):=aa;simp[h1,h2,h3,this]
  .simp[h1,h2]
 .simp[h1]
theorem dU(i j:DIdent){r:Bool}(h:decide (i=j)=r):∀p q:Operand,b8 prog .eql 36 p q (.agg (aj i)) (.agg (aj j))=some (bG r):=λp q=>by subst h;exact Eo (us:=Pe i) (vs:=Pe j) aH aH aH (Pf 9997 i j)
theorem dy(i j:DIdent){r:Bool}(h:(!decide (i=j))=r):∀p q:Operand,b8 prog .neq 36 p q (.agg (aj i)) (.agg (aj j))=some (bG r):=λp q=>by subst h;exact Cb (us:=Pe i) (vs:=Pe j) aH aH aH (Pf 9997 i j)
abbrev ip:DOp:=⟨0,0,0,0,[],0,0,0,0,[],⟨0,0,0⟩,0,[],[],⟨0,0,0⟩,[],0,0,[],0,[],⟨0,0⟩⟩
abbrev xm:D12G:=⟨[],[],[],[],[]⟩
abbrev eY:D15R:=⟨[],[],[],[],0,[]⟩
abbrev AC:D16L:=⟨[],[],[],[]⟩
structure FM (K V:Type) where
 es:List (K×V×Nat)
 clk:Nat
def FM.get{K V:Type}[DecidableEq K](m:FM K V)(k:K):Option V:=(m.es.find? λe=>decide (e.1=k)).map (·.2.1)
def npG{α:Type}(c:α->List G):Option α->G
 |none=> .lit (.pointer none)
 |some x=> .ptr (c x) 0
def FM.g{K V:Type}(kv:K->Value)(vg:V->G)(m:FM K V):G:= .mp (m.es.map λe=>kv e.1) (m.es.map λe=>vg e.2.1) (m.es.map (·.2.2)) m.clk
def bu{K:Type}[DecidableEq K](k:K):List K->Option Nat
 |[]=>none
 |x::r=>if k=x then some 0 else(bu k r).map (·+1)
structure KeyTy (P:Program) (kt:TypeId) {K:Type} [DecidableEq K] (kv:K->Value):Prop where
 chk:∀b k,rB P b kt (kv k)=true
 key:∀(k:K) (ks:List K),B7 P kt (kv k) (ks.map kv)=some (bu k ks)
section
variable {P:Program} {K:Type} [DecidableEq K] {kt:TypeId} {kv:K->Value}
theorem KI{d:TypeDesc}(h:∀a b,Instr.sameNow d (kv a) (kv b)=some (decide (a=b)))(k:K):∀(ks:List K) (n:Nat),B6 d (kv k) (ks.map kv) n=some ((bu k ks).map (n+·))
 |[],n=>rfl
 |x::r,n=>by
  rw[List.map_cons,B6,h,bu];by_cases e:k=x
  .rw[decide_eq_true e,if_pos e];rfl
  .rw[decide_eq_false e,if_neg e];simp only[];rw[KI h k r (n+1)];cases bu k r<;>grind
theorem Ib(h:∀a b,bt P (Op.equal kt (kv a) (kv b))=some (decide (a=b)))(k:K):∀(ks:List K) (n:Nat),Kj P kt (kv k) (ks.map kv) n=some ((bu k ks).map (n+·))
 |[],n=>rfl
 |x::r,n=>by
  rw[List.map_cons,Kj,h,bu];by_cases e:k=x
  .rw[decide_eq_true e,if_pos e];rfl
  .rw[decide_eq_false e,if_neg e];simp only[];rw[Ib h k r (n+1)];cases bu k r<;>grind
theorem Qv{x:Option Nat}:x.map (0+·)=x:=by cases x<;>simp
theorem abT{d:TypeDesc}(hd:P.underlying kt=some d)(hc:∀b k,rB P b kt (kv k)=true)(h:∀a b,Instr.sameNow d (kv a) (kv b)=some (decide (a=b))):KeyTy P kt kv:=by grind [KeyTy,B7,KI,Qv]
theorem Qw{d:TypeDesc}(hd:P.underlying kt=some d)(hc:∀b k,rB P b kt (kv k)=true)(hn:∀a b,Instr.sameNow d (kv a) (kv b)=none)(h:∀a b,bt P (Op.equal kt (kv a) (kv b))=some (decide (a=b))):KeyTy P kt kv:=⟨hc,λk c=>by
 unfold B7;rw[hd];dsimp only;cases c with
 |nil=>rfl
 |cons x r=>grind [B6,Ib,Qv]⟩
variable {V:Type} {vg:V->G}
theorem fz(k:K):∀(es:List (K×V×Nat)),(bu k (es.map (·.1))=none/\es.find? (λe=>decide (e.1=k))=none)\/∃j e,bu k (es.map (·.1))=some j/\es[j]?=some e/\es.find? (λe=>decide (e.1=k))=some e
 |[]=> .inl ⟨rfl,rfl⟩
 |x::r=>by
  rw[List.map_cons,bu,List.find?_cons];by_cases h:k=x.1
  .grind
  .rw[if_neg h,decide_eq_false (Ne.symm h)];rcases fz k r with⟨h1,h2⟩|⟨j,e,h1,h2,h3⟩
   all_goals grind
theorem FM.look(KT:KeyTy P kt kv){t et:TypeId}{v0:V}(ht:pB P t=some (kt,et))(hz:((P.info? et).bind (·.zero)).map db=some (vg v0))(m:FM K V)(k:K){gk:G}(hk:cD gk=some (kv k)):
  ∀σ,bL P σ t true (m.g kv vg) gk=some (.tup [vg ((m.get k).getD v0),bG (m.get k).isSome]):=λσ=>by
 unfold bL FM.g
 rw[ht,hk]
 dsimp only
 have hm:(m.es.map λe=>kv e.1)=(m.es.map (·.1)).map kv:=by rw[List.map_map];rfl
 rw[KT.chk,aN,hm,KT.key]
 grind [get,fz,jH]
theorem FM.look1(KT:KeyTy P kt kv){t et:TypeId}{v0:V}(ht:pB P t=some (kt,et))(hz:((P.info? et).bind (·.zero)).map db=some (vg v0))(m:FM K V)(k:K){gk:G}(hk:cD gk=some (kv k)):
  ∀σ,bL P σ t false (m.g kv vg) gk=some (vg ((m.get k).getD v0)):=λσ=>by
 unfold bL FM.g
 rw[ht,hk]
 dsimp only
 have hm:(m.es.map λe=>kv e.1)=(m.es.map (·.1)).map kv:=by rw[List.map_map];rfl
 grind [KeyTy,get,fz]
end
def mJ(x:Int):Value:= .int .i64 x
theorem vO:KeyTy prog 3 mJ:=abT (d:= .int .i64) aH (λb k=>by cases b<;>(show _=_;kernel_rfl)) (by grind [Instr.sameNow,mJ])
def ga(x:DIdent):Value:= .agg (Pe x).toArray
theorem jt:KeyTy prog 36 ga:=by obtain⟨fs,hd⟩:∃fs,prog.underlying 36=some (.struct fs):=⟨#[⟨ "By",3,0,false, "", "",0⟩,⟨ "Seq",3,1,false, "", "",8⟩,⟨ "Sum",34,2,false, "", "",16⟩],aH⟩;exact Qw hd (λb k=>by cases b<;>(show _=_;kernel_rfl)) (λa b=>rfl) (λa b=>Pf 9997 a b)
def bD(a b:Nat):Nat:=a%18446744073709551616&&&b%18446744073709551616
def gM(a b:Nat):Nat:=a%18446744073709551616|||b%18446744073709551616
def Yn(a b:Int):Int:=IntKind.i64.wrap ((BitVec.ofInt IntKind.i64.bits a&&&BitVec.ofInt IntKind.i64.bits b).toNat:Nat)
def wH(a b:Int):Int:=IntKind.i64.wrap ((BitVec.ofInt IntKind.i64.bits a&&& ~~~BitVec.ofInt IntKind.i64.bits b).toNat:Nat)
def fv(a n:Nat):Nat:=a/2^min n 64
def lB(a n:Nat):Nat:=a*2^min n 64%18446744073709551616
def Tf(a:Int)(n:Nat):Int:=a.fdiv (2^min n 64)
def wJ(i:Int):Option Nat:=if i<0 then none else some i.toNat
section
variable {P:Program} {t:TypeId}
theorem Ml:b8 P .and t x y (.lit (.int k a)) (.lit (.int k b))=some (.lit (.int k (k.wrap ((BitVec.ofInt k.bits a&&&BitVec.ofInt k.bits b).toNat:Nat)))):=by simp[b8,cD,eqGuard,binOp,Op.intBits,bz,db]
theorem V7:b8 P .or t x y (.lit (.int k a)) (.lit (.int k b))=some (.lit (.int k (k.wrap ((BitVec.ofInt k.bits a|||BitVec.ofInt k.bits b).toNat:Nat)))):=by simp[b8,cD,eqGuard,binOp,Op.intBits,bz,db]
theorem Kr:b8 P .andNot t x y (.lit (.int k a)) (.lit (.int k b))=some (.lit (.int k (k.wrap ((BitVec.ofInt k.bits a&&& ~~~BitVec.ofInt k.bits b).toNat:Nat)))):=by simp[b8,cD,eqGuard,binOp,Op.intBits,bz,db]
theorem Mm(n:Nat):b8 P .shr t x y (.lit (.int k a)) (.lit (.int k' (n:Int)))=some (.lit (.int k (a.fdiv (2^min n k.bits)))):=by have h1:¬((n:Int)<0):=aa;simp[b8,cD,eqGuard,binOp,Op.shift,db,if_neg h1];exact⟨_,rfl,rfl⟩
theorem Tg(n:Nat):b8 P .shl t x y (.lit (.int k a)) (.lit (.int k' (n:Int)))=some (.lit (.int k (k.wrap (a*2^min n k.bits)))):=by have h1:¬((n:Int)<0):=aa;simp[b8,cD,eqGuard,binOp,Op.shift,db,if_neg h1];exact⟨_,rfl,rfl⟩
theorem UV(n:Nat)(h:n<18446744073709551616):IntKind.u64.wrap (n:Int)=(n:Int):=by rw[IntKind.wrap_u64];omega
theorem ju(a b:Nat):∀p q:Operand,b8 P .and t p q (uG a) (uG b)=some (uG (bD a b)):=λp q=>by
 show b8 P .and t p q (.lit (.int .u64 (a:Int))) (.lit (.int .u64 (b:Int)))=_;rw[Ml];have e:(BitVec.ofInt IntKind.u64.bits (a:Int)&&&BitVec.ofInt IntKind.u64.bits (b:Int)).toNat=bD a b:=by show(BitVec.ofInt 64 (a:Int)&&&BitVec.ofInt 64 (b:Int)).toNat=_;rw[BitVec.ofInt_natCast,BitVec.ofInt_natCast,BitVec.toNat_and,BitVec.toNat_ofNat,BitVec.toNat_ofNat];rfl
 rw[e,UV _ ?_];exact Nat.and_lt_two_pow (n:=64) _ (Nat.mod_lt _ dL)
theorem jc(a b:Nat):∀p q:Operand,b8 P .or t p q (uG a) (uG b)=some (uG (gM a b)):=λp q=>by
 show b8 P .or t p q (.lit (.int .u64 (a:Int))) (.lit (.int .u64 (b:Int)))=_;rw[V7];have e:(BitVec.ofInt IntKind.u64.bits (a:Int)|||BitVec.ofInt IntKind.u64.bits (b:Int)).toNat=gM a b:=by show(BitVec.ofInt 64 (a:Int)|||BitVec.ofInt 64 (b:Int)).toNat=_;rw[BitVec.ofInt_natCast,BitVec.ofInt_natCast,BitVec.toNat_or,BitVec.toNat_ofNat,BitVec.toNat_ofNat];rfl
 rw[e,UV _ ?_];exact Nat.or_lt_two_pow (n:=64) (Nat.mod_lt _ dL) (Nat.mod_lt _ dL)
theorem V8(a b:Int):∀p q:Operand,b8 P .and t p q (iG a) (iG b)=some (iG (Yn a b)):=λp q=>Ml
theorem NW(a b:Int):∀p q:Operand,b8 P .andNot t p q (iG a) (iG b)=some (iG (wH a b)):=λp q=>Kr
theorem rH{k':IntKind}(a n:Nat):∀p q:Operand,b8 P .shr t p q (uG a) (.lit (.int k' (n:Int)))=some (uG (fv a n)):=by grind [Mm,IntKind.bits,fv]
theorem Ks{k':IntKind}(a n:Nat):∀p q:Operand,b8 P .shl t p q (uG a) (.lit (.int k' (n:Int)))=some (uG (lB a n)):=by grind [Tg,IntKind.bits,lB,IntKind.wrap_u64]
theorem V9{k':IntKind}(a:Int)(n:Nat):∀p q:Operand,b8 P .shr t p q (iG a) (.lit (.int k' (n:Int)))=some (iG (Tf a n)):=λp q=>Mm n
theorem Et(h:wJ i=some n):i=(n:Int):=by grind [wJ]
end
theorem Am{P:Program}{t:TypeId}(a:Nat)(h:wJ i=some n):∀p q:Operand,b8 P .shr t p q (uG a) (iG i)=some (uG (fv a n)):=by rw[Et h];exact rH a n
theorem sM{P:Program}{t:TypeId}(a:Nat)(h:wJ i=some n):∀p q:Operand,b8 P .shl t p q (uG a) (iG i)=some (uG (lB a n)):=by rw[Et h];exact Ks a n
theorem RowTy.isNil{P:Program}{ts te:TypeId}{k:Nat}{α:Type}{f:α->List G}(R:RowTy P ts te k f){l:List α}(h:l.flatMap f=[]):l=[]:=by
 have h1:=R.len l;rw[h] at h1;have h2:=R.kp;cases l with
 |nil=>rfl
 |cons x r=>grind [RowTy]
theorem mV{b:Nat}{r:List α}(h:aT b [] []=some r):r=[]:=by grind [aT]
section
variable {P:Program} {ta te:TypeId} {k:Nat} {α:Type} {f:α->List G}
structure ArrTy (P:Program) (ta te:TypeId) (n k:Nat):Prop where
 no:dp P ta=none
 ar:ND P ta=some (n,te)
 sz:bw P te=some k
theorem ArrTy.ix{n:Nat}(A:ArrTy P ta te n k){xs:List α}{L:List G}{i:Int}{x:α}(h:aS xs i=some x)(hl:xs.length=n):fh P ta (.ptr L 0) i=some (.ptr L (i.toNat*k)):=by obtain⟨h0,h1⟩:=jP h;have hlt:=(cr h1).1;unfold fh;grind [ArrTy,wo]
end
abbrev JR{K V:Type}(kv:K->Value)(vg:V->G)(m:FM K V):List (Value×G×Nat):=m.es.map λe=>(kv e.1,vg e.2.1,e.2.2)
abbrev sn{K V:Type}(t:TypeId)(kv:K->Value)(vg:V->G)(m:FM K V):Ob:=⟨t,[],some (.map (JR kv vg m) m.clk)⟩
def ee{K V:Type}[DecidableEq K](m:FM K V)(k:K)(p:V):FM K V:=match bu k (m.es.map (·.1)) with
 |none=>⟨m.es++[(k,p,m.clk)],m.clk+1⟩
 |some j=>⟨m.es.set j (k,p,(m.es[j]?.map (·.2.2)).getD 0),m.clk⟩
def zv{K V:Type}[DecidableEq K](m:FM K V)(k:K):FM K V:=match bu k (m.es.map (·.1)) with
 |none=>m
 |some j=>⟨m.es.eraseIdx j,m.clk⟩
structure FxOk {K V:Type} (m:FM K V):Prop where
 nd:(m.es.map (·.2.2)).Nodup
 lt:∀e∈m.es,e.2.2<m.clk
structure FxK {K V:Type} (m:FM K V):Prop extends FxOk m where
 kd:(m.es.map (·.1)).Nodup
theorem Ns{K:Type}[DecidableEq K]{k:K}:∀{l:List K} {j:Nat},bu k l=some j->l[j]?=some k
 |[],j,h=>by cases h
 |x::r,j,h=>by
  unfold bu at h;split at h
  .grind
  .rw[jH] at h;obtain⟨n,h,rfl⟩:=h;simpa using Ns h
theorem Bb{K:Type}[DecidableEq K]{k:K}:∀{l:List K},bu k l=none->k∉l
 |[],h=>aC
 |x::r,h=>by
  unfold bu at h;split at h
  .cases h
  .rename_i hne;rw[Option.map_eq_none_iff] at h;simp[hne,Bb h]
section
variable {P:Program} {K V:Type} [DecidableEq K] {kt et t t':TypeId} {kv:K->Value} {vg:V->G} {m:FM K V} {σ:aQ} {i:Nat} {k:K} {gk:G}
theorem vZ:(JR kv vg m).map (·.1)=(m.es.map (·.1)).map kv:=by rw[List.map_map,List.map_map];rfl
theorem xC(h:ag σ i=some (sn t' kv vg m)):pk σ (.mref i)=some (i,t',JR kv vg m,m.clk):=by unfold pk;simp only[h]
theorem Bc(KT:KeyTy P kt kv){ok:Bool}(ht:pB P t=some (kt,et))(hk:cD gk=some (kv k))(h:ag σ i=some (sn t' kv vg m)):bL P σ t ok (.mref i) gk=bL P σ t ok (m.g kv vg) gk:=by unfold bL FM.g;rw[ht,hk];dsimp only;rw[xC h];dsimp only;rw[show(m.es.map λe=>kv e.1)=(m.es.map (·.1)).map kv by rw[List.map_map];rfl,KT.chk,KT.chk,vZ,KT.key];grind
theorem Uz(KT:KeyTy P kt kv)(hs:∀k,Instr.sameBits 10000 (kv k) (kv k)=true)(ht:pB P t=some (kt,et))(hk:cD gk=some (kv k))(h:ag σ i=some (sn t' kv vg m))(p:V):dZ P σ t (.mref i) gk (vg p)=some (i,sn t' kv vg (ee m k p)):=by
 unfold dZ;rw[ht,hk,xC h];dsimp only;rw[KT.chk,aN,vZ,KT.key];unfold ee;cases hk:bu k (m.es.map (·.1)) with
 |none=>grind
 |some j=>have hj:=Ns hk;grind [List.map_set]
theorem I5{α β:Type}(f:α->β):∀(l:List α) (j:Nat),(l.eraseIdx j).map f=(l.map f).eraseIdx j
 |[],_=>rfl
 |x::r,0=>rfl
 |x::r,j+1=>by rw[List.eraseIdx_cons_succ,List.map_cons,List.map_cons,List.eraseIdx_cons_succ,I5 f r j]
theorem aeu(KT:KeyTy P kt kv)(ht:pB P t=some (kt,et))(hk:cD gk=some (kv k))(h:ag σ i=some (sn t' kv vg m)):FN P σ t (.mref i) gk=some (i,sn t' kv vg (zv m k)):=by unfold FN;rw[ht,hk,xC h];dsimp only;rw[KT.chk,aN,vZ,KT.key];grind [zv,I5]
def Za(m:FM K V)(k:K):Nat:=match bu k (m.es.map (·.1)) with
 |none=>m.clk
 |some j=>(m.es[j]?.map (·.2.2)).getD 0
theorem rh(h:bu k (m.es.map (·.1))=some j):∃e,m.es[j]?=some e/\e.1=k/\m.get k=some e.2.1:=by grind [FM.get,fz]
theorem Be(h:bu k (m.es.map (·.1))=none):m.get k=none:=by grind [FM.get,fz]
theorem acq(KT:KeyTy P kt kv)(hs:∀k,Instr.sameBits 10000 (kv k) (kv k)=true)(ht:pB P t=some (kt,et)){v0:V}(hz:((P.info? et).bind (·.zero)).map db=some (vg v0))(hk:cD gk=some (kv k))(h:ag σ i=some (sn t' kv vg m)):
  ov P σ t (.mref i) gk=some (i,sn t' kv vg (ee m k ((m.get k).getD v0)),.tup [vg ((m.get k).getD v0),iG (Za m k:Nat)]):=by
 unfold ov
 rw[ht,hk,xC h]
 dsimp only
 rw[KT.chk,aN,vZ,KT.key]
 unfold ee Za
 cases hk:bu k (m.es.map (·.1)) with
 |none=>
  grind [jH,Be]
 |some j=>
  obtain⟨e,he,rfl,hg⟩:=rh hk
  grind [List.map_set]
theorem EQ:∀{es:List (K×V×Nat)} {j:Nat} {e:K×V×Nat},(es.map (·.2.2)).Nodup->es[j]?=some e->(es.map λe=>(kv e.1,vg e.2.1,e.2.2)).findIdx? (λx=>(x.2.2:Int)==(e.2.2:Int))=some j
 |[],j,e,_,h=>by simp at h
 |x::r,0,e,_,h=>by grind
 |x::r,j+1,e,hd,h=>by
  rw[List.map_cons,List.nodup_cons] at hd;rw[List.getElem?_cons_succ] at h;have hne:x.2.2≠e.2.2:=by grind
  rw[List.map_cons,List.findIdx?_cons,if_neg cq,EQ hd.2 h];rfl
theorem acr(hm:FxOk m){v0:V}(h:ag σ i=some (sn t' kv vg (ee m k v0)))(v:V):jX σ (.mref i) (iG (Za m k:Nat)) (vg v)=some (i,sn t' kv vg (ee m k v)):=by
 unfold jX;rw[xC h];dsimp only;unfold ee Za at*;cases hk:bu k (m.es.map (·.1)) with
 |none=>
  dsimp only;have hx:(m.es++[(k,v0,m.clk)])[m.es.length]?=some (k,v0,m.clk):=aC;have:=EQ (kv:=kv) (vg:=vg) (es:=m.es++[(k,v0,m.clk)]) (by rw[List.map_append,List.nodup_append];grind [FxOk]) hx
  rw[this];dsimp only;rw[List.getElem?_map,hx,Option.map_some];dsimp only;rw[<-List.map_set (f:=λe:K×V×Nat=>(kv e.1,vg e.2.1,e.2.2)) (a:=(k,v,m.clk))];grind
 |some j=>
  obtain⟨e,he,rfl,hg⟩:=rh hk;have hlt:=(cr he).1;dsimp only;rw[he];simp only[Option.map_some,Option.getD_some];have hx:(m.es.set j (e.1,v0,e.2.2))[j]?=some (e.1,v0,e.2.2):=by simp[hlt]
  have hd:((m.es.set j (e.1,v0,e.2.2)).map (·.2.2)).Nodup:=by grind [List.map_set,FxOk.nd]
  rw[EQ hd hx];grind [List.map_set,List.set_set]
theorem xD(hi:∀v,bB (vg v)):∀e∈JR kv vg m,bB e.2.1:=by grind
end
section
variable {K V:Type} [DecidableEq K] {m:FM K V} {k:K}
theorem Q5:∀{es:List (K×V×Nat)} {k:K},k∉es.map (·.1)->es.find? (λe=>decide (e.1=k))=none
 |[],k,_=>rfl
 |x::r,k,h=>by grind
theorem dD(p:V)(x:K):(ee m k p).get x=if x=k then some p else m.get x:=by
 unfold ee;cases hk:bu k (m.es.map (·.1)) with
 |none=>
  unfold FM.get;dsimp only;rw[List.find?_append];split
  .rename_i e;subst e;rw[Q5 (Bb hk)];simp
  grind
 |some j=>
  obtain⟨e,he,rfl,hg⟩:=rh hk;have key:∀{es:List (K×V×Nat)} {j:Nat} (n:Nat),bu e.1 (es.map (·.1))=some j->((es.set j (e.1,p,n)).find? (λq=>decide (q.1=x))).map (·.2.1)=if x=e.1 then some p else(es.find? λq=>decide (q.1=x)).map (·.2.1):=by
   intro es;induction es with
   |nil=>intro j n h;cases h
   |cons y r ih=>intro j n h;rw[List.map_cons,bu] at h;grind [jH]
  exact key _ hk
theorem xE(p:V):(ee m k p).es.map (·.1)=if k∈m.es.map (·.1) then m.es.map (·.1) else m.es.map (·.1)++[k]:=by
 unfold ee;cases hk:bu k (m.es.map (·.1)) with
 |none=>rw[if_neg (Bb hk)];simp
 |some j=>have hj:=Ns hk;rw[if_pos (bO hj)];dsimp only;rw[List.map_set];apply List.ext_getElem?;grind
theorem tC(h:FxK m)(p:V):FxK (ee m k p):=by
 refine⟨⟨?_,?_⟩,?_⟩
 .unfold ee;cases hk:bu k (m.es.map (·.1)) with
  |none=>dsimp only;rw[List.map_append,List.nodup_append];refine⟨h.nd,aC,λa ha b hb=>?_⟩;obtain⟨e,he,rfl⟩:=List.mem_map.1 ha;simp at hb;subst hb;have:=h.lt e he;omega
  |some j=>grind [FxK,rh,List.map_set,FxOk.nd]
 .unfold ee;cases hk:bu k (m.es.map (·.1)) with
  |none=>
   intro e he;dsimp only at he⊢;rcases List.mem_append.1 he with he|he
   .have:=h.lt e he;omega
   grind
  |some j=>
   obtain⟨e,he,rfl,_⟩:=rh hk;intro x hx;dsimp only at hx⊢;rcases List.mem_or_eq_of_mem_set hx with hx|rfl
   .exact h.lt x hx
   .rw[he];exact h.lt e (bO he)
 grind [xE,FxK.kd]
theorem td(h:FxK m)(x:K):(zv m k).get x=if x=k then none else m.get x:=by
 unfold zv;cases hk:bu k (m.es.map (·.1)) with
 |none=>grind [Be]
 |some j=>
  have key:∀{es:List (K×V×Nat)} {j:Nat},(es.map (·.1)).Nodup->bu k (es.map (·.1))=some j->((es.eraseIdx j).find? (λq=>decide (q.1=x))).map (·.2.1)=if x=k then none else(es.find? λq=>decide (q.1=x)).map (·.2.1):=by
   intro es;induction es with
   |nil=>intro j _ h;cases h
   |cons y r ih=>intro j hd h;rw[List.map_cons,List.nodup_cons] at hd;grind [bu,jH]
  exact key h.kd hk
theorem Lz{e:K×V×Nat}(h:e∈(zv m k).es):e∈m.es:=by grind [zv,List.mem_of_mem_eraseIdx]
theorem DG(h:FxK m):FxK (zv m k):=by grind [FxK,FxOk,zv,List.eraseIdx_sublist]
theorem kJ{v:V}(h:m.get k=some v):∃n,(k,v,n)∈m.es:=by grind [FM.get,jH]
theorem mF(h:FxK m){v:V}{n:Nat}(he:(k,v,n)∈m.es):m.get k=some v:=by
 unfold FM.get;have key:∀{es:List (K×V×Nat)},(es.map (·.1)).Nodup->(k,v,n)∈es->es.find? (λe=>decide (e.1=k))=some (k,v,n):=by intro es;induction es<;>grind
 rw[key h.kd he];rfl
end
section
set_option maxHeartbeats 2000000
attribute [local irreducible] Tr dz Gp
def DJ(s1:Nat×List UInt8):Option ((Nat×List UInt8)⊕(Nat×List UInt8)):=
 bif decide (((127:Nat):Int)<(s1.1:Int)) then((aT 1 s1.2 ([wY ((((wY ((s1.1%128:Nat):Int)).toNat:Nat):Int)+(((128:UInt8).toNat:Nat):Int))]:List UInt8)).bind λa=>some (.inl (wU ((s1.1/128:Nat):Int),a))) else(some (.inr (s1.1,s1.2)))
def jl(k:Nat):Option (List UInt8):=
 (bo (DJ) (k,[])).bind λb=>(aT 1 b.2 ([wY (b.1:Int)]:List UInt8)).bind λa=>some a
theorem po{k}:rX prog gl (jl k) 175 [uG k] 5 cY:=
 gc func175 λK=>lS 1110 (λa=>so [] [(0,uG a.1),(3,.rsl 0 0 a.2.length)] [ob 0 5 (a.2.flatMap cY)] 1) (λs1=>so [] [(0,uG s1.1),(3,.rsl 0 0 s1.2.length)] [ob 0 5 (s1.2.flatMap cY)] 1) [hc (rY.imm [])] (λa=>iZ (dg 19 rY) λc=>aw [bR 17 (Iz (a.1:Int))]<|mr c0 K (rY.imm _)) λs1 k5 d=>aF 5 (iZ (dg 12 rY) λb=>aw [hbb 8 (iD s1.1 128 dL),bR 9 (Iz ((s1.1%128:Nat):Int)),hbb 10 (YK (wY ((s1.1%128:Nat):Int)) (128:UInt8)),hbb 14 (zm s1.1 128 dL)]<|cj k5 (fx rY b))<|aA c1 d (fx rY s1.2)
def cg(n:Int):Option (List UInt8):=
 bif decide (n<0) then((jl (wU (((wU (((wU (wI (0-(wI (n+1)))):Nat):Int)*((2:Nat):Int)):Nat):Int)+((1:Nat):Int)))).bind λa=>some a) else((jl (wU (((wU n:Nat):Int)*((2:Nat):Int)))).bind λb=>some b)
theorem eZ{n}:rX prog gl (cg n) 177 [iG n] 5 cY:=
 gc func177 λK=>aF 4 (ak λa e3=>aw [bR 8 (C8 (wI (0-(wI (n+1))))),hbb 9 (na ((wU (wI (0-(wI (n+1)))):Nat):Int) ((2:Nat):Int)),hbb 10 (gV ((wU (((wU (wI (0-(wI (n+1)))):Nat):Int)*((2:Nat):Int)):Nat):Int) ((1:Nat):Int)),ho 11 [uG (wU (((wU (((wU (wI (0-(wI (n+1)))):Nat):Int)*((2:Nat):Int)):Nat):Int)+((1:Nat):Int)))] [] (po gl e3) (lY a)]<|mr c0 K (rY.imm _))<|ak λb e5=>aw [bR 13 (C8 n),hbb 14 (na ((wU n:Nat):Int) ((2:Nat):Int)),ho 15 [uG (wU (((wU n:Nat):Int)*((2:Nat):Int)))] [] (po gl e5) (lY b)]<|mr c0 K (rY.imm _)
def iJ(a:DIdent):Option (List UInt8):=
 (cg a.By).bind λb=>(cg a.Seq).bind λc=>(aT 1 b c).bind λd=>(jl a.Sum).bind λe=>(aT 1 d e).bind λf=>some f
theorem GO{id_}:rX prog gl (iJ id_) 174 [.agg (aj id_)] 5 cY:=
 gc func174 λK=>ak λa e2=>mH 9 rY (eZ gl) λb=>iZ (eu 10 rY) λc=>mH 14 rY (po gl) λd=>iZ (eu 15 rY) λe=>aw [ho 6 [iG id_.By] [] (eZ gl e2) (lY a)]<|mr c0 K (rY.imm _)
def oQ(a:Nat)(b:Nat):Option Nat:=
 some ((wU (((wU (((wU ((((wU ((((a%2305843009213693951)%4294967296:Nat):Int)*(((b%2305843009213693951)%4294967296:Nat):Int)))%2305843009213693951:Nat):Int)+((wU ((((wU (((wU (((wU (((a%2305843009213693951)/4294967296:Nat):Int):Nat):Int)*(((b%2305843009213693951)%4294967296:Nat):Int)):Nat):Int)+((wU ((((a%2305843009213693951)%4294967296:Nat):Int)*((wU (((b%2305843009213693951)/4294967296:Nat):Int):Nat):Int)):Nat):Int)))%536870912:Nat):Int)*((4294967296:Nat):Int)):Nat):Int)):Nat):Int)+((wU (((wU (((wU (((wU (((a%2305843009213693951)/4294967296:Nat):Int):Nat):Int)*(((b%2305843009213693951)%4294967296:Nat):Int)):Nat):Int)+((wU ((((a%2305843009213693951)%4294967296:Nat):Int)*((wU (((b%2305843009213693951)/4294967296:Nat):Int):Nat):Int)):Nat):Int)))/536870912:Nat):Int):Nat):Int)):Nat):Int)+((wU (((8:Nat):Int)*((wU (((wU (((a%2305843009213693951)/4294967296:Nat):Int):Nat):Int)*((wU (((b%2305843009213693951)/4294967296:Nat):Int):Nat):Int)):Nat):Int)):Nat):Int)))%2305843009213693951)
theorem nK{a b}:eP prog gl (oQ a b) 253 [uG a,uG b] (λr:Nat=>uG r):=
 cy func253 λK=>aw [hbb 11 (iD a 2305843009213693951 dL),hbb 13 (iD b 2305843009213693951 dL),hbb 16 (iD (a%2305843009213693951) 4294967296 dL),hbb 19 (iD (b%2305843009213693951) 4294967296 dL),hbb 20 (na (((a%2305843009213693951)%4294967296:Nat):Int) (((b%2305843009213693951)%4294967296:Nat):Int)),hbb 23 (zm (a%2305843009213693951) 4294967296 dL),hbb 26 (iD (b%2305843009213693951) 4294967296 dL),hbb 27 (na ((wU (((a%2305843009213693951)/4294967296:Nat):Int):Nat):Int) (((b%2305843009213693951)%4294967296:Nat):Int)),hbb 30 (iD (a%2305843009213693951) 4294967296 dL),hbb 33 (zm (b%2305843009213693951) 4294967296 dL),hbb 34 (na (((a%2305843009213693951)%4294967296:Nat):Int) ((wU (((b%2305843009213693951)/4294967296:Nat):Int):Nat):Int)),hbb 35 (gV ((wU (((wU (((a%2305843009213693951)/4294967296:Nat):Int):Nat):Int)*(((b%2305843009213693951)%4294967296:Nat):Int)):Nat):Int) ((wU ((((a%2305843009213693951)%4294967296:Nat):Int)*((wU (((b%2305843009213693951)/4294967296:Nat):Int):Nat):Int)):Nat):Int)),hbb 38 (zm (a%2305843009213693951) 4294967296 dL),hbb 41 (zm (b%2305843009213693951) 4294967296 dL),hbb 42 (na ((wU (((a%2305843009213693951)/4294967296:Nat):Int):Nat):Int) ((wU (((b%2305843009213693951)/4294967296:Nat):Int):Nat):Int)),hbb 44 (iD (wU ((((a%2305843009213693951)%4294967296:Nat):Int)*(((b%2305843009213693951)%4294967296:Nat):Int))) 2305843009213693951 dL),hbb 47 (iD (wU (((wU (((wU (((a%2305843009213693951)/4294967296:Nat):Int):Nat):Int)*(((b%2305843009213693951)%4294967296:Nat):Int)):Nat):Int)+((wU ((((a%2305843009213693951)%4294967296:Nat):Int)*((wU (((b%2305843009213693951)/4294967296:Nat):Int):Nat):Int)):Nat):Int))) 536870912 dL),hbb 49 (na (((wU (((wU (((wU (((a%2305843009213693951)/4294967296:Nat):Int):Nat):Int)*(((b%2305843009213693951)%4294967296:Nat):Int)):Nat):Int)+((wU ((((a%2305843009213693951)%4294967296:Nat):Int)*((wU (((b%2305843009213693951)/4294967296:Nat):Int):Nat):Int)):Nat):Int)))%536870912:Nat):Int) ((4294967296:Nat):Int)),hbb 50 (gV (((wU ((((a%2305843009213693951)%4294967296:Nat):Int)*(((b%2305843009213693951)%4294967296:Nat):Int)))%2305843009213693951:Nat):Int) ((wU ((((wU (((wU (((wU (((a%2305843009213693951)/4294967296:Nat):Int):Nat):Int)*(((b%2305843009213693951)%4294967296:Nat):Int)):Nat):Int)+((wU ((((a%2305843009213693951)%4294967296:Nat):Int)*((wU (((b%2305843009213693951)/4294967296:Nat):Int):Nat):Int)):Nat):Int)))%536870912:Nat):Int)*((4294967296:Nat):Int)):Nat):Int)),hbb 53 (zm (wU (((wU (((wU (((a%2305843009213693951)/4294967296:Nat):Int):Nat):Int)*(((b%2305843009213693951)%4294967296:Nat):Int)):Nat):Int)+((wU ((((a%2305843009213693951)%4294967296:Nat):Int)*((wU (((b%2305843009213693951)/4294967296:Nat):Int):Nat):Int)):Nat):Int))) 536870912 dL),hbb 54 (gV ((wU ((((wU ((((a%2305843009213693951)%4294967296:Nat):Int)*(((b%2305843009213693951)%4294967296:Nat):Int)))%2305843009213693951:Nat):Int)+((wU ((((wU (((wU (((wU (((a%2305843009213693951)/4294967296:Nat):Int):Nat):Int)*(((b%2305843009213693951)%4294967296:Nat):Int)):Nat):Int)+((wU ((((a%2305843009213693951)%4294967296:Nat):Int)*((wU (((b%2305843009213693951)/4294967296:Nat):Int):Nat):Int)):Nat):Int)))%536870912:Nat):Int)*((4294967296:Nat):Int)):Nat):Int)):Nat):Int) ((wU (((wU (((wU (((wU (((a%2305843009213693951)/4294967296:Nat):Int):Nat):Int)*(((b%2305843009213693951)%4294967296:Nat):Int)):Nat):Int)+((wU ((((a%2305843009213693951)%4294967296:Nat):Int)*((wU (((b%2305843009213693951)/4294967296:Nat):Int):Nat):Int)):Nat):Int)))/536870912:Nat):Int):Nat):Int)),hbb 56 (na ((8:Nat):Int) ((wU (((wU (((a%2305843009213693951)/4294967296:Nat):Int):Nat):Int)*((wU (((b%2305843009213693951)/4294967296:Nat):Int):Nat):Int)):Nat):Int)),hbb 57 (gV ((wU (((wU ((((wU ((((a%2305843009213693951)%4294967296:Nat):Int)*(((b%2305843009213693951)%4294967296:Nat):Int)))%2305843009213693951:Nat):Int)+((wU ((((wU (((wU (((wU (((a%2305843009213693951)/4294967296:Nat):Int):Nat):Int)*(((b%2305843009213693951)%4294967296:Nat):Int)):Nat):Int)+((wU ((((a%2305843009213693951)%4294967296:Nat):Int)*((wU (((b%2305843009213693951)/4294967296:Nat):Int):Nat):Int)):Nat):Int)))%536870912:Nat):Int)*((4294967296:Nat):Int)):Nat):Int)):Nat):Int)+((wU (((wU (((wU (((wU (((a%2305843009213693951)/4294967296:Nat):Int):Nat):Int)*(((b%2305843009213693951)%4294967296:Nat):Int)):Nat):Int)+((wU ((((a%2305843009213693951)%4294967296:Nat):Int)*((wU (((b%2305843009213693951)/4294967296:Nat):Int):Nat):Int)):Nat):Int)))/536870912:Nat):Int):Nat):Int)):Nat):Int) ((wU (((8:Nat):Int)*((wU (((wU (((a%2305843009213693951)/4294967296:Nat):Int):Nat):Int)*((wU (((b%2305843009213693951)/4294967296:Nat):Int):Nat):Int)):Nat):Int)):Nat):Int)),hbb 58 (iD (wU (((wU (((wU ((((wU ((((a%2305843009213693951)%4294967296:Nat):Int)*(((b%2305843009213693951)%4294967296:Nat):Int)))%2305843009213693951:Nat):Int)+((wU ((((wU (((wU (((wU (((a%2305843009213693951)/4294967296:Nat):Int):Nat):Int)*(((b%2305843009213693951)%4294967296:Nat):Int)):Nat):Int)+((wU ((((a%2305843009213693951)%4294967296:Nat):Int)*((wU (((b%2305843009213693951)/4294967296:Nat):Int):Nat):Int)):Nat):Int)))%536870912:Nat):Int)*((4294967296:Nat):Int)):Nat):Int)):Nat):Int)+((wU (((wU (((wU (((wU (((a%2305843009213693951)/4294967296:Nat):Int):Nat):Int)*(((b%2305843009213693951)%4294967296:Nat):Int)):Nat):Int)+((wU ((((a%2305843009213693951)%4294967296:Nat):Int)*((wU (((b%2305843009213693951)/4294967296:Nat):Int):Nat):Int)):Nat):Int)))/536870912:Nat):Int):Nat):Int)):Nat):Int)+((wU (((8:Nat):Int)*((wU (((wU (((a%2305843009213693951)/4294967296:Nat):Int):Nat):Int)*((wU (((b%2305843009213693951)/4294967296:Nat):Int):Nat):Int)):Nat):Int)):Nat):Int))) 2305843009213693951 dL)]<|rv K
def r6(s1:Nat×Nat×Nat):Option ((Nat×Nat×Nat)⊕(Nat)):=
 bif decide (((0:Nat):Int)<(s1.2.2:Int)) then((bif decide (((s1.2.2%2:Nat):Int)=((1:Nat):Int)) then((oQ s1.1 s1.2.1).bind λa=>some a) else(some s1.1)).bind λb=>(oQ s1.2.1 s1.2.1).bind λc=>some (.inl (b,c,wU ((s1.2.2/2:Nat):Int)))) else(some (.inr s1.1))
def iK(a:Nat)(n:Nat):Option Nat:=
 (bo (r6) (1,a%2305843009213693951,n)).bind λb=>some b
theorem lc{a n}:eP prog gl (iK a n) 185 [uG a,uG n] (λr:Nat=>uG r):=
 cy func185 λK=>aw [hbb 9 (iD a 2305843009213693951 dL)]<|lS 111101 (λd=>sg [] [(5,uG d)]) (λs1=>sg [] [(5,uG s1.1),(6,uG s1.2.1),(7,uG s1.2.2)]) [] (λd=>rv K) λs1 k5 e=>aF 12 (aw [hbb 16 (iD s1.2.2 2 dL)]<|cN 1111012210201 (sf [] [(17,bG (decide (((s1.2.2%2:Nat):Int)=((1:Nat):Int))))]) []<|cC 1111012210201 (λb=>sf [17] [(5,uG b)]) (λb=>dI 23 (nK gl) λf=>aw [hbb 14 (zm s1.2.2 2 dL)]<|rb k5) λb c=>eH [17] (dI 20 (nK gl) λg=>rx c)<|rx c)<|aA c1 e []
def iq(n:Int)(most:Int):Option Int:=
 bif decide (n<0) then((u9 (wI (0-(wI (n+1)))) most).bind λa=>some a) else((u9 n most).bind λb=>some b)
theorem iL{n most}:eP prog gl (iq n most) 12 [iG n,iG most] iG:=
 cy func12 λK=>aF 6 (ak λa e3=>aw [hbb 12 (KO e3)]<|rv K)<|ak λb e5=>aw [hbb 12 (KO e5)]<|rv K
def Jf(cards:List DCard):Option D12G:=
 some ⟨cards,[],[],[],[]⟩
theorem M8{cards}:eP prog gl (Jf cards) 45 [aE bv cards] (λr=> .agg (aI r)):=
 cy func45 λK=>rv K
def xo(a:Nat):Option Nat:=
 (iK 37 a).bind λb=>some b
theorem r7{a}:eP prog gl (xo a) 111 [uG a] (λr:Nat=>uG r):=
 cy func111 λK=>dI 4 (lc gl) λb=>rv K
def my(b:List UInt8)(s1:List Nat×Int)(a:Nat×Int):Option ((Nat×Int)⊕(Nat)):=
 bif decide (s1.2<=a.2) then((aS b a.2).bind λc=>some (.inl (wU (((wU ((a.1:Int)*((256:Nat):Int)):Nat):Int)+((wU (c.toNat:Int):Nat):Int)),wI (a.2-1)))) else(some (.inr a.1))
def qh(b:List UInt8)(s1:List Nat×Int):Option ((List Nat×Int)⊕(List Nat)):=
 bif decide (s1.2<ah b) then((bo (my b s1) (0,wI ((iI (ah b) (wI (s1.2+7)))-1))).bind λa=>(aT 8 s1.1 ([a]:List Nat)).bind λc=>some (.inl (c,wI (s1.2+7)))) else(some (.inr s1.1))
def pW(b:List UInt8):Option (List Nat):=
 (bo (qh b) ([],0)).bind λa=>some a
theorem yz{b}:rX prog gl (pW b) 172 [aE cY b] 34 cW:=
 gc func172 λK=>lS 11101 (λe=>sp [] [(3,.rsl 0 0 e.length)] [ob 0 34 (e.flatMap cW)] 1) (λs1=>so [] [(3,.rsl 0 0 s1.1.length),(4,iG s1.2)] [ob 0 34 (s1.1.flatMap cW)] 1) [hc (rW.imm [])] (λe=>mr c0 K (rW.imm _)) λs1 k5 i=>aF 10 (lS 1110122102101 (λc=>sf [] [(5,uG c)]) (λa=>sf [] [(5,uG a.1),(6,iG a.2)]) (fx rW s1.1) (λc=>iZ (dg 35 rW) λf=>cj k5 (fx rW f)) λa g h=>aF 21 (dV 28 rY.ixZ 29 (rY.p1Y tY) λd=>aw [hbb 25 (na (a.1:Int) ((256:Nat):Int)),bR 30 (C8 (d.toNat:Int)),hbb 31 (gV ((wU ((a.1:Int)*((256:Nat):Int)):Nat):Int) ((wU (d.toNat:Int):Nat):Int))]<|cj g (fx rW s1.1))<|aA c1 h (fx rW s1.1))<|aA c1 i (fx rW s1.1)
def qi(a:Nat)(b:Nat):Option Nat:=
 some ((wU (((a%2305843009213693951:Nat):Int)+((b%2305843009213693951:Nat):Int)))%2305843009213693951)
theorem GR{a b}:eP prog gl (qi a b) 252 [uG a,uG b] (λr:Nat=>uG r):=
 cy func252 λK=>aw [hbb 6 (iD a 2305843009213693951 dL),hbb 8 (iD b 2305843009213693951 dL),hbb 9 (gV ((a%2305843009213693951:Nat):Int) ((b%2305843009213693951:Nat):Int)),hbb 10 (iD (wU (((a%2305843009213693951:Nat):Int)+((b%2305843009213693951:Nat):Int))) 2305843009213693951 dL)]<|rv K
def qj(b:List Nat)(a:Nat×Int):Option ((Nat×Int)⊕(Nat)):=
 bif decide (a.2<ah b) then((oQ 37 a.1).bind λc=>(aS b a.2).bind λd=>(qi d (wU (wI (a.2+1)))).bind λe=>(qi c e).bind λf=>(iK f 17).bind λg=>some (.inl (g,wI (a.2+1)))) else(some (.inr a.1))
def qk(l:List Nat)(a:List Nat×Int):Option ((List Nat×Int)⊕(List Nat)):=
 bif decide (a.2<ah l) then((aS l a.2).bind λb=>(aT 8 a.1 ([b%2305843009213693951]:List Nat)).bind λc=>some (.inl (c,wI (a.2+1)))) else(some (.inr a.1))
def yA(label:List UInt8)(l:List Nat):Option Nat:=
 (Gk label).bind λc=>(pW c).bind λd=>(aT 8 d ([wU (ah l)]:List Nat)).bind λe=>(bo (qk l) (e,0)).bind λf=>(aT 8 f ([0]:List Nat)).bind λa=>(bo (qj a) (wU (ah label),0)).bind λb=>some b
theorem AD{label l}:eP prog gl (yA label l) 171 [sG label,aE cW l] (λr:Nat=>uG r):=
 cy func171 λK=>ak λk e2=>ak λm e4=>iZ (dg 17 rW) λn=>aw [bR 15 (C8 (ah l)),hcB 11 e2,ho 12 [aE cY k] [] (yz gl e4) (lW m)]<|lS 11101 (λe=>so [1] [(5,.rsl 0 0 e.length)] [ob 0 34 (e.flatMap cW)] 1) (λb=>so [] [(5,.rsl 0 0 b.1.length),(6,iG b.2)] [ob 0 34 (b.1.flatMap cW)] 1) (fx rW n) (λe=>iZ (dg 34 rW) λc=>aw [hL 36 label,bR 37 (C8 (ah label))]<|lS 11111101 (λd=>sk [] [(7,uG d)] [] 0) (λa=>sk [] [(5,aE cW c),(7,uG a.1),(8,iG a.2)] [] 0) [hc (rW.al c)] (λd=>rv K) λa f g=>aF 41 (dI 45 (nK gl) λo=>dV 48 rW.ixZ 49 (rW.p1Y tW) λp=>dI 53 (GR gl) λq=>dI 54 (GR gl) λs=>dI 56 (lc gl) λt=>aw [bR 52 (C8 (wI (a.2+1)))]<|rb f)<|aA c1 g []) λb k11 h=>aF 21 (dV 27 rW.ixZ 28 (rW.p1Y tW) λi=>iZ (dg 31 rW) λj=>aw [hbb 29 (iD i 2305843009213693951 dL)]<|cj k11 (fx rW j))<|aA c1 h (fx rW b.1)
def sq(label:List UInt8)(l:List Nat):Option Nat:=
 (yA label l).bind λa=>some (wU (((1:Nat):Int)+((a%2305843009213693949:Nat):Int)))
theorem vo{label l}:eP prog gl (sq label l) 186 [sG label,aE cW l] (λr:Nat=>uG r):=
 cy func186 λK=>dI 7 (AD gl) λa=>aw [hbb 8 (iD a 2305843009213693949 dL),hbb 9 (gV ((1:Nat):Int) ((a%2305843009213693949:Nat):Int))]<|rv K
def lf(kind:List UInt8)(device:Int):Option Nat:=
 (sq kind ([wU device]:List Nat)).bind λa=>some a
theorem kG{kind device}:eP prog gl (lf kind device) 112 [sG kind,iG device] (λr:Nat=>uG r):=
 cy func112 λK=>ak λa e2=>aw [bR 7 (C8 device),hq 9 [sG kind,aE cW ([wU device]:List Nat)] [hc (rW.al ([wU device]:List Nat))] (vo gl e2)]<|rv K
def GP(a:List Int)(s1:List DCard×Int):Option ((List DCard×Int)⊕(List DCard)):=
 bif decide (s1.2<ah a) then((aS a s1.2).bind λb=>(lf [108,101,97,100] (wI (s1.2+1))).bind λc=>(xo c).bind λd=>(lf [107,101,101,112] (wI (s1.2+1))).bind λe=>(xo e).bind λf=>(lf [115,105,103,110] (wI (s1.2+1))).bind λg=>(xo g).bind λh=>(aT 40 s1.1 [(⟨wI (s1.2+1),b,d,f,h⟩:DCard)]).bind λi=>some (.inl (i,wI (s1.2+1)))) else(some (.inr s1.1))
def ql(a:List Int):Option (List DCard):=
 (bo (GP a) ([],0)).bind λb=>some b
theorem GQ{owners}:rX prog gl (ql owners) 46 [aE cZ owners] 106 bv:=
 gc func46 λK=>lS 11101 (λa=>sp [] [(3,.rsl 0 0 a.length)] [ob 0 106 (a.flatMap bv)] 1) (λs1=>so [] [(3,.rsl 0 0 s1.1.length),(4,iG s1.2)] [ob 0 106 (s1.1.flatMap bv)] 1) [hc (bT.imm [])] (λa=>mr c0 K (bT.imm _)) λs1 k5 c=>aF 9 (dV 18 rZ.ixZ 19 (rZ.p1Y tZ) λd=>dI 21 (kG gl) λe=>dI 22 (r7 gl) λf=>dI 24 (kG gl) λg=>dI 25 (r7 gl) λh=>dI 27 (kG gl) λi=>dI 28 (r7 gl) λj=>iZ (dg 31 bT) λb=>cj k5 (fx bT b))<|aA c1 c (fx bT s1.1)
def jI(label:List UInt8)(b:List UInt8):Option Nat:=
 (pW b).bind λa=>(aT 8 a ([wU (ah b)]:List Nat)).bind λc=>(yA label c).bind λd=>some d
theorem yB{label b}:eP prog gl (jI label b) 93 [sG label,aE cY b] (λr:Nat=>uG r):=
 cy func93 λK=>ak λc e2=>iZ (dg 12 rW) λa=>ak λd e6=>aw [bR 10 (C8 (ah b)),ho 7 [aE cY b] [] (yz gl e2) (lW c),hq 13 [sG label,aE cW a] [hc (rW.al a)] (AD gl e6)]<|rv K
def Ph(b:List UInt8):Option Nat:=
 (jI [115,105,103,110,101,100] b).bind λa=>some a
theorem LH{b}:eP prog gl (Ph b) 187 [aE cY b] (λr:Nat=>uG r):=
 cy func187 λK=>dI 4 (yB gl) λa=>rv K
def fV:Option Nat:=
 some 2305843009213693950
theorem eU:eP prog gl (fV) 190 [] (λr:Nat=>uG r):=
 cy func190 λK=>rv K
def yC(a:Nat×Nat×Nat):Option ((Nat×Nat×Nat)⊕(Nat)):=
 bif decide (((0:Nat):Int)<(a.2.1:Int)) then((bif decide (((a.2.1%2:Nat):Int)=((1:Nat):Int)) then((fV).bind λb=>(CH (wU ((a.2.2:Int)+(a.1:Int))) b).bind λc=>some c) else(some a.2.2)).bind λd=>(fV).bind λe=>(CH (wU ((a.1:Int)+(a.1:Int))) e).bind λf=>some (.inl (f,wU ((a.2.1/2:Nat):Int),d))) else(some (.inr a.2.2))
def vp(a:Nat)(b:Nat):Option Nat:=
 (fV).bind λd=>(CH a d).bind λe=>(fV).bind λf=>(CH b f).bind λg=>(bo (yC) (e,g,0)).bind λc=>some c
theorem GT{a b}:eP prog gl (vp a b) 188 [uG a,uG b] (λr:Nat=>uG r):=
 cy func188 λK=>dI 7 (eU gl) λm=>ak λn e4=>dI 10 (eU gl) λo=>ak λp e8=>aw [hbb 8 (YI e4),hbb 11 (YI e8)]<|lS 111110 (λe=>sg [] [(5,uG e)]) (λc=>sf [] [(0,uG c.1),(1,uG c.2.1),(5,uG c.2.2)]) [] (λe=>rv K) λc k13 k12=>aF 13 (aw [hbb 15 (iD c.2.1 2 dL)]<|cN 111110221201 (sf [] [(16,bG (decide (((c.2.1%2:Nat):Int)=((1:Nat):Int))))]) []<|cC 111110221201 (λd=>sf [16] [(5,uG d)]) (λd=>dI 25 (eU gl) λi=>ak λj g=>aw [hbb 24 (gV (c.1:Int) (c.1:Int)),hbb 28 (zm c.2.1 2 dL),hbb 26 (YI g)]<|rb k13) λd f=>eH [16] (dI 20 (eU gl) λk=>ak λl h=>aw [hbb 19 (gV (c.2.2:Int) (c.1:Int)),hbb 21 (YI h)]<|rx f)<|rx f)<|aA c1 k12 []
def Pi(d:Nat)(pub:Nat)(b:List UInt8):Option Nat:=
 (Ph b).bind λa=>(yA [115,105,103] ([d,pub,a]:List Nat)).bind λc=>some c
theorem LI{r_ pub b}:eP prog gl (Pi r_ pub b) 189 [uG r_,uG pub,aE cY b] (λr:Nat=>uG r):=
 cy func189 λK=>dI 10 (LH gl) λa=>ak λc e4=>aw [hq 12 [sG [115,105,103],aE cW ([r_,pub,a]:List Nat)] [hc (rW.al ([r_,pub,a]:List Nat))] (AD gl e4)]<|rv K
def zX(a:Nat)(b:List UInt8):Option DSig:=
 (Ph b).bind λh=>(sq [110,111,110,99,101] ([a,h]:List Nat)).bind λf=>(iK 37 f).bind λg=>(xo a).bind λi=>(Pi g i b).bind λj=>(vp j a).bind λc=>(fV).bind λd=>(CH (wU ((f:Int)+(c:Int))) d).bind λe=>some ⟨g,e⟩
theorem Jg{a b}:eP prog gl (zX a b) 113 [uG a,aE cY b] (λr=> .agg (yy r)):=
 cy func113 λK=>dI 10 (LH gl) λd=>ak λe e4=>dI 14 (lc gl) λh=>dI 17 (r7 gl) λi=>dI 19 (LI gl) λj=>dI 21 (GT gl) λc=>dI 26 (eU gl) λf=>ak λg e16=>aw [hbb 25 (gV (e:Int) (c:Int)),hq 12 [sG [110,111,110,99,101],aE cW ([a,d]:List Nat)] [hc (rW.al ([a,d]:List Nat))] (vo gl e4),hbb 27 (YI e16)]<|rv K
end
section
set_option maxHeartbeats 2000000
attribute [local irreducible] Tr dz Gp
def tR(l:List Int)(s1:List UInt8×Int):Option ((List UInt8×Int)⊕(List UInt8)):=
 bif decide (s1.2<ah l) then((aS l s1.2).bind λa=>(cg a).bind λb=>(aT 1 s1.1 b).bind λc=>some (.inl (c,wI (s1.2+1)))) else(some (.inr s1.1))
def wP(l:List Int):Option (List UInt8):=
 (bo (tR l) ([],0)).bind λa=>some a
theorem oT{l}:rX prog gl (wP l) 173 [aE cZ l] 5 cY:=
 gc func173 λK=>lS 11101 (λa=>sp [] [(3,.rsl 0 0 a.length)] [ob 0 5 (a.flatMap cY)] 1) (λs1=>so [] [(3,.rsl 0 0 s1.1.length),(4,iG s1.2)] [ob 0 5 (s1.1.flatMap cY)] 1) [hc (rY.imm [])] (λa=>mr c0 K (rY.imm _)) λs1 k5 c=>aF 8 (dV 14 rZ.ixZ 15 (rZ.p1Y tZ) λd=>mH 16 rY (eZ gl) λe=>iZ (eu 17 rY) λb=>cj k5 (fx rY b))<|aA c1 c (fx rY s1.1)
def tS(l:List Nat)(s1:List UInt8×Int):Option ((List UInt8×Int)⊕(List UInt8)):=
 bif decide (s1.2<ah l) then((aS l s1.2).bind λa=>(jl a).bind λb=>(aT 1 s1.1 b).bind λc=>some (.inl (c,wI (s1.2+1)))) else(some (.inr s1.1))
def vt(l:List Nat):Option (List UInt8):=
 (bo (tS l) ([],0)).bind λa=>some a
theorem AG{l}:rX prog gl (vt l) 179 [aE cW l] 5 cY:=
 gc func179 λK=>lS 11101 (λa=>sp [] [(3,.rsl 0 0 a.length)] [ob 0 5 (a.flatMap cY)] 1) (λs1=>so [] [(3,.rsl 0 0 s1.1.length),(4,iG s1.2)] [ob 0 5 (s1.1.flatMap cY)] 1) [hc (rY.imm [])] (λa=>mr c0 K (rY.imm _)) λs1 k5 c=>aF 8 (dV 14 rW.ixZ 15 (rW.p1Y tW) λd=>mH 16 rY (po gl) λe=>iZ (eu 17 rY) λb=>cj k5 (fx rY b))<|aA c1 c (fx rY s1.1)
def qq(l:List DBox)(s3:List UInt8×Int):Option ((List UInt8×Int)⊕(List UInt8)):=
 bif decide (s3.2<ah l) then((aS l s3.2).bind λa=>(aS l s3.2).bind λb=>(aS l s3.2).bind λc=>(aS l s3.2).bind λd=>(vt ([a.To,b.Eph,c.Body,d.Tag]:List Nat)).bind λe=>(aT 1 s3.1 e).bind λf=>some (.inl (f,wI (s3.2+1)))) else(some (.inr s3.1))
def nQ(l:List DBox):Option (List UInt8):=
 (cg (ah l)).bind λa=>(bo (qq l) (a,0)).bind λb=>some b
theorem GW{l}:rX prog gl (nQ l) 176 [aE cz l] 5 cY:=
 gc func176 λK=>ak λi e2=>aw [ho 7 [iG (ah l)] [] (eZ gl e2) (lY i)]<|lS 11101 (λe=>sp [] [(3,.rsl 0 0 e.length)] [ob 0 5 (e.flatMap cY)] 1) (λs3=>so [] [(3,.rsl 0 0 s3.1.length),(4,iG s3.2)] [ob 0 5 (s3.1.flatMap cY)] 1) (fx rY i) (λe=>mr c0 K (rY.imm _)) λs3 j k6=>aF 11 (dV 17 f9.ixZ 19 (f9.fdY tW 0) λa=>dV 22 f9.ixZ 24 (f9.fdY tW 1) λb=>dV 27 f9.ixZ 29 (f9.fdY tW 2) λc=>dV 32 f9.ixZ 34 (f9.fdY tW 3) λd=>ak λf g=>iZ (dg 37 rY) λh=>aw [ho 36 [aE cW ([a.To,b.Eph,c.Body,d.Tag]:List Nat)] [hc (rW.al ([a.To,b.Eph,c.Body,d.Tag]:List Nat))] (AG gl g) (lY f)]<|cj j (fx rY h))<|aA c1 k6 (fx rY s3.1)
def vu(s:List UInt8):Option (List UInt8):=
 (cg (ah s)).bind λa=>(aT 1 a s).bind λb=>some b
theorem Jp{s}:rX prog gl (vu s) 178 [sG s] 5 cY:=
 gc func178 λK=>ak λa e2=>ak λb e4=>aw [hL 4 s,ho 5 [iG (ah s)] [] (eZ gl e2) (lY a),XZ 7 e4]<|mr c0 K (rY.imm _)
def uA(o:DOp)(a:List UInt8×Int):Option ((List UInt8×Int)⊕(List UInt8)):=
 bif decide (a.2<ah o.Hist) then((aS o.Hist a.2).bind λb=>(iJ b.Of).bind λc=>(aT 1 a.1 c).bind λd=>(aS o.Hist a.2).bind λe=>(vu e.Body).bind λf=>(aT 1 d f).bind λg=>some (.inl (g,wI (a.2+1)))) else(some (.inr a.1))
def qs(o:DOp)(a:List UInt8×Int):Option ((List UInt8×Int)⊕(List UInt8)):=
 bif decide (a.2<ah o.Path) then((aS o.Path a.2).bind λf=>(jl f.Pub).bind λg=>(aT 1 a.1 g).bind λb=>(aS o.Path a.2).bind λc=>(nQ c.Boxes).bind λd=>(aT 1 b d).bind λe=>some (.inl (e,wI (a.2+1)))) else(some (.inr a.1))
def qt(o:DOp)(s3:List UInt8×Int):Option ((List UInt8×Int)⊕(List UInt8)):=
 bif decide (s3.2<ah o.Past) then((aS o.Past s3.2).bind λa=>(iJ a).bind λb=>(aT 1 s3.1 b).bind λc=>some (.inl (c,wI (s3.2+1)))) else(some (.inr s3.1))
def lz(o:DOp):Option (List UInt8):=
 (wP ([o.By,o.Seq,o.Kind,o.At,ah o.Past]:List Int)).bind λD=>(bo (qt o) (D,0)).bind λE=>(wP ([o.Device,o.Old,o.Member,o.Role,ah o.Path]:List Int)).bind λa=>(aT 1 E a).bind λb=>(bo (qs o) (b,0)).bind λc=>(iJ o.Epoch).bind λd=>(aT 1 c d).bind λe=>(cg o.N).bind λf=>(aT 1 e f).bind λg=>(vu o.Body).bind λh=>(aT 1 g h).bind λi=>(cg (ah o.Refs)).bind λj=>(aT 1 i j).bind λk=>(vt o.Refs).bind λl=>(aT 1 k l).bind λm=>(iJ o.Of).bind λn=>(aT 1 m n).bind λp=>(cg (ah o.Guards)).bind λq=>(aT 1 p q).bind λr=>(wP o.Guards).bind λs=>(aT 1 r s).bind λt=>(wP ([o.Need,o.Wait]:List Int)).bind λu=>(aT 1 t u).bind λv=>(nQ o.Boxes).bind λw=>(aT 1 v w).bind λx=>(jl o.Pub).bind λy=>(aT 1 x y).bind λz=>(cg (ah o.Hist)).bind λA=>(aT 1 z A).bind λB=>(bo (uA o) (B,0)).bind λC=>some C
theorem GX{o}:rX prog gl (lz o) 94 [.agg (aJ o)] 5 cY:=
 gc func94 λK=>ak λu e2=>aw [ho 19 [aE cZ ([o.By,o.Seq,o.Kind,o.At,ah o.Past]:List Int)] [hc (rZ.al ([o.By,o.Seq,o.Kind,o.At,ah o.Past]:List Int))] (oT gl e2) (lY u)]<|lS 11101 (λg=>sp [] [(1,.ref 0 0),(3,.rsl 1 0 g.length)] [ob 0 44 (aJ o),ob 1 5 (g.flatMap cY)] 2) (λs3=>sp [] [(1,.ref 0 0),(3,.rsl 1 0 s3.1.length),(4,iG s3.2)] [ob 0 44 (aJ o),ob 1 5 (s3.1.flatMap cY)] 2) (fx rY u) (λg=>ak λh i=>iZ (dg 49 rY) λj=>aw [ho 48 [aE cZ ([o.Device,o.Old,o.Member,o.Role,ah o.Path]:List Int)] [hc (rZ.al ([o.Device,o.Old,o.Member,o.Role,ah o.Path]:List Int))] (oT gl i) (lY h)]<|lS 1111101 (λc=>so [] [(3,.rsl 1 0 c.length)] [ob 1 5 (c.flatMap cY)] 2) (λa=>so [] [(3,.rsl 1 0 a.1.length),(5,iG a.2)] [ob 1 5 (a.1.flatMap cY)] 2) (fx rY j) (λc=>mH 78 rY (GO gl) λA=>iZ (eu 79 rY) λB=>mH 83 rY (eZ gl) λC=>iZ (eu 84 rY) λD=>mH 89 rY (Jp gl) λE=>iZ (eu 90 rY) λF=>mH 95 rY (eZ gl) λH=>iZ (eu 96 rY) λI=>mH 100 rY (AG gl) λJ=>iZ (eu 101 rY) λL=>mH 105 rY (GO gl) λM=>iZ (eu 106 rY) λN=>mH 111 rY (eZ gl) λO=>iZ (eu 112 rY) λP=>mH 116 rY (oT gl) λQ=>iZ (eu 117 rY) λR=>ak λk l=>iZ (dg 125 rY) λS=>mH 129 rY (GW gl) λU=>iZ (eu 130 rY) λV=>mH 134 rY (po gl) λW=>iZ (eu 135 rY) λX=>mH 140 rY (eZ gl) λY=>iZ (eu 141 rY) λm=>aw [XY 88 o.Body,ho 124 [aE cZ ([o.Need,o.Wait]:List Int)] [hc (rZ.al ([o.Need,o.Wait]:List Int))] (oT gl l) (lY k)]<|lS 11111111111111111101 (λd=>sk [] [(3,.rsl 0 0 d.length)] [ob 0 5 (d.flatMap cY)] 1) (λb=>so [] [(3,.rsl 1 0 b.1.length),(6,iG b.2)] [ob 1 5 (b.1.flatMap cY)] 2) (fx rY m) (λd=>mr c0 K (rY.imm _)) λb n p=>aF 146 (dV 153 bH.ixZ 155 (bH.fsZ aW jz 0 dL) λZ=>mH 156 rY (GO gl) λv85=>iZ (eu 157 rY) λv87=>dV 162 bH.ixZ 164 (bH.fdY tLY 3) λq=>mH 166 rY (Jp gl) λv91=>iZ (eu 167 rY) λr=>aw [XY 165 q.Body]<|cj n (fx rY r))<|aA c1 p (fx rY b.1)) λa s t=>aF 54 (dV 61 bZ.ixZ 63 (bZ.fdY tW 0) λy96=>mH 64 rY (po gl) λv98=>iZ (eu 65 rY) λv=>dV 70 bZ.ixZ 72 (bZ.fdY E3 1) λw=>mH 73 rY (GW gl) λx=>iZ (eu 74 rY) λe=>cj s (fx rY e))<|aA c1 t (fx rY a.1)) λs3 k7 k6=>aF 24 (dV 31 ac.ixZ 32 (ac.ptZ aW) λy=>mH 33 rY (GO gl) λz=>iZ (eu 34 rY) λf=>cj k7 (fx rY f))<|aA c1 k6 (fx rY s3.1)
def nR(o:DOp):Option DOp:=
 (lf [115,105,103,110] o.By).bind λa=>(lz o).bind λb=>(zX a b).bind λc=>some ({o with Sig:=c})
theorem E8{o}:eP prog gl (nR o) 47 [.agg (aJ o)] (λr=> .agg (aJ r)):=
 cy func47 λK=>dI 5 (kG gl) λa=>mH 7 rY (GX gl) λb=>dI 8 (Jg gl) λc=>rv K
def pV(o:DOp):Option DIdent:=
 (lz o).bind λa=>(jI [111,112] a).bind λb=>some ⟨o.By,o.Seq,b⟩
theorem AI{o}:eP prog gl (pV o) 39 [.agg (aJ o)] (λr=> .agg (aj r)):=
 cy func39 λK=>mH 8 rY (GX gl) λa=>dI 9 (yB gl) λb=>rv K
def xq(l:List Int)(n:Int)(s1:Int):Option ((Int)⊕(Unit⊕Bool)):=
 bif decide (s1<ah l) then((aS l s1).bind λa=>bif decide (a=n) then(some (.inr (.inr true))) else(some (.inl (wI (s1+1))))) else(some (.inr (.inl ())))
def fb(l:List Int)(n:Int):Option Bool:=
 (bo (xq l n) 0).bind λa=>ma a (λb=>some false) (λq=>some q)
theorem fq{l n}:eP prog gl (fb l n) 44 [aE cZ l,iG n] bG:=
 cy func44 λK=>uy 1101 (λa=>sg [] []) (λs1=>sf [] [(5,iG s1)]) [] K (λa=>rv K) λs1 k5 b k6=>aF 9 (dV 14 rZ.ixZ 15 (rZ.p1Y tZ) λc=>aF 17 (aP c3 k6 [])<|rb k5)<|aA c2 b []
def tT(g:D12G)(s3:List Bool×Int)(a:List Bool×Int):Option ((List Bool×Int)⊕(List Bool)):=
 (aS g.Up s3.2).bind λb=>bif decide (a.2<ah b) then((aS g.Up s3.2).bind λc=>(aS c a.2).bind λd=>(ji a.1 d true).bind λe=>some (.inl (e,wI (a.2+1)))) else(some (.inr a.1))
def AJ(g:D12G)(up:List Int)(s3:List Bool×Int):Option ((List Bool×Int)⊕(List Bool)):=
 bif decide (0<=s3.2) then((fb up s3.2).bind λb=>(bif b then((ji s3.1 s3.2 true).bind λc=>some c) else(some s3.1)).bind λa=>(aS a s3.2).bind λd=>bif d then((bo (tT g s3) (a,0)).bind λe=>some (.inl (e,wI (s3.2-1)))) else(some (.inl (a,wI (s3.2-1))))) else(some (.inr s3.1))
def jA(g:D12G)(up:List Int):Option (List Bool):=
 (rP 1 (false:Bool) (ah g.L)).bind λa=>(bo (AJ g up) (a,wI ((ah g.L)-1))).bind λb=>some b
theorem AK{g up}:rX prog gl (jA g up) 115 [.agg (aI g),aE cZ up] 4 cO:=
 gc func115 λK=>iZ (hmk 11 rO) λq=>lS 11101 (λl=>sp [] [(5,.rsl 0 0 l.length)] [ob 0 4 (l.flatMap cO)] 1) (λs3=>so [0] [(2,.ref 0 0),(5,.rsl 1 0 s3.1.length),(6,iG s3.2)] [ob 0 30 (aI g),ob 1 4 (s3.1.flatMap cO)] 2) (fx rO q) (λl=>mr c0 K (rO.imm _)) λs3 p k6=>aF 17 (dI 22 (fq gl) λm=>cN 111012210201 (sf [] [(22,bG m)]) (fx rO s3.1)<|cC 111012210201 (λa=>so [22] [(5,.rsl 1 0 a.length)] [ob 1 4 (a.flatMap cO)] 2) (λa=>ak λr d=>aw [bR 28 (rO.ixrZ 1 d)]<|kV (λe=>aw [bR 29 (cB (rO.p10Z tO d) e)]<|lS 11101221021131 (λc=>so [] [(5,.rsl 1 0 c.length)] [ob 1 4 (c.flatMap cO)] 2) (λb=>so [] [(5,.rsl 1 0 b.1.length),(7,iG b.2)] [ob 1 4 (b.1.flatMap cO)] 2) (fx rO a) (λc=>cj p (fx rO c)) λb n o=>dV 34 nH.ixZ 35 (nH.p1Y Vs) λs=>aF 37 (dV 44 nH.ixZ 45 (nH.p1Y Vs) λt=>dV 47 rZ.ixZ 48 (rZ.p1Y tZ) λu=>ak λi f=>aw [bR 49 (rO.ixsZ 1 f),hw 49 (i.flatMap cO) (rO.putZ f)]<|cj n [hc (hZ f),hc (rO.imm i)])<|aA c1 o (fx rO b.1)) λe=>aw [bR 29 (cB (rO.p10Z tO d) e)]<|cj p (fx rO a)) λa j=>eH [22] (ak λk h=>aw [bR 25 (rO.ixsZ 1 h),hw 25 (k.flatMap cO) (rO.putZ h)]<|aA c0 j [hc (hZ h),hc (rO.imm k)])<|aA c0 j (fx rO s3.1))<|aA c1 k6 (fx rO s3.1)
def oU(a:DIdent)(b:DIdent):Option Bool:=
 bif decide (a.By≠b.By) then(some (decide (a.By<b.By))) else(bif decide (a.Seq≠b.Seq) then(some (decide (a.Seq<b.Seq))) else(some (decide ((a.Sum:Int)<(b.Sum:Int)))))
theorem oV{a b}:eP prog gl (oU a b) 133 [.agg (aj a),.agg (aj b)] bG:=
 cy func133 λK=>aF 9 (rv K)<|aF 19 (rv K)<|rv K
def iE(kind:Int):Option Bool:=
 (bif decide (kind=1) then(some true) else(bif decide (kind=2) then(some true) else(bif decide (kind=3) then(some true) else(bif decide (kind=4) then(some true) else(some (decide (kind=13))))))).bind λa=>some a
theorem tu{kind}:eP prog gl (iE kind) 55 [iG kind] bG:=
 cy func55 λK=>cN [1,0] (sf [] []) []<|cC [1,0] (λa=>sg [] [(2,bG a)]) (λa=>rv K) λa k3=>aF 4 (rx k3)<|aF 8 (rx k3)<|aF 12 (rx k3)<|aF 16 (rx k3)<|rx k3
def mz(o:DOp):Option Bool:=
 (bif decide (o.Kind=7) then(some true) else(bif decide (o.Kind=8) then(some true) else(bif decide (o.Kind=12) then(some true) else(bif decide (o.Kind=10) then(some true) else(bif decide (o.Kind=11) then(some true) else(some (decide (o.Kind=13)))))))).bind λa=>(bif decide (o.Device≠0) then(bif decide (o.Kind≠2) then(bif decide (o.Kind≠3) then(bif decide (o.Kind≠11) then(some (decide (o.Kind≠13))) else(some false)) else(some false)) else(some false)) else(some false)).bind λg=>bif g then(some false) else((bif decide (o.Old≠0) then(bif decide (o.Kind≠13) then(some true) else(bif decide (o.Member≠0) then(bif decide (o.Kind≠3) then(bif decide (o.Kind≠5) then(some true) else(bif decide (o.Role≠0) then(bif decide (o.Kind≠2) then(some (decide (o.Kind≠5))) else(some false)) else(some false))) else(bif decide (o.Role≠0) then(bif decide (o.Kind≠2) then(some (decide (o.Kind≠5))) else(some false)) else(some false))) else(bif decide (o.Role≠0) then(bif decide (o.Kind≠2) then(some (decide (o.Kind≠5))) else(some false)) else(some false)))) else(bif decide (o.Member≠0) then(bif decide (o.Kind≠3) then(bif decide (o.Kind≠5) then(some true) else(bif decide (o.Role≠0) then(bif decide (o.Kind≠2) then(some (decide (o.Kind≠5))) else(some false)) else(some false))) else(bif decide (o.Role≠0) then(bif decide (o.Kind≠2) then(some (decide (o.Kind≠5))) else(some false)) else(some false))) else(bif decide (o.Role≠0) then(bif decide (o.Kind≠2) then(some (decide (o.Kind≠5))) else(some false)) else(some false)))).bind λh=>bif h then(some false) else((bif decide (0<ah o.Path) then((iE o.Kind).bind λb=>some (!b)) else(some false)).bind λi=>bif i then(some false) else((bif decide (o.Kind≠6) then(bif(!decide (o.Epoch=(⟨0,0,0⟩:DIdent))) then(some true) else(bif decide (o.N≠0) then(some true) else(some (decide (0<ah o.Refs))))) else(some false):Option Bool).bind λj12=>bif j12 then(some false) else((bif decide (0<ah o.Body) then(bif decide (o.Kind≠6) then(bif decide (o.Kind≠7) then(some true) else(bif(!decide (o.Of=(⟨0,0,0⟩:DIdent))) then(some (!a)) else(some false))) else(bif(!decide (o.Of=(⟨0,0,0⟩:DIdent))) then(some (!a)) else(some false))) else(bif(!decide (o.Of=(⟨0,0,0⟩:DIdent))) then(some (!a)) else(some false)):Option Bool).bind λc=>bif c then(some false) else((bif decide (o.Kind≠9) then(bif decide (0<ah o.Guards) then(some true) else(bif decide (o.Wait≠0) then(some true) else(some (decide ((o.Pub:Int)≠((0:Nat):Int)))))) else(some false)).bind λd=>bif d then(some false) else((bif decide (o.Need≠0) then(bif decide (o.Kind≠9) then(bif decide (o.Kind≠1) then(some true) else(bif decide (0<ah o.Boxes) then(bif decide (o.Kind≠9) then(bif decide (o.Kind≠10) then(some (decide (o.Kind≠11))) else(some false)) else(some false)) else(some false))) else(bif decide (0<ah o.Boxes) then(bif decide (o.Kind≠9) then(bif decide (o.Kind≠10) then(some (decide (o.Kind≠11))) else(some false)) else(some false)) else(some false))) else(bif decide (0<ah o.Boxes) then(bif decide (o.Kind≠9) then(bif decide (o.Kind≠10) then(some (decide (o.Kind≠11))) else(some false)) else(some false)) else(some false))).bind λe=>bif e then(some false) else((bif decide (ah o.Hist=0) then(some true) else(bif decide (o.Kind=2) then(some true) else(some (decide (o.Kind=13))))).bind λf=>some f)))))))
theorem Jr{o}:eP prog gl (mz o) 254 [.agg (aJ o)] bG:=
 cy func254 λK=>cN 1110 (sp [] [(1,.ref 0 0),(3,iG o.Kind)] [ob 0 44 (aJ o)] 1) []<|cC 1110 (λq=>sf [] [(4,bG q)]) (λq=>tl 111100 (sf [] []) [] 47 (rv K) (tl 1111100 (sf [47] []) [] 80 (rv K) (tl 11111100 (sf [80] []) [] 89 (rv K) (tl 111111100 (sf [89] []) [] 108 (rv K) (cN 1111111100 (sf [108] []) []<|cC 1111111100 (λh=>sf [4] [(130,bG h)]) (λh=>eH [130] (rv K)<|tl 11111111100 (sf [130] []) [] 148 (rv K) (tl 111111111100 (sf [148] []) [] 177 (rv K) (cN 111111111110 (sf [177] []) []<|cC 111111111110 (λi=>sk [] [(2,bG i)] [] 0) (λi=>rv K) λi j=>aF 181 (rx j)<|aF 185 (rx j)<|rx j) λb=>aF 151 (aF 155 (aF 159 (rx b)<|aF 164 (aF 168 (aF 172 (rx b)<|rx b)<|rx b)<|rx b)<|aF 164 (aF 168 (aF 172 (rx b)<|rx b)<|rx b)<|rx b)<|aF 164 (aF 168 (aF 172 (rx b)<|rx b)<|rx b)<|rx b) λf=>aF 132 (aF 137 (rx f)<|aF 142 (rx f)<|rx f)<|rx f) λh c=>aF 112 (aF 116 (aF 120 (rx c)<|kV (λk=>aw [hV 125 (cV (dy o.Of (⟨0,0,0⟩:DIdent) rfl) k)]<|rx c) λk=>aw [hV 125 (cV (dy o.Of (⟨0,0,0⟩:DIdent) rfl) k)]<|rx c)<|kV (λl=>aw [hV 125 (cV (dy o.Of (⟨0,0,0⟩:DIdent) rfl) l)]<|rx c) λl=>aw [hV 125 (cV (dy o.Of (⟨0,0,0⟩:DIdent) rfl) l)]<|rx c)<|kV (λm=>aw [hV 125 (cV (dy o.Of (⟨0,0,0⟩:DIdent) rfl) m)]<|rx c) λm=>aw [hV 125 (cV (dy o.Of (⟨0,0,0⟩:DIdent) rfl) m)]<|rx c) λg=>aF 91 (kV (λn=>aw [hV 96 (cV (dy o.Epoch (⟨0,0,0⟩:DIdent) rfl) n)]<|rx g) λn=>aw [hV 96 (cV (dy o.Epoch (⟨0,0,0⟩:DIdent) rfl) n)]<|aF 101 (rx g)<|rx g)<|rx g) λp=>aF 84 (dI 87 (tu gl) λr=>rx p)<|rx p) λa=>aF 50 (aF 54 (rx a)<|aF 58 (aF 62 (aF 67 (rx a)<|aF 71 (aF 75 (rx a)<|rx a)<|rx a)<|aF 71 (aF 75 (rx a)<|rx a)<|rx a)<|aF 71 (aF 75 (rx a)<|rx a)<|rx a)<|aF 58 (aF 62 (aF 67 (rx a)<|aF 71 (aF 75 (rx a)<|rx a)<|rx a)<|aF 71 (aF 75 (rx a)<|rx a)<|rx a)<|aF 71 (aF 75 (rx a)<|rx a)<|rx a) λe=>aF 31 (aF 35 (aF 39 (aF 43 (rx e)<|rx e)<|rx e)<|rx e)<|rx e) λq d=>aF 8 (rx d)<|aF 12 (rx d)<|aF 16 (rx d)<|aF 20 (rx d)<|aF 24 (rx d)<|rx d
def fB(n:Int)(low:Int)(a:Int):Option Bool:=
 (bif decide (low<=n) then(some (decide (n<=a))) else(some false)).bind λb=>some b
theorem bJ{n low a}:eP prog gl (fB n low a) 315 [iG n,iG low,iG a] bG:=
 cy func315 λK=>cN [1,0] (sf [] []) []<|cC [1,0] (λb=>sg [] [(6,bG b)]) (λb=>rv K) λb k3=>aF 9 (rx k3)<|rx k3
def AL(n:Nat):Option Bool:=
 some (decide ((n:Int)<((2305843009213693951:Nat):Int)))
theorem vv{n}:eP prog gl (AL n) 318 [uG n] bG:=
 cy func318 λK=>rv K
def iM(a:DIdent):Option Bool:=
 ((fB a.By 1 12).bind λd=>bif d then((fB a.Seq 1 2147483647).bind λb=>bif b then((AL a.Sum).bind λc=>some c) else(some false)) else(some false)).bind λe=>some e
theorem dW{id_}:eP prog gl (iM id_) 316 [.agg (aj id_)] bG:=
 cy func316 λK=>cN [1,0] (sp [] [(1,.ref 0 0)] [ob 0 36 (aj id_)] 1) []<|cC [1,0] (λa=>sk [] [(2,bG a)] [] 0) (λa=>rv K) λa k5=>ak λe e8=>kV (λb=>dI 9 (bJ gl) λc=>aw [hf 5 (cF (bJ gl e8) b)]<|aF 10 (dI 14 (vv gl) λd=>rx k5)<|rx k5) λb=>aw [hf 5 (cF (bJ gl e8) b)]<|rx k5
def mg(n:Nat):Option Bool:=
 (bif decide (((1:Nat):Int)<=(n:Int)) then(some (decide ((n:Int)<((2305843009213693951:Nat):Int)))) else(some false)).bind λa=>some a
theorem kH{n}:eP prog gl (mg n) 317 [uG n] bG:=
 cy func317 λK=>cN [1,0] (sf [] []) []<|cC [1,0] (λa=>sg [] [(2,bG a)]) (λa=>rv K) λa k3=>aF 4 (rx k3)<|rx k3
end
section
set_option maxHeartbeats 2000000
attribute [local irreducible] Tr dz Gp
def ia(o:DOp):Option Bool:=
 ((fB o.By 1 12).bind λa=>bif(!a) then(some true) else((fB o.Seq 1 2147483647).bind λb=>bif(!b) then(some true) else((fB o.At 0 2147483647).bind λc=>some (!c)))).bind λC=>bif C then(some false) else(bif decide (o.Kind=1) then((fB o.Need 0 20).bind λD=>some D) else(bif decide (o.Kind=2) then(((fB o.Device 1 12).bind λf=>bif f then((fB o.Role 1 3).bind λg=>some g) else(some false)).bind λj12=>some j12) else(bif decide (o.Kind=3) then(((fB o.Device 1 12).bind λh=>bif h then(bif decide (o.Member=0) then(some true) else(bif decide (o.Device=0) then((fB o.Member 1 8).bind λi=>some i) else(some false))) else(bif decide (o.Device=0) then((fB o.Member 1 8).bind λj=>some j) else(some false))).bind λk=>some k) else(bif decide (o.Kind=5) then(((fB o.Member 1 8).bind λl=>bif l then((fB o.Role 1 3).bind λm=>some m) else(some false)).bind λn=>some n) else(bif decide (o.Kind=6) then(((iM o.Epoch).bind λp=>bif p then((fB o.N 0 2147483647).bind λq=>some q) else(some false)).bind λr=>some r) else(bif decide (o.Kind=9) then(((fB o.Need 1 (ah o.Guards)).bind λs=>bif s then((fB o.Wait 0 2147483647).bind λt=>bif t then((mg o.Pub).bind λu=>some u) else(some false)) else(some false)).bind λv=>some v) else(bif decide (o.Kind=11) then(((iM o.Of).bind λw=>bif w then((fB o.Device 1 12).bind λx=>some x) else(some false)).bind λy=>some y) else(bif decide (o.Kind=13) then(((iM o.Of).bind λz=>bif z then((fB o.Device 1 12).bind λA=>bif A then((fB o.Old 1 12).bind λd=>some d) else(some false)) else(some false)).bind λB=>some B) else(bif decide (o.Kind=4) then(some true) else((iM o.Of).bind λe=>some e))))))))))
theorem De{o}:eP prog gl (ia o) 255 [.agg (aJ o)] bG:=
 cy func255 λK=>tl 1100 (sp [] [(1,.ref 0 0)] [ob 0 44 (aJ o)] 1) [] 18 (rv K) (aF 22 (dI 25 (bJ gl) λv7=>rv K)<|aF 27 (cN 11101214130 (sf [18] []) []<|cC 11101214130 (λj12=>sk [] [(2,bG j12)] [] 0) (λj12=>rv K) λj12 s=>ak λJ t=>kV (λc=>dI 34 (bJ gl) λL=>aw [hf 30 (cF (bJ gl t) c)]<|rx s) λc=>aw [hf 30 (cF (bJ gl t) c)]<|rx s)<|aF 37 (cN 1110121414130 (sf [18] []) []<|cC 1110121414130 (λd=>sk [] [(2,bG d)] [] 0) (λd=>rv K) λd a=>ak λM u=>kV (λe=>aw [hf 40 (cF (bJ gl u) e)]<|aF 45 (rx a)<|aF 49 (dI 53 (bJ gl) λN=>rx a)<|rx a) λe=>aw [hf 40 (cF (bJ gl u) e)]<|aF 49 (dI 53 (bJ gl) λO=>rx a)<|rx a)<|aF 57 (cN 111012141414130 (sf [18] []) []<|cC 111012141414130 (λf=>sk [] [(2,bG f)] [] 0) (λf=>rv K) λf v=>ak λP w=>kV (λg=>dI 64 (bJ gl) λQ=>aw [hf 60 (cF (bJ gl w) g)]<|rx v) λg=>aw [hf 60 (cF (bJ gl w) g)]<|rx v)<|aF 67 (cN 11101214141414130 (sf [18] []) []<|cC 11101214141414130 (λh=>sk [] [(2,bG h)] [] 0) (λh=>rv K) λh x=>ak λR y=>kV (λi=>dI 74 (bJ gl) λS=>aw [hf 70 (cF (dW gl y) i)]<|rx x) λi=>aw [hf 70 (cF (dW gl y) i)]<|rx x)<|aF 77 (cN 1110121414141414130 (sf [18] []) []<|cC 1110121414141414130 (λj=>sk [] [(2,bG j)] [] 0) (λj=>rv K) λj k=>ak λU z=>kV (λl=>dI 87 (bJ gl) λV=>aw [hf 83 (cF (bJ gl z) l)]<|aF 88 (dI 92 (kH gl) λW=>rx k)<|rx k) λl=>aw [hf 83 (cF (bJ gl z) l)]<|rx k)<|aF 95 (cN 111012141414141414130 (sf [18] []) []<|cC 111012141414141414130 (λm=>sk [] [(2,bG m)] [] 0) (λm=>rv K) λm A=>ak λX B=>kV (λn=>dI 102 (bJ gl) λY=>aw [hf 98 (cF (dW gl B) n)]<|rx A) λn=>aw [hf 98 (cF (dW gl B) n)]<|rx A)<|aF 105 (cN 11101214141414141414130 (sf [18] []) []<|cC 11101214141414141414130 (λp=>sk [] [(2,bG p)] [] 0) (λp=>rv K) λp q=>ak λZ C=>kV (λr=>dI 112 (bJ gl) λv99=>aw [hf 108 (cF (dW gl C) r)]<|aF 113 (dI 117 (bJ gl) λD=>rx q)<|rx q) λr=>aw [hf 108 (cF (dW gl C) r)]<|rx q)<|aF 120 (rv K)<|dI 123 (dW gl) λE=>rv K) λb=>dI 5 (bJ gl) λF=>aF 6 (rx b)<|dI 10 (bJ gl) λH=>aF 12 (rx b)<|dI 16 (bJ gl) λI=>rx b
def qv(l:List DBox)(s1:Int):Option ((Int)⊕(Unit⊕Bool)):=
 bif decide (s1<ah l) then(((aS l s1).bind λa=>(mg a.To).bind λb=>bif(!b) then(some true) else((aS l s1).bind λc=>(mg c.Eph).bind λd=>bif(!d) then(some true) else((aS l s1).bind λe=>(AL e.Body).bind λf=>bif(!f) then(some true) else((aS l s1).bind λg=>(AL g.Tag).bind λh=>some (!h))))).bind λi=>bif i then(some (.inr (.inr false))) else(some (.inl (wI (s1+1))))) else(some (.inr (.inl ())))
def qw(l:List DBox):Option Bool:=
 (bo (qv l) 0).bind λa=>ma a (λb=>some true) (λq=>some q)
theorem yE{l}:eP prog gl (qw l) 319 [aE cz l] bG:=
 cy func319 λK=>uy 1101 (λb=>sg [] []) (λs1=>sf [] [(3,iG s1)]) [] K (λb=>rv K) λs1 k5 c k6=>aF 7 (tl 1101221020 (sf [] []) [] 43 (aP c3 k6 []) (rb k5) λa=>dV 12 f9.ixZ 14 (f9.fdY tW 0) λd=>dI 15 (kH gl) λe=>aF 16 (rx a)<|dV 20 f9.ixZ 22 (f9.fdY tW 1) λf=>dI 23 (kH gl) λg=>aF 25 (rx a)<|dV 29 f9.ixZ 31 (f9.fdY tW 2) λh=>dI 32 (vv gl) λi=>aF 34 (rx a)<|dV 38 f9.ixZ 40 (f9.fdY tW 3) λj=>dI 41 (vv gl) λk=>rx a)<|aA c2 c []
def qx(o:DOp)(a:Int):Option ((Int)⊕(Unit⊕Bool)):=
 bif decide (a<ah o.Hist) then((aS o.Hist a).bind λb=>(iM b.Of).bind λc=>bif(!c) then(some (.inr (.inr false))) else(some (.inl (wI (a+1))))) else(some (.inr (.inl ())))
def qy(o:DOp)(a:Int):Option ((Int)⊕(Unit⊕Bool)):=
 bif decide (a<ah o.Path) then(((aS o.Path a).bind λb=>(mg b.Pub).bind λc=>bif(!c) then(some true) else((aS o.Path a).bind λd=>(qw d.Boxes).bind λe=>some (!e))).bind λf=>bif f then(some (.inr (.inr false))) else(some (.inl (wI (a+1))))) else(some (.inr (.inl ())))
def qz(o:DOp)(a:Int):Option ((Int)⊕(Unit⊕Bool)):=
 bif decide (a<ah o.Past) then((aS o.Past a).bind λb=>(iM b).bind λc=>bif(!c) then(some (.inr (.inr false))) else(some (.inl (wI (a+1))))) else(some (.inr (.inl ())))
def qA(o:DOp)(a:Int):Option ((Int)⊕(Unit⊕Bool)):=
 bif decide (a<ah o.Refs) then((aS o.Refs a).bind λb=>(AL b).bind λc=>bif(!c) then(some (.inr (.inr false))) else(some (.inl (wI (a+1))))) else(some (.inr (.inl ())))
def qB(o:DOp)(s1:Int):Option ((Int)⊕(Unit⊕Bool)):=
 bif decide (s1<ah o.Guards) then((aS o.Guards s1).bind λa=>(fB a 1 12).bind λb=>bif(!b) then(some (.inr (.inr false))) else(some (.inl (wI (s1+1))))) else(some (.inr (.inl ())))
def vw(o:DOp):Option Bool:=
 (bo (qB o) 0).bind λj=>ma j (λk=>(bo (qA o) 0).bind λa=>ma a (λf=>(bo (qz o) 0).bind λb=>ma b (λg=>(bo (qy o) 0).bind λc=>ma c (λh=>(bo (qx o) 0).bind λd=>ma d (λi=>(qw o.Boxes).bind λe=>some e) (λq=>some q)) (λq=>some q)) (λq=>some q)) (λq=>some q)) (λq=>some q)
theorem GY{o}:eP prog gl (vw o) 256 [.agg (aJ o)] bG:=
 cy func256 λK=>uy 1101 (λj=>sp [] [(1,.ref 0 0)] [ob 0 44 (aJ o)] 1) (λs1=>sp [] [(1,.ref 0 0),(3,iG s1)] [ob 0 44 (aJ o)] 1) [] K (λj=>uy 11101 (λa=>sf [] []) (λb=>sf [] [(4,iG b)]) [] K (λa=>uy 111101 (λc=>sf [] []) (λd=>sf [] [(5,iG d)]) [] K (λc=>uy 1111101 (λe=>sf [] []) (λf=>sf [] [(6,iG f)]) [] K (λe=>uy 11111101 (λg=>sf [] []) (λh=>sf [] [(7,iG h)]) [] K (λg=>dI 92 (yE gl) λw=>rv K) λh k l m=>aF 79 (dV 85 bH.ixZ 87 (bH.fsZ aW jz 0 dL) λx=>dI 88 (dW gl) λy=>aF 89 (aP c3 m [])<|rb k)<|aA c2 l []) λf n p q=>aF 54 (tl 1111101221020 (sf [] []) [] 74 (aP c3 q []) (rb n) λi=>dV 60 bZ.ixZ 62 (bZ.fdY tW 0) λz=>dI 63 (kH gl) λA=>aF 64 (rx i)<|dV 69 bZ.ixZ 71 (bZ.fdY E3 1) λB=>dI 72 (yE gl) λC=>rx i)<|aA c2 p []) λd r s t=>aF 40 (dV 46 ac.ixZ 47 (ac.ptZ aW) λD=>dI 48 (dW gl) λE=>aF 49 (aP c3 t [])<|rb r)<|aA c2 s []) λb u k13 v=>aF 26 (dV 32 rW.ixZ 33 (rW.p1Y tW) λF=>dI 34 (vv gl) λH=>aF 35 (aP c3 v [])<|rb u)<|aA c2 k13 []) λs1 k5 I k6=>aF 12 (dV 18 rZ.ixZ 19 (rZ.p1Y tZ) λJ=>dI 20 (bJ gl) λL=>aF 21 (aP c3 k6 [])<|rb k5)<|aA c2 I []
def tU(o:DOp)(a:Int):Option ((Int)⊕(Unit⊕Bool)):=
 bif decide (a<ah o.Hist) then((aS o.Hist a).bind λb=>bif decide (208<ah b.Body) then(some (.inr (.inr true))) else(some (.inl (wI (a+1))))) else(some (.inr (.inl ())))
def tV(o:DOp)(s1:Int):Option ((Int)⊕(Unit⊕Bool)):=
 bif decide (s1<ah o.Path) then((aS o.Path s1).bind λa=>bif decide (12<ah a.Boxes) then(some (.inr (.inr true))) else(some (.inl (wI (s1+1))))) else(some (.inr (.inl ())))
def z6(o:DOp):Option Bool:=
 (bo (tV o) 0).bind λg=>ma g (λh=>(bo (tU o) 0).bind λa=>ma a (λf=>(bif decide (12<ah o.Past) then(some true) else(bif decide (5<ah o.Path) then(some true) else(bif decide (208<ah o.Body) then(some true) else(bif decide (8<ah o.Refs) then(some true) else(bif decide (20<ah o.Hist) then(some true) else(some (decide (6<ah o.Guards)))))))).bind λb=>bif b then(some true) else(bif decide (o.Kind=7) then((fB (ah o.Body) 1 20).bind λc=>some (!c)) else(bif decide (o.Kind=9) then(some (decide (ah o.Boxes≠ah o.Guards))) else(bif decide (o.Kind=10) then((fB (ah o.Boxes) 1 6).bind λd=>some (!d)) else((bif decide (o.Kind=11) then(some (decide (ah o.Boxes≠1))) else(some false)).bind λe=>some e))))) (λq=>some q)) (λq=>some q)
theorem AM{o}:eP prog gl (z6 o) 257 [.agg (aJ o)] bG:=
 cy func257 λK=>uy 1101 (λf=>sp [] [(1,.ref 0 0)] [ob 0 44 (aJ o)] 1) (λs1=>sp [] [(1,.ref 0 0),(3,iG s1)] [ob 0 44 (aJ o)] 1) [] K (λf=>uy 11101 (λc=>sf [] []) (λd=>sf [] [(4,iG d)]) [] K (λc=>tl 111100 (sf [] []) [] 68 (rv K) (aF 71 (dI 75 (bJ gl) λi=>rv K)<|aF 79 (rv K)<|aF 89 (dI 93 (bJ gl) λj=>rv K)<|cN 111111110 (sf [68] []) []<|cC 111111110 (λb=>sk [] [(2,bG b)] [] 0) (λb=>rv K) λb e=>aF 97 (rx e)<|rx e) λa=>aF 38 (rx a)<|aF 44 (rx a)<|aF 50 (rx a)<|aF 56 (rx a)<|aF 62 (rx a)<|rx a) λd g k13 h=>aF 24 (dV 30 bH.ixZ 32 (bH.fdY tLY 3) λk=>aF 34 (aP c3 h [])<|rb g)<|aA c2 k13 []) λs1 k5 l k6=>aF 9 (dV 15 bZ.ixZ 17 (bZ.fdY E3 1) λm=>aF 19 (aP c3 k6 [])<|rb k5)<|aA c2 l []
def qC(o:DOp)(a:Int):Option ((Int)⊕(Unit⊕Int)):=
 bif decide (a<ah o.Guards) then((aS o.Guards (wI (a-1))).bind λb=>(aS o.Guards a).bind λc=>bif decide (c<=b) then(some (.inr (.inr 6))) else(some (.inl (wI (a+1))))) else(some (.inr (.inl ())))
def qD(o:DOp)(a:Int):Option ((Int)⊕(Unit⊕Int)):=
 bif decide (a<ah o.Past) then((aS o.Past (wI (a-1))).bind λb=>(aS o.Past a).bind λc=>(oU b c).bind λd=>bif(!d) then(some (.inr (.inr 6))) else(some (.inl (wI (a+1))))) else(some (.inr (.inl ())))
def qE(o:DOp):Option Int:=
 (bif decide (o.Kind<1) then(some true) else(some (decide (13<o.Kind)))).bind λi=>bif i then(some 1) else((mz o).bind λj=>bif(!j) then(some 1) else(((ia o).bind λa=>bif(!a) then(some true) else((vw o).bind λb=>some (!b))).bind λk=>bif k then(some 8) else((z6 o).bind λc=>bif c then(some 2) else((bo (qD o) 1).bind λd=>ma d (λg=>(bo (qC o) 1).bind λe=>ma e (λh=>(bif decide (ah o.Past=0) then(bif decide (o.Kind=1) then(some false) else(some true)) else(bif decide (o.Kind=1) then(some true) else(some false))).bind λf=>bif f then(some 10) else(some 0)) (λq=>some q)) (λq=>some q)))))
theorem GZ{o}:eP prog gl (qE o) 191 [.agg (aJ o)] iG:=
 cy func191 λK=>tl 1100 (sp [] [(1,.ref 0 0)] [ob 0 44 (aJ o)] 1) [] 12 (rv K) (dI 14 (Jr gl) λy=>aF 15 (rv K)<|tl 111100 (sf [12] []) [] 23 (rv K) (ak λq c=>kV (λb=>aw [hf 25 (cF (AM gl c) b)]<|rv K) λb=>aw [hf 25 (cF (AM gl c) b)]<|uy 11111101 (λd=>sf [23] []) (λe=>sf [23] [(3,iG e)]) [] K (λd=>uy 111111101 (λf=>sf [] []) (λg=>sf [] [(4,iG g)]) [] K (λf=>MY 1111111100 (sf [] []) [] 72 (rv K) (rv K) λa=>aF 68 (aF 71 (rx a)<|rx a)<|aF 71 (rx a)<|rx a) λg j k l=>aF 50 (dV 57 rZ.ixZ 58 (rZ.p1Y tZ) λr=>dV 62 rZ.ixZ 63 (rZ.p1Y tZ) λs=>aF 64 (aP c3 l [])<|rb j)<|aA c2 k []) λe m n p=>aF 30 (dV 37 ac.ixZ 38 (ac.ptZ aW) λt=>dV 42 ac.ixZ 43 (ac.ptZ aW) λu=>dI 44 (oV gl) λv=>aF 45 (aP c3 p [])<|rb m)<|aA c2 n []) λh=>dI 17 (De gl) λw=>aF 18 (rx h)<|dI 21 (GY gl) λx=>rx h) λi=>aF 7 (rx i)<|rx i
def qF(g:D12G)(b:DIdent)(s1:Int):Option ((Int)⊕(Unit⊕Int)):=
 bif decide (s1<ah g.IDs) then((aS g.IDs s1).bind λa=>bif decide (a=b) then(some (.inr (.inr s1))) else(some (.inl (wI (s1+1))))) else(some (.inr (.inl ())))
def fC(g:D12G)(a:DIdent):Option Int:=
 (bo (qF g a) 0).bind λb=>ma b (λc=>some (-1)) (λq=>some q)
theorem dX{g id_}:eP prog gl (fC g id_) 62 [.agg (aI g),.agg (aj id_)] iG:=
 cy func62 λK=>uy 1101 (λc=>sg [] []) (λs1=>sp [] [(2,.ref 0 0),(3,.ref 1 0),(5,iG s1)] [ob 0 30 (aI g),ob 1 36 (aj id_)] 2) [] K (λc=>rv K) λs1 k5 d k6=>aF 10 (dV 16 ac.ixZ 17 (ac.ptZ aW) λb=>kV (λa=>aw [hV 19 (cV (dU b id_ rfl) a)]<|aP c3 k6 []) λa=>aw [hV 19 (cV (dU b id_ rfl) a)]<|rb k5)<|aA c2 d []
def tX(g:D12G)(device:Int)(s1:DCard×Int):Option ((DCard×Int)⊕(DCard⊕(DCard×Bool))):=
 bif decide (s1.2<ah g.Cards) then((aS g.Cards s1.2).bind λa=>bif decide (a.Device=device) then((aS g.Cards s1.2).bind λb=>some (.inr (.inr (b,true)))) else(some (.inl (s1.1,wI (s1.2+1))))) else(some (.inr (.inl s1.1)))
def vz(g:D12G)(device:Int):Option (DCard×Bool):=
 (bo (tX g device) (⟨0,0,0,0,0⟩,0)).bind λa=>ma a (λb=>some (⟨0,0,0,0,0⟩,false)) (λq=>some q)
theorem AN{g device}:eP prog gl (vz g device) 134 [.agg (aI g),iG device] (λr=> .tup [.agg (bv r.1),bG r.2]):=
 cy func134 λK=>uy 1101 (λa=>sp [] [(4,.ref 0 0)] [ob 0 106 (bv a)] 1) (λs1=>so [0] [(2,.ref 0 0),(4,.ref 1 0),(6,iG s1.2)] [ob 0 30 (aI g),ob 1 106 (bv s1.1)] 2) [] K (λa=>rv K) λs1 k5 b k6=>aF 11 (dV 17 bT.ixZ 19 (bT.fdY tZ 0) λc=>aF 21 (dV 25 bT.ixZ 26 (bT.ptZ E2) λd=>aP c3 k6 [])<|rb k5)<|aA c2 b []
def jJ(pub:Nat)(b:List UInt8)(s:DSig):Option Bool:=
 (bif decide ((pub:Int)<((1:Nat):Int)) then(some true) else((fV).bind λa=>bif decide ((a:Int)<(pub:Int)) then(some true) else(bif decide ((s.R:Int)<((1:Nat):Int)) then(some true) else((fV).bind λc=>bif decide ((c:Int)<(s.R:Int)) then(some true) else((fV).bind λd=>some (decide ((d:Int)<=(s.S:Int)))))))).bind λf=>bif f then(some false) else((iK 37 s.S).bind λg=>(Pi s.R pub b).bind λh=>(iK pub h).bind λi=>(oQ s.R i).bind λe=>some (decide ((g:Int)=(e:Int))))
theorem G0{pub b s}:eP prog gl (jJ pub b s) 192 [uG pub,aE cY b,.agg (yy s)] bG:=
 cy func192 λK=>tl 1100 (so [2] [(5,.ref 0 0)] [ob 0 42 (yy s)] 1) [] 30 (rv K) (dI 33 (lc gl) λf=>dI 41 (LI gl) λg=>dI 42 (lc gl) λh=>dI 43 (nK gl) λa=>rv K) λk12=>aF 8 (rx k12)<|dI 11 (eU gl) λc=>aF 13 (rx k12)<|aF 18 (rx k12)<|dI 22 (eU gl) λd=>aF 24 (rx k12)<|dI 28 (eU gl) λe=>rx k12
def jK(g:D12G)(o:DOp)(in_:List Bool)(s1:Bool×Int):Option ((Bool×Int)⊕(Bool⊕Bool)):=
 bif decide (s1.2<ah g.L) then(((aS in_ s1.2).bind λa=>bif(!a) then(some true) else((aS g.L s1.2).bind λb=>some (decide (b.By≠o.By)))).bind λc=>bif c then(some (.inl (s1.1,wI (s1.2+1)))) else((aS g.L s1.2).bind λd=>bif decide (o.Seq<=d.Seq) then(some (.inr (.inr false))) else((bif s1.1 then(some true) else((aS g.L s1.2).bind λe=>some (decide (e.Seq=wI (o.Seq-1))))).bind λf=>some (.inl (f,wI (s1.2+1)))))) else(some (.inr (.inl s1.1)))
def lA(g:D12G)(o:DOp)(in_:List Bool):Option Bool:=
 (bo (jK g o in_) (false,0)).bind λc=>ma c (λa=>(bif decide (o.Seq=1) then(some true) else(some a)).bind λb=>some b) (λq=>some q)
theorem G1{g o in_}:eP prog gl (lA g o in_) 193 [.agg (aI g),.agg (aJ o),aE cO in_] bG:=
 cy func193 λK=>uy 11101 (λc=>sp [] [(4,.ref 0 0),(7,bG c)] [ob 0 44 (aJ o)] 1) (λs1=>sp [2] [(3,.ref 0 0),(4,.ref 1 0),(7,bG s1.1),(8,iG s1.2)] [ob 0 30 (aI g),ob 1 44 (aJ o)] 2) [] K (λc=>cN 11110 (sf [] []) []<|cC 11110 (λa=>sk [] [(6,bG a)] [] 0) (λa=>rv K) λa k12=>aF 56 (rx k12)<|rx k12) λs1 k5 f k6=>aF 13 (tl 111012210200 (sf [] []) [] 31 (rb k5) (dV 35 eJ.ixZ 37 (eJ.fdY tZ 1) λh=>aF 40 (aP c3 k6 [])<|cC 111012210211 (λb=>sf [31] [(7,bG b)]) (λb=>rb k5) λb d=>aF 41 (rx d)<|dV 46 eJ.ixZ 48 (eJ.fdY tZ 1) λi=>rx d) λe=>dV 18 rO.ixZ 19 (rO.p1Y tO) λj=>aF 20 (rx e)<|dV 25 eJ.ixZ 27 (eJ.fdY tZ 0) λk=>rx e)<|aA c2 f []
end
section
set_option maxHeartbeats 2000000
attribute [local irreducible] Tr dz Gp
def qG(g:D12G)(a:List Int)(c:Int)(b:Int):Option ((Int)⊕(Unit⊕(Int×List Int))):=
 bif decide (b<ah a) then((aS a c).bind λd=>(aS g.In d).bind λe=>(aS a b).bind λf=>(aS e f).bind λh=>bif h then(some (.inr (.inr (6,[])))) else(some (.inl (wI (b+1))))) else(some (.inr (.inl ())))
def qH(g:D12G)(o:DOp)(a:List Int)(b:Int):Option ((Int)⊕(Unit⊕(Int×List Int))):=
 bif decide (b<ah a) then((bo (qG g a b) 0).bind λc=>ma c (λf=>(aS a b).bind λd=>(aS g.L d).bind λe=>bif decide (o.At<e.At) then(some (.inr (.inr (6,[])))) else(some (.inl (wI (b+1))))) (λq=>some (.inr (.inr q)))) else(some (.inr (.inl ())))
def qI(g:D12G)(o:DOp)(a:List Int×Int):Option ((List Int×Int)⊕(List Int⊕(Int×List Int))):=
 bif decide (a.2<ah o.Past) then((aS o.Past a.2).bind λc=>(fC g c).bind λb=>bif decide (b<0) then(some (.inr (.inr (10,[])))) else((aT 8 a.1 ([b]:List Int)).bind λd=>some (.inl (d,wI (a.2+1))))) else(some (.inr (.inl a.1)))
def vA(g:D12G)(o:DOp):Option (Int×List Int):=
 (qE o).bind λk=>bif decide (k≠0) then(some (k,[])) else((pV o).bind λm=>(fC g m).bind λn=>bif decide (0<=n) then(some (5,[])) else(bif decide (200<=ah g.L) then(some (3,[])) else((vz g o.By).bind λb=>bif(!b.2) then(some (17,[])) else((lz o).bind λc=>(jJ b.1.Sign c o.Sig).bind λd=>bif(!d) then(some (12,[])) else((bif decide (o.Kind=1) then(some (decide (0<ah g.L))) else(some false)).bind λe=>bif e then(some (1,[])) else((bo (qI g o) ([],0)).bind λf=>ma f (λa=>(bo (qH g o a) 0).bind λh=>ma h (λl=>(jA g a).bind λi=>(lA g o i).bind λj=>bif(!j) then(some (11,[])) else(some (0,a))) (λq=>some q)) (λq=>some q)))))))
theorem G2{g o}:eP prog gl (vA g o) 114 [.agg (aI g),.agg (aJ o)] (λr=> .tup [iG r.1,aE cZ r.2]):=
 cy func114 λK=>dI 16 (GZ gl) λL=>aF 18 (rv K)<|dI 22 (AI gl) λM=>dI 23 (dX gl) λN=>aF 24 (rv K)<|aF 28 (rv K)<|dI 33 (AN gl) λw=>aF 37 (rv K)<|mH 41 rY (GX gl) λx=>dI 44 (G0 gl) λy=>aF 46 (rv K)<|tl 111111111100 (sp [] [(2,.ref 0 0),(3,.ref 1 0)] [ob 0 30 (aI g),ob 1 44 (aJ o)] 2) [] 55 (rv K) (uy 11111111111101 (λb=>sf [55] [(10,aE cZ b)]) (λa=>so [55] [(10,.rsl 2 0 a.1.length),(11,iG a.2)] [ob 2 3 (a.1.flatMap cZ)] 3) [hc (rZ.imm [])] K (λb=>uy 111111111111101 (λe=>sf [] []) (λf=>sf [] [(13,iG f)]) [] K (λe=>mH 118 rO (AK gl) λz=>dI 119 (G1 gl) λA=>aF 120 (rv K)<|rv K) λf l m h=>aF 79 (uy 1111111111111012210201 (λi=>sf [] []) (λj=>sf [] [(14,iG j)]) [] h (λi=>dV 108 rZ.ixZ 109 (rZ.p1Y tZ) λB=>dV 110 eJ.ixZ 112 (eJ.fdY tZ 3) λC=>aF 113 (aP c3 h [])<|rb l) λj n p q=>aF 85 (dV 92 rZ.ixZ 93 (rZ.p1Y tZ) λD=>dV 94 zV.ixZ 95 (zV.p1Y Vt) λE=>dV 98 rZ.ixZ 99 (rZ.p1Y tZ) λF=>ak λH c=>aw [bR 100 (rO.ixZ c)]<|kV (λd=>aw [bR 101 (cB (rO.p1Z tO c) d)]<|aP c3 q []) λd=>aw [bR 101 (cB (rO.p1Z tO c) d)]<|rb n)<|aA c2 p [])<|aA c2 m []) λa s t u=>aF 60 (dV 67 ac.ixZ 68 (ac.ptZ aW) λI=>dI 69 (dX gl) λJ=>aF 71 (aP c3 u [])<|iZ (dg 75 rZ) λv=>cj s (fx rZ v))<|aA c2 t [hc (rZ.al a.1)]) λk=>aF 49 (rx k)<|rx k
def xr(g:D12G)(a:List (List Bool)×Int):Option ((List (List Bool)×Int)⊕(List (List Bool))):=
 bif decide (a.2<ah g.In) then((aS g.In a.2).bind λb=>(aT 1 ([]:List Bool) b).bind λc=>((aT 1 c [false]).bind λd=>(aT 24 a.1 [d]).bind λe=>some e).bind λf=>some (.inl (f,wI (a.2+1)))) else(some (.inr a.1))
def AO(g:D12G)(o:DOp):Option (D12G×Int):=
 (vA g o).bind λa=>bif decide (a.1≠0) then(some (g,a.1)) else((jA g a.2).bind λl=>(aT 328 ([]:List DOp) g.L).bind λm=>(aT 328 m [o]).bind λn=>(aT 24 ([]:List DIdent) g.IDs).bind λb=>(pV o).bind λc=>(aT 24 b [c]).bind λd=>(aT 24 ([]:List (List Int)) g.Up).bind λe=>(aT 24 e [a.2]).bind λf=>(bo (xr g) ([],0)).bind λh=>((aT 1 l [false]).bind λi=>(aT 24 h [i]).bind λj=>some j).bind λk=>some (⟨g.Cards,n,d,f,k⟩,0))
theorem M9{g o}:eP prog gl (AO g o) 48 [.agg (aI g),.agg (aJ o)] (λr=> .tup [.agg (aI r.1),iG r.2]):=
 cy func48 λK=>dI 15 (G2 gl) λw=>aF 19 (rv K)<|ak λb e5=>iZ (wX 32 eJ) λB=>iZ (dg 35 eJ) λl=>iZ (wX 41 ac) λx=>dI 43 (AI gl) λy=>iZ (dg 45 ac) λe=>iZ (wX 51 nH) λz=>iZ (dg 54 nH) λf=>aw [ho 24 [.agg (aI g),aE cZ w.2] [] (AK gl e5) (lO b)]<|lS 111111111101 (λc=>sp [] [(4,.ref 0 0),(8,.rsl 1 0 b.length),(9,.ref 2 0)] [ob 0 30 (bF [0,1,2,3,4] (aI xm)),ob 1 4 (b.flatMap cO),ob 2 30 [aE bv g.Cards,aE aJ l,aE aj e,aE Jc f,.rsl 3 0 c.length],ob 3 164 (c.flatMap OT)] 4) (λa=>sp [] [(2,.ref 0 0),(4,.ref 1 0),(8,.rsl 2 0 b.length),(9,.ref 3 0),(10,iG a.2)] [ob 0 30 (aI g),ob 1 30 (bF [0,1,2,3,4] (aI xm)),ob 2 4 (b.flatMap cO),ob 3 30 [aE bv g.Cards,aE aJ l,aE aj e,aE Jc f,.rsl 4 0 a.1.length],ob 4 164 (a.1.flatMap OT)] 5) [hc (el b),hc (rO.imm b),hc (eJ.al l),hc (ac.al e),hc (nH.al f),hc (zV.imm [])] (λc=>cN 111111111110 (sf [] []) [hc (el b),hc (rO.imm b),hc (el c),hc (zV.imm c)]<|cC 111111111110 (λh=>sx [8] [(9,.ref 1 0)] [ob 0 30 (bF [0,1,2,3,4] (aI xm)),ob 1 30 [aE bv g.Cards,aE aJ l,aE aj e,aE Jc f,.rsl 2 0 h.length],ob 2 164 (h.flatMap OT)] 3) (λh=>aP c0 K [hc (zV.al h)]) λh s=>iZ (dg 82 rO) λi=>ak λm n=>aw [Tv 84 zV n [.rsl 5 0 i.length] rfl]<|aA c0 s [hc (el m),ZV zV n [.rsl 5 0 i.length],hc (rO.al i)] (kd:=[(2,.app (c.flatMap OT) [.rsl 5 0 i.length] (OT i) (m.flatMap OT))])) λa t u=>aF 60 (dV 67 zV.ixZ 68 (zV.p1Y Vt) λA=>iZ (wX 69 rO) λk=>cN 1111111111012210211 (so [] [(11,.rsl 5 0 k.length)] [ob 5 4 (k.flatMap cO)] 6) [hc (el b),hc (el k),hc (rO.imm b),hc (el a.1),hc (zV.imm a.1),hc (rO.imm k)]<|cC 1111111111012210211 (λd=>sx [11] [] [ob 0 30 (aI g),ob 1 30 (bF [0,1,2,3,4] (aI xm)),ob 2 4 (b.flatMap cO),ob 3 30 [aE bv g.Cards,aE aJ l,aE aj e,aE Jc f,.rsl 4 0 d.length],ob 4 164 (d.flatMap OT)] 5) (λd=>cj t [hc (el b),hc (rO.imm b),hc (el d),hc (zV.imm d)]) λd v=>iZ (dg 74 rO) λj=>ak λp q=>aw [Tv 76 zV q [.rsl 7 0 j.length] rfl]<|aA c0 v [hc (el b),hc (rO.imm b),hc (el p),ZV zV q [.rsl 7 0 j.length],hc (rO.al j)] (kd:=[(2,.row),(4,.app (a.1.flatMap OT) [.rsl 7 0 j.length] (OT j) (p.flatMap OT))]))<|aA c1 u [hc (el b),hc (rO.imm b),hc (el a.1),hc (zV.imm a.1)]
def r8:Option (List Int):=
 some ([1,2,3,1,2,3]:List Int)
theorem E9:rX prog gl (r8) 53 [] 3 cZ:=
 gc func53 λK=>mr c0 K (rZ.imm _)
def z7(n:Int):Option Int:=
 (aS ([6,4,3,2,5,7,8,3,6,9,11,11,13,12,10,4,3,2,6,13]:List Int) (Int.tmod n 20)).bind λa=>some a
theorem Js{n}:eP prog gl (z7 n) 13 [iG n] iG:=
 cy func13 λK=>dV 6 (rZ.ixrZ 0) 7 (rZ.p10Y tZ) λa=>rv K
def vB(l:List DIdent)(s1:List DIdent×Int)(a:Int):Option ((Int)⊕(Int)):=
 bif decide (0<a) then((aS l s1.2).bind λb=>(aS s1.1 (wI (a-1))).bind λc=>(oU b c).bind λd=>bif(!d) then(some (.inr a)) else(some (.inl (wI (a-1))))) else(some (.inr a))
def oZ(l:List DIdent)(s1:List DIdent×Int):Option ((List DIdent×Int)⊕(List DIdent)):=
 bif decide (s1.2<ah l) then((bo (vB l s1) (ah s1.1)).bind λa=>(tq s1.1 a).bind λb=>(aT 24 ([]:List DIdent) b).bind λc=>(aS l s1.2).bind λd=>(aT 24 c [d]).bind λe=>(mc s1.1 a).bind λf=>(aT 24 e f).bind λg=>some (.inl (g,wI (s1.2+1)))) else(some (.inr s1.1))
def iu(l:List DIdent):Option (List DIdent):=
 (bo (oZ l) ([],0)).bind λa=>some a
theorem iO{l}:rX prog gl (iu l) 58 [aE aj l] 36 aj:=
 gc func58 λK=>lS 11101 (λd=>sp [] [(3,.rsl 0 0 d.length)] [ob 0 36 (d.flatMap aj)] 1) (λs1=>so [] [(3,.rsl 0 0 s1.1.length),(4,iG s1.2)] [ob 0 36 (s1.1.flatMap aj)] 1) [hc (ac.imm [])] (λd=>mr c0 K (ac.imm _)) λs1 k5 g=>aF 10 (lS 111012210210 (λa=>sx [] [(3,aE aj s1.1),(5,iG a)] [] 0) (λb=>sx [] [(3,aE aj s1.1),(5,iG b)] [] 0) [hc (ac.al s1.1)] (λa=>rdv 33 ac.preZI λh=>iZ (wX 34 ac) λi=>dV 38 ac.ixZ 39 (ac.ptZ aW) λj=>iZ (dg 41 ac) λk=>rdv 45 ac.sufZI λm=>iZ (eu 46 ac) λe=>cj k5 (fx ac e)) λb f c=>aF 16 (dV 19 ac.ixZ 20 (ac.ptZ aW) λn=>dV 24 ac.ixZ 25 (ac.ptZ aW) λo=>dI 26 (oV gl) λp=>aF 27 (aA c1 c [])<|rb f)<|aA c1 c [])<|aA c1 g (fx ac s1.1)
def xt(g:D12G):Option (List DIdent):=
 (iu g.IDs).bind λa=>some a
theorem DK{g}:rX prog gl (xt g) 15 [.agg (aI g)] 36 aj:=
 gc func15 λK=>ak λa e2=>aw [ho 5 [aE aj g.IDs] [] (iO gl e2) (kF a)]<|mr c0 K (ac.imm _)
def qJ(l:List DIdent)(b:DIdent)(s1:Int):Option ((Int)⊕(Unit⊕Bool)):=
 bif decide (s1<ah l) then((aS l s1).bind λa=>bif decide (a=b) then(some (.inr (.inr true))) else(some (.inl (wI (s1+1))))) else(some (.inr (.inl ())))
def jL(l:List DIdent)(a:DIdent):Option Bool:=
 (bo (qJ l a) 0).bind λb=>ma b (λc=>some false) (λq=>some q)
theorem jM{l id_}:eP prog gl (jL l id_) 18 [aE aj l,.agg (aj id_)] bG:=
 cy func18 λK=>uy 1101 (λc=>sg [] []) (λs1=>so [1] [(3,.ref 0 0),(5,iG s1)] [ob 0 36 (aj id_)] 1) [] K (λc=>rv K) λs1 k5 d k6=>aF 9 (dV 14 ac.ixZ 15 (ac.ptZ aW) λb=>kV (λa=>aw [hV 17 (cV (dU b id_ rfl) a)]<|aP c3 k6 []) λa=>aw [hV 17 (cV (dU b id_ rfl) a)]<|rb k5)<|aA c2 d []
def t7(g:D12G)(ids:List DIdent)(s1:List DIdent×Int)(a:Bool×Int):Option ((Bool×Int)⊕(Bool)):=
 bif decide (a.2<ah ids) then((aS ids a.2).bind λc=>(fC g c).bind λb=>(bif a.1 then(some true) else(bif decide (0<=b) then((aS g.In (hE b 0)).bind λd=>(aS d s1.2).bind λe=>some e) else(some false))).bind λf=>some (.inl (f,wI (a.2+1)))) else(some (.inr a.1))
def t8(g:D12G)(ids:List DIdent)(s1:List DIdent×Int):Option ((List DIdent×Int)⊕(List DIdent)):=
 bif decide (s1.2<ah g.L) then((bo (t7 g ids s1) (false,0)).bind λa=>bif a then((aS g.IDs s1.2).bind λb=>(aT 24 s1.1 [b]).bind λc=>some (.inl (c,wI (s1.2+1)))) else(some (.inl (s1.1,wI (s1.2+1))))) else(some (.inr s1.1))
def r9(g:D12G)(ids:List DIdent):Option (List DIdent):=
 (bo (t8 g ids) ([],0)).bind λb=>(iu b).bind λa=>some a
theorem AP{g ids}:rX prog gl (r9 g ids) 61 [.agg (aI g),aE aj ids] 36 aj:=
 gc func61 λK=>lS 11101 (λe=>sg [] [(5,aE aj e)]) (λs1=>so [0] [(2,.ref 0 0),(5,.rsl 1 0 s1.1.length),(6,iG s1.2)] [ob 0 30 (aI g),ob 1 36 (s1.1.flatMap aj)] 2) [hc (ac.imm [])] (λe=>ak λf h=>aw [ho 55 [aE aj e] [] (iO gl h) (kF f)]<|mr c0 K (ac.imm _)) λs1 k5 m=>aF 14 (lS 1110122102101 (λd=>sf [] [(7,bG d)]) (λa=>sf [] [(7,bG a.1),(8,iG a.2)]) (fx ac s1.1) (λd=>aF 45 (dV 50 ac.ixZ 51 (ac.ptZ aW) λn=>iZ (dg 53 ac) λi=>cj k5 (fx ac i))<|cj k5 (fx ac s1.1)) λa j k=>aF 20 (dV 26 ac.ixZ 27 (ac.ptZ aW) λo=>dI 28 (dX gl) λl=>cN 1110122102101221021 (sf [] [(9,iG l)]) (fx ac s1.1)<|cC 1110122102101221021 (λb=>sf [9] [(7,bG b)]) (λb=>cj j (fx ac s1.1)) λb c=>aF 29 (aA c0 c (fx ac s1.1))<|aF 32 (dV 38 zV.ixZ 39 (zV.p1Y Vt) λp=>dV 41 rO.ixZ 42 (rO.p1Y tO) λq=>aA c0 c (fx ac s1.1))<|aA c0 c (fx ac s1.1))<|aA c1 k (fx ac s1.1))<|aA c1 m [hc (ac.al s1.1)]
def t9(g:D12G)(ids:List DIdent)(s3:List DIdent×Int):Option ((List DIdent×Int)⊕(List DIdent)):=
 bif decide (s3.2<ah ids) then(((aS ids s3.2).bind λa=>(fC g a).bind λb=>bif decide (0<=b) then((aS ids s3.2).bind λc=>(jL s3.1 c).bind λd=>some (!d)) else(some false)).bind λe=>bif e then((aS ids s3.2).bind λf=>(aT 24 s3.1 [f]).bind λh=>some (.inl (h,wI (s3.2+1)))) else(some (.inl (s3.1,wI (s3.2+1))))) else(some (.inr s3.1))
def tv(g:D12G)(ids:List DIdent):Option (List DIdent):=
 (r9 g ids).bind λb=>(bo (t9 g ids) (b,0)).bind λc=>(iu c).bind λa=>some a
theorem ua{g ids}:rX prog gl (tv g ids) 36 [.agg (aI g),aE aj ids] 36 aj:=
 gc func36 λK=>ak λi e2=>aw [ho 9 [.agg (aI g),aE aj ids] [] (AP gl e2) (kF i)]<|lS 11101 (λb=>sg [] [(5,aE aj b)]) (λs3=>so [0] [(2,.ref 0 0),(5,.rsl 1 0 s3.1.length),(6,iG s3.2)] [ob 0 30 (aI g),ob 1 36 (s3.1.flatMap aj)] 2) (fx ac i) (λb=>ak λc d=>aw [ho 40 [aE aj b] [] (iO gl d) (kF c)]<|mr c0 K (ac.imm _)) λs3 j k6=>aF 13 (tl 11101221020 (sf [] []) (fx ac s3.1) 31 (dV 35 ac.ixZ 36 (ac.ptZ aW) λk=>iZ (dg 38 ac) λe=>cj j (fx ac e)) (cj j (fx ac s3.1)) λa=>dV 19 ac.ixZ 20 (ac.ptZ aW) λl=>dI 21 (dX gl) λm=>aF 22 (dV 27 ac.ixZ 28 (ac.ptZ aW) λf=>ak λn h=>aw [hq 29 [aE aj s3.1,.agg (aj f)] [hc (ac.al s3.1)] (jM gl h)]<|aA c0 a (fx ac s3.1))<|aA c0 a (fx ac s3.1))<|aA c1 k6 [hc (ac.al s3.1)]
def ub(g:D12G)(device:Int)(s3:Int×Int):Option ((Int×Int)⊕(Int)):=
 bif decide (s3.2<ah g.L) then((aS g.L s3.2).bind λa=>bif decide (a.By=device) then(some (.inl (s3.2,wI (s3.2+1)))) else(some (.inl (s3.1,wI (s3.2+1))))) else(some (.inr s3.1))
def zJ(g:D12G)(device:Int)(n:Int):Option (List DIdent):=
 (xt g).bind λj=>(bo (ub g device) ((-1),0)).bind λa=>(bif decide (Int.tmod n 37=7) then(some (decide (0<a))) else(some false)).bind λj12=>bif j12 then((aS g.L a).bind λb=>(tv g b.Past).bind λc=>some c) else((bif decide (0<Int.tmod n 3) then(some true) else(some (decide (a<0)))).bind λd=>bif d then(some j) else((aS g.IDs a).bind λe=>(u9 (wI (Int.tdiv n 3)) (ah g.IDs)).bind λf=>(aS g.IDs f).bind λh=>(tv g [e,h]).bind λi=>some i))
theorem Jv{g device n}:rX prog gl (zJ g device n) 14 [.agg (aI g),iG device,iG n] 36 aj:=
 gc func14 λK=>ak λa e2=>aw [ho 11 [.agg (aI g)] [] (DK gl e2) (kF a)]<|lS 111101 (λm=>sp [2] [(3,.ref 0 0),(7,.rsl 1 0 a.length),(8,iG m)] [ob 0 30 (aI g),ob 1 36 (a.flatMap aj)] 2) (λs3=>so [0] [(3,.ref 0 0),(7,.rsl 1 0 a.length),(8,iG s3.1),(9,iG s3.2)] [ob 0 30 (aI g),ob 1 36 (a.flatMap aj)] 2) (fx ac a) (λm=>tl 1111100 (sf [] []) (fx ac a) 34 (dV 39 eJ.ixZ 41 (eJ.fdY Pb 4) λf=>ak λh i=>aw [ho 42 [.agg (aI g),aE aj f.Past] [] (ua gl i) (kF h)]<|mr c0 K (ac.imm _)) (tl 11111100 (sf [34] []) (fx ac a) 49 (mr c0 K (ac.imm _)) (dV 55 ac.ixZ 56 (ac.ptZ aW) λb=>ak λp j=>dV 65 ac.ixZ 66 (ac.ptZ aW) λc=>ak λk l=>aw [hbb 64 (KO j),ho 68 [.agg (aI g),aE aj [b,c]] [hc (ac.al [b,c])] (ua gl l) (kF k)]<|mr c0 K (ac.imm _)) λd=>aF 45 (aA c0 d (fx ac a))<|aA c0 d (fx ac a)) λe=>aF 30 (aA c0 e (fx ac a))<|aA c0 e (fx ac a)) λs3 o k6=>aF 16 (dV 22 eJ.ixZ 24 (eJ.fdY tZ 0) λq=>aF 26 (cj o (fx ac a))<|cj o (fx ac a))<|aA c1 k6 (fx ac a)
def vC(g:D12G)(ids:List DIdent)(kind:Int)(s1:DIdent×DOp×Int):Option ((DIdent×DOp×Int)⊕((Int×Int×Nat×DOp)⊕(DIdent×DOp))):=
 bif decide (0<=s1.2.2) then(((aS g.L s1.2.2).bind λa=>bif decide (a.Kind=kind) then((aS g.IDs s1.2.2).bind λb=>(jL ids b).bind λc=>some c) else(some false)).bind λj13=>bif j13 then((aS g.IDs s1.2.2).bind λd=>(aS g.L s1.2.2).bind λe=>some (.inr (.inr (d,e)))) else(some (.inl (s1.1,s1.2.1,wI (s1.2.2-1))))) else(some (.inr (.inl (s1.1.By,s1.1.Seq,s1.1.Sum,s1.2.1))))
def nS(g:D12G)(ids:List DIdent)(kind:Int):Option (DIdent×DOp):=
 (bo (vC g ids kind) (⟨0,0,0⟩,⟨0,0,0,0,[],0,0,0,0,[],⟨0,0,0⟩,0,[],[],⟨0,0,0⟩,[],0,0,[],0,[],⟨0,0⟩⟩,wI ((ah g.L)-1))).bind λa=>ma a (λb=>some (⟨0,0,0⟩,⟨0,0,0,0,[],0,0,0,0,[],⟨0,0,0⟩,0,[],[],⟨0,0,0⟩,[],0,0,[],0,[],⟨0,0⟩⟩)) (λq=>some q)
theorem vD{g ids kind}:eP prog gl (nS g ids kind) 16 [.agg (aI g),aE aj ids,iG kind] (λr=> .tup [.agg (aj r.1),.agg (aJ r.2)]):=
 cy func16 λK=>uy 1101 (λa=>sp [] [(6,.ref 0 0),(7,.ref 1 0)] [ob 0 36 (aj (⟨a.1,a.2.1,a.2.2.1⟩:DIdent)),ob 1 44 (aJ a.2.2.2)] 2) (λs1=>so [0] [(3,.ref 0 0),(6,.ref 1 0),(7,.ref 2 0),(8,iG s1.2.2)] [ob 0 30 (aI g),ob 1 36 (aj s1.1),ob 2 44 (aJ s1.2.1)] 3) [] K (λa=>rv K) λs1 k5 c k6=>aF 14 (tl 1101221020 (sf [] []) [] 33 (dV 37 ac.ixZ 38 (ac.ptZ aW) λd=>dV 42 eJ.ixZ 43 (eJ.ptZ GN) λe=>aP c3 k6 []) (rb k5) λb=>dV 20 eJ.ixZ 22 (eJ.fdY tZ 2) λf=>aF 24 (dV 30 ac.ixZ 31 (ac.ptZ aW) λh=>dI 32 (jM gl) λi=>rx b)<|rx b)<|aA c2 c []
end
section
set_option maxHeartbeats 2000000
attribute [local irreducible] Tr dz Gp
def uc(n:Int)(s1:List DBox×Int):Option ((List DBox×Int)⊕(List DBox)):=
 bif decide (s1.2<n) then((aT 32 s1.1 [(⟨1,1,wU s1.2,1⟩:DBox)]).bind λa=>some (.inl (a,wI (s1.2+1)))) else(some (.inr s1.1))
def o4(n:Int):Option (List DBox):=
 (bo (uc n) ([],0)).bind λa=>some a
theorem Jw{n}:rX prog gl (o4 n) 59 [iG n] 209 cz:=
 gc func59 λK=>lS 11101 (λa=>sp [] [(3,.rsl 0 0 a.length)] [ob 0 209 (a.flatMap cz)] 1) (λs1=>so [] [(3,.rsl 0 0 s1.1.length),(4,iG s1.2)] [ob 0 209 (s1.1.flatMap cz)] 1) [hc (f9.imm [])] (λa=>mr c0 K (f9.imm _)) λs1 k5 c=>aF 7 (iZ (dg 15 f9) λb=>aw [bR 12 (C8 s1.2)]<|cj k5 (fx f9 b))<|aA c1 c (fx f9 s1.1)
def nT(g:D12G)(device:Int):Option Int:=
 (vz g device).bind λa=>bif(!a.2) then(some 0) else(some a.1.Member)
theorem vE{g device}:eP prog gl (nT g device) 60 [.agg (aI g),iG device] iG:=
 cy func60 λK=>dI 10 (AN gl) λa=>aF 14 (rv K)<|rv K
def vF(n:Int)(s8:List Int×Int):Option ((List Int×Int)⊕(List Int)):=
 bif decide (s8.2<=4) then((Gg n s8.2).bind λa=>bif decide (Int.tmod a 2=0) then((aT 8 s8.1 ([s8.2]:List Int)).bind λb=>some (.inl (b,wI (s8.2+1)))) else(some (.inl (s8.1,wI (s8.2+1))))) else(some (.inr s8.1))
def sc(g:D12G)(ids:List DIdent)(o:DOp)(n:Int):Option DOp:=
 (nS g ids 9).bind λb=>(bif decide (o.Kind≠9) then(some (decide (b.1=(⟨0,0,0⟩:DIdent)))) else(some false):Option Bool).bind λt=>(bif t then(some 9) else(some o.Kind)).bind λa=>bif decide (a=9) then((bo (vF n) ([],1)).bind λs=>(bif decide (ah s=0) then(some ([1,2]:List Int)) else(some s)).bind λc=>(u9 (wI (Int.tdiv n 16)) (iI 2 (ah c))).bind λj=>(o4 (ah c)).bind λk=>some ({o with Kind:=a,Path:=[],Guards:=c,Need:=wI (1+j),Wait:=Int.tmod (wI (Int.tdiv n 32)) 3,Boxes:=k,Pub:=5})) else((nT g b.1.By).bind λd=>(bif decide (a=10) then((o4 (ah b.2.Guards)).bind λl=>some (b.1.By,l)) else(some (o.By,o.Boxes))).bind λf=>(bif decide (a=11) then(some true) else(some (decide (a=13)))).bind λm=>(bif m then((u9 n (ah b.2.Guards)).bind λp=>(aS b.2.Guards p).bind λq=>some (q,wI (d+3))) else(some (f.1,o.Device))).bind λe=>(bif decide (a=11) then((o4 1).bind λr=>some r) else(some f.2)).bind λh=>(bif decide (a=13) then(some d) else(some o.Old)).bind λi=>bif decide (a=12) then(some ({o with By:=d,Kind:=a,Device:=e.2,Old:=i,Path:=[],Of:=b.1,Guards:=[],Boxes:=h})) else(some ({o with By:=e.1,Kind:=a,Device:=e.2,Old:=i,Path:=[],Of:=b.1,Guards:=[],Boxes:=h})))
theorem Fb{g ids o n}:eP prog gl (sc g ids o n) 17 [.agg (aI g),aE aj ids,.agg (bF [9,19] (aJ ({o with Path:=[],Guards:=[]}))),iG n] (λr=> .agg (bF [9] (aJ ({r with Path:=[]})))):=
 cy func17 λK=>dI 16 (vD gl) λc=>cN 11100 (sp [3] [(4,.ref 0 0),(6,.ref 1 0),(8,.ref 2 0),(9,.ref 3 0),(10,.ref 4 0)] [ob 0 30 (aI g),ob 1 44 (bF [9,19] (aJ ({o with Path:=[],Guards:=[]}))),ob 2 44 (bF [4,9,14,15,19,22,24] (aJ ip)),ob 3 36 (aj c.1),ob 4 44 (aJ c.2)] 5) []<|cC 11100 (λu=>sf [] [(26,bG u)]) (λu=>cC 11101 (λb=>so [26] [] [ob 1 44 (bF [9,19] (aJ ({o with Kind:=b,Path:=[],Guards:=[]})))] 5) (λb=>aF 30 (lS 111101301 (λv=>sk [3] [(6,.ref 0 0),(8,.ref 1 0)] [ob 0 44 (bF [9] (aJ ({o with Kind:=b,Path:=[],Guards:=v}))),ob 1 44 (bF [4,9,14,15,19,22,24] (aJ ip))] 2) (λs8=>sk [3,8] [(6,.ref 0 0),(11,iG s8.2)] [ob 0 44 [iG o.By,iG o.Seq,iG b,iG o.At,aE aj o.Past,iG o.Device,iG o.Old,iG o.Member,iG o.Role,Iy,iG o.Epoch.By,iG o.Epoch.Seq,uG o.Epoch.Sum,iG o.N,aE cY o.Body,aE cW o.Refs,iG o.Of.By,iG o.Of.Seq,uG o.Of.Sum,.rsl 1 0 s8.1.length,iG o.Need,iG o.Wait,aE cz o.Boxes,uG o.Pub,aE bp o.Hist,uG o.Sig.R,uG o.Sig.S],ob 1 3 (s8.1.flatMap cZ),ob 2 44 (bF [4,9,14,15,19,22,24] (aJ ip))] 3) [hc (rZ.imm [])] (λv=>cN 1111013101 (sf [] [(49,bG (decide (ah v=0)))]) []<|cC 1111013101 (λf=>so [49] [] [ob 0 44 (bF [9] (aJ ({o with Kind:=b,Path:=[],Guards:=f})))] 2) (λf=>ak λB w=>mH 69 f9 (Jw gl) λC=>aw [hbb 58 (KO w)]<|rv K) λf j=>eH [49] (aA c0 j [hc (rZ.al ([1,2]:List Int))])<|rx j) λs8 k12 k11=>aF 32 (ak λD x=>aw [hbb 37 (Tt x)]<|aF 39 (iZ (dg 44 rZ) λy=>cj k12 (fx rZ y))<|cj k12 (fx rZ s8.1))<|aA c1 k11 [hc (rZ.al s8.1)])<|dI 77 (vE gl) λz=>cN 111111101 (sx [4] [(6,.ref 0 0),(8,.ref 1 0),(9,.ref 2 0),(10,.ref 3 0),(12,iG z),(80,bG (decide (b=10)))] [ob 0 44 (bF [9,19] (aJ ({o with Kind:=b,Path:=[],Of:=c.1,Guards:=[]}))),ob 1 44 (bF [4,9,14,15,19,22,24] (aJ ip)),ob 2 36 (aj c.1),ob 3 44 (aJ c.2)] 4) []<|cC 111111101 (λd=>sx [9,80] [(10,.ref 2 0)] [ob 0 44 (bF [9,19] (aJ ({o with By:=d.1,Kind:=b,Path:=[],Of:=c.1,Guards:=[],Boxes:=d.2}))),ob 1 44 (bF [4,9,14,15,19,22,24] (aJ ip)),ob 2 44 (aJ c.2)] 3) (λd=>cN 1111111100 (sf [] []) []<|cC 1111111100 (λh=>sf [] [(96,bG h)]) (λh=>cC 1111111101 (λa=>sx [3,10,96] [] [ob 0 44 (bF [9,19] (aJ ({o with By:=a.1,Kind:=b,Device:=a.2,Path:=[],Of:=c.1,Guards:=[],Boxes:=d.2}))),ob 1 44 (bF [4,9,14,15,19,22,24] (aJ ip))] 2) (λa=>cN 11111111101 (sf [] [(112,bG (decide (b=11)))]) []<|cC 11111111101 (λe=>so [112] [] [ob 0 44 (bF [9,19] (aJ ({o with By:=a.1,Kind:=b,Device:=a.2,Path:=[],Of:=c.1,Guards:=[],Boxes:=e})))] 2) (λe=>cN 111111111101 (sf [] [(117,bG (decide (b=13)))]) []<|cC 111111111101 (λi=>so [117] [] [ob 0 44 (bF [9,19] (aJ ({o with By:=a.1,Kind:=b,Device:=a.2,Old:=i,Path:=[],Of:=c.1,Guards:=[],Boxes:=e})))] 2) (λi=>aF 122 (rv K)<|rv K) λi k=>eH [117] (rx k)<|rx k) λe l=>eH [112] (mH 113 f9 (Jw gl) λE=>rx l)<|rx l) λa m=>eH [96] (ak λF A=>dV 104 rZ.ixZ 105 (rZ.p1Y tZ) λH=>aw [hbb 103 (KO A)]<|rx m)<|rx m) λh p=>aF 91 (rx p)<|rx p) λd q=>eH [80] (mH 87 f9 (Jw gl) λI=>aA c0 q [])<|aA c0 q []) λb s=>eH [26] (rx s)<|rx s) λu t=>aF 21 (aw [hV 25 (dU c.1 (⟨0,0,0⟩:DIdent) rfl)]<|rx t)<|rx t
def qK(g:D12G)(ids:List DIdent)(k:List DIdent)(s3:List DIdent×Int):Option ((List DIdent×Int)⊕(List DIdent)):=
 bif decide (s3.2<ah ids) then(((aS ids s3.2).bind λa=>(fC g a).bind λb=>bif decide (0<=b) then((aS ids s3.2).bind λc=>(jL k c).bind λd=>bif(!d) then((aS ids s3.2).bind λe=>(jL s3.1 e).bind λf=>some (!f)) else(some false)) else(some false)).bind λh=>bif h then((aS ids s3.2).bind λi=>(aT 24 s3.1 [i]).bind λj=>some (.inl (j,wI (s3.2+1)))) else(some (.inl (s3.1,wI (s3.2+1))))) else(some (.inr s3.1))
def qL(g:D12G)(ids:List DIdent):Option (List DIdent):=
 (r9 g ids).bind λb=>(bo (qK g ids b) ([],0)).bind λc=>(iu c).bind λa=>some a
theorem G3{g ids}:rX prog gl (qL g ids) 19 [.agg (aI g),aE aj ids] 36 aj:=
 gc func19 λK=>mH 10 ac (AP gl) λj=>lS 111101 (λb=>sg [] [(6,aE aj b)]) (λs3=>so [0] [(2,.ref 0 0),(5,aE aj j),(6,.rsl 1 0 s3.1.length),(7,iG s3.2)] [ob 0 30 (aI g),ob 1 36 (s3.1.flatMap aj)] 2) [hc (ac.imm [])] (λb=>ak λc d=>aw [ho 50 [aE aj b] [] (iO gl d) (kF c)]<|mr c0 K (ac.imm _)) λs3 i k6=>aF 14 (tl 111101221020 (sf [] []) (fx ac s3.1) 41 (dV 45 ac.ixZ 46 (ac.ptZ aW) λk=>iZ (dg 48 ac) λe=>cj i (fx ac e)) (cj i (fx ac s3.1)) λa=>dV 20 ac.ixZ 21 (ac.ptZ aW) λl=>dI 22 (dX gl) λm=>aF 23 (dV 28 ac.ixZ 29 (ac.ptZ aW) λn=>dI 30 (jM gl) λo=>aF 32 (dV 37 ac.ixZ 38 (ac.ptZ aW) λf=>ak λp h=>aw [hq 39 [aE aj s3.1,.agg (aj f)] [hc (ac.al s3.1)] (jM gl h)]<|aA c0 a (fx ac s3.1))<|aA c0 a (fx ac s3.1))<|aA c0 a (fx ac s3.1))<|aA c1 k6 [hc (ac.al s3.1)]
def xu(ids:List DIdent)(device:Int)(s1:Int×Int):Option ((Int×Int)⊕(Int)):=
 bif decide (s1.2<ah ids) then((aS ids s1.2).bind λa=>bif decide (a.By=device) then((aS ids s1.2).bind λb=>some (.inl (hE s1.1 b.Seq,wI (s1.2+1)))) else(some (.inl (s1.1,wI (s1.2+1))))) else(some (.inr s1.1))
def Fc(g:D12G)(ids:List DIdent)(device:Int):Option Int:=
 (bo (xu ids device) (0,0)).bind λa=>some (wI (a+1))
theorem Na{g ids device}:eP prog gl (Fc g ids device) 20 [.agg (aI g),aE aj ids,iG device] iG:=
 cy func20 λK=>lS 11101 (λa=>sg [] [(7,iG a)]) (λs1=>sf [0] [(7,iG s1.1),(8,iG s1.2)]) [] (λa=>rv K) λs1 k5 b=>aF 12 (dV 17 ac.ixZ 19 (ac.fdY tZ 0) λc=>aF 21 (dV 25 ac.ixZ 27 (ac.fdY tZ 1) λd=>rb k5)<|rb k5)<|aA c1 b []
def ue(g:D12G)(ids:List DIdent)(s1:Int×Int):Option ((Int×Int)⊕(Int)):=
 bif decide (s1.2<ah ids) then((aS ids s1.2).bind λb=>(fC g b).bind λa=>bif decide (0<=a) then((aS g.L a).bind λc=>some (.inl (hE s1.1 c.At,wI (s1.2+1)))) else(some (.inl (s1.1,wI (s1.2+1))))) else(some (.inr s1.1))
def z8(g:D12G)(ids:List DIdent):Option Int:=
 (bo (ue g ids) (0,0)).bind λa=>some a
theorem Jx{g ids}:eP prog gl (z8 g ids) 21 [.agg (aI g),aE aj ids] iG:=
 cy func21 λK=>lS 11101 (λa=>sg [] [(5,iG a)]) (λs1=>so [0] [(2,.ref 0 0),(5,iG s1.1),(6,iG s1.2)] [ob 0 30 (aI g)] 1) [] (λa=>rv K) λs1 k5 b=>aF 11 (dV 17 ac.ixZ 18 (ac.ptZ aW) λc=>dI 19 (dX gl) λd=>aF 21 (dV 26 eJ.ixZ 28 (eJ.fdY tZ 3) λe=>rb k5)<|rb k5)<|aA c1 b []
end
end Go.Proofs.YtaiecngnppbhlaaGreatDoor
