/- Texts. -/
import Derived.Lib.Mul64
import Derived.Lib.SliceRun
import Derived.Test.YtlimmeehdfbheaaGreatDoorProg
import Derived.Test.YtlimmeehdfbheaaGreatDoorNF
namespace Go.Proofs.YtlimmeehdfbheaaGreatDoor
set_option linter.unusedSectionVars false
set_option linter.unusedVariables false
set_option linter.unusedSimpArgs false
open Go.RowKit Tryz
variable (gl:CC)
variable {α:Type}{P:Br}{a i r:Int}{k k':IntKind}{J S s st:St}{ρ:Dx}{gs gs0 l l' l0:Bo}{c j n:Nat}{b t:Bool}{C:JQ}{vs:List Bn}{f:FuncId}{fn:Func}{ts:Bn}{x y:Dl}{q:Bp}
def qg(κ:Nat->FF):Nat->G->G
 |0,_=> .junk
 |n+1,g=>match g with
  | .lit v=> .lit v
  | .agg l=> .agg (l.map (qg κ n))
  | .tup l=> .tup (l.map (qg κ n))
  | .clo f a b=> .clo f (a.map (qg κ n)) (b.map (qg κ n))
  | .ifc t x=> .ifc t (qg κ n x)
  | .ref i o=>match κ i with|some k=> .ref k o|none=> .junk
  | .rsl i o m=>match κ i with|some k=> .rsl k o m|none=> .junk
  | .mref i=>match κ i with|some k=> .mref k|none=> .junk
  | .yld i=>match κ i with|some k=> .yld k|none=> .junk
  | .rsr i m=>match κ i with|some k=> .rsr k m|none=> .junk
  | .ptr l o=> .ptr l o
  | .sl l m=> .sl l m
  | .mp a b c d=> .mp a b c d
  | .junk=> .junk
theorem IG{β β2:Bm}{S:Ga}{w:World}{κ:Nat->FF}(hκ:∀i k,κ i=some k->β2 k=β i):∀(n:Nat) (g:G) (v:Value),RV β S w g v->RV β2 S w (qg κ n g) v
 |0,g,v,h=> .junk v
 |n+1,g,v,h=>by
  have ih:=IG (w:=w) (S:=S) hκ n;have el:∀(l:Bo) (us:Array Value),(∀(i:Nat) (g:G) (u:Value),l[i]?=some g->us[i]?=some u->RV β S w g u)->∀(i:Nat) (g:G) (u:Value),(l.map (qg κ n))[i]?=some g->us[i]?=some u->RV β2 S w g u:=by grind
  have im:∀(l:Bo) (us:Array Value),(∀(i:Nat) (g:G) (u:Value),l[i]?=some g->us[i]?=some u->IV S w g u)->∀(i:Nat) (g:G) (u:Value),(l.map (qg κ n))[i]?=some g->us[i]?=some u->RV β2 S w g u:=by grind [RV]
  cases h with
  |imm _ _ h=>
   cases h with
   |lit=>exact .imm _ _ (.lit v)
   |agg l us hl h1 h=>exact .agg _ us (by grind) h1 (im l us h)
   |tup l us hl h=>exact .tup _ us (by grind) (im l us h)
   |ptr l o b off us hs hb hc h1 h=>exact .imm _ _ (.ptr l o b off us hs hb hc h1 h)
   |sl l m a cap us hn hm ha h1 h=>exact .imm _ _ (.sl l m a cap us hn hm ha h1 h)
   |clo f a b fs cs hf hc h h'=>exact .clo f _ _ fs cs (by grind) (by grind) (im a fs h) (im b cs h')
   |ifc t x u h=>exact .ifc t _ u (ih x u (.imm _ _ h))
   |mp ks vs ns clock b ents hs hb ho hl hk hn h=>exact .imm _ _ (.mp ks vs ns clock b ents hs hb ho hl hk hn h)
  |agg l us hl h1 h=>exact .agg _ us (by grind) h1 (el l us h)
  |tup l us hl h=>exact .tup _ us (by grind) (el l us h)
  |clo f a b fs cs hf hc h h'=>exact .clo f _ _ fs cs (by grind) (by grind) (el a fs h) (el b cs h')
  |ifc t x u h=>exact .ifc t _ u (ih x u h)
  |ref i o b C h=>grind [qg,RV]
  |rsl0 i o h=>grind [qg,RV]
  |rsl i o m b C o' cap h hn hm ho hC=>grind [qg,RV]
  |mref i b C h=>grind [qg,RV]
  |rsr i m b C h hn hm=>grind [qg,RV]
  |yld i b C h=>grind [qg,RV]
  |junk=>exact .junk v
def Wu(κ:Nat->FF)(l a:Bo):Prop:=a=l.map (qg κ 20)\/(a=l/\∀g∈l,bB g)
def RnE(κ:Nat->FF)(l a:List (Value×G×Nat)):Prop:=a=l.map (λe=>(e.1,qg κ 20 e.2.1,e.2.2))\/(a=l/\∀e∈l,bB e.2.1)
def MB(κ:Nat->FF)(o a:Ob):Prop:=a.t=o.t/\match o.x,a.x with
 |none,none=>Wu κ o.l a.l
 |some (.map es c),some (.map es' c')=>o.l=[]/\a.l=[]/\c'=c/\RnE κ es es'
 |_,_=>False
theorem Wu.get{β β2:Bm}{S:Ga}{w:World}{κ:Nat->FF}{l l':Bo}(h:Wu κ l l')(hκ:∀i k,κ i=some k->β2 k=β i){j:Nat}{g':G}(hg:l'[j]?=some g'):∃g,l[j]?=some g/\∀v,RV β S w g v->RV β2 S w g' v:=by
 rcases h with rfl|⟨rfl,hi⟩
 .grind [IG]
 .exact⟨g',hg,λv hv=> .imm _ _ (hi g' (bO hg) _ _ _ _ hv)⟩
theorem Wu.len{κ:Nat->FF}{l l':Bo}(h:Wu κ l l'):l'.length=l.length:=by
 rcases h with rfl|⟨rfl,_⟩
 .simp
 .rfl
theorem U8{β β2:Bm}{S:Ga}{w:World}{κ:Nat->FF}(hκ:∀i k,κ i=some k->β2 k=β i){i k:Nat}{o o':Ob}(h:RO P β S w i o)(hr:MB κ o o')(hk:β2 k=β i):RO P β2 S w k o':=by
 obtain⟨t,l,x⟩:=o;obtain⟨t',m,a⟩:=o';obtain⟨e,hr⟩:=hr;simp only at e hr;subst e;rcases h with⟨h1,h2,h3⟩|⟨b,y,q,h1,h2,h3,h4,h5⟩|⟨b,C,cur,hx,h1,h2,h3,h4,h5,h6⟩
 .simp only at h2 h3;rcases h3 with rfl|rfl
  .cases a with
   |some a=>exact hr.elim
   |none=>exact .inl ⟨hk.trans h1,by have:=hr.len;grind,.inl rfl⟩
  grind
 .simp only at h1 h2;subst h1;cases y with
  |map es c=>
   cases a with
   |none=>exact hr.elim
   |some a=>
    cases a with
    |map es' c'=>
     obtain⟨_,e1,rfl,he⟩:=hr;refine .inr (.inl ⟨b,_,q,rfl,e1,hk.trans h3,h4,?_⟩);obtain⟨ents,g1,g2,d⟩:=h5;rcases he with rfl|⟨rfl,hi⟩
     .refine⟨ents,g1,by grind,λj kk g n hj=>?_⟩;grind [IG]
     .refine⟨ents,g1,g2,λj kk g n hj=>?_⟩;obtain⟨e,e1,e2,e3,e4⟩:=d j kk g n hj;exact⟨e,e1,e2,e3,.imm _ _ (hi _ (bO hj) _ _ _ _ e4)⟩
    |iter _ _ _ _=>exact hr.elim
    |loop _ _ _ _ _ _ _=>exact hr.elim
    |resv=>exact hr.elim
  |iter _ _ _ _=>grind
  |loop _ _ _ _ _ _ _=>grind
  |resv=>grind
 .simp only at hx h2 h3 h5 h6;subst hx;cases a with
  |some a=>exact hr.elim
  |none=>have hl:m.length=l.length:=Wu.len hr;refine .inr (.inr ⟨b,C,cur,rfl,hk.trans h1,h2,h3,h4,by grind,λj g hg=>?_⟩);obtain⟨g0,f,hv⟩:=Wu.get (S:=S) (w:=w) hr hκ hg;grind
section
variable {P:Br}
theorem AiV(n:Nat)(g:G):Wk P st ρ g (qg (I3 ρ) n g):=λcx a w β r v hv=>
 (IG (β2:=λi=>(dq ρ i).bind β) (λi k h=>by rw[Aci h];rfl) n g v hv).step (by grind) (by grind) (Bc.refl _ _)
theorem AjJ(h:Wu (I3 ρ) l l'):∀(k:Nat) (g a:G),l[k]?=some g->l'[k]?=some a->Wk P st ρ g a:=λk g a h1 h2=>by
 rcases h with rfl|⟨rfl,hi⟩
 all_goals grind [AiV,ry]
def XU(κ:Nat->FF)(s b:Option Ob):Prop:=∀a,b=some a->∃ob,s=some ob/\MB κ ob a
theorem Abf{i:Nat}{o':Option Ob}{σ:aQ}(h1:dq ρ i=some j)(h:XU (I3 ρ) (ag st.σ j) o')(hr:Dp P st ρ σ):Dp P st ρ ((i,o')::σ):=λk d hk=>by
 rw[A3] at hk;split at hk
 .subst_vars;obtain⟨⟨t,l,x⟩,e,h2,h3⟩:=h d rfl;obtain⟨t',g,f⟩:=d;cases x with
  |none=>
   cases f with
   |some _=>exact h3.elim
   |none=>have hl:=Wu.len h3;simp only at hl;exact⟨j,_,h1,e,h2,by grind,(by grind),AjJ h3,trivial⟩
  |some x=>
   cases x with
   |map es c=>
    cases f with
    |none=>exact h3.elim
    |some f=>
     cases f with
     |map es' c'=>
      obtain⟨e1,e2,rfl,he⟩:=h3;simp only at e1 e2;subst e1 e2;refine⟨j,_,h1,e,h2,C6 _,λe=>e,(by grind),SV ?_ λk a a' b b' m n g1 g2=>?_,(by grind)⟩
      .rcases he with rfl|⟨rfl,_⟩
       .simp
       .rfl
      .rcases he with rfl|⟨rfl,hi⟩
       all_goals grind [AiV,ry]
     |iter _ _ _ _=>exact h3.elim
     |loop _ _ _ _ _ _ _=>exact h3.elim
     |resv=>exact h3.elim
   |iter _ _ _ _=>grind
   |loop _ _ _ _ _ _ _=>grind
   |resv=>grind
 .exact hr k d hk
end
theorem bS{β:Type}{o:Option α}{f:α->Option β}{r:β}(h:o.bind f=some r):∃y,o=some y/\f y=some r:=GJ.1 h
theorem bC{c:Bool}{a b:Option α}{r:α}(h:(bif c then a else b)=some r):(c=true/\a=some r)\/(c=false/\b=some r):=by grind
def KN{σ ρ:Type}(step:σ->Option (σ⊕ρ)):Nat->σ->Option ρ
 |0,_=>none
 |n+1,s=>match step s with
  |none=>none
  |some (.inl s')=>KN step n s'
  |some (.inr r)=>some r
def FU:Nat:=4611686018427387904
def AQ{σ ρ:Type}(step:σ->Option (σ⊕ρ))(s:σ):Option ρ:=KN step FU s
def ma{α β γ:Type}(x:α⊕β)(k:α->Option γ)(q:β->Option γ):Option γ:=match x with
 | .inl a=>k a
 | .inr b=>q b
def wI(z:Int):Int:=IntKind.i64.wrap z
def wU(z:Int):Nat:=(IntKind.u64.wrap z).toNat
def ah{α:Type}(l:List α):Int:=(l.length:Int)
def aS{α:Type}(l:List α)(i:Int):Option α:=if 0<=i then l[i.toNat]? else none
def ji{α:Type}(l:List α)(i:Int)(x:α):Option (List α):=if 0<=i/\i.toNat<l.length then some (l.set i.toNat x)else none
def tq{α:Type}(l:List α)(i:Int):Option (List α):=if 0<=i/\i.toNat<=l.length then some (l.take i.toNat)else none
def mc{α:Type}(l:List α)(i:Int):Option (List α):=if 0<=i/\i.toNat<=l.length then some (l.drop i.toNat)else none
def aT{α:Type}(b:Nat)(l r:List α):Option (List α):=if(l.length+r.length)*b<=140737488355328 then some (l++r)else none
def Gg(a b:Int):JP:=if b=0 then none else some (IntKind.i64.wrap (a.tdiv b))
def u9(a b:Int):JP:=if b=0 then none else some (a.tmod b)
def rP{α:Type}(b:Nat)(z:α)(n:Int):Option (List α):=if 0<=n/\b*n.toNat<=281474976710656/\n<=9223372036854775807 then some (List.replicate n.toNat z)else none
theorem cB{X:Option G}(h:X=some (bG t))(e:t=b):X=some (bG b):=e▸h
def bq:Bp->Code->Code
 |[],c=>c
 |0::r,.seq a _=>bq r a
 |1::r,.seq _ b=>bq r b
 |2::r,.block _ c=>bq r c
 |2::r,.loop c=>bq r c
 |3::r,.cond _ a _=>bq r a
 |4::r,.cond _ _ b=>bq r b
 |_,_=> .skip
def bE:Bp->Code->List (St->Prop)->List Kf->List Kf
 |0::r,.seq a b,Bs,K=>bE r a Bs (.thn b::K)
 |1::r,.seq _ b,Bs,K=>bE r b Bs K
 |2::r,.block id c,Bs,K=>bE r c Bs (.blk id::K)
 |2::r,.loop c,B::Bs,K=>bE r c Bs (.lp B::K)
 |3::r,.cond _ a _,Bs,K=>bE r a Bs K
 |4::r,.cond _ _ b,Bs,K=>bE r b Bs K
 |_,_,_,K=>K
def LO(m:Bool)(p:Bp)(c:Code):Code⊕Exit:=bif m then .inr .normal else .inl (bq p c)
section
variable {P:Br}
def Gp(P:Br)(fn:Func)(Q:Exit->St->Prop)(Bs:List (St->Prop))(m:Bool)(p:Bp)(st:St):Prop:=CQ P Q (bE p (ai fn) Bs []) st (LO m p (ai fn))
theorem m8{Q:Exit->St->Prop}{K:List Kf}:∀(a:List Kf) (e:Exit) (s:St),dz P a (dz P K Q) e s->dz P (a++K) Q e s
 |[],e,s,h=>by obtain⟨s',l,h⟩:=h;grind [pQ]
 | .thn b::a,e,s,h=>by
  show dz P (.thn b::(a++K)) Q e s;unfold dz at h⊢;cases e with
  |normal=>unfold uE at h⊢;exact h.mono λe s h=>m8 a e s h
  |_=>unfold uE at h⊢;exact m8 a _ s h
 | .blk id::a,e,s,h=>by
  show dz P (.blk id::(a++K)) Q e s;unfold dz at h⊢;cases e with
  |exit i=>
   unfold pu at h⊢;by_cases hi:i=id
   .simp only[hi,if_true] at h⊢;exact m8 a _ s h
   .simp only[hi,if_false] at h⊢;exact m8 a _ s h
  |_=>unfold pu at h⊢;exact m8 a _ s h
 | .lp B::a,e,s,h=>by
  show dz P (.lp B::(a++K)) Q e s;unfold dz at h⊢;cases e with
  |normal=>grind [uE]
  |_=>unfold uE at h⊢;exact m8 a _ s h
theorem QQ{Q:Exit->St->Prop}{K a:List Kf}{m:Code⊕Exit}(h:CQ P (dz P K Q) a st m):CQ P Q (a++K) st m:=by
 cases m with
 |inl c=>exact Tr.mono h (by grind [m8])
 |inr e=>exact m8 a e st h
theorem Oi:Wk P st ρ (.lit (.slice none 0 0)) (.sl [] 0):=λcx a w β r v hv=>by rw[hv.lit_eq];exact .imm _ _ (.sl [] 0 none 0 (λ_=>undef) (C6 _) (Nat.zero_le _) aC aC aC)
theorem CE{i j:Nat}{ob:Ob}(h:dq ρ i=some j)(ho:ag st.σ j=some ob):Wk P st ρ (.lit (.slice none 0 0)) (.rsl i 0 0):=λcx a w β r v hv=>by grind [RV.lit_eq,RV,RO.at]
def QR(P:Br)(σ:aQ)(ρ:Dx)(cl:Bool):Nat->G->G->Option (JQ×G)
 |0,_,_=>none
 |n+1,g,t=>match t with
  | .junk=>some ([],.junk)
  | .sl _ m'=>match g with
   | .sl l m=>some ([],.sl l m)
   | .lit (.slice none 0 0)=>some ([],.sl [] 0)
   | .rsl j o m=>match ag σ j with
    |some ob=>match bw P ob.t with
     |some s=>bif ρ.all λq=> !(Nat.beq q.2 j)then(bif Nat.beq o 0 then some ([ob.l.length=m'*s/\(∀x∈ob.l,bB x)/\m=m'],.sl ob.l m')else some ([o+m*s<=ob.l.length/\∀x∈ob.l,bB x],.sl ((ob.l.drop o).take (m*s)) m))else none
     |none=>none
    |none=>none
   |_=>none
  | .rsl i _ m'=>match g with
   | .rsl j o m=>match dq ρ i with
    |some k=>bif Nat.beq k j then some ([m=m'],.rsl i o m')else none
    |none=>none
   | .rsr j m=>match dq ρ i with
    |some k=>bif Nat.beq k j then some ([m=m'],.rsl i 0 m')else none
    |none=>none
   | .lit (.slice none 0 0)=>match dq ρ i with
    |some k=>match ag σ k with
     |some _=>some ([],.rsl i 0 0)
     |none=>none
    |none=>none
   |_=>none
  | .ref i _=>match g with
   | .ref j o=>match dq ρ i with
    |some k=>bif Nat.beq k j then some ([],.ref i o)else none
    |none=>none
   |_=>none
  | .mref i=>match g with
   | .mref j=>match dq ρ i with
    |some k=>bif Nat.beq k j then some ([],.mref i)else none
    |none=>none
   |_=>none
  | .ptr l' _=>match g with
   | .ptr l o=>some ([],.ptr l o)
   | .ref j o=>match ag σ j with
    |some ob=>bif ρ.all λq=> !(Nat.beq q.2 j)then(match Da (QR P σ ρ cl n) ob.l l' with
     |some (C,r)=>some (C++[∀x∈r,bB x],.ptr r o)
     |none=>none)else none
    |none=>none
   |_=>none
  | .mp _ _ _ _=>match g with
   | .mp ks vs ns c=>some ([],.mp ks vs ns c)
   | .mref j=>match ag σ j with
    |some ⟨_,_,some (.map es clock)⟩=>bif ρ.all λq=> !(Nat.beq q.2 j)then some ([∀e∈es,bB e.2.1],.mp (es.map (·.1)) (es.map (·.2.1)) (es.map (·.2.2)) clock)else none
    |_=>none
   |_=>none
  | .yld i=>match g with
   | .yld j=>match dq ρ i with
    |some k=>bif Nat.beq k j then some ([],.yld i)else none
    |none=>none
   |_=>none
  | .clo _ a' b'=>match g with
   | .clo f a b=>bif cl then(match Da (QR P σ ρ cl n) a a' with
    |some (C,r)=>match Da (QR P σ ρ cl n) b b' with
     |some (D,r')=>some (C++D,.clo f r r')
     |none=>none
    |none=>none)else some ([bB (.clo f a b)],.clo f a b)
   |_=>none
  | .agg l'=>match g with
   | .agg l=>match Da (QR P σ ρ cl n) l l' with
    |some (C,r)=>some (C,.agg r)
    |none=>none
   |_=>none
  | .tup l'=>match g with
   | .tup l=>match Da (QR P σ ρ cl n) l l' with
    |some (C,r)=>some (C,.tup r)
    |none=>none
   |_=>none
  |_=>bif nF 20 g then some ([],g)else none
theorem nE{st:St}{ρ:Dx}{cl:Bool}:∀(n:Nat) (g t:G) (C:JQ) (a:G),QR P st.σ ρ cl n g t=some (C,a)->(∀p∈C,p)->Wk P st ρ g a
 |0,_,_,_,_,h,_=>by cases h
 |n+1,g,t,C,a,h,hC=>by
  unfold QR at h;split at h
  .grind [FE]
  .split at h
   .grind [ry,FC]
   .grind [Oi]
   .rename_i j o m;split at h
    .rename_i ob ho;split at h
     .rename_i s hs;cases hk:(ρ.all λq=> !(Nat.beq q.2 j)) with
      |false=>grind
      |true=>
       rw[hk] at h;have hk':∀p∈ρ,p.2≠j:=by grind [Nat.beq_refl]
       simp only[ax] at h;cases hz:Nat.beq o 0 with
       |true=>rw[hz] at h;obtain rfl:=bc hz;cases h;obtain⟨h1,h2,rfl⟩:=hC _ (List.mem_singleton.2 rfl);have:=BS (P:=P) (st:=st) (ρ:=ρ) (o:=0) (n:=m) hk' ho hs (by rw[h1];omega) h2;grind
       |false=>rw[hz] at h;cases h;have h1:=hC _ (List.mem_singleton.2 rfl);grind [BS]
     .cases h
    .cases h
   .cases h
  .split at h
   .split at h
    .rename_i k hr;cases hb:Nat.beq k _ with
     |false=>rw[hb] at h;cases h
     |true=>rw[hb] at h;obtain rfl:=bc hb;cases h;obtain rfl:=hC _ (List.mem_singleton.2 rfl);exact P4 hr
    .cases h
   .split at h
    .rename_i k hr;cases hb:Nat.beq k _ with
     |false=>rw[hb] at h;cases h
     |true=>rw[hb] at h;obtain rfl:=bc hb;cases h;obtain rfl:=hC _ (List.mem_singleton.2 rfl);exact Ajk hr
    .cases h
   all_goals grind [CE]
  .grind [bc,VH]
  .grind [bc,SU]
  .split at h
   .grind [ry,Ah]
   .rename_i j o;split at h
    .rename_i ob ho;cases hk:(ρ.all λq=> !(Nat.beq q.2 j)) with
     |false=>grind
     |true=>
      rw[hk] at h;have hk':∀p∈ρ,p.2≠j:=by grind [Nat.beq_refl]
      simp only[ax] at h;split at h
      .rename_i C' r hl;cases h;obtain⟨k1,k2⟩:=io (Q:=Wk P st ρ) (λg t C a=>nE n g t C a) _ _ _ _ hl (λp hp=>hC p (by grind));exact J7 hk' ho k1 k2 (hC _ (by grind))
      .cases h
    .cases h
   .cases h
  .split at h
   .grind [ry,J5]
   .rename_i j;split at h
    .rename_i t l es clock ho;cases hk:(ρ.all λq=> !(Nat.beq q.2 j)) with
     |false=>grind
     |true=>
      rw[hk] at h;have hk':∀p∈ρ,p.2≠j:=by grind [Nat.beq_refl]
      cases h;exact HO hk' ho (hC _ (by grind))
    .cases h
   .cases h
  .grind [bc,VI]
  .split at h
   .cases cl with
    |false=>cases h;exact ry (hC _ (by grind))
    |true=>
     simp only[ax] at h;split at h
     .rename_i C' r hl;split at h
      .rename_i D r' hl';cases h;obtain⟨k1,k2⟩:=io (Q:=Wk P st ρ) (λg t C a=>nE n g t C a) _ _ _ _ hl λp hp=>hC p (by grind);obtain⟨m1,m2⟩:=io (Q:=Wk P st ρ) (λg t C a=>nE n g t C a) _ _ _ _ hl' λp hp=>hC p (by grind);grind [VL]
      .cases h
     .cases h
   .cases h
  .split at h
   .split at h
    .rename_i C' r hl;cases h;obtain⟨k1,k2⟩:=io (Q:=Wk P st ρ) (λg t C a=>nE n g t C a) _ _ _ _ hl hC;exact VJ k1 k2
    .cases h
   .cases h
  .split at h
   .split at h
    .rename_i C' r hl;cases h;obtain⟨k1,k2⟩:=io (Q:=Wk P st ρ) (λg t C a=>nE n g t C a) _ _ _ _ hl hC;exact VK k1 k2
    .cases h
   .cases h
  grind [ry,aG]
inductive Rk where
 |row
 |clo
 |app (A B B' L:Bo)
 |any
def Wh(P:Br)(σ:aQ)(ρ:Dx)(cl:Bool)(fr:Fr):Fr->Option (JQ×Fr)
 |[]=>some ([],[])
 |(k,t)::r=>match QR P σ ρ cl 20 (aD fr k) t with
  |some (C,g)=>match Wh P σ ρ cl fr r with
   |some (D,f)=>some (C++D,(k,g)::f)
   |none=>none
  |none=>none
theorem QS{st:St}{ρ:Dx}{cl:Bool}:∀(r:Fr) (C:JQ) (f:Fr),Wh P st.σ ρ cl st.fr r=some (C,f)->(∀p∈C,p)->J6 P st ρ f
 |[],C,f,h,_=>by cases h;exact HQ
 |(k,t)::r,C,f,h,hC=>by
  unfold Wh at h;split at h
  .rename_i a g h1;split at h
   .rename_i D f1 h2;cases h;exact NF (nE 20 _ _ _ _ h1 λp hp=>hC p (by grind)) (QS r _ _ h2 λp hp=>hC p (by grind))
   .cases h
  .cases h
def Yz(kd:List (Nat×Rk)):Bool:=kd.any λq=>match q.2 with| .clo=>true|_=>false
def wkC(P:Br)(σ:aQ)(ρ:Dx)(kd:List (Nat×Rk))(i:Nat)(l a:Bo):Option (JQ×Bo):=match kd.find? (λq=>Nat.beq q.1 i) with
 |some (_,.row)=>some ([∀g∈l,bB g],l)
 |some (_,.clo)=>none
 |some (_,.any)=>none
 |some (_,.app A B B' L)=>match Da (QR P σ ρ (Yz kd) 20) B B' with
  |some (C,B'')=>some ((l=A++B/\(∀g∈A,bB g)/\A++B''=L)::C,L)
  |none=>none
 |none=>Da (QR P σ ρ (Yz kd) 20) l a
theorem Wi{kd:List (Nat×Rk)}{i:Nat}{r:Bo}(h:wkC P st.σ ρ kd i l l'=some (C,r))(hC:∀p∈C,p):r.length=l.length/\∀(k:Nat) (g g':G),l[k]?=some g->r[k]?=some g'->Wk P st ρ g g':=by
 unfold wkC at h;split at h
 .cases h;exact⟨rfl,P8 (hC _ (by grind))⟩
 .cases h
 .cases h
 .rename_i A B B' L _;split at h
  .rename_i a B'' hB;cases h;obtain⟨rfl,h2,rfl⟩:=hC _ (List.mem_cons_self ..);obtain⟨k1,k2⟩:=io (Q:=Wk P st ρ) (by grind [nE]) _ _ _ _ hB (by grind);grind [ry]
  .cases h
 .exact io (Q:=Wk P st ρ) (by grind [nE]) _ _ _ _ h hC
theorem My{st:St}{ρ:Dx}{cl:Bool}{fr:Fr}:∀(r:Fr) (C:JQ) (f:Fr),Wh P st.σ ρ cl fr r=some (C,f)->(∀p∈C,p)->∀d,Wk P st ρ (aD fr d) (aD f d)
 |[],C,f,h,_,d=>by cases h;exact FE
 |(k,t)::r,C,f,h,hC,d=>by
  unfold Wh at h;split at h
  .rename_i a g h1;split at h
   .rename_i D f1 h2;cases h;rw[aO];split
    .rename_i e;subst e;exact nE 20 _ _ _ _ h1 λp hp=>hC p (by grind)
    .exact My r _ _ h2 (λp hp=>hC p (by grind)) d
   .cases h
  .cases h
def Wj(P:Br)(σ:aQ)(ρ:Dx)(cl:Bool):Q5->Option Q5->Option (JQ×Q5)
 | .loop ls pe n fr ps a b,some (.loop _ _ _ fr' _ _ _)=>match Wh P σ ρ cl fr fr' with
  |some (C,f)=>some (C,.loop ls pe n f ps a b)
  |none=>none
 | .map es cl,some (.map _ _)=>some ([∀q∈es,bB q.2.1],.map es cl)
 | .iter (some j) since seen last,some (.iter (some i) _ _ _)=>match dq ρ i with
  |some k=>bif Nat.beq k j then some ([],.iter (some i) since seen last)else none
  |none=>none
 |_,_=>none
theorem Tp{cl:Bool}{x:Q5}{t:Option Q5}{x':Q5}(h:Wj P st.σ ρ cl x t=some (C,x'))(hC:∀p∈C,p):Xk P st ρ x x'/\x≠ .resv:=by
 unfold Wj at h;split at h
 .grind [P7,My]
 .cases h;refine⟨SV rfl λk a a' b b' m c e1 e2=>?_,aC⟩;rw[e1] at e2;cases e2;exact⟨rfl,rfl,ry (hC _ (List.mem_singleton.2 rfl) _ (bO e1))⟩
 all_goals grind [bc,P6]
def kdA(kd:List (Nat×Rk))(i:Nat):Bool:=kd.any λq=>Nat.beq q.1 i&&(match q.2 with| .any=>true|_=>false)
def Wl(P:Br)(σ:aQ)(ρ:Dx)(kd:List (Nat×Rk)):aQ->Option (JQ×aQ)
 |[]=>some ([],[])
 |(i,o')::r=>bif kdA kd i then(match dq ρ i with
  |some j=>match Wl P σ ρ kd r with
   |some (D,τ)=>some (XU (I3 ρ) (ag σ j) o'::D,(i,o')::τ)
   |none=>none
  |none=>none)else match o' with
  |none=>Wl P σ ρ kd r
  |some ob'=>match dq ρ i with
  |some j=>match ag σ j with
   |some ⟨t,l,none⟩=>match wkC P σ ρ kd i l ob'.l with
    |some (C,l')=>match Wl P σ ρ kd r with
     |some (D,τ)=>some (C++D,(i,some ⟨t,l',none⟩)::τ)
     |none=>none
    |none=>none
   |some ⟨t,_,some x⟩=>match Wj P σ ρ (Yz kd) x ob'.x with
    |some (C,x')=>match Wl P σ ρ kd r with
     |some (D,τ)=>some (C++D,(i,some ⟨t,[],some x'⟩)::τ)
     |none=>none
    |none=>none
   |_=>none
  |none=>none
theorem CF{st:St}{ρ:Dx}{kd:List (Nat×Rk)}:∀(r:aQ) (C:JQ) (τ:aQ),Wl P st.σ ρ kd r=some (C,τ)->(∀p∈C,p)->Dp P st ρ τ
 |[],C,τ,h,_=>by cases h;exact BT
 |(i,o')::r,C,τ,h,hC=>by
  unfold Wl at h;cases hk:kdA kd i with
  |true=>
   rw[hk] at h;simp only[ax] at h;split at h
   .rename_i j hr;split at h
    .rename_i D a h2;cases h;exact Abf hr (by simp_all) (CF r _ _ h2 (by grind))
    .cases h
   .cases h
  |false=>
  rw[hk] at h;simp only[A9] at h;cases o' with
  |none=>exact CF r C τ h hC
  |some ob'=>
  simp only at h;split at h
  .rename_i j hr;split at h
   .rename_i t l ho;split at h
    .rename_i b c h1;split at h
     .rename_i D a h2;cases h;obtain⟨k1,k2⟩:=Wi h1 λp hp=>hC p (by grind);exact xP hr ho rfl rfl (by grind) k2 (CF r _ _ h2 λp hp=>hC p (by grind))
     .cases h
    .cases h
   .rename_i t l0 x ho;split at h
    .rename_i b d h1;split at h
     .rename_i D a h2;cases h;obtain⟨k1,k2⟩:=Tp h1 λp hp=>hC p (by grind);exact J8 hr ho rfl rfl k1 k2 (CF r _ _ h2 λp hp=>hC p (by grind))
     .cases h
    .cases h
   .cases h
  .cases h
def zj:List Bn->St->St
 |[],st=>st
 |t::r,st=>zj r {st with σ:=(st.c,some ⟨t,[],none⟩)::st.σ,c:=st.c+1}
theorem CG:∀(l:List Bn) (st:St),Le P st (zj l st)
 |[],st=>Le.refl _
 |t::r,st=>Le.trans (by rintro cx a w ⟨β,h⟩;exact⟨_,h.virt t (k:=st.c) (C6 _)⟩) (CG r _)
def Ac6(P:Br)(vs:List Bn)(ρ:Dx)(kd:List (Nat×Rk))(J:St)(s:St):Option (JQ×St):=(λs=>bif ER ρ s.p then(match Wh P s.σ ρ (Yz kd) s.fr J.fr with
 |some (C,f)=>match Wl P s.σ ρ kd J.σ with
  |some (D,τ)=>some (C++D,⟨s.n,s.gl,f,τ,cR ρ,s.p,s.r⟩)
  |none=>none
 |none=>none)else none) (zj vs s)
theorem Aff{kd:List (Nat×Rk)}(h:Ac6 P vs ρ kd J s=some (C,S))(hC:∀p∈C,p):Le P s S:=by
 refine(CG vs s).trans ?_;unfold Ac6 at h;generalize zj vs s=st at h⊢;dsimp only at h;cases hk:ER ρ st.p with
 |false=>grind
 |true=>
  rw[hk] at h;simp only[ax] at h;split at h
  .rename_i a f h1;split at h
   .rename_i D τ h2;cases h;simp only[ER,bA] at hk;obtain⟨⟨k1,k2⟩,k3⟩:=hk;refine NG ρ rfl rfl rfl (λi hi=>?_) (λi b j h1 h2=>?_) (λq hq=>Va hq) (QS _ _ _ h1 λp hp=>hC p (by grind)) (CF _ _ _ h2 λp hp=>hC p (by grind)) rfl
    .grind [bc]
    .have:=GE.1 (GE.1 k2 _ (Gt h1)) _ (Gt h2);grind [Nat.beq_refl,bc]
   .cases h
  .cases h
def gob:G->FF
 | .ref i _=>some i
 | .rsl i _ _=>some i
 | .rsr i _=>some i
 | .mref i=>some i
 |_=>none
def prw(t g:G):Dx:=match gob t with
 |some i=>match gob g with
  |some j=>[(i,j)]
  |none=>[]
 |none=>[]
def AlQ(σ:aQ):Nat->Bo->Bp
 |0,_=>[]
 |n+1,l=>l.flatMap λg=>match g with
  | .rsl i _ _=>[i]
  | .ref i _=>match ag σ i with
   |some ⟨_,l',none⟩=>AlQ σ n l'
   |_=>[]
  |_=>[]
def AnC(l:Bp):Bp:=l.foldr (λi r=>bif r.any (Nat.beq i)then r else i::r) []
def aM(J s:St)(R:Bp):Nat->Dx->Dx
 |0,M=>M
 |n+1,M=>aM J s R n (M++M.flatMap λq=>bif R.any (Nat.beq q.1) then[]else match ag J.σ q.1,ag s.σ q.2 with
  |some ⟨_,l',none⟩,some ⟨_,l,none⟩=>(List.zipWith prw l' l).flatten
  |_,_=>[])
def aRw(J:St):Bp:=AnC (AlQ J.σ 4 (J.fr.map (·.2)))
def aMr(J s:St):Dx:=aM J s (aRw J) 2 (J.fr.flatMap λq=>prw q.2 (aD s.fr q.1))
def aUn(J s:St):Bp:=(aRw J).filter λi=>(aMr J s).all λq=> !(Nat.beq q.1 i)
def aVs(J s:St):List Bn:=(aUn J s).map λi=>match ag J.σ i with
 |some ob=>ob.t
 |none=>0
def ixN(i:Nat):Bp->FF
 |[]=>none
 |j::r=>bif Nat.beq i j then some 0 else(ixN i r).map (·+1)
def aRo(J s:St):Dx:=J.σ.map λq=>(q.1,match dq (aMr J s) q.1 with
 |some j=>j
 |none=>match ixN q.1 (aUn J s) with
  |some k=>s.c+k
  |none=>q.1)
def aKd(kd:List (Nat×Rk))(J:St):List (Nat×Rk):=match kd with
 |[]=>(aRw J).map λi=>(i,.row)
 |_=>kd
def Iw(P:Br)(vs:List Bn)(ρ:Dx)(kd:List (Nat×Rk))(J:St)(s:St):Option (JQ×St):=match ρ with
 |[]=>Ac6 P (aVs J s) (aRo J s) (aKd kd J) J s
 |_=>Ac6 P vs ρ (aKd kd J) J s
theorem M6{kd:List (Nat×Rk)}(h:Iw P vs ρ kd J s=some (C,S))(hC:∀p∈C,p):Le P s S:=by unfold Iw at h;grind [Aff]
def pR(A:List HP):JQ:=A.map (·.p)
theorem wR(A:List HP):∀p∈pR A,p:=λp hp=>by obtain⟨x,_,rfl⟩:=E7.1 hp;exact x.t
def Xm(P:Br)(hs:List Hn)(m:Code⊕Exit)(K:List Kf)(vs:List Bn)(ρ:Dx)(kd:List (Nat×Rk))(J st:St):Option (Prop×Bp×JQ×St):=match sy P hs 1000000 1000 m K st with
 |some (C,u,.fin .normal s)=>match Iw P vs ρ kd J s with
  |some (L,s')=>some (C,u,L,s')
  |none=>none
 |_=>none
def Xn(P:Br)(hs:List Hn)(m:Code⊕Exit)(K:List Kf)(vs:List Bn)(ρ:Dx)(kd:List (Nat×Rk))(J st:St):Option (Prop×Bp×JQ×St×(St->Prop)):=match sy P hs 1000000 1000 m K st with
 |some (C,u,.bk B s)=>match Iw P vs ρ kd J s with
  |some (L,s')=>some (C,u,L,s',B)
  |none=>none
 |_=>none
def Xo(P:Br)(hs:List Hn)(m:Code⊕Exit)(K:List Kf)(fn:Func)(r:G)(st:St):Option (Prop×Bp×JQ×G):=match sy P hs 1000000 1000 m K st with
 |some (C,u,.fin e s)=>match tc e,vR P s fn.results.toList with
  |true,some gs=>match KW P s.σ 20 (iU gs) r with
   |some (L,g)=>some (C,u,L,g)
   |none=>none
  |_,_=>none
 |_=>none
def ky{β:Type}(x:Option (Prop×Bp×β)):Bp:=match x with|some (_,u,_)=>u|none=>[0]
def T0{β:Type}(A:List HP)(x:Option (Prop×Bp×β))(j:β):Prop:=qe A (ky x)=true/\x=some (psU A (ky x),ky x,j)
theorem T0.out{β:Type}{A:List HP}{x:Option (Prop×Bp×β)}{j:β}(h:T0 A x j):∃C u,C/\x=some (C,u,j):=⟨_,_,kA h.1,h.2⟩
variable [M:Mix P] {fn:Func} {Q:Exit->St->Prop} {r:G} {Bs Bs':List (St->Prop)} {m:Bool} {p q:Bp} {st:St}
theorem Gh{gl:CC}{gs:Bo}(hf:P.funcs[f]?=some fn)(h:Gp P fn (tH P fn r) [] false [] ⟨fn.ntmps,gl,bQ 0 gs,[],0,0,false⟩)(hb:fn.body.isSome=true:=by kernel_rfl)(hn:Nat.ble gs.length fn.ntmps=true:=by kernel_rfl):ba P gl f gs r:=Y7 fn hf hb hn h
def Wm(fn:Func)(Bs Bs':List (St->Prop))(p q:Bp):List Kf:=(bE p (ai fn) Bs []).take ((bE p (ai fn) Bs []).length-(bE q (ai fn) Bs' []).length)
theorem yl(q:Bp){J:St}(A O:List HP)(kk:Gp P fn Q Bs' true q J)(vs:List Bn:=[])(ρ:Dx:=[])(kd:List (Nat×Rk):=[])(hk:T0 A (Xm P (bK A) (LO m p (ai fn)) (Wm fn Bs Bs' p q) vs ρ kd J st) (pR O,J):=by exact⟨aH,aH⟩)(eK:Wm fn Bs Bs' p q++bE q (ai fn) Bs' []=bE p (ai fn) Bs []:=by kernel_rfl):Gp P fn Q Bs m p st:=by
 obtain⟨C,u,hC,e⟩:=hk.out;unfold Gp;rw[<-eK];refine QQ ?_;unfold Xm at e;split at e
 .rename_i a b s h1;split at e
  .rename_i L s' h2;cases e;exact oK M.mx (out:= .fin .normal s) (Q:=dz P (bE q (ai fn) Bs' []) Q) ⟨_,M6 h2 (wR O),kk⟩ 1000 _ _ _ _ _ h1 hC
  .cases e
 .cases e
theorem jw{B:St->Prop}(A O:List HP)(hB:B J)(vs:List Bn:=[])(ρ:Dx:=[])(kd:List (Nat×Rk):=[])(hk:T0 A (Xn P (bK A) (LO m p (ai fn)) (bE p (ai fn) Bs []) vs ρ kd J st) (pR O,J,B):=by exact⟨aH,aH⟩):Gp P fn Q Bs m p st:=by
 obtain⟨C,u,hC,e⟩:=hk.out;unfold Gp;unfold Xn at e;split at e
 .rename_i a b B' s h1;split at e
  .rename_i L s' h2;cases e;exact oK M.mx (out:= .bk B s) ⟨_,M6 h2 (wR O),hB⟩ 1000 _ _ _ _ _ h1 hC
  .cases e
 .cases e
theorem Ar(A O:List HP)(hk:T0 A (Xo P (bK A) (LO m p (ai fn)) (bE p (ai fn) Bs []) fn r st) (pR O,r):=by exact⟨aH,aH⟩):Gp P fn (tH P fn r) Bs m p st:=by
 obtain⟨C,u,hC,e⟩:=hk.out;unfold Gp;unfold Xo at e;split at e
 .rename_i a b x s h1;split at e
  .rename_i gs hx hg;split at e
   .rename_i L g hq;cases e;refine oK M.mx (out:= .fin x s) ⟨s,Le.refl _,?_⟩ 1000 _ _ _ _ _ h1 hC;grind [tH,eO,gh,rR,wR]
   .cases e
  .cases e
 .cases e
def Xp(P:Br)(hs:List Hn)(m:Code⊕Exit)(K:List Kf)(fn:Func)(t:Bn)(st:St):Option (Prop×Bp×Prop×Nat×Bo):=match sy P hs 1000000 1000 m K st with
 |some (C,u,.fin e s)=>match tc e,fn.results with
  |true,⟨[.tmp x]⟩=>match aD s.fr x with
   | .rsl i 0 n=>match ag s.σ i with
    |some ⟨t',l,none⟩=>bif Nat.beq t t'&&Nat.beq s.p 0 then some (C,u,∀g∈l,bB g,n,l)else none
    |_=>none
   | .lit (.slice none 0 0)=>bif Nat.beq s.p 0 then some (C,u,∀g∈([]:Bo),bB g,0,[])else none
   |_=>none
  |_,_=>none
 |_=>none
theorem YE{fn:Func}{t:Bn}{st:St}{x:Tmp}(hp:st.p=0)(h:fn.results= #[.tmp x])(hv:aD st.fr x= .lit (.slice none 0 0)){e:Exit}(he:e= .normal\/e= .ret):Z1 P (zE P fn (.rsl 0 0 0) [(0,some ⟨t,[],none⟩)]) e st:=by
 refine⟨zj [t] st,CG _ _,he,[.lit (.slice none 0 0)],[(0,st.c)],?_,?_,?_,?_,?_⟩
 .grind [jV,zj]
 .grind [zj]
 .intro a b j h1 h2;have a1:=fj h1;have a2:=fj h2;grind
 .show Wk P _ _ (.lit (.slice none 0 0)) _;exact CE (j:=st.c) (by simp[dq]) (by show ag ((st.c,some ⟨t,[],none⟩)::st.σ) st.c=_;rw[A3,Bx rfl])
 .exact xP (j:=st.c) (by simp[dq]) (by show ag ((st.c,some ⟨t,[],none⟩)::st.σ) st.c=_;rw[A3,Bx rfl]) rfl rfl (C6 _) (by grind) BT
theorem EI{t:Bn}{l:Bo}(A:List HP)(hi:∀g∈l,bB g)(a:Nat:=n)(hn:a=n:=by rfl)(hk:T0 A (Xp P (bK A) (LO m p (ai fn)) (bE p (ai fn) Bs []) fn t st) (∀g∈l,bB g,a,l):=by exact⟨aH,aH⟩):Gp P fn (zE P fn (.rsl 0 0 n) [(0,some ⟨t,l,none⟩)]) Bs m p st:=by
 subst hn;obtain⟨C,u,hC,e⟩:=hk.out;unfold Gp;unfold Xp at e;split at e
 .rename_i c d x s h1;split at e
  .rename_i b hx hres;have hr:fn.results= #[.tmp b]:=hres;split at e
   .rename_i i f hv;split at e
    .rename_i t' h ho;cases hb:(Nat.beq t t'&&Nat.beq s.p 0) with
     |false=>grind
     |true=>rw[hb] at e;simp only[bA] at hb;obtain rfl:=bc hb.1;have hp:=bc hb.2;simp only[ax,Ft,Gb] at e;obtain⟨rfl,rfl,_,rfl,rfl⟩:=e;exact oK M.mx (out:= .fin x s) ⟨s,Le.refl _,(by grind [aan,eO])⟩ 1000 _ _ _ _ _ h1 hC
    .cases e
   .rename_i hv;cases hb:Nat.beq s.p 0 with
    |false=>grind
    |true=>rw[hb] at e;have hp:=bc hb;simp only[ax,Ft,Gb] at e;obtain⟨rfl,rfl,_,rfl,rfl⟩:=e;exact oK M.mx (out:= .fin x s) (YE hp hr hv (eO hx)) 1000 _ _ _ _ _ h1 hC
   .cases e
  .cases e
 .cases e
def Xq(P:Br)(hs:List Hn)(m:Code⊕Exit)(K:List Kf)(fn:Func)(ρ:Dx)(kd:List (Nat×Rk))(r:G)(σ1:aQ)(st:St):Option (Prop×Bp×JQ×G×aQ):=match sy P hs 1000000 1000 m K st with
 |some (C,u,.fin e s)=>match tc e,vR P s fn.results.toList with
  |true,some gs=>match QR P s.σ ρ (Yz kd) 20 (iU gs) r,Wl P s.σ ρ kd σ1 with
   |some (L,g),some (D,τ)=>bif ER ρ s.p then some (C,u,L++D,g,τ)else none
   |_,_=>none
  |_,_=>none
 |_=>none
theorem ZT{r:G}{σ1:aQ}(A O:List HP)(ρ:Dx)(kd:List (Nat×Rk))(hk:T0 A (Xq P (bK A) (LO m p (ai fn)) (bE p (ai fn) Bs []) fn ρ kd r σ1 st) (pR O,r,σ1):=by exact⟨aH,aH⟩):Gp P fn (zE P fn r σ1) Bs m p st:=by
 obtain⟨C,u,hC,e⟩:=hk.out;unfold Gp;unfold Xq at e;split at e
 .rename_i a b x s h1;split at e
  .rename_i gs hx hg;split at e
   .rename_i L g D τ h2 h3;cases hb:ER ρ s.p with
    |false=>grind
    |true=>
     rw[hb] at e;simp only[ax,Ft,Gb] at e;obtain⟨rfl,rfl,hL,rfl,rfl⟩:=e;have hp:∀p∈L++D,p:=by grind [wR]
     simp only[ER,bA] at hb;obtain⟨⟨k1,k2⟩,k3⟩:=hb;refine oK M.mx (out:= .fin x s) ⟨s,Le.refl _,eO hx,gs,ρ,gh hg,λi hi=>?_,λi c j h1 h2=>?_,nE 20 _ _ _ _ h2 λp hq=>hp p (by grind),CF _ _ _ h3 λp hq=>hp p (by grind)⟩ 1000 _ _ _ _ _ h1 hC
     .grind [bc]
     .have:=GE.1 (GE.1 k2 _ (Gt h1)) _ (Gt h2);grind [Nat.beq_refl,bc]
   .cases e
  .cases e
 .cases e
theorem ZU{gl:CC}{σ0 σ1:aQ}{a:Nat}(hf:P.funcs[f]?=some fn)(h:Gp P fn (zE P fn r σ1) [] false [] ⟨fn.ntmps,gl,bQ 0 gs,σ0,a,a,false⟩)(hp:∀i,i<a->∃ob,ag σ0 i=some ob)(hb:fn.body.isSome=true:=by kernel_rfl)(hn:Nat.ble gs.length fn.ntmps=true:=by kernel_rfl):OU P gl f gs σ0 a a r σ1:=
 Ee hf (c:=ai fn) (by unfold ai;cases hx:fn.body<;>grind) (EG hn) hp (Tr.leQ (by exact h))
theorem wS{gl:CC}{t:Bn}{r:G}{i c:Nat}(hc:aK P f=true)(hF:OU P gl f gs0 [(0,some ⟨t,l,none⟩)] 1 1 r [(0,some ⟨t,l,none⟩)])(hr:bB r)(hl:∀g∈l,bB g)(hic:i<c)(hln:gs0.length=gs.length)(hi:∀(j:Nat) (g d:G),gs[j]?=some g->gs0[j]?=some d->(∃o n,g= .rsl i o n/\d= .rsl 0 o n)\/(d=g/\bB g)):oJ P gl f gs [(i,some ⟨t,l,none⟩)] c r [] c:=by
 intro o st y xs ats fst cap ho hd hx hgs hgl s e;have hob:ag st.σ i=some ⟨t,l,none⟩:=by simp_all
 subst hgl;subst e;refine B1 (fst:=fst) (cap:=cap) (σ':=[]++st.σ) (c':=st.c) (r':=r) [(0,i)] [(i,0)] [] ho hd hx hc hF (by grind) (λj g d h1 h2=>?_) (λa b j h1 h2=>?_) aC (NH (j:=i) (by simp[dq]) aC hob rfl rfl (C6 _) (λk g d h1 h2=>?_) BY) (C6 _) (λk j hk hlt=>?_) (λk k' j h1 h2=>?_) (by grind) (λk h hk=>?_) (FH hr);all_goals grind [VY,dq,FG,FH]
theorem Tq{k:Nat}(h:dq [(c,0),(c+1,1),(c+2,2),(c+3,3)] k=some j):k=c+j/\j<4:=by have a:=fj h;grind
theorem m9(c:Nat){j:Nat}(h:j<4):dq [(c,0),(c+1,1),(c+2,2),(c+3,3)] (c+j)=some j:=by
 have e1:(c+1==c)=false:=aC;have e2:(c+2==c)=false:=aC;have e3:(c+3==c)=false:=aC;have e4:(c+2==c+1)=false:=aC;have e5:(c+3==c+1)=false:=aC;have e6:(c+3==c+2)=false:=aC;match j,h with
 |0,_=>grind [dq]
 |1,_=>grind [dq]
 |2,_=>grind [dq]
 |3,_=>simp[dq,List.lookup,e3,e5,e6]
theorem Ts{gl:CC}{i n t2 s:Bn}{l1 l2 l3:Bo}{r r':G}{c:Nat}(hc:aK P f=true)(hF:OU P gl f gs [] 0 0 r [(0,some ⟨i,l0,none⟩),(1,some ⟨n,l1,none⟩),(2,some ⟨t2,l2,none⟩),(3,some ⟨s,l3,none⟩)])(hg:∀g∈gs,bB g)(hr:Rn [(c,0),(c+1,1),(c+2,2),(c+3,3)] r r')(h0:∀g∈l0,bB g)(h1:∀g∈l1,bB g)(h2:∀g∈l2,bB g)(h3:∀g∈l3,bB g):oJ P gl f gs [] c r' [(c,some ⟨i,l0,none⟩),(c+1,some ⟨n,l1,none⟩),(c+2,some ⟨t2,l2,none⟩),(c+3,some ⟨s,l3,none⟩)] (c+4):=by
 intro o st y xs ats fst cap ho hd hx hgs hgl u h;subst hgl;subst h;have key:∀(k:Nat) (l:Bo),(∀g∈l,bB g)->∀(x:Nat) (g d:G),l[x]?=some g->l[x]?=some d->Rn [(st.c,0),(st.c+1,1),(st.c+2,2),(st.c+3,3)] g d:=λk l hl x g d a b=>by rw[a] at b;cases b;exact FH (hl g (bO a))
 refine B1 (fst:=fst) (cap:=cap) (c':=st.c+4) (r':=r') [] [(st.c,0),(st.c+1,1),(st.c+2,2),(st.c+3,3)] [] ho hd hx hc hF (by rw[hgs]) (λj g d a b=>?_) (by simp[dq]) aC BY aa (λk j hk hlt=>?_) (λk k' j a b=>?_) (λq hq=>?_) (λk t hk=>?_) hr
 .grind [FG]
 .have:=Tq hk;omega
 .have a1:=Tq a;grind [Tq]
 .simp at hq;rcases hq with rfl|rfl|rfl|rfl<;>simp<;>omega
 .simp only[List.cons_append,Pu,A3] at hk;split at hk
  .cases hk;subst_vars;exact .inl ⟨0,_,m9 st.c (j:=0) Cd,by grind,rfl,C6 _,λe=>e,⟨rfl,rfl⟩,key 0 _ h0⟩
  .split at hk
   .cases hk;subst_vars;exact .inl ⟨1,_,m9 st.c (j:=1) Cd,by simp[A3],rfl,C6 _,λe=>e,⟨rfl,rfl⟩,key 0 _ h1⟩
   .split at hk
    .cases hk;subst_vars;exact .inl ⟨2,_,m9 st.c (j:=2) Cd,by simp[A3],rfl,C6 _,λe=>e,⟨rfl,rfl⟩,key 0 _ h2⟩
    .split at hk
     .cases hk;subst_vars;exact .inl ⟨3,_,m9 st.c (j:=3) Cd,by simp[A3],rfl,C6 _,λe=>e,⟨rfl,rfl⟩,key 0 _ h3⟩
     grind [dq]
theorem UO{gl:CC}{gs:Bo}{d:Bn}{n c:Nat}(hc:aK P f=true)(hF:iV P gl f gs d n l0)(hg:∀g∈gs,bB g)(h0:∀g∈l0,bB g):oJ P gl f gs [] c (.rsl c 0 n) [(c,some ⟨d,l0,none⟩)] (c+1):=by intro o st y xs ats fst cap ho hd hx hgs hgl i e;subst hgl;subst e;refine B1 (fst:=fst) (cap:=cap) (c':=st.c+1) (r':= .rsl st.c 0 n) (r:= .rsl 0 0 n) (σ1:=[(0,some ⟨d,l0,none⟩)]) [] [(st.c,0)] [] ho hd hx hc hF (by rw[hgs]) (λj g l a b=>?_) (by simp[dq]) aC BY aa (λk j hk hlt=>?_) (λk k' j a b=>?_) (by grind) (λk h hk=>?_) (BZ (by simp[dq]));all_goals grind [FG,dq,FH]
theorem OW{gl:CC}{gs:Bo}{t:Bn}{n:Nat}{l:Bo}(hf:P.funcs[f]?=some fn)(h:Gp P fn (zE P fn (.rsl 0 0 n) [(0,some ⟨t,l,none⟩)]) [] false [] ⟨fn.ntmps,gl,bQ 0 gs,[],0,0,false⟩)(hb:fn.body.isSome=true:=by kernel_rfl)(hn:Nat.ble gs.length fn.ntmps=true:=by kernel_rfl):iV P gl f gs t n l:=
 NJ hf (cd:=ai fn) (by unfold ai;cases hx:fn.body<;>grind) (EG hn) (Tr.leQ (by exact h))
theorem dNx(b:Bp)(h:Gp P fn Q Bs false b st)(e:bE q (ai fn) Bs []= .thn (bq b (ai fn))::bE b (ai fn) Bs []:=by kernel_rfl):Gp P fn Q Bs true q st:=by unfold Gp;rw[e];exact wm h
def Xr(P:Br)(hs:List Hn)(m:Code⊕Exit)(K:List Kf)(vs:List Bn)(ρ:Dx)(kd:List (Nat×Rk))(J st:St):Option (Prop×Bp×JQ×St×Code×List Kf):=match sy P hs 1000000 1000 m K st with
 |some (C,u,.lp c K' s)=>match Iw P vs ρ kd J s with
  |some (L,s')=>some (C,u,L,s',c,K')
  |none=>none
 |_=>none
def Oj(fn:Func)(Bs:List (St->Prop))(b:Bp):List Kf:=(bE b (ai fn) (Bs++[λ_=>False]) []).tail
theorem pN{σ ρ':Type}{step:σ->Option (σ⊕ρ')}{s0:σ}{x:ρ'}(S:σ->St)(b:Bp)(hl:AQ step s0=some x)(A O:List HP)(h:∀(B:St->Prop) (s:σ) (v:σ⊕ρ'),step s=some v->(∀s',v= .inl s'->B (S s'))->(∀y,v= .inr y->y=x)->Gp P fn Q (Bs++[B]) false b (S s))(vs:List Bn:=[])(ρ:Dx:=[])(kd:List (Nat×Rk):=[])
  (hk:T0 A (Xr P (bK A) (LO m p (ai fn)) (bE p (ai fn) Bs []) vs ρ kd (S s0) st) (pR O,S s0,bq b (ai fn),Oj fn Bs b):=by exact⟨aH,aH⟩)
  (e2:∀B,bE b (ai fn) (Bs++[B]) []= .lp B::Oj fn Bs b:=by intro B;kernel_rfl):Gp P fn Q Bs m p st:=by
 obtain⟨C,u,hC,e⟩:=hk.out
 unfold Gp
 unfold Xr at e
 split at e
 rotate_left
 .cases e
 rename_i d f c K' s1 h1
 split at e
 rotate_left
 .cases e
 rename_i L s' h2
 simp only[Ft,Gb] at e
 obtain⟨rfl,rfl,rfl,rfl,rfl,rfl⟩:=e
 refine oK M.mx (out:= .lp (bq b (ai fn)) (Oj fn Bs b) s1) (Tr.le ?_ (M6 h2 (wR O))) 1000 _ _ _ _ _ h1 hC
 unfold AQ at hl
 have key:=TJ (P:=P) (Q:=Q) (c:=bq b (ai fn)) (K:=Oj fn Bs b) (ι:={q:Nat×σ//KN step q.1 q.2=some x}) ⟨λq=>S q.1.2,λq=>q.1.1⟩ ⟨(FU,s0),hl⟩ (by
  rintro⟨⟨n,s⟩,hn⟩;have hn:KN step n s=some x:=hn;cases n with
  |zero=>cases hn
  |succ n=>
   unfold KN at hn;split at hn
   .cases hn
   .rename_i s' hs;have:=h (λt=>t=S s'/\KN step n s'=some x) s (.inl s') hs (λa e=>by cases e;exact⟨rfl,hn⟩) (λy e=>by cases e);unfold Gp at this;rw[e2] at this;refine Tr.mono this λe t ht=>?_;unfold dz at ht⊢;cases e with
    |normal=>unfold uE at ht⊢;obtain⟨u,hu,rfl,hx⟩:=ht;exact⟨_,hu,⟨(n,s'),hx⟩,rfl,Nat.lt_succ_self _⟩
    |_=>grind [uE]
   .rename_i y hs;cases hn;have:=h (λt=>False) s (.inr x) hs (λa e=>by cases e) (λy e=>by cases e;rfl);unfold Gp at this;rw[e2] at this;refine Tr.mono this λe t ht=>?_;unfold dz at ht⊢;cases e with
    |normal=>unfold uE at ht⊢;obtain⟨u,hu,hx⟩:=ht;exact hx.elim
    |_=>grind [uE])
 exact key
def wT:Code->Nat
 | .cond (.tmp d) _ _=>d
 | .region id _ _=>2000000+id
 |_=>1000000
def Xs(P:Br)(hs:List Hn)(cut:Nat)(m:Code⊕Exit)(K:List Kf)(vs:List Bn)(ρ:Dx)(kd:List (Nat×Rk))(J st:St):Option (Prop×Bp×JQ×St×Code×List Kf):=match sy P hs cut 1000 m K st with
 |some (C,u,.ct c K' s)=>match Iw P vs ρ kd J s with
  |some (L,s')=>some (C,u,L,s',c,K')
  |none=>none
 |_=>none
theorem pO(q:Bp)(J:St)(A O:List HP)(kk:Gp P fn Q Bs false q J)(vs:List Bn:=[])(ρ:Dx:=[])(kd:List (Nat×Rk):=[])
  (hk:T0 A (Xs P (bK A) (wT (bq q (ai fn))) (LO m p (ai fn)) (bE p (ai fn) Bs []) vs ρ kd J st) (pR O,J,bq q (ai fn),bE q (ai fn) Bs []):=by exact⟨aH,aH⟩):Gp P fn Q Bs m p st:=by
 obtain⟨C,u,hC,e⟩:=hk.out
 unfold Gp
 unfold Xs at e
 split at e
 rotate_left
 .cases e
 rename_i a b c K' s1 h1
 split at e
 rotate_left
 .cases e
 rename_i L s' h2
 simp only[Ft,Gb] at e
 obtain⟨rfl,rfl,rfl,rfl,rfl,rfl⟩:=e
 exact oK M.mx (out:= .ct (bq q (ai fn)) (bE q (ai fn) Bs []) s1) (Tr.le kk (M6 h2 (wR O))) 1000 _ _ _ _ _ h1 hC
theorem Ix(q:Bp)(J:St)(kk:Gp P fn Q Bs true q J)(h:Gp P fn Q Bs true q J->Gp P fn Q Bs m p st):Gp P fn Q Bs m p st:=h kk
end
def hr(d:Nat){c b:Bool}(t:c=b):HP:=⟨some (.r d b),c=b,t⟩
def hw(d:Nat)(L:Bo){p:Prop}(t:p):HP:=⟨some (.w d L),p,t⟩
def hk(d:Nat)(L:Bo)(M:Nat){p:Prop}(t:p):HP:=⟨some (.k d L M),p,t⟩
def hq(d:Nat)(ts:Bo)(O:List HP){P:Br}{gl:CC}{f:FuncId}{gs:Bo}{g:G}(t:ba P gl f gs g):HP:=⟨some (.q d ts g),IJ (O.map (·.p))/\ba P gl f gs g,by
 refine⟨?_,t⟩;induction O with
 |nil=>trivial
 |cons x r ih=>exact⟨x.t,ih⟩⟩
def ho(d:Nat)(ts:Bo)(O:List HP){P:Br}{gl:CC}{f:FuncId}{gs:Bo}{ty:Bn}{m:Nat}{l:Bo}(t:iV P gl f gs ty m l)(h:∀g∈l,∃v,g= .lit v):HP:=⟨some (.o d ts ty m l),IJ (O.map (·.p))/\iV P gl f gs ty m l/\∀g∈l,∃v,g= .lit v,by
 refine⟨?_,t,h⟩;induction O with
 |nil=>trivial
 |cons x r ih=>exact⟨x.t,ih⟩⟩
def hm(d:Nat){P:Br}{t:Bn}{ok:Bool}{gm gk g:G}(h:∀σ,bL P σ t ok gm gk=some g):HP:=⟨some (.m d g),∀σ,bL P σ t ok gm gk=some g,h⟩
theorem bf:∀g∈([]:Bo),bB g:=by grind
theorem aY{x:G}{l:Bo}(hx:bB x)(h:∀g∈l,bB g):∀g∈x::l,bB g:=by grind
theorem jf{gl:CC}{g:G}{c:Nat}(hc:aK P f=true)(hF:ba P gl f gs g)(hg:∀x∈gs,bB x):oJ P gl f gs [] c g [] c:=λo st y xs ats fst cap ho hd hx hgs hgl b a=>by subst hgs;subst hgl;subst a;exact wt ho hd hx hc hg hF
structure R3 (P:Br) (gl:CC) (fid:FuncId) (fst cap:Bo) {α β:Type} (ca:α->Bo) (cb:β->G) (p:α->Option β):Prop where
 ok:aK P fid=true
 im1:∀g∈fst,bB g
 im2:∀g∈cap,bB g
 fn:∀x r,p x=some r->ba P gl fid (fst++ca x++cap) (cb r)
theorem R3.im{P:Br}{gl:CC}{fid:FuncId}{fst cap:Bo}{α β:Type}{ca:α->Bo}{cb:β->G}{p:α->Option β}(h:R3 P gl fid fst cap ca cb p):bB (.clo (.func fid) fst cap):=L8 h.im1 h.im2
theorem R3.cs{P:Br}{gl:CC}{fid:FuncId}{fst cap:Bo}{α β:Type}{ca:α->Bo}{cb:β->G}{p:α->Option β}(h:R3 P gl fid fst cap ca cb p){x:α}{r:β}(e:p x=some r)(hx:∀g∈ca x,bB g){c:Nat}:oJ P gl fid (fst++ca x++cap) [] c (cb r) [] c:=by grind [R3,jf]
def hz(d:Nat)(R:Bp){P:Br}{gl:CC}{f:FuncId}{gs:Bo}{σR:aQ}{c:Nat}{g:G}{U:aQ}{c':Nat}(t:oJ P gl f gs σR c g U c'):HP:=⟨some (.z d R g U c'),oJ P gl f gs σR c g U c',t⟩
theorem cF{gl:CC}(h:ba P gl f gs (bG t))(e:t=b):ba P gl f gs (bG b):=e▸h
theorem cS{gl:CC}{σR U:aQ}{c c':Nat}(h:oJ P gl f gs σR c (bG t) U c')(e:t=b):oJ P gl f gs σR c (bG b) U c':=e▸h
theorem cV{X:Dl->Dl->Option G}(h:∀p q,X p q=some (bG t))(e:t=b):∀p q,X p q=some (bG b):=e▸h
def OX(f:G->G->G):Bo->Bo->Bo
 |g::r,t::r'=>f g t::OX f r r'
 |_,_=>[]
def nz:Nat->G->G->G
 |0,g,_=>g
 |n+1,g,t=>match t with
  | .sl _ _=>match g with
   | .lit (.slice none 0 0)=> .sl [] 0
   |g=>g
  | .agg l'=>match g with
   | .agg l=> .agg (bif Nat.beq l.length l'.length then OX (nz n) l l' else l)
   |g=>g
  |_=>g
theorem Ac7{f:G->G->G}:∀(l t:Bo),l.length=t.length->(OX f l t).length=l.length
 |[],[],_=>rfl
 |g::r,t::r',h=>by simp only[OX,List.length_cons,Ac7 r r' (by grind)]
theorem aac{f:G->G->G}:∀(l t:Bo),l.length=t.length->∀(i:Nat) (g':G),(OX f l t)[i]?=some g'->∃g a,l[i]?=some g/\g'=f g a
 |[],[],_,i,g',h=>by simp[OX] at h
 |g::r,t::r',h,i,g',hg=>by
  cases i with
  |zero=>grind [OX]
  |succ i=>simp only[OX,List.getElem?_cons_succ] at hg;simpa using aac r r' (by grind) i g' hg
theorem UX{S:Ga}{w:World}:∀(n:Nat) (g t:G) (v:Value),IV S w g v->IV S w (nz n g t) v
 |0,g,t,v,h=>h
 |n+1,g,t,v,h=>by
  unfold nz;split
  .split
   .cases h;exact .sl [] 0 none 0 (λ_=>undef) (C6 _) (Nat.zero_le _) aC aC aC
   .exact h
  .split
   .rename_i c _ l;cases hb:Nat.beq l.length c.length with
    |false=>exact h
    |true=>
     have hl:=bc hb;cases h with
     |agg _ us h2 h1 hr=>refine .agg _ us (by grind [Ac7]) h1 λi d u hg hu=>?_;obtain⟨g,a,b,rfl⟩:=aac _ _ hl i d hg;exact UX n g a u (by grind)
   .exact h
  .exact h
theorem UY{gl:CC}{r:G}{ts:Bo}(gs:Bo)(h:ba P gl f ts r)(hl:gs.length=ts.length:=by rfl)(e:OX (nz 20) gs ts=ts:=by kernel_rfl):ba P gl f gs r:=λw S vs hS hG hsz a=>by refine h w S vs hS hG aa λi g u hg hu=>?_;grind [aac,UX]
theorem Gj{f:α->Bo}(hf:∀x,∀g∈f x,∃v,g= .lit v)(l:List α):∀g∈l.flatMap f,∃v,g= .lit v:=by grind
def wY(z:Int):UInt8:=UInt8.ofNat (IntKind.u8.wrap z).toNat
theorem YG(z:Int):0<=IntKind.u64.wrap z:=by show 0<=z%18446744073709551616;grind
theorem zk(z:Int):((wU z:Nat):Int)=IntKind.u64.wrap z:=Int.toNat_of_nonneg (YG z)
theorem C8(z:Int):some (G.lit (.int .u64 (IntKind.u64.wrap z)))=some (uG (wU z)):=by rw[zk]
theorem gV(a b:Int):lD .add (uG a) (uG b)=some (uG (wU (a+b))):=by rw[zk];rfl
theorem YH(a b:Int):lD .sub (uG a) (uG b)=some (uG (wU (a-b))):=by rw[zk];rfl
theorem na(a b:Int):lD .mul (uG a) (uG b)=some (uG (wU (a*b))):=by rw[zk];rfl
theorem iD(a b:Nat)(h:b≠0):lD .rem (uG a) (uG b)=some (uG ((a%b:Nat):Int)):=by show(if(b:Int)=0 then none else some (uG (Int.tmod a b)))=_;grind
theorem zm(a b:Nat)(h:b≠0):lD .quo (uG a) (uG b)=some (uG (wU (a/b:Nat))):=by show(if(b:Int)=0 then none else some (uG (IntKind.u64.wrap (Int.tdiv a b))))=_;grind [zk]
theorem Tt{b:Int}(h:Gg a b=some r):lD .quo (iG a) (iG b)=some (iG r):=by unfold Gg at h;show(if b=0 then none else some (iG (IntKind.i64.wrap (a.tdiv b))))=_;grind
theorem KO{b:Int}(h:u9 a b=some r):lD .rem (iG a) (iG b)=some (iG r):=by unfold u9 at h;show(if b=0 then none else some (iG (a.tmod b)))=_;grind
def CH(a b:Nat):FF:=if b=0 then none else some (a%b)
theorem YI{a b r:Nat}(h:CH a b=some r):lD .rem (uG a) (uG b)=some (uG r):=by grind [CH,iD]
def Fi(a b:Int):Int:=if b>a then b else a
def iI(a b:Int):Int:=if b<a then b else a
abbrev sG(s:CO):G:= .lit (.string ⟨s.toArray⟩)
abbrev Iy:G:= .lit (.slice none 0 0)
theorem YJ(z:Int):((wY z).toNat:Int)=IntKind.u8.wrap z:=by
 have h1:0<=IntKind.u8.wrap z/\IntKind.u8.wrap z<256:=by show 0<=z%256/\z%256<256;grind
 grind [wY,UInt8.toNat_ofNat']
theorem YK(a b:UInt8):lD .add (gY a) (gY b)=some (gY (wY ((a.toNat:Int)+(b.toNat:Int)))):=by show some (G.lit (.int .u8 (IntKind.u8.wrap _)))=some (G.lit (.int .u8 ((wY _).toNat:Int)));rw[YJ]
def Gk(s:CO):Option CO:=if s.length<=9223372036854775807 then some s else none
theorem Iz(z:Int):some (G.lit (.int .u8 (IntKind.u8.wrap z)))=some (gY (wY z)):=by
 have h1:0<=IntKind.u8.wrap z/\IntKind.u8.wrap z<256:=by show 0<=z%256/\z%256<256;grind
 grind [wY,UInt8.toNat_ofNat']
theorem GV{l:List α}{x:α}(h:aS l i=some x):0<=i/\l[i.toNat]?=some x:=by grind [aS]
section
variable {P:Br} {ts te:Bn} {k:Nat} {α:Type} {f:α->Bo}
theorem Ba.ixZ(R:Ba P ts te k f){l:List α}{i:Int}{x:α}(h:aS l i=some x):fh P ts (aE f l) i=some (.ptr (l.flatMap f) (i.toNat*k)):=by obtain⟨h1,h2⟩:=GV h;grind [ix]
theorem Ba.ptZ(R:Ba P ts te k f)(ha:fg P te=some true){l:List α}{i:Int}{x:α}(h:aS l i=some x):dN P te (l.flatMap f) (i.toNat*k)=some (.agg (f x)):=R.pt ha (GV h).2
theorem Ba.p1Z(R:Ba P ts te 1 f)(ha:fg P te=some false){l:List α}{i:Int}{x:α}(h:aS l i=some x){g:G}(hg:f x=[g]:=by rfl):dN P te (l.flatMap f) (i.toNat*1)=some g:=R.pt1 ha (GV h).2 hg
theorem Ba.fdZ(R:Ba P ts te k f){t:Bn}(ha:fg P t=some false){l:List α}{i:Int}{x:α}{g:G}(j:Nat)(h:aS l i=some x)(hg:(f x)[j]?=some g:=by rfl):dN P t (l.flatMap f) (i.toNat*k+j)=some g:=R.fd ha (GV h).2 hg
theorem Ba.fs(R:Ba P ts te k f){t:Bn}{n:Nat}(ha:fg P t=some true)(hs:bw P t=some n){l:List α}{i j:Nat}{x:α}(h:l[i]?=some x)(hj:j+n<=k):dN P t (l.flatMap f) (i*k+j)=some (.agg (((f x).drop j).take n)):=by have hb:=l9 (k:=k) h;have e:=wQ (f:=f) (k:=k) R.ln h;grind [dN,len,List.drop_drop,List.drop_take]
theorem Ba.fsZ(R:Ba P ts te k f){t:Bn}{n:Nat}(ha:fg P t=some true)(hs:bw P t=some n)(j:Nat)(hj:j+n<=k){l:List α}{i:Int}{x:α}(h:aS l i=some x):dN P t (l.flatMap f) (i.toNat*k+j)=some (.agg (((f x).drop j).take n)):=R.fs ha hs (GV h).2 hj
theorem Ba.ixrZ(R:Ba P ts te k f)(j:Nat){l:List α}{i:Int}{x:α}(h:aS l i=some x):fh P ts (.rsl j 0 l.length) i=some (.ref j (0+i.toNat*k)):=by obtain⟨h1,h2⟩:=GV h;have:=R.ixr j (o:=0) h2;grind
theorem Ba.pt0Z(R:Ba P ts te k f)(ha:fg P te=some true){l:List α}{i:Int}{x:α}(h:aS l i=some x):dN P te (l.flatMap f) (0+i.toNat*k)=some (.agg (f x)):=by grind [ptZ]
theorem Ba.p10Z(R:Ba P ts te 1 f)(ha:fg P te=some false){l:List α}{i:Int}{x:α}(h:aS l i=some x){g:G}(hg:f x=[g]:=by rfl):dN P te (l.flatMap f) (0+i.toNat*1)=some g:=by grind [p1Z]
theorem Ba.fd0Z(R:Ba P ts te k f){t:Bn}(ha:fg P t=some false){l:List α}{i:Int}{x:α}{g:G}(j:Nat)(h:aS l i=some x)(hg:(f x)[j]?=some g:=by rfl):dN P t (l.flatMap f) (0+i.toNat*k+j)=some g:=by grind [fdZ]
theorem Ba.fs0Z(R:Ba P ts te k f){t:Bn}{n:Nat}(ha:fg P t=some true)(hs:bw P t=some n)(j:Nat)(hj:j+n<=k){l:List α}{i:Int}{x:α}(h:aS l i=some x):dN P t (l.flatMap f) (0+i.toNat*k+j)=some (.agg (((f x).drop j).take n)):=by grind [fsZ]
theorem sT{l l':List α}{x:α}(h:ji l i x=some l'):0<=i/\i.toNat<l.length/\l'=l.set i.toNat x:=by grind [ji]
theorem Tu{l l':List α}{x:α}(h:ji l i x=some l'):∃y,aS l i=some y:=by obtain⟨h1,h2,_⟩:=sT h;exact⟨l[i.toNat],by grind [aS]⟩
theorem Ba.ixsZ(R:Ba P ts te k f)(j:Nat){l l':List α}{i:Int}{x:α}(h:ji l i x=some l'):fh P ts (.rsl j 0 l.length) i=some (.ref j (0+i.toNat*k)):=by grind [Ba,Tu,ixrZ]
theorem wW(hk:∀x,(f x).length=k)(x:α):∀(l:List α) (i:Nat),i<l.length->(l.flatMap f).take (i*k)++f x++(l.flatMap f).drop (i*k+k)=(l.set i x).flatMap f
 |[],i,h=>by cases h
 |y::r,0,h=>by grind
 |y::r,i+1,h=>by
  have ih:=wW hk x r i (by grind);rw[List.set_cons_succ,List.flatMap_cons,List.flatMap_cons,<-ih];have e1:(f y++r.flatMap f).take ((i+1)*k)=f y++(r.flatMap f).take (i*k):=by grind [Nat.succ_mul]
  have e2:(f y++r.flatMap f).drop ((i+1)*k+k)=(r.flatMap f).drop (i*k+k):=by rw[List.drop_append,hk,List.drop_of_length_le (by grind),Pu];grind
  grind
theorem Ba.putZ(R:Ba P ts te k f){l l':List α}{i:Int}{x:α}(h:ji l i x=some l'):(f x).length=k/\0+i.toNat*k+k<=(l.flatMap f).length/\(l.flatMap f).take (0+i.toNat*k)++f x++(l.flatMap f).drop (0+i.toNat*k+k)=l'.flatMap f:=by obtain⟨h1,h2,rfl⟩:=sT h;grind [Ba,len,wW]
theorem Ba.putF(R:Ba P ts te k f){l l':List α}{i:Int}{x x':α}(h:ji l i x'=some l')(hx:aS l i=some x)(a n:Nat){gs:Bo}(hg:gs.length=n)(d:a+n<=k)(hf:f x'=(f x).take a++gs++(f x).drop (a+n)):gs.length=n/\0+i.toNat*k+a+n<=(l.flatMap f).length/\(l.flatMap f).take (0+i.toNat*k+a)++gs++(l.flatMap f).drop (0+i.toNat*k+a+n)=l'.flatMap f:=by
 obtain⟨h1,h2,rfl⟩:=sT h;obtain⟨_,hx⟩:=GV hx;have e0:l.set i.toNat x=l:=by apply List.ext_getElem?;grind
 have b:=l9 (k:=k) (EA h2);have c:=wW R.ln x l i.toNat h2;rw[e0] at c;have e:=wW R.ln x' l i.toNat h2;refine⟨hg,?_,?_⟩
 .rw[R.len];omega
 .rw[Nat.zero_add,<-e,hf];have la:((l.flatMap f).take (i.toNat*k)).length=i.toNat*k:=by grind [len]
  have lx:=R.ln x;generalize hA:(l.flatMap f).take (i.toNat*k)=A at*;generalize hB:(l.flatMap f).drop (i.toNat*k+k)=B at*;rw[<-c];have e1:(A++f x++B).take (i.toNat*k+a)=A++(f x).take a:=by rw[List.append_assoc,List.take_append,la,List.take_of_length_le aa,Nat.add_sub_cancel_left,List.take_append_of_le_length aa]
  have e2:(A++f x++B).drop (i.toNat*k+a+n)=(f x).drop (a+n)++B:=by rw[List.append_assoc,List.drop_append,la,List.drop_of_length_le aa,Pu,show i.toNat*k+a+n-i.toNat*k=a+n by omega,List.drop_append_of_le_length aa]
  grind
theorem jx{b:Nat}{l r y:List α}(h:aT b l r=some y):(l.length+r.length)*b<=140737488355328/\y=l++r:=by grind [aT]
def bF:Bp->Bo->Bo
 |[],l=>l
 |k::r,l=>bF r (l.set k Iy)
theorem el{α:Type}(l:List α):l.length=l.length:=rfl
theorem Ba.al(R:Ba P ts te k f)(l:List α){m:Nat}(e:m=l.length:=by rfl):(l.flatMap f).length=l.length*k/\(∀x∈l.flatMap f,bB x)/\m=l.length:=⟨R.len l,R.imm l,e⟩
theorem hZ{l l':List α}{x:α}(h:ji l i x=some l'):l.length=l'.length:=by obtain⟨_,_,rfl⟩:=sT h;simp
def dg(d:Nat)(R:Ba P ts te k f){b:Nat}{l r y:List α}(h:aT b l r=some y):HP:=ha d (y.flatMap f) y.length (p:=(l.flatMap f).length=l.length*k/\0+r.length*k<=(r.flatMap f).length/\(l.length+r.length)*b<=140737488355328/\l.flatMap f++((r.flatMap f).drop 0).take (r.length*k)=y.flatMap f/\l.length+r.length=y.length) (by obtain⟨h1,rfl⟩:=jx h;grind [Ba.len])
def eu(d:Nat)(R:Ba P ts te k f){b:Nat}{l r y:List α}(h:aT b l r=some y):HP:=ha d (y.flatMap f) y.length (p:=(l.flatMap f).length=l.length*k/\(r.flatMap f).length=r.length*k/\(l.length+r.length)*b<=140737488355328/\l.flatMap f++r.flatMap f=y.flatMap f/\l.length+r.length=y.length) (by obtain⟨h1,rfl⟩:=jx h;grind [Ba.len])
def YL(d:Nat)(R:Ba P ts te k f){b:Nat}{r y:List α}(h:aT b [] r=some y):HP:=ha d (y.flatMap f) y.length (p:=True/\0+r.length*k<=(r.flatMap f).length/\(0+r.length)*b<=140737488355328/\[]++((r.flatMap f).drop 0).take (r.length*k)=y.flatMap f/\0+r.length=y.length) (by obtain⟨h1,rfl⟩:=jx h;grind [Ba.len])
def wX(d:Nat)(R:Ba P ts te k f){b:Nat}{r y:List α}(h:aT b [] r=some y):HP:=ha d (y.flatMap f) y.length (p:=True/\(r.flatMap f).length=r.length*k/\(0+r.length)*b<=140737488355328/\[]++r.flatMap f=y.flatMap f/\0+r.length=y.length) (by obtain⟨h1,rfl⟩:=jx h;grind [Ba.len])
def Tv(d:Nat)(R:Ba P ts te k f){b:Nat}{l y:List α}{x:α}(h:aT b l [x]=some y)(c:Bo)(hc:c.length=k):HP:=ha d (l.flatMap f++c) y.length (p:=(l.flatMap f).length=l.length*k/\0+1*k<=c.length/\(l.length+1)*b<=140737488355328/\l.flatMap f++(c.drop 0).take (1*k)=l.flatMap f++c/\l.length+1=y.length) (by obtain⟨h1,rfl⟩:=jx h;grind [Ba.len])
theorem Ba.app(R:Ba P ts te k f){b:Nat}{l y:List α}{x:α}(h:aT b l [x]=some y):(∀g∈l.flatMap f,bB g)/\l.flatMap f++f x=y.flatMap f:=by obtain⟨h1,rfl⟩:=jx h;grind [imm]
def ZV(R:Ba P ts te k f){b:Nat}{l y:List α}{x:α}(h:aT b l [x]=some y)(c:Bo):HP:=hc (p:=l.flatMap f++c=l.flatMap f++c/\(∀g∈l.flatMap f,bB g)/\l.flatMap f++f x=y.flatMap f) (by grind [Ba.app])
theorem ym{l y:List α}(h:tq l i=some y):0<=i/\i.toNat<=l.length/\y=l.take i.toNat:=by grind [tq]
theorem yn{l y:List α}(h:mc l i=some y):0<=i/\i.toNat<=l.length/\y=l.drop i.toNat:=by grind [mc]
theorem Ba.preZI(R:Ba P ts te k f){l y:List α}{i:Int}(h:tq l i=some y):ig P ts (aE f l) none (some i)=some (aE f y):=by obtain⟨h1,h2,rfl⟩:=ym h;simp only[ig,R.el,R.sz,aL,aE];grind [Ba,yk]
theorem Ba.sufZI(R:Ba P ts te k f){l y:List α}{i:Int}(h:mc l i=some y):ig P ts (aE f l) (some i) none=some (aE f y):=by obtain⟨h1,h2,rfl⟩:=yn h;simp only[ig,R.el,R.sz,aL,aE];grind [Ba,len,sQ]
theorem Ba.preZ(R:Ba P ts te k f)(j:Nat){l y:List α}{i:Int}(h:tq l i=some y):ig P ts (.rsl j 0 l.length) none (some i)=some (.rsl j 0 i.toNat):=by grind [ym,pre,Int.toNat_of_nonneg]
theorem Ba.sufZ(R:Ba P ts te k f)(j:Nat){l y:List α}{i:Int}(h:mc l i=some y):ig P ts (.rsl j 0 l.length) (some i) none=some (.rsl j (0+i.toNat*k) (l.length-i.toNat)):=by grind [yn,suf,Int.toNat_of_nonneg]
theorem KP{b:Nat}{z:α}{n:Int}{l:List α}(h:rP b z n=some l):0<=n/\b*n.toNat<=281474976710656/\n<=9223372036854775807/\l=List.replicate n.toNat z:=by grind [rP]
theorem Wn(v:Value)(n:Nat):bN [v] n=List.replicate n v:=by unfold bN;apply List.ext_getElem;all_goals grind
theorem QT{x:α}{g:G}(hg:f x=[g])(n:Nat):(List.replicate n x).flatMap f=List.replicate n g:=by induction n<;>grind
theorem mk1(R:Ba P ts te 1 f){v:Value}{b:Nat}{x:α}{n:Int}{l:List α}(h:rP b x n=some l)(hz:jj P te=some [v])(hb:(P.info? te).map (·.bytes)=some b)(hx:f x=[.lit v]):tI P ts (iG n) (iG n)=some (te,l.flatMap f,l.length):=by obtain⟨h1,h2,h3,rfl⟩:=KP h;grind [Ba,tI,Nat.beq_refl,Ng,Wn,List.map_replicate,QT]
def hmk(d:Nat)(R:Ba P ts te 1 f){v:Value}{b:Nat}{x:α}{n:Int}{l:List α}(h:rP b x n=some l)(hz:jj P te=some [v]:=by kernel_rfl)(hb:(P.info? te).map (·.bytes)=some b:=by kernel_rfl)(hx:f x=[.lit v]:=by rfl):HP:=hk d (l.flatMap f) l.length (mk1 R h hz hb hx)
def CI(i:Nat)(gs gs0:Bo):Prop:=∀(j:Nat) (g g':G),gs[j]?=some g->gs0[j]?=some g'->(∃o n,g= .rsl i o n/\g'= .rsl 0 o n)\/(g'=g/\bB g)
theorem wZ{i:Nat}:CI i [] []:=λj g a h=>by simp at h
theorem w5{i o n:Nat}(h:CI i gs gs0):CI i (.rsl i o n::gs) (.rsl 0 o n::gs0):=λj g a h1 h2=>by
 cases j with
 |zero=>grind
 |succ j=>exact h j g a (by grind) (by grind)
theorem CJ{i:Nat}{g0:G}(hg:bB g0)(h:CI i gs gs0):CI i (g0::gs) (g0::gs0):=λj g a h1 h2=>by
 cases j with
 |zero=>grind
 |succ j=>exact h j g a (by grind) (by grind)
theorem eB{gs:Bo}(h:gs.all (nF 20)=true):∀g∈gs,bB g:=by grind [aG]
theorem rn4{c a b d e:Nat}:Rn [(c,0),(c+1,1),(c+2,2),(c+3,3)] (.agg [.rsl 0 0 a,.rsl 1 0 b,.rsl 2 0 d,.rsl 3 0 e]) (.agg [.rsl c 0 a,.rsl (c+1) 0 b,.rsl (c+2) 0 d,.rsl (c+3) 0 e]):=VZ rfl λi g h h1 h2=>by
 match i with
 |0=>simp at h1 h2;subst h1;subst h2;exact BZ (m9 c (j:=0) Cd)
 |1=>grind [BZ,m9]
 |2=>grind [BZ,m9]
 |3=>grind [BZ,m9]
 |n+4=>simp at h1
end
section
variable {P:Br}
theorem th.mn{o:Oper}{st:St}{S T:St->Prop}(h:th P o st S)(k:∀s,S s->T s):th P o st T:=λcx a w K R r hk=>h cx a w K R r λs hs=>hk s (k s hs)
theorem QU{o:Oper}{st:St}{e:Bn}{l:Bo}{n:Nat}{u:Bool}(ho:∃z,o.op= .binOp .eql ts x (.const (.slice none 0 0)) z)(ht:P.underlying ts=some (.slice e))(hd:LS o st.n)(hx:aB st x= .sl l n):th P o st (λs=>∃b,(b=true->l=[])/\s=st.put o.dst (bG b)):=by
 obtain⟨z,ho⟩:=ho;intro cx a w K R ⟨β,h⟩ d;refine h.loose.oper (λc hc=>by rw[ho] at hc;cases hc) ?_;have hv:=h.ev x;rw[hx] at hv;obtain⟨ad,cap,us,hv,_,_,ha,_⟩:=hv.sl_cells;have hrun:(execOp a.eval o).run P w= .ok (.value (.bool ad.isNone)) w:=by unfold execOp;have hk:a.eval (.const (.slice none 0 0))= .slice none 0 0:=rfl;simp[ho,hv,hk,eqGuard,Lib.run_eql_slice_nil w ts e ad n cap 0 0 ht]
 unfold Oper.wp;rw[hrun];refine d _ ⟨ad.isNone,λhn=>?_,rfl⟩ _ _ ⟨β,h.put o.dst hd (.imm _ _ (.lit _))⟩;cases l with
 |nil=>rfl
 |cons g r=>obtain⟨b,f,e,_⟩:=ha 0 aC;rw[e] at hn;cases hn
end
section
variable {P:Br} {fn:Func} {Q:Exit->St->Prop} {Bs:List (St->Prop)} {p:Bp} {st:St}
def QV(P:Br)(c:Code)(x b f:Nat)(d e:Bn):Bool:=match c with
 | .region _ ⟨[⟨some g,.move (.tmp x'),_,_,_,none⟩,⟨some h,.binOp .eql t' (.tmp a) (.const (.slice none 0 0)) _,_,_,_,none⟩]⟩ false=>Nat.beq g b&&Nat.beq h f&&Nat.beq x x'&&Nat.beq a b&&Nat.beq t' d&&(match P.underlying d with|some (.slice e')=>Nat.beq e e'|_=>false)
 |_=>false
theorem IA(x i j:Nat)(t e:Bn)(hx:aD st.fr x= .sl l n)(h1:i<st.n)(h2:j<st.n)(h:∀b,(b=true->l=[])->Gp P fn Q Bs true p ((st.put (some i) (.sl l n)).put (some j) (bG b)))(hc:QV P (bq p (ai fn)) x i j t e=true:=by kernel_rfl):Gp P fn Q Bs false p st:=by
 unfold Gp LO at h⊢;simp only[ax,A9] at h⊢;revert hc;generalize bq p (ai fn)=c;intro hc;unfold QV at hc;split at hc
 .rename_i id v w f g af1 r t' a z k m q;simp only[bA] at hc;obtain⟨⟨⟨⟨⟨e1,e2⟩,e3⟩,e4⟩,e5⟩,e6⟩:=hc;obtain rfl:=bc e1;obtain rfl:=bc e2;obtain rfl:=bc e3;obtain rfl:=bc e4;obtain rfl:=bc e5;split at e6
  .rename_i e' hu;obtain rfl:=bc e6;unfold CQ;refine lG (l:=[_,_]) ?_;have g1:GS P ⟨some a,.move (.tmp x),f,g,af1,none⟩ st (st.put (some a) (.sl l n)):=fM (o:=⟨some a,.move (.tmp x),f,g,af1,none⟩) (λd hd=>by cases hd;exact h1) (by show some (aD st.fr x)=_;rw[hx]);refine .inl ⟨rfl,g1.gsn.mn ?_⟩;rintro s rfl;have g2:=QU (P:=P) (o:=⟨some r,.binOp .eql t' (.tmp a) (.const (.slice none 0 0)) z,k,m,q,none⟩) (st:=st.put (some a) (.sl l n)) (u:=true) ⟨z,rfl⟩ hu (λd hd=>by cases hd;exact h2) (l:=l) (n:=n) (by show aD _ _=_;simp[St.put,aD]);refine .inl ⟨rfl,g2.mn ?_⟩;rintro s ⟨b,hb,rfl⟩;exact h b hb
  .cases e6
 .cases hc
end
section
attribute [local irreducible] Tr dz Gp
def ptG:Nat->Nat->Bp->Bp
 |0,_,l=>l
 |f+1,n,l=>bif Nat.ble n 1 then l else ptG f (n/10) (n%10::l)
instance(n:Nat):OfNat Bp n:=⟨ptG 60 n []⟩
def rI(n:Nat):List (Nat×Nat):=(List.range n).map λi=>(i,i)
abbrev s0(n:Nat)(gl:List (Nat×Bo))(fr:Fr)(σ:aQ)(c p:Nat):St:=⟨n,gl,fr,σ,c,p,false⟩
abbrev ob(i t:Nat)(l:Bo):Nat×Option Ob:=(i,some ⟨t,l,none⟩)
def RD{α:Type}(A:List HP)(e:Option α)(r:α)(X:Prop):Prop:=e=some r->X
def Yw{β:Type}(q:Nat×β):List (Nat×β)->List (Nat×β)
 |[]=>[q]
 |z::r=>bif Nat.beq z.1 q.1 then q::r else bif Nat.blt q.1 z.1 then q::z::r else z::Yw q r
def sx(d:Bp)(ad:Fr)(σ:aQ)(c:Nat)(s:St):St:=⟨s.n,s.gl,ad.foldr Yw (s.fr.filter λq=> !d.any (Nat.beq q.1)),σ,c,s.p,s.r⟩
def sk(d:Bp)(ad:Fr)(σ:aQ)(c:Nat)(s:St):St:=⟨s.n,s.gl,ad.foldr Yw (s.fr.filter λq=>d.any (Nat.beq q.1)),σ,c,s.p,s.r⟩
def so(d:Bp)(ad:Fr)(l:aQ)(c:Nat)(s:St):St:=sx d ad (l.foldr Yw s.σ) c s
def sp(d:Bp)(ad:Fr)(l:aQ)(c:Nat)(s:St):St:=sk d ad (l.foldr Yw s.σ) c s
def sf(d:Bp)(ad:Fr)(s:St):St:=sx d ad s.σ s.c s
def sg(d:Bp)(ad:Fr)(s:St):St:=sk d ad s.σ s.c s
abbrev c0{α:Type}(x:α):α:=x
abbrev c1{α β:Type}(x:β):α⊕β:= .inr x
abbrev c2{α β γ:Type}(x:β):α⊕(β⊕γ):= .inr (.inl x)
abbrev c3{α β γ:Type}(x:γ):α⊕(β⊕γ):= .inr (.inr x)
abbrev c4{α β:Type}(x:α):α⊕β:= .inl x
section
variable {P:Br} {α β σ X V:Type} {A:List HP} {e:Option α} {r:α} {Y:Prop}
theorem ak{e:Option β}{F:β->Option α}(k:∀y,e=some y->RD A (F y) r Y):RD A (e.bind F) r Y:=λh=>by obtain⟨y,e1,h⟩:=bS h;exact k y e1 h
theorem aw(L:List HP)(k:RD (L++A) e r Y):RD A e r Y:=k
theorem aF(d:Nat){c:Bool}{a b:Option α}(k1:∀{t:c=true},RD (hr d t::A) a r Y)(k2:∀{t:c=false},RD (hr d t::A) b r Y):RD A (bif c then a else b) r Y:=λh=>by
 rcases bC h with⟨t,h⟩|⟨t,h⟩
 .exact k1 (t:=t) h
 .exact k2 (t:=t) h
theorem kV{c:Bool}{a b:Option α}(k1:c=true->RD A a r Y)(k2:c=false->RD A b r Y):RD A (bif c then a else b) r Y:=by grind
variable [M:Mix P] {fn:Func} {Q:Exit->St->Prop} {Bs Bs':List (St->Prop)} {m:Bool} {p:Bp} {st:St}
theorem eH(l:Bp){c:Bool}{a b:Option α}(k1:∀{t:c=true},RD A a r (Gp P fn Q Bs m p (sf [] (l.map λd=>(d,bG true)) st)))(k2:∀{t:c=false},RD A b r (Gp P fn Q Bs m p (sf [] (l.map λd=>(d,bG false)) st)))(h:sf [] (l.map λd=>(d,bG c)) st=st:=by kernel_rfl):RD A (bif c then a else b) r (Gp P fn Q Bs m p st):=by grind
def DC(P:Br)(gl:CC)(e:Option α)(f:FuncId)(gs:Bo)(g:α->G):Prop:=∀⦃r⦄,e=some r->ba P gl f gs (g r)
def Mu(P:Br)(gl:CC)(e:Option (List β))(f:FuncId)(gs:Bo)(t:Bn)(c:β->Bo):Prop:=∀⦃r⦄,e=some r->iV P gl f gs t r.length (r.flatMap c)
theorem cy{fn:Func}{gl:CC}{gs:Bo}{g:α->G}(hf:P.funcs[f]?=some fn)(h:∀{Q r},(∀a,r=a->Q=tH P fn (g a))->RD [] e r (Gp P fn Q [] false [] ⟨fn.ntmps,gl,bQ 0 gs,[],0,0,false⟩))(hb:fn.body.isSome=true:=by kernel_rfl)(hn:Nat.ble gs.length fn.ntmps=true:=by kernel_rfl):DC P gl e f gs g:=λr h0=>Gh hf (h (by grind) h0) hb hn
theorem gc{fn:Func}{gl:CC}{t:Bn}{c:β->Bo}{e:Option (List β)}(hf:P.funcs[f]?=some fn)(h:∀{Q r},(∀a,r=a->Q=zE P fn (.rsl 0 0 a.length) [(0,some ⟨t,a.flatMap c,none⟩)])->RD [] e r (Gp P fn Q [] false [] ⟨fn.ntmps,gl,bQ 0 gs,[],0,0,false⟩))(hb:fn.body.isSome=true:=by kernel_rfl)(hn:Nat.ble gs.length fn.ntmps=true:=by kernel_rfl):Mu P gl e f gs t c:=λr h0=>OW hf (h (by grind) h0) hb hn
theorem Yx{fn:Func}{gl:CC}{σ0:aQ}(g:α->G)(s1:α->aQ)(hf:P.funcs[f]?=some fn)(h0:e=some r)(hp:∀i,i<c->∃ob,ag σ0 i=some ob)(h:∀{Q},(∀a,r=a->Q=zE P fn (g a) (s1 a))->RD [] e r (Gp P fn Q [] false [] ⟨fn.ntmps,gl,bQ 0 gs,σ0,c,c,false⟩))(hb:fn.body.isSome=true:=by kernel_rfl)(hn:Nat.ble gs.length fn.ntmps=true:=by kernel_rfl):OU P gl f gs σ0 c c (g r) (s1 r):=ZU hf (h (by grind) h0) hp hb hn
theorem cC{e:Option β}{F:β->Option α}(q:Bp)(J:β->St->St)(c:∀y,RD [] (F y) r (Gp P fn Q Bs true q (J y st)))(h:∀y,(∀z,y=z->Gp P fn Q Bs true q (J z st))->RD A e y (Gp P fn Q Bs m p st)):RD A (e.bind F) r (Gp P fn Q Bs m p st):=λh0=>by obtain⟨y,e1,h1⟩:=bS h0;exact h y (λz hz=>by subst hz;exact c y h1) e1
theorem rdM{e:Option (X⊕α)}{F:X->Option α}(q:Bp)(J:X->St->St)(c:∀y,RD [] (F y) r (Gp P fn Q Bs true q (J y st)))(h:∀j,(∀y,j= .inl y->Gp P fn Q Bs true q (J y st))->(∀w,j= .inr w->w=r)->RD A e j (Gp P fn Q Bs m p st)):RD A (e.bind λj=>ma j F some) r (Gp P fn Q Bs m p st):=λh0=>by
 obtain⟨j,e1,h1⟩:=bS h0;refine h j (λy hy=>?_) (λw hw=>?_) e1
 .subst hy;exact c y h1
 .subst hw;exact Bh h1
def aay(P:Br)(fn:Func)(Bs:List (St->Prop))(m:Bool)(p q:Bp)(A O:List HP)(vs:List Bn)(ρ:Dx)(kd:List (Nat×Rk))(J st:St):Prop:=T0 A (Xs P (bK A) (wT (bq q (ai fn))) (LO m p (ai fn)) (bE p (ai fn) Bs []) vs ρ kd J st) (pR O,J,bq q (ai fn),bE q (ai fn) Bs [])
theorem cN(q:Bp)(J:St->St)(O:List HP)(k:RD [] e r (Gp P fn Q Bs false q (J st)))(vs:List Bn:=[])(ρ:Dx:=[])(kd:List (Nat×Rk):=[])(h:aay P fn Bs m p q A O vs ρ kd (J st) st:=by exact⟨aH,aH⟩):RD A e r (Gp P fn Q Bs m p st):=λh0=>pO q (J st) A O (k h0) vs ρ kd h
def Yy(P:Br)(fn:Func)(Bs:List (St->Prop))(m:Bool)(p b:Bp)(A O:List HP)(vs:List Bn)(ρ:Dx)(kd:List (Nat×Rk))(J st:St):Prop:=(T0 A (Xr P (bK A) (LO m p (ai fn)) (bE p (ai fn) Bs []) vs ρ kd J st) (pR O,J,bq b (ai fn),Oj fn Bs b))/\∀B,bE b (ai fn) (Bs++[B]) []= .lp B::Oj fn Bs b
theorem rdL{step:σ->Option (σ⊕β)}{s0:σ}{F:β->Option α}(q b:Bp)(J:β->St->St)(S:σ->St->St)(O:List HP)(c:∀y,RD [] (F y) r (Gp P fn Q Bs true q (J y st)))(h:∀{B:St->Prop} {v:σ⊕β} (s:σ),(∀s',v= .inl s'->B (S s' st))->(∀y,v= .inr y->Gp P fn Q Bs true q (J y st))->RD [] (step s) v (Gp P fn Q (Bs++[B]) false b (S s st)))(vs:List Bn:=[])(ρ:Dx:=[])(kd:List (Nat×Rk):=[])(k:Yy P fn Bs m p b A O vs ρ kd (S s0 st) st:=by exact⟨⟨aH,aH⟩,λ_=>aH⟩):RD A ((AQ step s0).bind F) r (Gp P fn Q Bs m p st):=λh0=>by obtain⟨x,e1,h1⟩:=bS h0;exact pN (λs=>S s st) b e1 A O (λB s v hv h5 h4=>h s h5 (λy hy=>h4 y hy▸c x h1) hv) vs ρ kd k.1 k.2
theorem qf{step:σ->Option (σ⊕(X⊕V))}{s0:σ}{F:X->Option α}{rs:V->α}{Z:V->Prop}(q b:Bp)(J:X->St->St)(S:σ->St->St)(O:List HP)(K:∀q,r=rs q->Z q)(c:∀y,RD [] (F y) r (Gp P fn Q Bs true q (J y st)))(h:∀{B:St->Prop} {v:σ⊕(X⊕V)} (s:σ),(∀s',v= .inl s'->B (S s' st))->(∀y,v= .inr (.inl y)->Gp P fn Q Bs true q (J y st))->(∀q,v= .inr (.inr q)->Z q)->RD [] (step s) v (Gp P fn Q (Bs++[B]) false b (S s st)))(vs:List Bn:=[])(ρ:Dx:=[])(kd:List (Nat×Rk):=[])(k:Yy P fn Bs m p b A O vs ρ kd (S s0 st) st:=by exact⟨⟨aH,aH⟩,λ_=>aH⟩):RD A ((AQ step s0).bind λx=>ma x F λq=>some (rs q)) r (Gp P fn Q Bs m p st):=λh0=>by
 obtain⟨x,e1,h1⟩:=bS h0;refine pN (λs=>S s st) b e1 A O (λB s v hv h5 h4=>h s h5 (λy hy=>?_) (λz hz=>?_) hv) vs ρ kd k.1 k.2
 .have:=h4 _ hy;subst this;exact c y h1
 .have:=h4 _ hz;subst this;exact K z (Bh h1).symm
def aaz(P:Br)(fn:Func)(Bs Bs':List (St->Prop))(m:Bool)(p q:Bp)(A O:List HP)(vs:List Bn)(ρ:Dx)(kd:List (Nat×Rk))(J st:St):Prop:=(T0 A (Xm P (bK A) (LO m p (ai fn)) (Wm fn Bs Bs' p q) vs ρ kd J st) (pR O,J))/\Wm fn Bs Bs' p q++bE q (ai fn) Bs' []=bE p (ai fn) Bs []
theorem aA{J:β->St}{t:β}(c:β->α)(d:∀y,r=c y->Gp P fn Q Bs' true q (J y))(O:List HP)(vs:List Bn:=[])(ρ:Dx:=[])(kd:List (Nat×Rk):=[])(h:aaz P fn Bs Bs' m p q A O vs ρ kd (J t) st:=by exact⟨⟨aH,aH⟩,aH⟩):RD A (some (c t)) r (Gp P fn Q Bs m p st):=λh0=>yl q A O (by grind) vs ρ kd h.1 h.2
def aaA(P:Br)(fn:Func)(Bs:List (St->Prop))(m:Bool)(p:Bp)(A O:List HP)(vs:List Bn)(ρ:Dx)(kd:List (Nat×Rk))(B:St->Prop)(J st:St):Prop:=T0 A (Xn P (bK A) (LO m p (ai fn)) (bE p (ai fn) Bs []) vs ρ kd J st) (pR O,J,B)
theorem cj{B:St->Prop}{J:β->St}{t:β}{r:β⊕α}(k5:∀s',r= .inl s'->B (J s'))(O:List HP)(vs:List Bn:=[])(ρ:Dx:=[])(kd:List (Nat×Rk):=[])(h:aaA P fn Bs m p A O vs ρ kd B (J t) st:=by exact⟨aH,aH⟩):RD A (some (.inl t)) r (Gp P fn Q Bs m p st):=λh0=>jw A O (by grind) vs ρ kd h
def aaB(P:Br)(fn:Func)(Bs:List (St->Prop))(m:Bool)(p:Bp)(A O:List HP)(g:G)(st:St):Prop:=T0 A (Xo P (bK A) (LO m p (ai fn)) (bE p (ai fn) Bs []) fn g st) (pR O,g)
theorem aP{g:β->G}{a:β}(c:β->α)(K:∀a,r=c a->Q=tH P fn (g a))(O:List HP)(h:aaB P fn Bs m p A O (g a) st:=by exact⟨aH,aH⟩):RD A (some (c a)) r (Gp P fn Q Bs m p st):=λh0=>by rw[K a (by grind)];exact Ar A O h
def aaC(P:Br)(fn:Func)(Bs:List (St->Prop))(m:Bool)(p:Bp)(A:List HP)(t:Bn)(l:Bo)(c:Nat)(st:St):Prop:=T0 A (Xp P (bK A) (LO m p (ai fn)) (bE p (ai fn) Bs []) fn t st) (∀g∈l,bB g,c,l)
theorem mr{t:Bn}{f:β->Bo}{a:List β}(c:List β->α)(K:∀a,r=c a->Q=zE P fn (.rsl 0 0 a.length) [(0,some ⟨t,a.flatMap f,none⟩)])(hi:∀g∈a.flatMap f,bB g)(d:Nat:=a.length)(hn:d=a.length:=by rfl)(h:aaC P fn Bs m p A t (a.flatMap f) d st:=by exact⟨aH,aH⟩):RD A (some (c a)) r (Gp P fn Q Bs m p st):=λh0=>by rw[K a (by grind)];exact EI A hi d hn h
def aaD(P:Br)(fn:Func)(Bs:List (St->Prop))(m:Bool)(p:Bp)(A O:List HP)(ρ:Dx)(kd:List (Nat×Rk))(g:G)(σ1:aQ)(st:St):Prop:=T0 A (Xq P (bK A) (LO m p (ai fn)) (bE p (ai fn) Bs []) fn ρ kd g σ1 st) (pR O,g,σ1)
theorem rdU{g:β->G}{σ1:β->aQ}{a:β}(c:β->α)(K:∀a,r=c a->Q=zE P fn (g a) (σ1 a))(O:List HP)(ρ:Dx)(kd:List (Nat×Rk))(h:aaD P fn Bs m p A O ρ kd (g a) (σ1 a) st:=by exact⟨aH,aH⟩):RD A (some (c a)) r (Gp P fn Q Bs m p st):=λh0=>by rw[K a (by grind)];exact ZT A O ρ kd h
end
section
variable {P:Br} {ts te:Bn} {k:Nat} {α:Type} {f:α->Bo}
theorem Ba.fdY(R:Ba P ts te k f){t:Bn}(ha:fg P t=some false)(j:Nat){g:α->G}(hg:∀x,(f x)[j]?=some (g x):=by intro _;rfl){l:List α}{i:Int}{x:α}(h:aS l i=some x):dN P t (l.flatMap f) (i.toNat*k+j)=some (g x):=R.fdZ ha j h (hg x)
theorem Ba.fd0Y(R:Ba P ts te k f){t:Bn}(ha:fg P t=some false)(j:Nat){g:α->G}(hg:∀x,(f x)[j]?=some (g x):=by intro _;rfl){l:List α}{i:Int}{x:α}(h:aS l i=some x):dN P t (l.flatMap f) (0+i.toNat*k+j)=some (g x):=R.fd0Z ha j h (hg x)
theorem Ba.p1Y(R:Ba P ts te 1 f)(ha:fg P te=some false){g:α->G}(hg:∀x,f x=[g x]:=by intro _;rfl){l:List α}{i:Int}{x:α}(h:aS l i=some x):dN P te (l.flatMap f) (i.toNat*1)=some (g x):=R.p1Z ha h (hg x)
theorem Ba.p10Y(R:Ba P ts te 1 f)(ha:fg P te=some false){g:α->G}(hg:∀x,f x=[g x]:=by intro _;rfl){l:List α}{i:Int}{x:α}(h:aS l i=some x):dN P te (l.flatMap f) (0+i.toNat*1)=some (g x):=R.p10Z ha h (hg x)
theorem Ba.fo(R:Ba P ts te k f){gl:CC}{fid:FuncId}{gs:Bo}{l:List α}(h:iV P gl fid gs te l.length (l.flatMap f)):ba P gl fid gs (aE f l):=h.fn R.sz (R.len _) (R.imm _)
abbrev DH(R:Ba P ts te k f)(l:List α):List HP:=[hc (el l),hc (R.imm l)]
end
section
variable {P:Br} {α β:Type} {A:List HP} {e:Option β} {F:β->Option α} {r:α} {Y:Prop}
theorem Gq(H:∀{y},e=some y->HP)(k:∀y {h:e=some y},RD (H h::A) (F y) r Y):RD A (e.bind F) r Y:=ak λy h=>k y (h:=h)
theorem BU(d:Nat){gl:CC}{g:β->G}(H:DC P gl e f gs g)(k:∀y {h:e=some y},RD (hf d (H h)::A) (F y) r Y):RD A (e.bind F) r Y:=ak λy h=>k y (h:=h)
theorem JL(d:Nat){te:Bn}{k:Nat}{δ:Type}{c:δ->Bo}{e:Option (List δ)}{F:List δ->Option α}{gl:CC}{gs:Bo}(R:Ba P ts te k c)(H:Mu P gl e f gs te c)(kk:∀y {h:e=some y},RD (hf d (R.fo (H h))::A) (F y) r Y):RD A (e.bind F) r Y:=ak λy h=>kk y (h:=h)
theorem rdv(d:Nat){X:β->Option G}{g:β->G}(H:∀{y},e=some y->X y=some (g y))(k:∀y {h:e=some y},RD (AA d (H h)::A) (F y) r Y):RD A (e.bind F) r Y:=ak λy h=>k y (h:=h)
theorem CD(d:Nat){X:β->Option G}{g:β->G}(H:∀{y},e=some y->X y=some (g y))(c:Nat){X':β->Option G}{g':β->G}(H':∀{y},e=some y->X' y=some (g' y))(k:∀y {h:e=some y},RD (AA d (H h)::AA c (H' h)::A) (F y) r Y):RD A (e.bind F) r Y:=ak λy h=>k y (h:=h)
variable [M:Mix P] {fn:Func} {Q:Exit->St->Prop} {Bs Bs':List (St->Prop)} {m:Bool} {p:Bp} {st:St}
theorem rv{g:α->G}{a:α}(K:∀a,r=a->Q=tH P fn (g a))(h:aaB P fn Bs m p A [] (g a) st:=by exact⟨aH,aH⟩):RD A (some a) r (Gp P fn Q Bs m p st):=aP c0 K [] h
theorem rx{J:α->St}{t:α}(c:∀y,r=y->Gp P fn Q Bs' true q (J y))(h:aaz P fn Bs Bs' m p q A [] [] [] [] (J t) st:=by exact⟨⟨aH,aH⟩,aH⟩):RD A (some t) r (Gp P fn Q Bs m p st):=aA c0 c [] [] [] [] h
theorem rb{B:St->Prop}{J:β->St}{t:β}{r:β⊕α}(k5:∀s',r= .inl s'->B (J s'))(h:aaA P fn Bs m p A [] [] [] [] B (J t) st:=by exact⟨aH,aH⟩):RD A (some (.inl t)) r (Gp P fn Q Bs m p st):=cj k5 [] [] [] [] h
section
variable {a b:Option α} {e:Fw}
theorem OI(q:Bp)(S:St->St)(O:List HP)(d:Nat)(k1:RD [] a r (Gp P fn Q Bs true q (sf [] [(d,bG true)] (S st))))(k2:RD [] b r (Gp P fn Q Bs true q (sf [] [(d,bG false)] (S st))))(h:∀{y},(∀z,y=z->Gp P fn Q Bs true q (sf [] [(d,bG z)] (S st)))->RD [] e y (Gp P fn Q Bs false q (S st)))(vs:List Bn:=[])(ρ:Dx:=[])(kd:List (Nat×Rk):=[])(c:aay P fn Bs m p q A O vs ρ kd (S st) st:=by exact⟨aH,aH⟩):RD A (e.bind λj=>bif j then a else b) r (Gp P fn Q Bs m p st):=cN q S O (cC q (λj=>sf [] [(d,bG j)]) (fun|true=>k1|false=>k2) λ_ k=>h k) vs ρ kd c
theorem Acf(q:Bp)(S:St->St)(O:List HP)(d:Nat)(k1:RD [] a r (Gp P fn Q Bs true q (sk [] [(d,bG true)] [] 0 (S st))))(k2:RD [] b r (Gp P fn Q Bs true q (sk [] [(d,bG false)] [] 0 (S st))))(h:∀{y},(∀z,y=z->Gp P fn Q Bs true q (sk [] [(d,bG z)] [] 0 (S st)))->RD [] e y (Gp P fn Q Bs false q (S st)))(vs:List Bn:=[])(ρ:Dx:=[])(kd:List (Nat×Rk):=[])(c:aay P fn Bs m p q A O vs ρ kd (S st) st:=by exact⟨aH,aH⟩):RD A (e.bind λj=>bif j then a else b) r (Gp P fn Q Bs m p st):=cN q S O (cC q (λj=>sk [] [(d,bG j)] [] 0) (fun|true=>k1|false=>k2) λ_ k=>h k) vs ρ kd c
end
variable {σ X V:Type}
theorem Je{step:σ->Option (σ⊕β)}{s0:σ}{F:β->Option α}(q:Bp)(J:β->St->St)(S:σ->St->St)(O:List HP)(c:∀y,RD [] (F y) r (Gp P fn Q Bs true q (J y st)))(h:∀{B:St->Prop} {v:σ⊕β} (s:σ),(∀s',v= .inl s'->B (S s' st))->(∀y,v= .inr y->Gp P fn Q Bs true q (J y st))->RD [] (step s) v (Gp P fn Q (Bs++[B]) false (q++[2,2]) (S s st)))(vs:List Bn:=[])(ρ:Dx:=[])(kd:List (Nat×Rk):=[])(k:Yy P fn Bs m p (q++[2,2]) A O vs ρ kd (S s0 st) st:=by exact⟨⟨aH,aH⟩,λ_=>aH⟩):RD A ((AQ step s0).bind F) r (Gp P fn Q Bs m p st):=rdL q (q++[2,2]) J S O c h vs ρ kd k
theorem Pa{step:σ->Option (σ⊕(X⊕V))}{s0:σ}{F:X->Option α}{rs:V->α}{Z:V->Prop}(q:Bp)(J:X->St->St)(S:σ->St->St)(O:List HP)(K:∀q,r=rs q->Z q)(c:∀y,RD [] (F y) r (Gp P fn Q Bs true q (J y st)))(h:∀{B:St->Prop} {v:σ⊕(X⊕V)} (s:σ),(∀s',v= .inl s'->B (S s' st))->(∀y,v= .inr (.inl y)->Gp P fn Q Bs true q (J y st))->(∀q,v= .inr (.inr q)->Z q)->RD [] (step s) v (Gp P fn Q (Bs++[B]) false (q++[2,2]) (S s st)))(vs:List Bn:=[])(ρ:Dx:=[])(kd:List (Nat×Rk):=[])(k:Yy P fn Bs m p (q++[2,2]) A O vs ρ kd (S s0 st) st:=by exact⟨⟨aH,aH⟩,λ_=>aH⟩):RD A ((AQ step s0).bind λx=>ma x F λq=>some (rs q)) r (Gp P fn Q Bs m p st):=qf q (q++[2,2]) J S O K c h vs ρ kd k
end
end
instance:Mix prog:=⟨aH⟩
def cZ(x:Int):Bo:=[iG x]
theorem tZ:fg prog 3=some false:=aH
def cW(x:Nat):Bo:=[uG x]
theorem tW:fg prog 40=some false:=aH
structure Ab where
 By:Int
 Seq:Int
 Sum:Nat
 deriving DecidableEq
def aj(x:Ab):Bo:=[iG x.By,iG x.Seq,uG x.Sum]
theorem aW:fg prog 42=some true:=aH
theorem jz:bw prog 42=some 3:=aH
structure Aop where
 Kind:Int
 Of:Ab
 N:Int
 M:Int
 deriving DecidableEq
def cO(x:Bool):Bo:=[bG x]
theorem tO:fg prog 4=some false:=aH
structure Am7 where
 Lead:Bool
 Of:Ab
 N:Int
 Private:Nat
 deriving DecidableEq
structure Apn where
 Device:Int
 L:List Am7
def cY(x:UInt8):Bo:=[gY x]
theorem tY:fg prog 5=some false:=aH
theorem rY:Ba prog 43 5 1 cY:=⟨aH,aH,Cd,λ_=>rfl,λ_=>rfl⟩
theorem lY(l:CO):∀g∈l.flatMap cY,∃v,g= .lit v:=Gj (λx g hg=>by simp only[cY,EY,Lv,or_false] at hg;rcases hg with rfl<;>exact⟨_,rfl⟩) l
theorem rZ:Ba prog 22 3 1 cZ:=⟨aH,aH,Cd,λ_=>rfl,λ_=>rfl⟩
theorem lZ(l:Bj):∀g∈l.flatMap cZ,∃v,g= .lit v:=Gj (λx g hg=>by simp only[cZ,EY,Lv,or_false] at hg;rcases hg with rfl<;>exact⟨_,rfl⟩) l
structure DF where
 Device:Int
 Member:Int
 Lead:Nat
 Keep:Nat
 Sign:Nat
 deriving DecidableEq
def bv(x:DF):Bo:=[iG x.Device,iG x.Member,uG x.Lead,uG x.Keep,uG x.Sign]
theorem E2:fg prog 103=some true:=aH
theorem Pb:fg prog 26=some false:=aH
structure Ho where
 To:Nat
 Eph:Nat
 Body:Nat
 Tag:Nat
 deriving DecidableEq
def cz(x:Ho):Bo:=[uG x.To,uG x.Eph,uG x.Body,uG x.Tag]
theorem UL:fg prog 168=some true:=aH
theorem E3:fg prog 45=some false:=aH
structure DR where
 Pub:Nat
 Boxes:List Ho
def bY(x:DR):Bo:=[uG x.Pub,aE cz x.Boxes]
theorem Pc:fg prog 87=some true:=aH
theorem tLY:fg prog 43=some false:=aH
def Jc(x:Bj):Bo:=[aE cZ x]
theorem Vs:fg prog 22=some false:=aH
structure DS where
 Of:Ab
 Body:CO
def bp(x:DS):Bo:=[iG x.Of.By,iG x.Of.Seq,uG x.Of.Sum,aE cY x.Body]
theorem GM:fg prog 159=some true:=aH
structure N8 where
 R:Nat
 S:Nat
 deriving DecidableEq
def yy(x:N8):Bo:=[uG x.R,uG x.S]
structure Bi where
 By:Int
 Seq:Int
 Kind:Int
 At:Int
 Past:List Ab
 Device:Int
 Old:Int
 Member:Int
 Role:Int
 Path:List DR
 Epoch:Ab
 N:Int
 Body:CO
 Refs:Bp
 Of:Ab
 Guards:Bj
 Need:Int
 Wait:Int
 Boxes:List Ho
 Pub:Nat
 Hist:List DS
 Sig:N8
def aJ(x:Bi):Bo:=[iG x.By,iG x.Seq,iG x.Kind,iG x.At,aE aj x.Past,iG x.Device,iG x.Old,iG x.Member,iG x.Role,aE bY x.Path,iG x.Epoch.By,iG x.Epoch.Seq,uG x.Epoch.Sum,iG x.N,aE cY x.Body,aE cW x.Refs,iG x.Of.By,iG x.Of.Seq,uG x.Of.Sum,aE cZ x.Guards,iG x.Need,iG x.Wait,aE cz x.Boxes,uG x.Pub,aE bp x.Hist,uG x.Sig.R,uG x.Sig.S]
theorem GN:fg prog 50=some true:=aH
def OT(x:List Bool):Bo:=[aE cO x]
theorem Vt:fg prog 144=some false:=aH
structure AB where
 Cards:List DF
 L:List Bi
 IDs:List Ab
 Up:Ni
 In:List (List Bool)
def aI(x:AB):Bo:=[aE bv x.Cards,aE aJ x.L,aE aj x.IDs,aE Jc x.Up,aE OT x.In]
theorem bT:Ba prog 24 103 5 bv:=⟨aH,aH,Cd,λ_=>rfl,λ_=>rfl⟩
theorem eJ:Ba prog 25 50 27 aJ:=⟨aH,aH,Cd,λ_=>rfl,λ_=>rfl⟩
theorem ac:Ba prog 26 42 3 aj:=⟨aH,aH,Cd,λ_=>rfl,λ_=>rfl⟩
theorem kF(l:List Ab):∀g∈l.flatMap aj,∃v,g= .lit v:=Gj (λx g hg=>by simp only[aj,EY,Lv,or_false] at hg;rcases hg with rfl|rfl|rfl<;>exact⟨_,rfl⟩) l
theorem bZ:Ba prog 39 87 2 bY:=⟨aH,aH,Cd,λ_=>rfl,λ_=>rfl⟩
theorem EZ:Ba prog 45 168 4 cz:=⟨aH,aH,Cd,λ_=>rfl,λ_=>rfl⟩
theorem rW:Ba prog 44 40 1 cW:=⟨aH,aH,Cd,λ_=>rfl,λ_=>rfl⟩
theorem lW(l:Bp):∀g∈l.flatMap cW,∃v,g= .lit v:=Gj (λx g hg=>by simp only[cW,EY,Lv,or_false] at hg;rcases hg with rfl<;>exact⟨_,rfl⟩) l
theorem bH:Ba prog 46 159 4 bp:=⟨aH,aH,Cd,λ_=>rfl,λ_=>rfl⟩
theorem nH:Ba prog 27 22 1 Jc:=⟨aH,aH,Cd,λ_=>rfl,λ_=>rfl⟩
theorem zV:Ba prog 28 144 1 OT:=⟨aH,aH,Cd,λ_=>rfl,λ_=>rfl⟩
theorem rO:Ba prog 144 4 1 cO:=⟨aH,aH,Cd,λ_=>rfl,λ_=>rfl⟩
theorem lO(l:List Bool):∀g∈l.flatMap cO,∃v,g= .lit v:=Gj (λx g hg=>by simp only[cO,EY,Lv,or_false] at hg;rcases hg with rfl<;>exact⟨_,rfl⟩) l
structure Am9 where
 At:Int
 N:Int
 Private:Nat
 deriving DecidableEq
structure Hd where
 N:Int
 Role:Int
 Is:Bool
 ID:Ab
 Guards:Bj
 Need:Int
 Wait:Int
 Objected:Bool
 Last:Int
def jG(x:Hd):Bo:=[iG x.N,iG x.Role,bG x.Is,iG x.ID.By,iG x.ID.Seq,uG x.ID.Sum,aE cZ x.Guards,iG x.Need,iG x.Wait,bG x.Objected,iG x.Last]
theorem LG:fg prog 306=some true:=aH
structure Jb where
 Of:Ab
 By:Int
 Device:Int
 At:Int
 deriving DecidableEq
def nJ(x:Jb):Bo:=[iG x.Of.By,iG x.Of.Seq,uG x.Of.Sum,iG x.By,iG x.Device,iG x.At]
theorem Pd:fg prog 351=some true:=aH
structure C7 where
 Cards:List DF
 In:Bj
 Gone:Bj
 L:List Hd
 Back:Int
 V:List Jb
def aU(x:C7):Bo:=[aE bv x.Cards,aE cZ x.In,aE cZ x.Gone,aE jG x.L,iG x.Back,aE nJ x.V]
theorem bI:Ba prog 196 306 11 jG:=⟨aH,aH,Cd,λ_=>rfl,λ_=>rfl⟩
theorem bV:Ba prog 197 351 6 nJ:=⟨aH,aH,Cd,λ_=>rfl,λ_=>rfl⟩
structure Ke where
 Row:Bj
 Void:List Bool
 Fork:List Bool
 Decided:List Bool
def fU(x:Ke):Bo:=[aE cZ x.Row,aE cO x.Void,aE cO x.Fork,aE cO x.Decided]
theorem E4(l:CO):l.flatMap cY=l.map gY:=by
 induction l with
 |nil=>rfl
 |cons x r ih=>rw[List.flatMap_cons,ih];rfl
theorem aaf(s:CO):nu prog 9=true/\G.lit (.int .i64 ((⟨s.toArray⟩:ByteArray).size:Int))=iG (ah s):=⟨aH,rfl⟩
def hL(d:Nat)(s:CO):HP:=⟨some (.v d (iG (ah s))),nu prog 9=true/\G.lit (.int .i64 ((⟨s.toArray⟩:ByteArray).size:Int))=iG (ah s),aaf s⟩
theorem Vu{s t:CO}(h:Gk s=some t):iQ prog [] 9 43 (sG s)=some (aE cY t):=by
 unfold Gk at h;split at h
 .rename_i hl;cases h;have e1:dp prog 43=some 5:=aH;have e2:xR prog 5=some .u8:=aH;have e3:nu prog 9=true:=aH;unfold iQ;simp only[e1,e2,e3,Bool.true_and];rw[Ng (by simpa using hl)];simp only[ax,Kb,aE,E4]
 .cases h
def hcB(d:Nat){s t:CO}(h:Gk s=some t):HP:=⟨some (.c d (aE cY t)),iQ prog [] 9 43 (sG s)=some (aE cY t),Vu h⟩
theorem xl:∀l:CO,A5 (l.map gY)=some l
 |[]=>rfl
 |x::r=>by have h:=x.toNat_lt;simp only[Fo,gY,A5];rw[Bx aa,xl r];simp
theorem aag(l:CO):iQ prog [] 43 9 (aE cY l)=some (sG l):=by have e1:dp prog 43=some 5:=aH;have e2:xR prog 5=some .u8:=aH;have e3:nu prog 9=true:=aH;unfold iQ;simp only[aE,e1,e2,fO,E4,Hm,Nat.mul_one,if_true,xl,e3,Bool.true_and,Nat.beq_refl,ax]
def XY(d:Nat)(l:CO):HP:=⟨some (.c d (sG l)),iQ prog [] 43 9 (aE cY l)=some (sG l),aag l⟩
def XZ(d:Nat){l s y:CO}(h:aT 1 l s=some y):HP:=ha d (y.flatMap cY) y.length (p:=(l.flatMap cY).length=l.length*1/\l.length+s.length<=140737488355328/\l.flatMap cY++s.map gY=y.flatMap cY/\l.length+s.length=y.length) (by obtain⟨h1,rfl⟩:=jx h;exact⟨rY.len l,aa,by rw[List.flatMap_append,E4 s],List.length_append.symm⟩)
def Pe(x:Ab):List Value:=[.int .i64 x.By,.int .i64 x.Seq,.int .u64 (x.Sum:Int)]
theorem Pf(d:Nat)(i j:Ab):bt prog (Op.equalIn (d+3) 42 (.agg (Pe i).toArray) (.agg (Pe j).toArray))=some (decide (i=j)):=by
 obtain⟨a,b,c⟩:=i;obtain⟨x,y,z⟩:=j;rw[xV (fs:= #[⟨ "By",3,0,false, "", "",0⟩,⟨ "Seq",3,1,false, "", "",8⟩,⟨ "Sum",40,2,false, "", "",16⟩]) aH aH];simp only[Array.toList];rw[uJ (k:= .i64) (k':= .i64) (a:=a) (b:=x) Cd aH aH aH];rw[uJ (k:= .i64) (k':= .i64) (a:=b) (b:=y) Cd aH aH aH];rw[uJ (k:= .u64) (k':= .u64) (a:=(c:Int)) (b:=(z:Int)) Cd aH aH aH];simp only[Ab.mk.injEq];by_cases h1:a=x
 .by_cases h2:b=y
  .by_cases h3:c=z
   .simp[h1,h2,h3,Op.eqFields,bz]
   .have:¬((c:Int)=(z:Int)):=aa;simp[h1,h2,h3,this]
  .simp[h1,h2]
 .simp[h1]
theorem dU(i j:Ab){r:Bool}(h:decide (i=j)=r):∀p q:Dl,DE prog .eql 42 p q (.agg (aj i)) (.agg (aj j))=some (bG r):=λp q=>by subst h;exact Eo (us:=Pe i) (vs:=Pe j) aH aH aH (Pf 9997 i j)
theorem dy(i j:Ab){r:Bool}(h:(!decide (i=j))=r):∀p q:Dl,DE prog .neq 42 p q (.agg (aj i)) (.agg (aj j))=some (bG r):=λp q=>by subst h;exact Cb (us:=Pe i) (vs:=Pe j) aH aH aH (Pf 9997 i j)
abbrev ip:Bi:=⟨0,0,0,0,[],0,0,0,0,[],⟨0,0,0⟩,0,[],[],⟨0,0,0⟩,[],0,0,[],0,[],⟨0,0⟩⟩
abbrev xm:AB:=⟨[],[],[],[],[]⟩
abbrev eY:C7:=⟨[],[],[],[],0,[]⟩
abbrev AC:Ke:=⟨[],[],[],[]⟩
abbrev AH:=List Ab
abbrev LP:=List DF
structure FM (K V:Type) where
 es:List (K×V×Nat)
 clk:Nat
def FM.get{K V:Type}[DecidableEq K](m:FM K V)(k:K):Option V:=(m.es.find? λe=>decide (e.1=k)).map (·.2.1)
def npG{α:Type}(c:α->Bo):Option α->G
 |none=> .lit (.pointer none)
 |some x=> .ptr (c x) 0
def FM.g{K V:Type}(kv:K->Value)(vg:V->G)(m:FM K V):G:= .mp (m.es.map λe=>kv e.1) (m.es.map λe=>vg e.2.1) (m.es.map (·.2.2)) m.clk
def bu{K:Type}[DecidableEq K](k:K):List K->FF
 |[]=>none
 |x::r=>if k=x then some 0 else(bu k r).map (·+1)
structure M5 (P:Br) (kt:Bn) {K:Type} [DecidableEq K] (kv:K->Value):Prop where
 chk:∀b k,rB P b kt (kv k)=true
 key:∀(k:K) (ks:List K),B7 P kt (kv k) (ks.map kv)=some (bu k ks)
section
variable {P:Br} {K:Type} [DecidableEq K] {kt:Bn} {kv:K->Value}
theorem Abd{d:TypeDesc}(h:∀a b,Instr.sameNow d (kv a) (kv b)=some (decide (a=b)))(k:K):∀(ks:List K) (n:Nat),B6 d (kv k) (ks.map kv) n=some ((bu k ks).map (n+·))
 |[],n=>rfl
 |x::r,n=>by
  rw[Fo,B6,h,bu];by_cases e:k=x
  .rw[CM e,Bx e];rfl
  .rw[C3 e,BB e];simp only[];rw[Abd h k r (n+1)];cases bu k r<;>grind
theorem Ib(h:∀a b,bt P (Op.equal kt (kv a) (kv b))=some (decide (a=b)))(k:K):∀(ks:List K) (n:Nat),Kj P kt (kv k) (ks.map kv) n=some ((bu k ks).map (n+·))
 |[],n=>rfl
 |x::r,n=>by
  rw[Fo,Kj,h,bu];by_cases e:k=x
  .rw[CM e,Bx e];rfl
  .rw[C3 e,BB e];simp only[];rw[Ib h k r (n+1)];cases bu k r<;>grind
theorem Qv{x:FF}:x.map (0+·)=x:=by cases x<;>simp
theorem AjH{d:TypeDesc}(hd:P.underlying kt=some d)(hc:∀b k,rB P b kt (kv k)=true)(h:∀a b,Instr.sameNow d (kv a) (kv b)=some (decide (a=b))):M5 P kt kv:=by grind [M5,B7,Abd,Qv]
theorem Qw{d:TypeDesc}(hd:P.underlying kt=some d)(hc:∀b k,rB P b kt (kv k)=true)(hn:∀a b,Instr.sameNow d (kv a) (kv b)=none)(h:∀a b,bt P (Op.equal kt (kv a) (kv b))=some (decide (a=b))):M5 P kt kv:=⟨hc,λk c=>by
 unfold B7;rw[hd];dsimp only;cases c with
 |nil=>rfl
 |cons x r=>grind [B6,Ib,Qv]⟩
variable {V:Type} {vg:V->G}
theorem fz(k:K):∀(es:List (K×V×Nat)),(bu k (es.map (·.1))=none/\es.find? (λe=>decide (e.1=k))=none)\/∃j e,bu k (es.map (·.1))=some j/\es[j]?=some e/\es.find? (λe=>decide (e.1=k))=some e
 |[]=> .inl ⟨rfl,rfl⟩
 |x::r=>by
  rw[Fo,bu,List.find?_cons];by_cases h:k=x.1
  .grind
  .rw[BB h,C3 (Ne.symm h)];rcases fz k r with⟨h1,h2⟩|⟨j,e,h1,h2,h3⟩
   all_goals grind
theorem FM.look(KT:M5 P kt kv){t et:Bn}{v0:V}(ht:pB P t=some (kt,et))(hz:((P.info? et).bind (·.zero)).map db=some (vg v0))(m:FM K V)(k:K){gk:G}(hk:cD gk=some (kv k)):
  ∀σ,bL P σ t true (m.g kv vg) gk=some (.tup [vg ((m.get k).getD v0),bG (m.get k).isSome]):=λσ=>by
 unfold bL FM.g
 rw[ht,hk]
 dsimp only
 have hm:(m.es.map λe=>kv e.1)=(m.es.map (·.1)).map kv:=by rw[IX];rfl
 rw[KT.chk,ax,hm,KT.key]
 grind [get,fz,DG]
theorem FM.look1(KT:M5 P kt kv){t et:Bn}{v0:V}(ht:pB P t=some (kt,et))(hz:((P.info? et).bind (·.zero)).map db=some (vg v0))(m:FM K V)(k:K){gk:G}(hk:cD gk=some (kv k)):
  ∀σ,bL P σ t false (m.g kv vg) gk=some (vg ((m.get k).getD v0)):=λσ=>by
 unfold bL FM.g
 rw[ht,hk]
 dsimp only
 have hm:(m.es.map λe=>kv e.1)=(m.es.map (·.1)).map kv:=by rw[IX];rfl
 grind [M5,get,fz]
end
def JR(x:Int):Value:= .int .i64 x
theorem PE:M5 prog 3 JR:=AjH (d:= .int .i64) aH (λb k=>by cases b<;>(show _=_;kernel_rfl)) (by grind [Instr.sameNow,JR])
def ga(x:Ab):Value:= .agg (Pe x).toArray
theorem jt:M5 prog 42 ga:=by obtain⟨fs,hd⟩:∃fs,prog.underlying 42=some (.struct fs):=⟨#[⟨ "By",3,0,false, "", "",0⟩,⟨ "Seq",3,1,false, "", "",8⟩,⟨ "Sum",40,2,false, "", "",16⟩],aH⟩;exact Qw hd (λb k=>by cases b<;>(show _=_;kernel_rfl)) (λa b=>rfl) (λa b=>Pf 9997 a b)
def bD(a b:Nat):Nat:=a%18446744073709551616&&&b%18446744073709551616
def gM(a b:Nat):Nat:=a%18446744073709551616|||b%18446744073709551616
def Yn(a b:Int):Int:=IntKind.i64.wrap ((BitVec.ofInt IntKind.i64.bits a&&&BitVec.ofInt IntKind.i64.bits b).toNat:Nat)
def wH(a b:Int):Int:=IntKind.i64.wrap ((BitVec.ofInt IntKind.i64.bits a&&& ~~~BitVec.ofInt IntKind.i64.bits b).toNat:Nat)
def JB(a n:Nat):Nat:=a/2^min n 64
def I1(a n:Nat):Nat:=a*2^min n 64%18446744073709551616
def Tf(a:Int)(n:Nat):Int:=a.fdiv (2^min n 64)
def wJ(i:Int):FF:=if i<0 then none else some i.toNat
section
variable {P:Br} {t:Bn}
theorem Ml{b:Int}:DE P .and t x y (.lit (.int k a)) (.lit (.int k b))=some (.lit (.int k (k.wrap ((BitVec.ofInt k.bits a&&&BitVec.ofInt k.bits b).toNat:Nat)))):=by simp[DE,cD,eqGuard,binOp,Op.intBits,bz,db]
theorem V7{b:Int}:DE P .or t x y (.lit (.int k a)) (.lit (.int k b))=some (.lit (.int k (k.wrap ((BitVec.ofInt k.bits a|||BitVec.ofInt k.bits b).toNat:Nat)))):=by simp[DE,cD,eqGuard,binOp,Op.intBits,bz,db]
theorem Kr{b:Int}:DE P .andNot t x y (.lit (.int k a)) (.lit (.int k b))=some (.lit (.int k (k.wrap ((BitVec.ofInt k.bits a&&& ~~~BitVec.ofInt k.bits b).toNat:Nat)))):=by simp[DE,cD,eqGuard,binOp,Op.intBits,bz,db]
theorem Mm(n:Nat):DE P .shr t x y (.lit (.int k a)) (.lit (.int k' (n:Int)))=some (.lit (.int k (a.fdiv (2^min n k.bits)))):=by have h1:¬((n:Int)<0):=aa;simp[DE,cD,eqGuard,binOp,Op.shift,db,BB h1];exact⟨_,rfl,rfl⟩
theorem Tg(n:Nat):DE P .shl t x y (.lit (.int k a)) (.lit (.int k' (n:Int)))=some (.lit (.int k (k.wrap (a*2^min n k.bits)))):=by have h1:¬((n:Int)<0):=aa;simp[DE,cD,eqGuard,binOp,Op.shift,db,BB h1];exact⟨_,rfl,rfl⟩
theorem UV(n:Nat)(h:n<18446744073709551616):IntKind.u64.wrap (n:Int)=(n:Int):=by rw[IntKind.wrap_u64];omega
theorem ju(a b:Nat):∀p q:Dl,DE P .and t p q (uG a) (uG b)=some (uG (bD a b)):=λp q=>by
 show DE P .and t p q (.lit (.int .u64 (a:Int))) (.lit (.int .u64 (b:Int)))=_;rw[Ml];have e:(BitVec.ofInt IntKind.u64.bits (a:Int)&&&BitVec.ofInt IntKind.u64.bits (b:Int)).toNat=bD a b:=by show(BitVec.ofInt 64 (a:Int)&&&BitVec.ofInt 64 (b:Int)).toNat=_;rw[BitVec.ofInt_natCast,BitVec.ofInt_natCast,BitVec.toNat_and,BitVec.toNat_ofNat,BitVec.toNat_ofNat];rfl
 rw[e,UV _ ?_];exact Nat.and_lt_two_pow (n:=64) _ (Nat.mod_lt _ Cd)
theorem jc(a b:Nat):∀p q:Dl,DE P .or t p q (uG a) (uG b)=some (uG (gM a b)):=λp q=>by
 show DE P .or t p q (.lit (.int .u64 (a:Int))) (.lit (.int .u64 (b:Int)))=_;rw[V7];have e:(BitVec.ofInt IntKind.u64.bits (a:Int)|||BitVec.ofInt IntKind.u64.bits (b:Int)).toNat=gM a b:=by show(BitVec.ofInt 64 (a:Int)|||BitVec.ofInt 64 (b:Int)).toNat=_;rw[BitVec.ofInt_natCast,BitVec.ofInt_natCast,BitVec.toNat_or,BitVec.toNat_ofNat,BitVec.toNat_ofNat];rfl
 rw[e,UV _ ?_];exact Nat.or_lt_two_pow (n:=64) (Nat.mod_lt _ Cd) (Nat.mod_lt _ Cd)
theorem V8(a b:Int):∀p q:Dl,DE P .and t p q (iG a) (iG b)=some (iG (Yn a b)):=λp q=>Ml
theorem NW(a b:Int):∀p q:Dl,DE P .andNot t p q (iG a) (iG b)=some (iG (wH a b)):=λp q=>Kr
theorem TH{k':IntKind}(a n:Nat):∀p q:Dl,DE P .shr t p q (uG a) (.lit (.int k' (n:Int)))=some (uG (JB a n)):=by grind [Mm,IntKind.bits,JB]
theorem Ks{k':IntKind}(a n:Nat):∀p q:Dl,DE P .shl t p q (uG a) (.lit (.int k' (n:Int)))=some (uG (I1 a n)):=by grind [Tg,IntKind.bits,I1,IntKind.wrap_u64]
theorem V9{k':IntKind}(a:Int)(n:Nat):∀p q:Dl,DE P .shr t p q (iG a) (.lit (.int k' (n:Int)))=some (iG (Tf a n)):=λp q=>Mm n
theorem Et(h:wJ i=some n):i=(n:Int):=by grind [wJ]
end
theorem Am{P:Br}{t:Bn}(a:Nat)(h:wJ i=some n):∀p q:Dl,DE P .shr t p q (uG a) (iG i)=some (uG (JB a n)):=by rw[Et h];exact TH a n
theorem sM{P:Br}{t:Bn}(a:Nat)(h:wJ i=some n):∀p q:Dl,DE P .shl t p q (uG a) (iG i)=some (uG (I1 a n)):=by rw[Et h];exact Ks a n
theorem Ba.isNil{P:Br}{ts te:Bn}{k:Nat}{α:Type}{f:α->Bo}(R:Ba P ts te k f){l:List α}(h:l.flatMap f=[]):l=[]:=by
 have h1:=R.len l;rw[h] at h1;have h2:=R.kp;cases l with
 |nil=>rfl
 |cons x r=>grind [Ba]
theorem mV{b:Nat}{r:List α}(h:aT b [] []=some r):r=[]:=by grind [aT]
section
variable {P:Br} {ta te:Bn} {k:Nat} {α:Type} {f:α->Bo}
structure Ac3 (P:Br) (ta te:Bn) (n k:Nat):Prop where
 no:dp P ta=none
 ar:ND P ta=some (n,te)
 sz:bw P te=some k
theorem Ac3.ix{n:Nat}(A:Ac3 P ta te n k){xs:List α}{L:Bo}{i:Int}{x:α}(h:aS xs i=some x)(hl:xs.length=n):fh P ta (.ptr L 0) i=some (.ptr L (i.toNat*k)):=by obtain⟨h0,h1⟩:=GV h;have hlt:=(cr h1).1;unfold fh;grind [Ac3,wo]
end
abbrev Hj:=FM Ab Int
section
attribute [local irreducible] Tr dz Gp
theorem gP(n:Nat):wU (n:Int)=n%18446744073709551616:=by grind [zk,IntKind.wrap_u64]
theorem Nj{a b:Nat}(h:a*b<18446744073709551616):lD .mul (uG (a:Int)) (uG (b:Int))=some (uG ((a*b:Nat):Int)):=by rw[na,<-Int.natCast_mul,gP,LV h]
theorem Pv{a b:Nat}(h:a+b<18446744073709551616):lD .add (uG (a:Int)) (uG (b:Int))=some (uG ((a+b:Nat):Int)):=by rw[gV,<-Int.natCast_add,gP,LV h]
theorem Ab0{a b:Nat}(h:b≠0)(ha:a<18446744073709551616):lD .quo (uG (a:Int)) (uG (b:Int))=some (uG ((a/b:Nat):Int)):=by rw[zm a b h,gP,LV (Nat.lt_of_le_of_lt (Nat.div_le_self ..) ha)]
theorem Ru(A B:Nat)(L M H:Nat)(hL:L=A%4294967296*(B%4294967296))(hM:M=A/4294967296*(B%4294967296)+A%4294967296*(B/4294967296))(a:H=A/4294967296*(B/4294967296)):
  (L%2305843009213693951+M%536870912*4294967296+M/536870912+8*H)%2305843009213693951=A*B%2305843009213693951:=by
 have hx:A*B=L+M*4294967296+H*18446744073709551616:=by grind [Nat.div_add_mod']
 rw[hx]
 omega
def oQ(a b:Nat):FF:=some (a*b%2305843009213693951)
theorem nK{a b}:DC prog gl (oQ a b) 165 [uG a,uG b] (λr:Nat=>uG r):=λr h=>by obtain rfl:=Bh h;refine Gh func165 ?_;have h11:=iD a 2305843009213693951 Cd;have h13:=iD b 2305843009213693951 Cd;have hA:=Nat.mod_lt a (show 0<2305843009213693951 by decide);have hB:=Nat.mod_lt b (show 0<2305843009213693951 by decide);rw[Nat.mul_mod,<-Ru _ _ _ _ _ rfl rfl rfl];generalize a%2305843009213693951=A at*;generalize b%2305843009213693951=B at*;have b0:A%4294967296*(B%4294967296)<=4294967295*4294967295:=Nat.mul_le_mul aa aa;have b1:A/4294967296*(B%4294967296)<=536870911*4294967295:=Nat.mul_le_mul aa aa;have b2:A%4294967296*(B/4294967296)<=4294967295*536870911:=Nat.mul_le_mul aa aa;have b3:A/4294967296*(B/4294967296)<=536870911*536870911:=Nat.mul_le_mul aa aa;have c:=iD A 4294967296 Cd;have d:=iD B 4294967296 Cd;have e:=Ab0 (a:=A) (b:=4294967296) Cd aa;have f:=Ab0 (a:=B) (b:=4294967296) Cd aa;have g:=Nj (Nat.lt_of_le_of_lt b0 Cd);have i:=Nj (Nat.lt_of_le_of_lt b1 Cd);have j:=Nj (Nat.lt_of_le_of_lt b2 Cd);have k:=Nj (Nat.lt_of_le_of_lt b3 Cd);generalize A%4294967296*(B%4294967296)=p at*;generalize A/4294967296*(B%4294967296)=q at*;generalize A%4294967296*(B/4294967296)=s at*;generalize A/4294967296*(B/4294967296)=t at*;have l:=Pv (a:=q) (b:=s) aa;have bm:q+s<18446744073709551616:=aa;generalize q+s=m at*;exact Ar [hbb 11 h11,hbb 13 h13,hbb 16 c,hbb 19 d,hbb 20 g,hbb 23 e,hbb 26 d,hbb 27 i,hbb 30 c,hbb 33 f,hbb 34 j,hbb 35 l,hbb 38 e,hbb 41 f,hbb 42 k,hbb 44 (iD p 2305843009213693951 Cd),hbb 47 (iD m 536870912 Cd),hbb 49 (Nj (a:=m%536870912) (b:=4294967296) aa),hbb 50 (Pv (a:=p%2305843009213693951) (b:=m%536870912*4294967296) aa),hbb 53 (Ab0 (a:=m) (b:=536870912) Cd bm),hbb 54 (Pv (a:=p%2305843009213693951+m%536870912*4294967296) (b:=m/536870912) aa),hbb 56 (Nj (a:=8) (b:=t) aa),hbb 57 (Pv (a:=p%2305843009213693951+m%536870912*4294967296+m/536870912) (b:=8*t) aa),hbb 58 (iD (p%2305843009213693951+m%536870912*4294967296+m/536870912+8*t) 2305843009213693951 Cd)] []
theorem TQ(a:Nat):JB a 32=a/4294967296:=rfl
theorem Ag4{a:Nat}(h:a<18446744073709551616):bD a 4294967295=a%4294967296:=by unfold bD;rw[LV h];exact Nat.and_two_pow_sub_one_eq_mod a 32
theorem Ajt(a:Nat)(h:a<18446744073709551616):∀p q:Dl,DE prog .and 40 p q (uG a) (uG 4294967295)=some (uG ((a%4294967296:Nat):Int)):=by rw[<-Ag4 h];exact ju a 4294967295
theorem AeM(a:Nat):∀p q:Dl,DE prog .shr 40 p q (uG a) (.lit (.int .u64 ((32:Nat):Int)))=some (uG ((a/4294967296:Nat):Int)):=by rw[<-TQ];exact TH a 32
def sL(x y:Nat):Option (Nat×Nat):=bif x<18446744073709551616/\y<18446744073709551616 then some (x*y/18446744073709551616,x*y%18446744073709551616)else none
theorem FY{x y}:DC prog gl (sL x y) 285 [uG x,uG y] (λr=> .tup [uG r.1,uG r.2]):=λr h=>by
 unfold sL at h;cases c:decide (x<18446744073709551616/\y<18446744073709551616) with
 |false=>rw[c] at h;cases h
 |true=>rw[c] at h;obtain rfl:=Bh h;obtain⟨hx,hy⟩:=DP c;refine Gh func285 ?_;have g:=na (x:Int) (y:Int);rw[<-Int.natCast_mul,gP] at g;obtain⟨h1,h2,h3,h4⟩:=Lib.mul64_hi x y hx hy;have ha:=Lib.half_mul_le (a:=x/4294967296) (b:=y/4294967296) aa aa;have hb:=Lib.half_mul_le (a:=x/4294967296) (b:=y%4294967296) aa aa;have hc:=Lib.half_mul_le (a:=x%4294967296) (b:=y/4294967296) aa aa;have hd:=Lib.half_mul_le (a:=x%4294967296) (b:=y%4294967296) aa aa;have i:=Nj (Nat.lt_of_le_of_lt hd Cd);have j:=Nj (Nat.lt_of_le_of_lt hb Cd);have k:=Nj (Nat.lt_of_le_of_lt hc Cd);have l:=Nj (Nat.lt_of_le_of_lt ha Cd);have m:=Ajt x hx;have n:=AeM x;have o:=Ajt y hy;have p:=AeM y;rw[<-h4];generalize (x/4294967296)*(y/4294967296)=a at*;generalize (x/4294967296)*(y%4294967296)=b at*;generalize (x%4294967296)*(y/4294967296)=c at*;generalize (x%4294967296)*(y%4294967296)=d at*;have q:=Pv h2;have s:=Ajt _ h2;have t:=AeM (b+d/4294967296);have u:=Pv h3;generalize b+d/4294967296=e at*;have v:=Pv (a:=a) (b:=e/4294967296) aa;have w:=AeM (e%4294967296+c);generalize e%4294967296+c=f at*;exact Ar [hV 15 m,hV 17 n,hV 19 o,hV 21 p,hbb 24 i,hbb 27 j,hV 29 (AeM d),hbb 30 q,hV 32 s,hV 34 t,hbb 38 k,hbb 39 u,hbb 42 l,hbb 44 v,hV 46 w,hbb 47 (Pv (a:=a+e/4294967296) (b:=f/4294967296) aa),hbb 50 g] []
end
section
set_option maxHeartbeats 2000000
attribute [local irreducible] Tr dz Gp
def DJ(s1:Nat×CO):Option ((Nat×CO)⊕(Nat×CO)):=
 bif ((127:Nat):Int)<(s1.1:Int)then((aT 1 s1.2 ([wY ((((wY ((s1.1%128:Nat):Int)).toNat:Nat):Int)+(((128:UInt8).toNat:Nat):Int))]:CO)).bind λa=>some (.inl (wU ((s1.1/128:Nat):Int),a)))else(some (.inr (s1.1,s1.2)))
def jl(k:Nat):Option CO:=
 (AQ (DJ) (k,[])).bind λb=>(aT 1 b.2 ([wY (b.1:Int)]:CO)).bind λa=>some a
theorem LQ{k}:Mu prog gl (jl k) 93 [uG k] 5 cY:=
 gc func93 λK=>Je 1110 (λa=>so [] [(0,uG a.1),(3,.rsl 0 0 a.2.length)] [ob 0 5 (a.2.flatMap cY)] 1) (λs1=>so [] [(0,uG s1.1),(3,.rsl 0 0 s1.2.length)] [ob 0 5 (s1.2.flatMap cY)] 1) [hc (rY.imm [])] (λa=>Gq (dg 19 rY) λc=>aw [AA 17 (Iz (a.1:Int))]<|mr c0 K (rY.imm _)) λs1 k5 d=>aF 5 (Gq (dg 12 rY) λb=>aw [hbb 8 (iD s1.1 128 Cd),AA 9 (Iz ((s1.1%128:Nat):Int)),hbb 10 (YK (wY ((s1.1%128:Nat):Int)) (128:UInt8)),hbb 14 (zm s1.1 128 Cd)]<|cj k5 (DH rY b))<|aA c1 d (DH rY s1.2)
def cg(n:Int):Option CO:=
 bif n<0 then((jl (wU (((wU (((wU (wI (0-(wI (n+1)))):Nat):Int)*((2:Nat):Int)):Nat):Int)+((1:Nat):Int)))).bind λv2=>some v2)else((jl (wU (((wU n:Nat):Int)*((2:Nat):Int)))).bind λa=>some a)
theorem eZ{n}:Mu prog gl (cg n) 95 [iG n] 5 cY:=
 gc func95 λK=>aF 4 (ak λv2 e3=>aw [AA 8 (C8 (wI (0-(wI (n+1))))),hbb 9 (na ((wU (wI (0-(wI (n+1)))):Nat):Int) ((2:Nat):Int)),hbb 10 (gV ((wU (((wU (wI (0-(wI (n+1)))):Nat):Int)*((2:Nat):Int)):Nat):Int) ((1:Nat):Int)),ho 11 [uG (wU (((wU (((wU (wI (0-(wI (n+1)))):Nat):Int)*((2:Nat):Int)):Nat):Int)+((1:Nat):Int)))] [] (LQ gl e3) (lY v2)]<|mr c0 K (rY.imm _))<|ak λa e5=>aw [AA 13 (C8 n),hbb 14 (na ((wU n:Nat):Int) ((2:Nat):Int)),ho 15 [uG (wU (((wU n:Nat):Int)*((2:Nat):Int)))] [] (LQ gl e5) (lY a)]<|mr c0 K (rY.imm _)
def iJ(a:Ab):Option CO:=
 (cg a.By).bind λv1=>(cg a.Seq).bind λb=>(aT 1 v1 b).bind λc=>(jl a.Sum).bind λd=>(aT 1 c d).bind λe=>some e
theorem GO{id_}:Mu prog gl (iJ id_) 92 [.agg (aj id_)] 5 cY:=
 gc func92 λK=>ak λv1 e2=>JL 9 rY (eZ gl) λa=>Gq (eu 10 rY) λb=>JL 14 rY (LQ gl) λc=>Gq (eu 15 rY) λd=>aw [ho 6 [iG id_.By] [] (eZ gl e2) (lY v1)]<|mr c0 K (rY.imm _)
def r6(s1:Nat×Nat×Nat):Option ((Nat×Nat×Nat)⊕(Nat)):=
 bif ((0:Nat):Int)<(s1.2.2:Int)then((bif ((s1.2.2%2:Nat):Int)=((1:Nat):Int)then((oQ s1.1 s1.2.1).bind λa=>some a)else(some s1.1)).bind λb=>(oQ s1.2.1 s1.2.1).bind λc=>some (.inl (b,c,wU ((s1.2.2/2:Nat):Int))))else(some (.inr s1.1))
def iK(a:Nat)(n:Nat):FF:=
 (AQ (r6) (1,a%2305843009213693951,n)).bind λb=>some b
theorem lc{a n}:DC prog gl (iK a n) 86 [uG a,uG n] (λr:Nat=>uG r):=
 cy func86 λK=>aw [hbb 9 (iD a 2305843009213693951 Cd)]<|Je 111101 (λd=>sg [] [(5,uG d)]) (λs1=>sg [] [(5,uG s1.1),(6,uG s1.2.1),(7,uG s1.2.2)]) [] (λd=>rv K) λs1 k5 e=>aF 12 (aw [hbb 16 (iD s1.2.2 2 Cd)]<|cN 1111012210201 (sf [] [(17,bG (decide (((s1.2.2%2:Nat):Int)=((1:Nat):Int))))]) []<|cC 1111012210201 (λb=>sf [17] [(5,uG b)]) (λb=>BU 23 (nK gl) λf=>aw [hbb 14 (zm s1.2.2 2 Cd)]<|rb k5) λb c=>eH [17] (BU 20 (nK gl) λg=>rx c)<|rx c)<|aA c1 e []
def iq(n:Int)(most:Int):JP:=
 bif n<0 then((u9 (wI (0-(wI (n+1)))) most).bind λa=>some a)else((u9 n most).bind λb=>some b)
theorem iL{n most}:DC prog gl (iq n most) 9 [iG n,iG most] iG:=
 cy func9 λK=>aF 6 (ak λa e3=>aw [hbb 12 (KO e3)]<|rv K)<|ak λb e5=>aw [hbb 12 (KO e5)]<|rv K
def Jf(cards:LP):Option AB:=
 some ⟨cards,[],[],[],[]⟩
theorem M8{cards}:DC prog gl (Jf cards) 56 [aE bv cards] (λr=> .agg (aI r)):=
 cy func56 λK=>rv K
def xo(a:Nat):FF:=
 (iK 37 a).bind λv1=>some v1
theorem r7{a}:DC prog gl (xo a) 89 [uG a] (λr:Nat=>uG r):=
 cy func89 λK=>BU 4 (lc gl) λv1=>rv K
def my(b:CO)(s1:Bp×Int)(a:Nat×Int):Option ((Nat×Int)⊕(Nat)):=
 bif s1.2<=a.2 then((aS b a.2).bind λc=>some (.inl (wU (((wU ((a.1:Int)*((256:Nat):Int)):Nat):Int)+((wU (c.toNat:Int):Nat):Int)),wI (a.2-1))))else(some (.inr a.1))
def qh(b:CO)(s1:Bp×Int):Option ((Bp×Int)⊕Bp):=
 bif s1.2<ah b then((AQ (my b s1) (0,wI ((iI (ah b) (wI (s1.2+7)))-1))).bind λa=>(aT 8 s1.1 ([a]:Bp)).bind λc=>some (.inl (c,wI (s1.2+7))))else(some (.inr s1.1))
def LU(b:CO):Option Bp:=
 (AQ (qh b) ([],0)).bind λa=>some a
theorem yz{b}:Mu prog gl (LU b) 123 [aE cY b] 40 cW:=
 gc func123 λK=>Je 11101 (λe=>sp [] [(3,.rsl 0 0 e.length)] [ob 0 40 (e.flatMap cW)] 1) (λs1=>so [] [(3,.rsl 0 0 s1.1.length),(4,iG s1.2)] [ob 0 40 (s1.1.flatMap cW)] 1) [hc (rW.imm [])] (λe=>mr c0 K (rW.imm _)) λs1 k5 i=>aF 10 (Je 1110122102101 (λc=>sf [] [(5,uG c)]) (λa=>sf [] [(5,uG a.1),(6,iG a.2)]) (DH rW s1.1) (λc=>Gq (dg 35 rW) λf=>cj k5 (DH rW f)) λa g h=>aF 21 (CD 28 rY.ixZ 29 (rY.p1Y tY) λd=>aw [hbb 25 (na (a.1:Int) ((256:Nat):Int)),AA 30 (C8 (d.toNat:Int)),hbb 31 (gV ((wU ((a.1:Int)*((256:Nat):Int)):Nat):Int) ((wU (d.toNat:Int):Nat):Int))]<|cj g (DH rW s1.1))<|aA c1 h (DH rW s1.1))<|aA c1 i (DH rW s1.1)
def qi(a:Nat)(b:Nat):FF:=
 some ((wU (((a%2305843009213693951:Nat):Int)+((b%2305843009213693951:Nat):Int)))%2305843009213693951)
theorem YA{a b}:DC prog gl (qi a b) 211 [uG a,uG b] (λr:Nat=>uG r):=
 cy func211 λK=>aw [hbb 6 (iD a 2305843009213693951 Cd),hbb 8 (iD b 2305843009213693951 Cd),hbb 9 (gV ((a%2305843009213693951:Nat):Int) ((b%2305843009213693951:Nat):Int)),hbb 10 (iD (wU (((a%2305843009213693951:Nat):Int)+((b%2305843009213693951:Nat):Int))) 2305843009213693951 Cd)]<|rv K
def qj(b:Bp)(a:Nat×Int):Option ((Nat×Int)⊕(Nat)):=
 bif a.2<ah b then((oQ 37 a.1).bind λc=>(aS b a.2).bind λd=>(qi d (wU (wI (a.2+1)))).bind λe=>(qi c e).bind λf=>(iK f 17).bind λg=>some (.inl (g,wI (a.2+1))))else(some (.inr a.1))
def qk(l:Bp)(a:Bp×Int):Option ((Bp×Int)⊕Bp):=
 bif a.2<ah l then((aS l a.2).bind λb=>(aT 8 a.1 ([b%2305843009213693951]:Bp)).bind λc=>some (.inl (c,wI (a.2+1))))else(some (.inr a.1))
def yA(label:CO)(l:Bp):FF:=
 (Gk label).bind λc=>(LU c).bind λd=>(aT 8 d ([wU (ah l)]:Bp)).bind λe=>(AQ (qk l) (e,0)).bind λf=>(aT 8 f ([0]:Bp)).bind λa=>(AQ (qj a) (wU (ah label),0)).bind λb=>some b
theorem AD{label l}:DC prog gl (yA label l) 122 [sG label,aE cW l] (λr:Nat=>uG r):=
 cy func122 λK=>ak λk e2=>ak λm e4=>Gq (dg 17 rW) λn=>aw [AA 15 (C8 (ah l)),hcB 11 e2,ho 12 [aE cY k] [] (yz gl e4) (lW m)]<|Je 11101 (λe=>so [1] [(5,.rsl 0 0 e.length)] [ob 0 40 (e.flatMap cW)] 1) (λb=>so [] [(5,.rsl 0 0 b.1.length),(6,iG b.2)] [ob 0 40 (b.1.flatMap cW)] 1) (DH rW n) (λe=>Gq (dg 34 rW) λc=>aw [hL 36 label,AA 37 (C8 (ah label))]<|Je 11111101 (λd=>sk [] [(7,uG d)] [] 0) (λa=>sk [] [(5,aE cW c),(7,uG a.1),(8,iG a.2)] [] 0) [hc (rW.al c)] (λd=>rv K) λa f g=>aF 41 (BU 45 (nK gl) λo=>CD 48 rW.ixZ 49 (rW.p1Y tW) λp=>BU 53 (YA gl) λq=>BU 54 (YA gl) λs=>BU 56 (lc gl) λt=>aw [AA 52 (C8 (wI (a.2+1)))]<|rb f)<|aA c1 g []) λb k11 h=>aF 21 (CD 27 rW.ixZ 28 (rW.p1Y tW) λi=>Gq (dg 31 rW) λj=>aw [hbb 29 (iD i 2305843009213693951 Cd)]<|cj k11 (DH rW j))<|aA c1 h (DH rW b.1)
def LR(label:CO)(l:Bp):FF:=
 (yA label l).bind λv1=>some (wU (((1:Nat):Int)+((v1%2305843009213693949:Nat):Int)))
theorem vo{label l}:DC prog gl (LR label l) 84 [sG label,aE cW l] (λr:Nat=>uG r):=
 cy func84 λK=>BU 7 (AD gl) λv1=>aw [hbb 8 (iD v1 2305843009213693949 Cd),hbb 9 (gV ((1:Nat):Int) ((v1%2305843009213693949:Nat):Int))]<|rv K
def lf(kind:CO)(device:Int):FF:=
 (LR kind ([wU device]:Bp)).bind λv1=>some v1
theorem kG{kind device}:DC prog gl (lf kind device) 38 [sG kind,iG device] (λr:Nat=>uG r):=
 cy func38 λK=>ak λv1 e2=>aw [AA 7 (C8 device),hq 9 [sG kind,aE cW ([wU device]:Bp)] [hc (rW.al ([wU device]:Bp))] (vo gl e2)]<|rv K
def GP(a:Bj)(s1:LP×Int):Option ((LP×Int)⊕LP):=
 bif s1.2<ah a then((aS a s1.2).bind λb=>(lf [108,101,97,100] (wI (s1.2+1))).bind λc=>(xo c).bind λd=>(lf [107,101,101,112] (wI (s1.2+1))).bind λe=>(xo e).bind λf=>(lf [115,105,103,110] (wI (s1.2+1))).bind λg=>(xo g).bind λh=>(aT 40 s1.1 [(⟨wI (s1.2+1),b,d,f,h⟩:DF)]).bind λi=>some (.inl (i,wI (s1.2+1))))else(some (.inr s1.1))
def ql(a:Bj):Option LP:=
 (AQ (GP a) ([],0)).bind λb=>some b
theorem GQ{owners}:Mu prog gl (ql owners) 57 [aE cZ owners] 103 bv:=
 gc func57 λK=>Je 11101 (λa=>sp [] [(3,.rsl 0 0 a.length)] [ob 0 103 (a.flatMap bv)] 1) (λs1=>so [] [(3,.rsl 0 0 s1.1.length),(4,iG s1.2)] [ob 0 103 (s1.1.flatMap bv)] 1) [hc (bT.imm [])] (λa=>mr c0 K (bT.imm _)) λs1 k5 c=>aF 9 (CD 18 rZ.ixZ 19 (rZ.p1Y tZ) λd=>BU 21 (kG gl) λe=>BU 22 (r7 gl) λf=>BU 24 (kG gl) λg=>BU 25 (r7 gl) λh=>BU 27 (kG gl) λi=>BU 28 (r7 gl) λj=>Gq (dg 31 bT) λb=>cj k5 (DH bT b))<|aA c1 c (DH bT s1.1)
def jI(label:CO)(b:CO):FF:=
 (LU b).bind λv1=>(aT 8 v1 ([wU (ah b)]:Bp)).bind λa=>(yA label a).bind λc=>some c
theorem yB{label b}:DC prog gl (jI label b) 54 [sG label,aE cY b] (λr:Nat=>uG r):=
 cy func54 λK=>ak λv1 e2=>Gq (dg 12 rW) λa=>ak λc e6=>aw [AA 10 (C8 (ah b)),ho 7 [aE cY b] [] (yz gl e2) (lW v1),hq 13 [sG label,aE cW a] [hc (rW.al a)] (AD gl e6)]<|rv K
def Ph(b:CO):FF:=
 (jI [115,105,103,110,101,100] b).bind λv1=>some v1
theorem LH{b}:DC prog gl (Ph b) 85 [aE cY b] (λr:Nat=>uG r):=
 cy func85 λK=>BU 4 (yB gl) λv1=>rv K
def fV:FF:=
 some 2305843009213693950
theorem eU:DC prog gl (fV) 90 [] (λr:Nat=>uG r):=
 cy func90 λK=>rv K
def yC(a:Nat×Nat×Nat):Option ((Nat×Nat×Nat)⊕(Nat)):=
 bif ((0:Nat):Int)<(a.2.1:Int)then((bif ((a.2.1%2:Nat):Int)=((1:Nat):Int)then((fV).bind λb=>(CH (wU ((a.2.2:Int)+(a.1:Int))) b).bind λc=>some c)else(some a.2.2)).bind λd=>(fV).bind λe=>(CH (wU ((a.1:Int)+(a.1:Int))) e).bind λf=>some (.inl (f,wU ((a.2.1/2:Nat):Int),d)))else(some (.inr a.2.2))
def vp(a:Nat)(b:Nat):FF:=
 (fV).bind λv1=>(CH a v1).bind λd=>(fV).bind λe=>(CH b e).bind λf=>(AQ (yC) (d,f,0)).bind λc=>some c
theorem GT{a b}:DC prog gl (vp a b) 87 [uG a,uG b] (λr:Nat=>uG r):=
 cy func87 λK=>BU 7 (eU gl) λv1=>ak λm e4=>BU 10 (eU gl) λn=>ak λo e8=>aw [hbb 8 (YI e4),hbb 11 (YI e8)]<|Je 111110 (λe=>sg [] [(5,uG e)]) (λc=>sf [] [(0,uG c.1),(1,uG c.2.1),(5,uG c.2.2)]) [] (λe=>rv K) λc k13 k12=>aF 13 (aw [hbb 15 (iD c.2.1 2 Cd)]<|cN 111110221201 (sf [] [(16,bG (decide (((c.2.1%2:Nat):Int)=((1:Nat):Int))))]) []<|cC 111110221201 (λd=>sf [16] [(5,uG d)]) (λd=>BU 25 (eU gl) λi=>ak λj g=>aw [hbb 24 (gV (c.1:Int) (c.1:Int)),hbb 28 (zm c.2.1 2 Cd),hbb 26 (YI g)]<|rb k13) λd f=>eH [16] (BU 20 (eU gl) λk=>ak λl h=>aw [hbb 19 (gV (c.2.2:Int) (c.1:Int)),hbb 21 (YI h)]<|rx f)<|rx f)<|aA c1 k12 []
def Pi(c:Nat)(pub:Nat)(b:CO):FF:=
 (Ph b).bind λv1=>(yA [115,105,103] ([c,pub,v1]:Bp)).bind λa=>some a
theorem LI{r_ pub b}:DC prog gl (Pi r_ pub b) 88 [uG r_,uG pub,aE cY b] (λr:Nat=>uG r):=
 cy func88 λK=>BU 10 (LH gl) λv1=>ak λa e4=>aw [hq 12 [sG [115,105,103],aE cW ([r_,pub,v1]:Bp)] [hc (rW.al ([r_,pub,v1]:Bp))] (AD gl e4)]<|rv K
def zX(a:Nat)(b:CO):Option N8:=
 (Ph b).bind λv1=>(LR [110,111,110,99,101] ([a,v1]:Bp)).bind λf=>(iK 37 f).bind λg=>(xo a).bind λh=>(Pi g h b).bind λi=>(vp i a).bind λc=>(fV).bind λd=>(CH (wU ((f:Int)+(c:Int))) d).bind λe=>some ⟨g,e⟩
theorem Jg{a b}:DC prog gl (zX a b) 37 [uG a,aE cY b] (λr=> .agg (yy r)):=
 cy func37 λK=>BU 10 (LH gl) λv1=>ak λd e4=>BU 14 (lc gl) λg=>BU 17 (r7 gl) λh=>BU 19 (LI gl) λi=>BU 21 (GT gl) λc=>BU 26 (eU gl) λe=>ak λf e16=>aw [hbb 25 (gV (d:Int) (c:Int)),hq 12 [sG [110,111,110,99,101],aE cW ([a,v1]:Bp)] [hc (rW.al ([a,v1]:Bp))] (vo gl e4),hbb 27 (YI e16)]<|rv K
end
section
set_option maxHeartbeats 2000000
attribute [local irreducible] Tr dz Gp
def tR(l:Bj)(s1:CO×Int):Option ((CO×Int)⊕CO):=
 bif s1.2<ah l then((aS l s1.2).bind λa=>(cg a).bind λb=>(aT 1 s1.1 b).bind λc=>some (.inl (c,wI (s1.2+1))))else(some (.inr s1.1))
def Qn(l:Bj):Option CO:=
 (AQ (tR l) ([],0)).bind λa=>some a
theorem oT{l}:Mu prog gl (Qn l) 91 [aE cZ l] 5 cY:=
 gc func91 λK=>Je 11101 (λa=>sp [] [(3,.rsl 0 0 a.length)] [ob 0 5 (a.flatMap cY)] 1) (λs1=>so [] [(3,.rsl 0 0 s1.1.length),(4,iG s1.2)] [ob 0 5 (s1.1.flatMap cY)] 1) [hc (rY.imm [])] (λa=>mr c0 K (rY.imm _)) λs1 k5 c=>aF 8 (CD 14 rZ.ixZ 15 (rZ.p1Y tZ) λd=>JL 16 rY (eZ gl) λe=>Gq (eu 17 rY) λb=>cj k5 (DH rY b))<|aA c1 c (DH rY s1.1)
def tS(l:Bp)(s1:CO×Int):Option ((CO×Int)⊕CO):=
 bif s1.2<ah l then((aS l s1.2).bind λa=>(jl a).bind λb=>(aT 1 s1.1 b).bind λc=>some (.inl (c,wI (s1.2+1))))else(some (.inr s1.1))
def vt(l:Bp):Option CO:=
 (AQ (tS l) ([],0)).bind λa=>some a
theorem AG{l}:Mu prog gl (vt l) 97 [aE cW l] 5 cY:=
 gc func97 λK=>Je 11101 (λa=>sp [] [(3,.rsl 0 0 a.length)] [ob 0 5 (a.flatMap cY)] 1) (λs1=>so [] [(3,.rsl 0 0 s1.1.length),(4,iG s1.2)] [ob 0 5 (s1.1.flatMap cY)] 1) [hc (rY.imm [])] (λa=>mr c0 K (rY.imm _)) λs1 k5 c=>aF 8 (CD 14 rW.ixZ 15 (rW.p1Y tW) λd=>JL 16 rY (LQ gl) λe=>Gq (eu 17 rY) λb=>cj k5 (DH rY b))<|aA c1 c (DH rY s1.1)
def qq(l:List Ho)(s3:CO×Int):Option ((CO×Int)⊕CO):=
 bif s3.2<ah l then((aS l s3.2).bind λa=>(aS l s3.2).bind λb=>(aS l s3.2).bind λc=>(aS l s3.2).bind λd=>(vt ([a.To,b.Eph,c.Body,d.Tag]:Bp)).bind λe=>(aT 1 s3.1 e).bind λf=>some (.inl (f,wI (s3.2+1))))else(some (.inr s3.1))
def nQ(l:List Ho):Option CO:=
 (cg (ah l)).bind λv1=>(AQ (qq l) (v1,0)).bind λa=>some a
theorem GW{l}:Mu prog gl (nQ l) 94 [aE cz l] 5 cY:=
 gc func94 λK=>ak λv1 e2=>aw [ho 7 [iG (ah l)] [] (eZ gl e2) (lY v1)]<|Je 11101 (λe=>sp [] [(3,.rsl 0 0 e.length)] [ob 0 5 (e.flatMap cY)] 1) (λs3=>so [] [(3,.rsl 0 0 s3.1.length),(4,iG s3.2)] [ob 0 5 (s3.1.flatMap cY)] 1) (DH rY v1) (λe=>mr c0 K (rY.imm _)) λs3 i k6=>aF 11 (CD 17 EZ.ixZ 19 (EZ.fdY tW 0) λa=>CD 22 EZ.ixZ 24 (EZ.fdY tW 1) λb=>CD 27 EZ.ixZ 29 (EZ.fdY tW 2) λc=>CD 32 EZ.ixZ 34 (EZ.fdY tW 3) λd=>ak λf g=>Gq (dg 37 rY) λh=>aw [ho 36 [aE cW ([a.To,b.Eph,c.Body,d.Tag]:Bp)] [hc (rW.al ([a.To,b.Eph,c.Body,d.Tag]:Bp))] (AG gl g) (lY f)]<|cj i (DH rY h))<|aA c1 k6 (DH rY s3.1)
def vu(s:CO):Option CO:=
 (cg (ah s)).bind λv1=>(aT 1 v1 s).bind λa=>some a
theorem Jp{s}:Mu prog gl (vu s) 96 [sG s] 5 cY:=
 gc func96 λK=>ak λv1 e2=>ak λa e4=>aw [hL 4 s,ho 5 [iG (ah s)] [] (eZ gl e2) (lY v1),XZ 7 e4]<|mr c0 K (rY.imm _)
def Po(o:Bi)(a:CO×Int):Option ((CO×Int)⊕CO):=
 bif a.2<ah o.Hist then((aS o.Hist a.2).bind λb=>(iJ b.Of).bind λc=>(aT 1 a.1 c).bind λd=>(aS o.Hist a.2).bind λe=>(vu e.Body).bind λf=>(aT 1 d f).bind λg=>some (.inl (g,wI (a.2+1))))else(some (.inr a.1))
def qs(o:Bi)(a:CO×Int):Option ((CO×Int)⊕CO):=
 bif a.2<ah o.Path then((aS o.Path a.2).bind λf=>(jl f.Pub).bind λg=>(aT 1 a.1 g).bind λb=>(aS o.Path a.2).bind λc=>(nQ c.Boxes).bind λd=>(aT 1 b d).bind λe=>some (.inl (e,wI (a.2+1))))else(some (.inr a.1))
def qt(o:Bi)(s3:CO×Int):Option ((CO×Int)⊕CO):=
 bif s3.2<ah o.Past then((aS o.Past s3.2).bind λa=>(iJ a).bind λb=>(aT 1 s3.1 b).bind λc=>some (.inl (c,wI (s3.2+1))))else(some (.inr s3.1))
def lz(o:Bi):Option CO:=
 (Qn ([o.By,o.Seq,o.Kind,o.At,ah o.Past]:Bj)).bind λv1=>(AQ (qt o) (v1,0)).bind λD=>(Qn ([o.Device,o.Old,o.Member,o.Role,ah o.Path]:Bj)).bind λa=>(aT 1 D a).bind λb=>(AQ (qs o) (b,0)).bind λc=>(iJ o.Epoch).bind λd=>(aT 1 c d).bind λe=>(cg o.N).bind λf=>(aT 1 e f).bind λg=>(vu o.Body).bind λh=>(aT 1 g h).bind λi=>(cg (ah o.Refs)).bind λj=>(aT 1 i j).bind λk=>(vt o.Refs).bind λl=>(aT 1 k l).bind λm=>(iJ o.Of).bind λn=>(aT 1 m n).bind λp=>(cg (ah o.Guards)).bind λq=>(aT 1 p q).bind λr=>(Qn o.Guards).bind λs=>(aT 1 r s).bind λt=>(Qn ([o.Need,o.Wait]:Bj)).bind λu=>(aT 1 t u).bind λv=>(nQ o.Boxes).bind λw=>(aT 1 v w).bind λx=>(jl o.Pub).bind λy=>(aT 1 x y).bind λz=>(cg (ah o.Hist)).bind λA=>(aT 1 z A).bind λB=>(AQ (Po o) (B,0)).bind λC=>some C
theorem GX{o}:Mu prog gl (lz o) 39 [.agg (aJ o)] 5 cY:=
 gc func39 λK=>ak λv1 e2=>aw [ho 19 [aE cZ ([o.By,o.Seq,o.Kind,o.At,ah o.Past]:Bj)] [hc (rZ.al ([o.By,o.Seq,o.Kind,o.At,ah o.Past]:Bj))] (oT gl e2) (lY v1)]<|Je 11101 (λg=>sp [] [(1,.ref 0 0),(3,.rsl 1 0 g.length)] [ob 0 50 (aJ o),ob 1 5 (g.flatMap cY)] 2) (λs3=>sp [] [(1,.ref 0 0),(3,.rsl 1 0 s3.1.length),(4,iG s3.2)] [ob 0 50 (aJ o),ob 1 5 (s3.1.flatMap cY)] 2) (DH rY v1) (λg=>ak λh i=>Gq (dg 49 rY) λj=>aw [ho 48 [aE cZ ([o.Device,o.Old,o.Member,o.Role,ah o.Path]:Bj)] [hc (rZ.al ([o.Device,o.Old,o.Member,o.Role,ah o.Path]:Bj))] (oT gl i) (lY h)]<|Je 1111101 (λc=>so [] [(3,.rsl 1 0 c.length)] [ob 1 5 (c.flatMap cY)] 2) (λa=>so [] [(3,.rsl 1 0 a.1.length),(5,iG a.2)] [ob 1 5 (a.1.flatMap cY)] 2) (DH rY j) (λc=>JL 78 rY (GO gl) λz=>Gq (eu 79 rY) λA=>JL 83 rY (eZ gl) λB=>Gq (eu 84 rY) λC=>JL 89 rY (Jp gl) λD=>Gq (eu 90 rY) λE=>JL 95 rY (eZ gl) λF=>Gq (eu 96 rY) λH=>JL 100 rY (AG gl) λI=>Gq (eu 101 rY) λJ=>JL 105 rY (GO gl) λL=>Gq (eu 106 rY) λM=>JL 111 rY (eZ gl) λN=>Gq (eu 112 rY) λO=>JL 116 rY (oT gl) λP=>Gq (eu 117 rY) λQ=>ak λk l=>Gq (dg 125 rY) λR=>JL 129 rY (GW gl) λS=>Gq (eu 130 rY) λU=>JL 134 rY (LQ gl) λV=>Gq (eu 135 rY) λW=>JL 140 rY (eZ gl) λX=>Gq (eu 141 rY) λm=>aw [XY 88 o.Body,ho 124 [aE cZ ([o.Need,o.Wait]:Bj)] [hc (rZ.al ([o.Need,o.Wait]:Bj))] (oT gl l) (lY k)]<|Je 11111111111111111101 (λd=>sk [] [(3,.rsl 0 0 d.length)] [ob 0 5 (d.flatMap cY)] 1) (λb=>so [] [(3,.rsl 1 0 b.1.length),(6,iG b.2)] [ob 1 5 (b.1.flatMap cY)] 2) (DH rY m) (λd=>mr c0 K (rY.imm _)) λb n p=>aF 146 (CD 153 bH.ixZ 155 (bH.fsZ aW jz 0 Cd) λY=>JL 156 rY (GO gl) λZ=>Gq (eu 157 rY) λv87=>CD 162 bH.ixZ 164 (bH.fdY tLY 3) λq=>JL 166 rY (Jp gl) λv91=>Gq (eu 167 rY) λr=>aw [XY 165 q.Body]<|cj n (DH rY r))<|aA c1 p (DH rY b.1)) λa s t=>aF 54 (CD 61 bZ.ixZ 63 (bZ.fdY tW 0) λy96=>JL 64 rY (LQ gl) λv98=>Gq (eu 65 rY) λu=>CD 70 bZ.ixZ 72 (bZ.fdY E3 1) λv=>JL 73 rY (GW gl) λw=>Gq (eu 74 rY) λe=>cj s (DH rY e))<|aA c1 t (DH rY a.1)) λs3 k7 k6=>aF 24 (CD 31 ac.ixZ 32 (ac.ptZ aW) λx=>JL 33 rY (GO gl) λy=>Gq (eu 34 rY) λf=>cj k7 (DH rY f))<|aA c1 k6 (DH rY s3.1)
def nR(o:Bi):Option Bi:=
 (lf [115,105,103,110] o.By).bind λv1=>(lz o).bind λa=>(zX v1 a).bind λb=>some ({o with Sig:=b})
theorem E8{o}:DC prog gl (nR o) 14 [.agg (aJ o)] (λr=> .agg (aJ r)):=
 cy func14 λK=>BU 5 (kG gl) λv1=>JL 7 rY (GX gl) λa=>BU 8 (Jg gl) λb=>rv K
def pV(o:Bi):Option Ab:=
 (lz o).bind λv1=>(jI [111,112] v1).bind λa=>some ⟨o.By,o.Seq,a⟩
theorem AI{o}:DC prog gl (pV o) 18 [.agg (aJ o)] (λr=> .agg (aj r)):=
 cy func18 λK=>JL 8 rY (GX gl) λv1=>BU 9 (yB gl) λa=>rv K
def xq(l:Bj)(n:Int)(s1:Int):Option ((Int)⊕(Unit⊕Bool)):=
 bif s1<ah l then((aS l s1).bind λa=>bif a=n then(some (.inr (.inr true)))else(some (.inl (wI (s1+1)))))else(some (.inr (.inl ())))
def fb(l:Bj)(n:Int):Fw:=
 (AQ (xq l n) 0).bind λa=>ma a (λb=>some false) (λq=>some q)
theorem DD{l n}:DC prog gl (fb l n) 82 [aE cZ l,iG n] bG:=
 cy func82 λK=>Pa 1101 (λa=>sg [] []) (λs1=>sf [] [(5,iG s1)]) [] K (λa=>rv K) λs1 k5 b k6=>aF 9 (CD 14 rZ.ixZ 15 (rZ.p1Y tZ) λc=>aF 17 (aP c3 k6 [])<|rb k5)<|aA c2 b []
def tT(g:AB)(s3:List Bool×Int)(a:List Bool×Int):Option ((List Bool×Int)⊕(List Bool)):=
 (aS g.Up s3.2).bind λb=>bif a.2<ah b then((aS g.Up s3.2).bind λc=>(aS c a.2).bind λd=>(ji a.1 d true).bind λe=>some (.inl (e,wI (a.2+1))))else(some (.inr a.1))
def AJ(g:AB)(up:Bj)(s3:List Bool×Int):Option ((List Bool×Int)⊕(List Bool)):=
 bif 0<=s3.2 then((fb up s3.2).bind λb=>(bif b then((ji s3.1 s3.2 true).bind λc=>some c)else(some s3.1)).bind λa=>(aS a s3.2).bind λd=>bif d then((AQ (tT g s3) (a,0)).bind λe=>some (.inl (e,wI (s3.2-1))))else(some (.inl (a,wI (s3.2-1)))))else(some (.inr s3.1))
def jA(g:AB)(up:Bj):Option (List Bool):=
 (rP 1 (false:Bool) (ah g.L)).bind λa=>(AQ (AJ g up) (a,wI ((ah g.L)-1))).bind λb=>some b
theorem AK{g up}:Mu prog gl (jA g up) 142 [.agg (aI g),aE cZ up] 4 cO:=
 gc func142 λK=>Gq (hmk 11 rO) λq=>Je 11101 (λl=>sp [] [(5,.rsl 0 0 l.length)] [ob 0 4 (l.flatMap cO)] 1) (λs3=>so [0] [(2,.ref 0 0),(5,.rsl 1 0 s3.1.length),(6,iG s3.2)] [ob 0 30 (aI g),ob 1 4 (s3.1.flatMap cO)] 2) (DH rO q) (λl=>mr c0 K (rO.imm _)) λs3 p k6=>aF 17 (BU 22 (DD gl) λm=>cN 111012210201 (sf [] [(22,bG m)]) (DH rO s3.1)<|cC 111012210201 (λa=>so [22] [(5,.rsl 1 0 a.length)] [ob 1 4 (a.flatMap cO)] 2) (λa=>ak λr d=>aw [AA 28 (rO.ixrZ 1 d)]<|kV (λe=>aw [AA 29 (cB (rO.p10Z tO d) e)]<|Je 11101221021131 (λc=>so [] [(5,.rsl 1 0 c.length)] [ob 1 4 (c.flatMap cO)] 2) (λb=>so [] [(5,.rsl 1 0 b.1.length),(7,iG b.2)] [ob 1 4 (b.1.flatMap cO)] 2) (DH rO a) (λc=>cj p (DH rO c)) λb n o=>CD 34 nH.ixZ 35 (nH.p1Y Vs) λs=>aF 37 (CD 44 nH.ixZ 45 (nH.p1Y Vs) λt=>CD 47 rZ.ixZ 48 (rZ.p1Y tZ) λu=>ak λi f=>aw [AA 49 (rO.ixsZ 1 f),hw 49 (i.flatMap cO) (rO.putZ f)]<|cj n [hc (hZ f),hc (rO.imm i)])<|aA c1 o (DH rO b.1)) λe=>aw [AA 29 (cB (rO.p10Z tO d) e)]<|cj p (DH rO a)) λa j=>eH [22] (ak λk h=>aw [AA 25 (rO.ixsZ 1 h),hw 25 (k.flatMap cO) (rO.putZ h)]<|aA c0 j [hc (hZ h),hc (rO.imm k)])<|aA c0 j (DH rO s3.1))<|aA c1 k6 (DH rO s3.1)
def oU(a:Ab)(b:Ab):Fw:=
 bif a.By≠b.By then(some (decide (a.By<b.By)))else(bif a.Seq≠b.Seq then(some (decide (a.Seq<b.Seq)))else(some (decide ((a.Sum:Int)<(b.Sum:Int)))))
theorem oV{a b}:DC prog gl (oU a b) 65 [.agg (aj a),.agg (aj b)] bG:=
 cy func65 λK=>aF 9 (rv K)<|aF 19 (rv K)<|rv K
def E0(kind:Int):Fw:=
 (bif kind=1 then(some true)else(bif kind=2 then(some true)else(bif kind=3 then(some true)else(bif kind=4 then(some true)else(some (decide (kind=13))))))).bind λa=>some a
theorem oX{kind}:DC prog gl (E0 kind) 32 [iG kind] bG:=
 cy func32 λK=>cN [1,0] (sf [] []) []<|cC [1,0] (λa=>sg [] [(2,bG a)]) (λa=>rv K) λa k3=>aF 4 (rx k3)<|aF 8 (rx k3)<|aF 12 (rx k3)<|aF 16 (rx k3)<|rx k3
def mz(o:Bi):Fw:=
 (bif o.Kind=7 then(some true)else(bif o.Kind=8 then(some true)else(bif o.Kind=12 then(some true)else(bif o.Kind=10 then(some true)else(bif o.Kind=11 then(some true)else(some (decide (o.Kind=13)))))))).bind λa=>(bif o.Device≠0 then(bif o.Kind≠2 then(bif o.Kind≠3 then(bif o.Kind≠11 then(some (decide (o.Kind≠13)))else(some false))else(some false))else(some false))else(some false)).bind λg=>bif g then(some false)else((bif o.Old≠0 then(bif o.Kind≠13 then(some true)else(bif o.Member≠0 then(bif o.Kind≠3 then(bif o.Kind≠5 then(some true)else(bif o.Role≠0 then(bif o.Kind≠2 then(some (decide (o.Kind≠5)))else(some false))else(some false)))else(bif o.Role≠0 then(bif o.Kind≠2 then(some (decide (o.Kind≠5)))else(some false))else(some false)))else(bif o.Role≠0 then(bif o.Kind≠2 then(some (decide (o.Kind≠5)))else(some false))else(some false))))else(bif o.Member≠0 then(bif o.Kind≠3 then(bif o.Kind≠5 then(some true)else(bif o.Role≠0 then(bif o.Kind≠2 then(some (decide (o.Kind≠5)))else(some false))else(some false)))else(bif o.Role≠0 then(bif o.Kind≠2 then(some (decide (o.Kind≠5)))else(some false))else(some false)))else(bif o.Role≠0 then(bif o.Kind≠2 then(some (decide (o.Kind≠5)))else(some false))else(some false)))).bind λh=>bif h then(some false)else((bif 0<ah o.Path then((E0 o.Kind).bind λb=>some (!b))else(some false)).bind λi=>bif i then(some false)else((bif o.Kind≠6 then(bif(!decide (o.Epoch=(⟨0,0,0⟩:Ab)))then(some true)else(bif o.N≠0 then(some true)else(some (decide (0<ah o.Refs)))))else(some false):Fw).bind λj12=>bif j12 then(some false)else((bif 0<ah o.Body then(bif o.Kind≠6 then(bif o.Kind≠7 then(some true)else(bif(!decide (o.Of=(⟨0,0,0⟩:Ab)))then(some (!a))else(some false)))else(bif(!decide (o.Of=(⟨0,0,0⟩:Ab)))then(some (!a))else(some false)))else(bif(!decide (o.Of=(⟨0,0,0⟩:Ab)))then(some (!a))else(some false)):Fw).bind λc=>bif c then(some false)else((bif o.Kind≠9 then(bif 0<ah o.Guards then(some true)else(bif o.Wait≠0 then(some true)else(some (decide ((o.Pub:Int)≠((0:Nat):Int))))))else(some false)).bind λd=>bif d then(some false)else((bif o.Need≠0 then(bif o.Kind≠9 then(bif o.Kind≠1 then(some true)else(bif 0<ah o.Boxes then(bif o.Kind≠9 then(bif o.Kind≠10 then(some (decide (o.Kind≠11)))else(some false))else(some false))else(some false)))else(bif 0<ah o.Boxes then(bif o.Kind≠9 then(bif o.Kind≠10 then(some (decide (o.Kind≠11)))else(some false))else(some false))else(some false)))else(bif 0<ah o.Boxes then(bif o.Kind≠9 then(bif o.Kind≠10 then(some (decide (o.Kind≠11)))else(some false))else(some false))else(some false))).bind λe=>bif e then(some false)else((bif ah o.Hist=0 then(some true)else(bif o.Kind=2 then(some true)else(some (decide (o.Kind=13))))).bind λf=>some f)))))))
theorem Jr{o}:DC prog gl (mz o) 305 [.agg (aJ o)] bG:=
 cy func305 λK=>cN 1110 (sp [] [(1,.ref 0 0),(3,iG o.Kind)] [ob 0 50 (aJ o)] 1) []<|cC 1110 (λq=>sf [] [(4,bG q)]) (λq=>OI 111100 (sf [] []) [] 47 (rv K) (OI 1111100 (sf [47] []) [] 80 (rv K) (OI 11111100 (sf [80] []) [] 89 (rv K) (OI 111111100 (sf [89] []) [] 108 (rv K) (cN 1111111100 (sf [108] []) []<|cC 1111111100 (λh=>sf [4] [(130,bG h)]) (λh=>eH [130] (rv K)<|OI 11111111100 (sf [130] []) [] 148 (rv K) (OI 111111111100 (sf [148] []) [] 177 (rv K) (cN 111111111110 (sf [177] []) []<|cC 111111111110 (λi=>sk [] [(2,bG i)] [] 0) (λi=>rv K) λi j=>aF 181 (rx j)<|aF 185 (rx j)<|rx j) λb=>aF 151 (aF 155 (aF 159 (rx b)<|aF 164 (aF 168 (aF 172 (rx b)<|rx b)<|rx b)<|rx b)<|aF 164 (aF 168 (aF 172 (rx b)<|rx b)<|rx b)<|rx b)<|aF 164 (aF 168 (aF 172 (rx b)<|rx b)<|rx b)<|rx b) λf=>aF 132 (aF 137 (rx f)<|aF 142 (rx f)<|rx f)<|rx f) λh c=>aF 112 (aF 116 (aF 120 (rx c)<|kV (λk=>aw [hV 125 (cV (dy o.Of (⟨0,0,0⟩:Ab) rfl) k)]<|rx c) λk=>aw [hV 125 (cV (dy o.Of (⟨0,0,0⟩:Ab) rfl) k)]<|rx c)<|kV (λl=>aw [hV 125 (cV (dy o.Of (⟨0,0,0⟩:Ab) rfl) l)]<|rx c) λl=>aw [hV 125 (cV (dy o.Of (⟨0,0,0⟩:Ab) rfl) l)]<|rx c)<|kV (λm=>aw [hV 125 (cV (dy o.Of (⟨0,0,0⟩:Ab) rfl) m)]<|rx c) λm=>aw [hV 125 (cV (dy o.Of (⟨0,0,0⟩:Ab) rfl) m)]<|rx c) λg=>aF 91 (kV (λn=>aw [hV 96 (cV (dy o.Epoch (⟨0,0,0⟩:Ab) rfl) n)]<|rx g) λn=>aw [hV 96 (cV (dy o.Epoch (⟨0,0,0⟩:Ab) rfl) n)]<|aF 101 (rx g)<|rx g)<|rx g) λp=>aF 84 (BU 87 (oX gl) λr=>rx p)<|rx p) λa=>aF 50 (aF 54 (rx a)<|aF 58 (aF 62 (aF 67 (rx a)<|aF 71 (aF 75 (rx a)<|rx a)<|rx a)<|aF 71 (aF 75 (rx a)<|rx a)<|rx a)<|aF 71 (aF 75 (rx a)<|rx a)<|rx a)<|aF 58 (aF 62 (aF 67 (rx a)<|aF 71 (aF 75 (rx a)<|rx a)<|rx a)<|aF 71 (aF 75 (rx a)<|rx a)<|rx a)<|aF 71 (aF 75 (rx a)<|rx a)<|rx a) λe=>aF 31 (aF 35 (aF 39 (aF 43 (rx e)<|rx e)<|rx e)<|rx e)<|rx e) λq d=>aF 8 (rx d)<|aF 12 (rx d)<|aF 16 (rx d)<|aF 20 (rx d)<|aF 24 (rx d)<|rx d
def fB(n:Int)(low:Int)(a:Int):Fw:=
 (bif low<=n then(some (decide (n<=a)))else(some false)).bind λb=>some b
theorem bJ{n low a}:DC prog gl (fB n low a) 351 [iG n,iG low,iG a] bG:=
 cy func351 λK=>cN [1,0] (sf [] []) []<|cC [1,0] (λb=>sg [] [(6,bG b)]) (λb=>rv K) λb k3=>aF 9 (rx k3)<|rx k3
def AL(n:Nat):Fw:=
 some (decide ((n:Int)<((2305843009213693951:Nat):Int)))
theorem vv{n}:DC prog gl (AL n) 354 [uG n] bG:=
 cy func354 λK=>rv K
def iM(a:Ab):Fw:=
 ((fB a.By 1 12).bind λd=>bif d then((fB a.Seq 1 2147483647).bind λb=>bif b then((AL a.Sum).bind λc=>some c)else(some false))else(some false)).bind λe=>some e
theorem dW{id_}:DC prog gl (iM id_) 352 [.agg (aj id_)] bG:=
 cy func352 λK=>cN [1,0] (sp [] [(1,.ref 0 0)] [ob 0 42 (aj id_)] 1) []<|cC [1,0] (λa=>sk [] [(2,bG a)] [] 0) (λa=>rv K) λa k5=>ak λe e8=>kV (λb=>BU 9 (bJ gl) λc=>aw [hf 5 (cF (bJ gl e8) b)]<|aF 10 (BU 14 (vv gl) λd=>rx k5)<|rx k5) λb=>aw [hf 5 (cF (bJ gl e8) b)]<|rx k5
def Jn(n:Nat):Fw:=
 (bif ((1:Nat):Int)<=(n:Int)then(some (decide ((n:Int)<((2305843009213693951:Nat):Int))))else(some false)).bind λa=>some a
theorem kH{n}:DC prog gl (Jn n) 353 [uG n] bG:=
 cy func353 λK=>cN [1,0] (sf [] []) []<|cC [1,0] (λa=>sg [] [(2,bG a)]) (λa=>rv K) λa k3=>aF 4 (rx k3)<|rx k3
end
end Go.Proofs.YtlimmeehdfbheaaGreatDoor
