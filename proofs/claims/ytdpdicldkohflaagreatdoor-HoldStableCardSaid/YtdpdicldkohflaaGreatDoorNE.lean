/- Texts. -/
import Derived.Laws.StructEq
import Derived.Test.YtdpdicldkohflaaGreatDoorGX
namespace Go.Proofs.YtdpdicldkohflaaGreatDoor
set_option linter.unusedSectionVars false
set_option linter.unusedVariables false
set_option linter.unusedSimpArgs false
open Go.RowKit
variable {α:Type}{a b:Value}{g gx gy v:G}{t u:Bk}{p x y:DC}{e:Exit}{o:Oper}{s st st'':St}{c c' i id j k m n:Nat}{ok r:Bool}{gs l:Bn}{R:Br}{q:Fo}{fid:FuncId}{C:Option Prop}{ps:JK}{ρ:DF}{xs ys:Array Value}{z:Int}
section
variable {P:Bu}
def iEq:Int->Int->Bool
 | .ofNat a,.ofNat b=>Nat.beq a b
 | .negSucc a,.negSucc b=>Nat.beq a b
 |_,_=>false
theorem Py{a b:Int}(h:iEq a b=true):a=b:=by unfold iEq at h;split at h;all_goals grind [bc]
def fe{α:Type}(f:α->α->Bool):List α->List α->Bool
 |[],[]=>true
 |x::r,y::s=>bif f x y then fe f r s else false
 |_,_=>false
theorem bi{α:Type}{f:α->α->Bool}(hf:∀x y,f x y=true->x=y):∀{l m:List α},fe f l m=true->l=m
 |[],[],_=>rfl
 |x::r,y::s,h=>by
  unfold fe at h;cases hx:f x y with
  |false=>grind
  |true=>rw[hx] at h;rw[hf x y hx,bi hf h]
 |[],_::_,h=>by cases h
 |_::_,[],h=>by cases h
def bEq(a b:UInt8):Bool:=Nat.beq a.toNat b.toNat
theorem Pz{a b:UInt8}(h:bEq a b=true):a=b:=UInt8.toNat_inj.1 (bc h)
def X4(a b:Value):Bool:=match a with
 | .int k x=>(match b with
  | .int k' y=>decide (k=k')&&iEq x y
  |_=>false)
 | .bool x=>(match b with
  | .bool y=>x==y
  |_=>false)
 | .string s=>(match b with
  | .string t=>fe bEq s.data.toList t.data.toList
  |_=>false)
 | .slice none n m=>(match b with
  | .slice none n' m'=>Nat.beq n n'&&Nat.beq m m'
  |_=>false)
 |_=>false
theorem Bl(h:X4 a b=true):a=b:=by
 unfold X4 at h;split at h
 .grind [Py]
 .grind
 .rename_i s;split at h
  .rename_i t;have:=bi (λ_ _=>Pz) h;obtain⟨⟨s⟩⟩:=s;simp_all
  .cases h
 all_goals grind [bc]
def dE(a b:Bool):Bool:=bif a then b else false
theorem aZ{a b:Bool}(h:dE a b=true):a=true/\b=true:=by
 cases a with
 |true=>exact⟨rfl,h⟩
 |false=>cases h
def SL(a b:Value):Bool:=match a with
 | .pointer none=>(match b with
  | .pointer none=>true
  |_=>false)
 | .map none=>(match b with
  | .map none=>true
  |_=>false)
 | .nilFunc=>(match b with
  | .nilFunc=>true
  |_=>false)
 | .nilIface=>(match b with
  | .nilIface=>true
  |_=>false)
 | .agg cs=>(match b with
  | .agg ds=>fe X4 cs.toList ds.toList
  |_=>false)
 |a=>X4 a b
theorem DX(h:SL a b=true):a=b:=by unfold SL at h;grind [bi,Bl,Array.toList_inj]
def Vy(a b:Fn):Bool:=match a with
 | .func f=>(match b with
  | .func g=>Nat.beq f g
  |_=>false)
 |_=>false
theorem Nq{a b:Fn}(h:Vy a b=true):a=b:=by unfold Vy at h;grind [bc]
def iF:Nat->G->G->Bool
 |0,_,_=>false
 |k+1,a,b=>match a with
  | .lit v=>(match b with
   | .lit u=>SL v u
   |_=>false)
  | .agg l=>(match b with
   | .agg m=>fe (iF k) l m
   |_=>false)
  | .tup l=>(match b with
   | .tup m=>fe (iF k) l m
   |_=>false)
  | .sl l n=>(match b with
   | .sl m n'=>dE (Nat.beq n n') (fe (iF k) l m)
   |_=>false)
  | .ptr l n=>(match b with
   | .ptr m n'=>dE (Nat.beq n n') (fe (iF k) l m)
   |_=>false)
  | .clo f x y=>(match b with
   | .clo f' x' y'=>dE (Vy f f') (dE (fe (iF k) x x') (fe (iF k) y y'))
   |_=>false)
  | .ifc t g=>(match b with
   | .ifc t' g'=>dE (Nat.beq t t') (iF k g g')
   |_=>false)
  | .ref i o=>(match b with
   | .ref i' o'=>dE (Nat.beq i i') (Nat.beq o o')
   |_=>false)
  | .rsl i o n=>(match b with
   | .rsl i' o' n'=>dE (Nat.beq i i') (dE (Nat.beq o o') (Nat.beq n n'))
   |_=>false)
  | .mref i=>(match b with
   | .mref i'=>Nat.beq i i'
   |_=>false)
  | .yld i=>(match b with
   | .yld i'=>Nat.beq i i'
   |_=>false)
  | .junk=>(match b with
   | .junk=>true
   |_=>false)
  | .mp _ _ _ _=>false
  | .rsr _ _=>false
theorem Ge:∀(k:Nat) (a b:G),iF k a b=true->a=b
 |0,a,b,h=>by cases h
 |k+1,a,b,h=>by
  unfold iF at h;split at h
  .grind [DX]
  .split at h
   .rw[bi (Ge k) h]
   .cases h
  .split at h
   .rw[bi (Ge k) h]
   .cases h
  .split at h
   .obtain⟨h1,h2⟩:=aZ h;rw[bc h1,bi (Ge k) h2]
   .cases h
  .split at h
   .obtain⟨h1,h2⟩:=aZ h;rw[bc h1,bi (Ge k) h2]
   .cases h
  .split at h
   .obtain⟨h1,h2⟩:=aZ h;obtain⟨h2,h3⟩:=aZ h2;rw[Nq h1,bi (Ge k) h2,bi (Ge k) h3]
   .cases h
  .split at h
   .obtain⟨h1,h2⟩:=aZ h;rw[bc h1,Ge k _ _ h2]
   .cases h
  all_goals grind [aZ,bc]
theorem th.eqv{o:Oper}{st:St}{S T:St->Prop}(h:th P o st S)(e:∀s,S s->∃s',T s'/\X8 s s'):th P o st T:=λcx a w K R r k=>h cx a w K R r λs hs a' w' r'=>by obtain⟨s',h1,h2⟩:=e s hs;exact k s' h1 a' w' (h2.rel r')
theorem GS.eqv{o:Oper}{st s s':St}(h:GS P o st s)(e:X8 s s'):GS P o st s':=λcx a w K R r k=>h cx a w K R r (by grind [X8.rel])
def jO:aQ->Nat->Option Ob->aQ
 |[],d,g=>[(d,g)]
 |(e,h)::r,d,g=>bif e.beq d then(d,g)::r else(e,h)::jO r d g
theorem ZW:∀(σ:aQ) (d:Nat) (g:Option Ob) (i:Nat),ag (jO σ d g) i=if d=i then g else ag σ i
 |[],d,g,i=>by show ag [(d,g)] i=_;rw[Bf]
 |(e,h)::r,d,g,i=>by
  unfold jO;by_cases he:e=d
  .grind [Nat.beq_refl]
  .have:Nat.beq e d=false:=by grind [bc]
   rw[this];simp only[Be,Bf];rw[ZW r d g i];grind
def pj(n:Nat):Option Tmp->Bool
 |some d=>Nat.ble (d+1) n
 |none=>true
theorem Sx{n:Nat}{d:Option Tmp}(h:pj n d=true):∀x,d=some x->x<n:=λx e=>by subst e;exact D5 h
def A5:Bn->Option CY
 |[]=>some []
 | .lit (.int .u8 n)::r=>if 0<=n/\n<256 then(A5 r).map λl=>UInt8.ofNat n.toNat::l else none
 |_=>none
theorem A6:∀{l:Bn} {s:CY},A5 l=some s->l=s.map gY
 |[],s,h=>by grind [A5]
 |g::r,s,h=>by
  unfold A5 at h;split at h
  .grind
  .rename_i n r' h0;cases h0;split at h
   .rename_i hc;simp only[DP] at h;obtain⟨l,hl,rfl⟩:=h;rw[Fe,<-A6 hl];congr 2;have:(UInt8.ofNat n.toNat).toNat=n.toNat:=by simp;omega
    grind
   .cases h
  .cases h
def iQ(P:Bu)(σ:aQ)(s t:Bk)(g:G):Option G:=match g with
 | .lit (.int k n)=>Qa P s t (.lit (.int k n))
 | .lit (.string b)=>match dp P t with
  |some e=>match xR P e with
   |some .u8=>bif nu P s&&Nat.ble b.data.toList.length 9223372036854775807 then some (Kb b.data.toList)else none
   |_=>none
  |none=>none
 |g=>match dp P s with
  |some e=>match xR P e with
   |some .u8=>match fO σ 1 g with
    |some (l,m)=>match A5 l with
     |some bs=>bif nu P t&&Nat.beq bs.length m then some (.lit (.string ⟨bs.toArray⟩))else none
     |none=>none
    |none=>none
   |_=>none
  |none=>none
def Hc(P:Bu)(σ:aQ)(c:Nat)(t u:Bk)(gx gy:G):Option (Bk×Nat×Nat×Bn):=match gy with
 | .lit (.string b)=>match dp P t with
  |some e=>match bw P e,(P.info? e).bind (·.zero),(P.info? e).map (·.bytes) with
   |some 1,some (.int .u8 0),some 1=>match xO σ c e 1 gx with
    |some (i,n,l)=>bif nu P u&&Nat.ble (n+b.data.toList.length) 140737488355328 then some (e,i,n+b.data.toList.length,l++b.data.toList.map gY)else none
    |none=>none
   |_,_,_=>none
  |none=>none
 |_=>none
def nI(k:IntKind)(z:Int):Option G:=some (.lit (.int k z))
def nB(b:Bool):Option G:=some (.lit (.bool b))
theorem X0(k:IntKind)(z:Int):nI k z=some (.lit (.int k z)):=rfl
theorem X1(b:Bool):nB b=some (.lit (.bool b)):=rfl
def lD(op:BinOp)(gx gy:G):Option G:=match gx with
 | .lit (.int k a)=>match gy with
  | .lit (.int k' b)=>if k=k' then(match op with
   | .add=>nI k (k.wrap (a+b))
   | .sub=>nI k (k.wrap (a-b))
   | .mul=>nI k (k.wrap (a*b))
   | .lss=>nB (decide (a<b))
   | .leq=>nB (decide (a<=b))
   | .gtr=>nB (decide (b<a))
   | .geq=>nB (decide (b<=a))
   | .eql=>nB (decide (a=b))
   | .neq=>nB (decide (a≠b))
   | .quo=>if b=0 then none else nI k (k.wrap (a.tdiv b))
   | .rem=>if b=0 then none else nI k (a.tmod b)
   |_=>none)else none
  |_=>none
 |_=>none
theorem AdM{op:BinOp}(h:lD op gx gy=some g):b8 P op t x y gx gy=some g:=by
 unfold lD at h;simp only[X0,X1] at h;split at h
 .grind [VM,VN,VO,VP,VQ,VR,VS,VT,VU,VV,VW]
 .cases h
def A8(a b:Nat):Nat:=bif Nat.ble a b then b else a
theorem xz(a b:Nat):a<=A8 a b:=by
 unfold A8;cases h:Nat.ble a b with
 |true=>simp_all
 |false=>grind
theorem xA(a b:Nat):b<=A8 a b:=by grind [A8,N8]
theorem Tr.eqv{c:Code}{st:St}{Q:Exit->St->Prop}(h:Tr P c st (λe s=>∃s',X8 s s'/\Q e s')):Tr P c st Q:=λcx a w R r k=>h cx a w R r λe s a' w' ⟨s',h1,h2⟩ r'=>k e s' a' w' h2 (h1.rel r')
def tc:Exit->Bool
 | .normal| .ret=>true
 |_=>false
theorem eO(h:tc e=true):e= .normal\/e= .ret:=by grind [tc]
def vR(P:Bu)(s:St):List ResultVar->Option Bn
 |[]=>some []
 |r::rs=>match jV P s r,vR P s rs with
  |some g,some gs=>some (g::gs)
  |_,_=>none
theorem gh{s:St}:∀{rs:List ResultVar} {gs:Bn},vR P s rs=some gs->rs.mapM (jV P s)=some gs
 |[],gs,h=>by grind [vR]
 |r::rs,gs,h=>by
  simp only[vR] at h;split at h
  .rename_i g a h1 h2;cases h;simp[List.mapM_cons,h1,gh h2]
  .cases h
theorem Bd{s:Bk}(ho:o.op= .convert s t x)(hd:LP o st.n)(h:iQ P st.σ s t (aB st x)=some g):GS P o st (st.put o.dst g):=by
 obtain⟨a,op,ty,pos,d,gd⟩:=o;obtain rfl:op= .convert s t x:=ho;unfold iQ at h;split at h
 .rename_i k n hg;exact fM hd (by grind [Qe])
 .rename_i b hg;split at h
  .rename_i e he;split at h
   .rename_i hi;cases hc:(nu P s&&Nat.ble b.data.toList.length 9223372036854775807) with
    |false=>grind
    |true=>rw[hc] at h;simp only[bA] at hc;cases h;exact Kd (s:=b.data.toList) rfl hd hc.1 he hi (by rw[hg]) (D5 hc.2)
   .cases h
  .cases h
 .split at h
  .rename_i e he;split at h
   .rename_i hi;split at h
    .rename_i l m hv;split at h
     .rename_i c hy;cases hc:(nu P t&&Nat.beq c.length m) with
      |false=>grind
      |true=>rw[hc] at h;simp only[bA] at hc;cases h;have hm:=bc hc.2;exact HT rfl hd he hi hc.1 (by grind [A6])
     .cases h
    .cases h
   .cases h
  .cases h
theorem Ac{parts:Array (Nat×DC)}{st':St}(h:∀x∈parts.map (·.2),aB st' x=aB st x):(parts.toList.map λq=>(q.1,aB st' q.2))=parts.toList.map λq=>(q.1,aB st q.2):=
 by grind [List.map_congr_left]
structure Sub (st st':St):Prop where
 n:st'.n=st.n
 gl:st'.gl=st.gl
 fr:∀i,aD st'.fr i=aD st.fr i
 σ:∀i o,ag st'.σ i=some o->ag st.σ i=some o
 c:st'.c=st.c
 p:st'.p=st.p
 r:st'.r=st.r
theorem Sub.rel{st st':St}(e:Sub st st'){cx:Cx}{a:Act}{w:World}(h:mh P cx st a w):mh P cx st' a w:=by
 obtain⟨β,h⟩:=h;have hS:∀b',b'<w.heap.size->Av cx.S0 β st'.σ b'->Av cx.S0 β st.σ b':=by grind [σ]
 refine⟨β,?_⟩;exact{
  size:=by rw[e.n];exact h.size
  defers:=h.defers
  loose:=h.loose
  rnd:=by rw[e.r];exact h.rnd
  fr:=λi=>by rw[e.fr];exact(h.fr i).step (by grind) hS (A9.refl _ _)
  ob:=λi o ho=>(h.ob i o (e.σ i o ho)).step (by grind) hS (A9.refl _ _) (by grind)
  inj:=λi j o d b C D h1 h2=>h.inj i j o d b C D (e.σ i o h1) (e.σ j d h2)
  own:=λi o b C h1=>h.own i o b C (e.σ i o h1)
  sep:=λi o b C h1=>h.sep i o b C (e.σ i o h1)
  fresh:=λi hi=>h.fresh i (by rw[<-e.c];exact hi)
  glob:=λg l hl=>(h.glob g l (by rw[<-e.gl];exact hl)).sub hS
  keep:=h.keep
  old:=h.old
  pin:=λi x hx=>by rw[e.p];exact h.pin i x hx}
theorem th.sub{o:Oper}{st:St}{S T:St->Prop}(h:th P o st S)(e:(∀i o,ag st.σ i=some o->i<st.c)->∀s,S s->∃s',T s'/\Sub s s'):th P o st T:=λcx a w K R r k=>h cx a w K R r λs hs a' w' r'=>by
 obtain⟨s',h1,h2⟩:=e (λi ob ho=>by obtain⟨β,rb⟩:=r;grind [RO.at]) s hs
 exact k s' h1 a' w' (h2.rel r')
theorem Ae(e:X8 st s)(d:Option Tmp)(g:G):X8 (st.put d g) (s.put d g):=by
 cases d with
 |none=>exact e
 |some d=>exact⟨e.n,e.gl,λi=>by show aD ((d,g)::s.fr) i=aD ((d,g)::st.fr) i;rw[aO,aO,e.fr],e.σ,e.c,e.p,e.r⟩
theorem Af{σ σ':aQ}(h1:∀i,ag σ' i=ag σ i)(h2:c'=c):X8 {st with σ:=σ,c:=c} {st with σ:=σ',c:=c'}:=⟨rfl,rfl,λ_=>rfl,h1,h2,rfl,rfl⟩
theorem LM{σ σ':aQ}(h1:∀i o,ag σ' i=some o->ag σ i=some o)(h2:c'=c):Sub {st with σ:=σ,c:=c} {st with σ:=σ',c:=c'}:=⟨rfl,rfl,λ_=>rfl,h1,h2,rfl,rfl⟩
theorem LN(e:Sub st s)(d:Option Tmp)(g:G):Sub (st.put d g) (s.put d g):=by
 cases d with
 |none=>exact e
 |some d=>exact⟨e.n,e.gl,λi=>by show aD ((d,g)::s.fr) i=aD ((d,g)::st.fr) i;rw[aO,aO,e.fr],e.σ,e.c,e.p,e.r⟩
def fR:G->Br
 | .ref i _=>[i]
 | .rsl i _ _=>[i]
 | .rsr i _=>[i]
 | .mref i=>[i]
 |_=>[]
def fX(o:Option Ob):Bool:=match o with
 |some ⟨_,_,some .resv⟩=>true
 |_=>false
def aai(o:Oper):Bool:=match o.op with
 | .alloc _| .box .. | .buildSlice .. | .makeSlice .. =>true
 | .call {callee:= .builtin .append,.. }=>true
 |_=>false
theorem Hy{o:Option Ob}(h:fX o=true):∃ob,o=some ob/\ob.x=some .resv:=by unfold fX at h;grind
theorem wb{σ:aQ}{ob:Option Ob}(i:Nat):ag ([(k,ob)]++σ) i=ag ((k,ob)::(k,none)::σ) i:=by grind
theorem lL{f:Nat->Option Ob}{i:Nat}:∀{l:Br},ag (l.map λi=>(i,f i)) i=if i∈l then f i else none
 |[]=>by simp[ag]
 |x::r=>by
  rw[Fe,Bf];by_cases e:x=i
  .grind
  .rw[BU e,lL (l:=r)];grind
theorem GS.bound{o:Oper}{st s s':St}(h:GS P o st s)(hs:(∀i ob,ag st.σ i=some ob->i<st.c)->Sub s s'):GS P o st s':=
 (th.sub (S:=λx=>x=s) (T:=λx=>x=s') h.gsn (by grind)).gs λx hx=>hx
def vU(P:Bu)(ops:Array Oper)(K:St->Prop):Hv->St->Prop
 |[],st=>K st
 |o::rest,st=>(ce st ops o=some true/\th P o st (vU P ops K rest))\/(ce st ops o=some false/\(∀d,o.dst=some d->d<st.n)/\vU P ops K rest (st.put o.dst (.lit undef)))
theorem ux{ops:Array Oper}{K:St->Prop}{cx:Cx}{Q:Exit->Act->World->Prop}(c:∀st a w,K st->mh P cx st a w->Q .normal a w):∀(l:Hv) (st:St) (a:Act) (w:World),vU P ops K l st->mh P cx st a w->wpListIn cx.F cx.nn P ops Q l a w
 |[],st,a,w,h,r=>wpListIn_nil (c st a w h r)
 |o::rest,st,a,w,h,r=>by
  obtain⟨β,rb⟩:=r;rcases h with⟨hg,hs⟩|⟨hg,hd,hr⟩
  .refine wpListIn_step λK' b=>?_;rw[BB (cT rb hg)];exact hs cx a w K' Q ⟨β,rb⟩ λs hs' a' w' r'=>b _ _ (ux c rest s a' w' hs' r')
  .refine wpListIn_step λK' b=>?_;rw[BU (by grind [cT])];exact⟨λf _=>rb.loose.fn f,b _ _ (ux c rest _ _ w hr ⟨β,rb.put o.dst hd (.imm _ _ (.lit _))⟩)⟩
theorem lG{l:Hv}{st:St}{Q:Exit->St->Prop}(h:vU P l.toArray (Q .normal) l st):Tr P (.region id l.toArray false) st Q:=λcx a w R r k=>
 (by grind [wpIn_region_lit,ux])
def Nm(o:Oper)(k:Nat):Nat:=bif aai o then k+1 else k
theorem sv:∀(n:Nat) (s:St),(ff n s).n=s.n/\(ff n s).gl=s.gl/\s.c<=(ff n s).c/\∀i,i<s.c->ag (ff n s).σ i=ag s.σ i
 |0,s=>⟨rfl,rfl,Dl _,λ_ _=>rfl⟩
 |n+1,s=>by obtain⟨a,b,c,d⟩:=sv n {s with σ:=(s.c,some BC)::s.σ,c:=s.c+1};grind [ff]
def UN:Hv->Nat
 |[]=>0
 |o::r=>Nm o (UN r)
theorem Hu{K K':St->Prop}{Q Q':Exit->St->Prop}(hk:∀s,K s->K' s)(hq:∀e s,Q e s->Q' e s)(h:uE K Q e s):uE K' Q' e s:=by cases e<;>simp only[uE] at h⊢<;>first|exact hk s h|grind
theorem DU{K:St->Prop}{Q:Exit->St->Prop}(he:e≠ .normal)(h:Q e st):uE K Q e st:=by grind [uE]
theorem UP{Q:Exit->St->Prop}(he:e≠ .exit id)(h:Q e st):pu id Q e st:=by cases e<;>grind [pu]
def vQ:aQ->Nat->aQ
 |[],_=>[]
 |(e,h)::r,d=>bif e.beq d then vQ r d else(e,h)::vQ r d
theorem li(d i:Nat):∀σ:aQ,ag (vQ σ d) i=if d=i then none else ag σ i
 |[]=>by simp[vQ,ag]
 |(e,h)::r=>by
  have:=li d i r;cases hb:Nat.beq e d with
  |true=>grind [bc,vQ]
  |false=>
   have:e≠d:=λe=>by simp_all
   grind [vQ]
def upd(U σ:aQ):aQ:=U.foldr (λq σ=>match q.2 with
 |none=>vQ σ q.1
 |some ob=>bif(ag σ q.1).isSome then jO σ q.1 (some ob)else(q.1,some ob)::σ) σ
theorem Wx(i:Nat)(σ:aQ):∀U:aQ,ag (upd U σ) i=ag (U++σ) i
 |[]=>rfl
 |(j,o)::r=>by have ih:=Wx i σ r;grind [upd,li,ZW]
abbrev XF:=G×aQ×Br×Fo
def R8(st:St)(k:Nat):Bool:=fX (ag st.σ k)&&Nat.ble st.p k
def xw(g:G)(R:Br)(q:Nat×Ob):XF:=(g,[(q.1,some q.2)],R,none)
def xn(g:G)(k:Nat)(ob:Ob)(R:Br):XF:=(g,[(k,some ob)],k::R,none)
def xv(R:Br)(g:G):XF:=(g,[],R,none)
def aa2(P:Bu)(σ:aQ)(t u:Bk)(gx gy:G):Option (Bk×Nat×Nat×Bn):=bif Nat.beq t u then wu P σ 0 t gx gy else Hc P σ 0 t u gx gy
def Aa3(σ:aQ)(g:G):Br:=match gR σ g with
 |some (_,_,some j,_,_,_)=>j::fR g
 |_=>fR g
def Alt(P:Bu)(t:Bk)(l:List (Nat×G)):Option G:=match uH P t l with
 |some g=>some g
 |none=>FO P t l
def xop(P:Bu)(o:Oper)(st:St)(k:Nat):Option XF:=match o.op with
 | .buildSlice t m parts=>bif R8 st k then(Yd P t m (parts.toList.map λq=>(q.1,aB st q.2))).map λ(e,l)=>xn (.rsl k 0 m) k ⟨e,l,none⟩ []else none
 | .makeSlice t x y=>bif R8 st k then(tI P t (aB st x) (aB st y)).map λ(e,l,n)=>xn (.rsl k 0 n) k ⟨e,l,none⟩ []else none
 | .box t x=>bif R8 st k then(S6 P t (aB st x)).map λl=>xn (.ref k 0) k ⟨t,l,none⟩ []else none
 | .alloc t=>bif R8 st k then(FJ P t).map λl=>xn (.ref k 0) k ⟨t,l,none⟩ []else none
 | .makeMap t r=>bif rC P t (r.map (aB st))then some (.mref st.c,[(st.c,some ⟨t,[],some (.map [] 0)⟩)],[],some (st.c+1))else none
 | .range t x=>(B9 P st.σ t (aB st x)).map λob=>(.ref st.c 0,[(st.c,some ⟨t,[],some ob⟩)],fR (aB st x),some (st.c+1))
 | .store t x y=>(FK P st.σ t (aB st x) (aB st y)).map (xw (.lit undef) (fR (aB st x)))
 | .mapUpdate t x y z=>(dZ P st.σ t (aB st x) (aB st y) (aB st z)).map (xw (.lit undef) (fR (aB st x)))
 | .insert t x y z=>(dZ P st.σ t (aB st x) (aB st y) (aB st z)).map (xw (.lit undef) (fR (aB st x)))
 | .mapEntry t x y=>(ov P st.σ t (aB st x) (aB st y)).map λ(i,ob,g)=>xw g (fR (aB st x)) (i,ob)
 | .entryStore _ x y z=>(jX st.σ (aB st x) (aB st y) (aB st z)).map (xw (.lit undef) (fR (aB st x)))
 | .call ⟨.builtin .append,⟨[x,y]⟩,⟨[t,u]⟩⟩=>bif R8 st k then(match aB st x with
  | .rsl i 0 n=>(aa2 P st.σ t u (.rsl i 0 n) (aB st y)).map λ(e,_,m,l)=>(.rsl k 0 m,[(k,some ⟨e,l,none⟩),(i,none)],k::i::fR (aB st y),none)
  | .lit (.slice none 0 0)=>(aa2 P st.σ t u (.lit (.slice none 0 0)) (aB st y)).map λ(e,_,m,l)=>xn (.rsl k 0 m) k ⟨e,l,none⟩ (fR (aB st y))
  |_=>none)else none
 | .call ⟨.builtin .delete,⟨[x,y]⟩,⟨[t,_]⟩⟩=>(FN P st.σ t (aB st x) (aB st y)).map (xw (.tup []) (fR (aB st x)))
 | .call ⟨.builtin .clear,⟨[x]⟩,⟨[t]⟩⟩=>(rF P st.σ t (aB st x)).map (xw (.tup []) (fR (aB st x)))
 | .call ⟨.builtin .copy,⟨[x,y]⟩,⟨[t,_]⟩⟩=>(Qq P st.σ t (aB st x) (aB st y)).map λ(i,ob,n)=>xw (.lit (.int .i64 (n:Int))) (fR (aB st x)++fR (aB st y)) (i,ob)
 | .call ⟨.builtin .min,⟨[x,y]⟩,_⟩=>(Qb (aB st x) (aB st y)).map (xv [])
 | .call ⟨.builtin .max,⟨[x,y]⟩,_⟩=>(Qc (aB st x) (aB st y)).map (xv [])
 | .call ⟨.builtin .len,⟨[x]⟩,⟨[t]⟩⟩=>(match ou P st.σ t (aB st x) with|some g=>some g|none=>aX P (aB st) [] o).map (xv (fR (aB st x)))
 | .build t parts=>(Alt P t (parts.toList.map λq=>(q.1,aB st q.2))).map (xv [])
 | .slice t x (some lo) (some hi) (some mx)=>(sJ P t (aB st x) (aB st lo) (aB st hi) (aB st mx)).map (xv [])
 | .convert s t x=>(iQ P st.σ s t (aB st x)).map (xv (fR (aB st x)))
 | .binOp op t x y _=>(match lD op (aB st x) (aB st y) with
  |some g=>some g
  |none=>match FL P op t (aB st x) (aB st y) with
   |some g=>some g
   |none=>aX P (aB st) [] o).map (xv [])
 | .lookup t x y ok=>(bL P st.σ t ok (aB st x) (aB st y)).map (xv (fR (aB st x)))
 | .entry x=>(jr st.σ (aB st x)).map (xv (Aa3 st.σ (aB st x)))
 | .load t x=>(jU P st.σ t (aB st x)).map (xv (fR (aB st x)))
 |_=>(aX P (aB st) [] o).map (xv [])
structure Lk (o:Oper) (st st'':St) (x:XF):Prop where
 n:st''.n=st.n
 gl:st''.gl=st.gl
 p:st''.pr=st.pr
 c:x.2.2.2.isSome=true->st''.c=st.c
 σ:∀i∈x.2.2.1,ag st''.σ i=ag st.σ i
 x:∀y∈o.op.operands,aB st'' y=aB st y
def lay(st:St)(o:Oper)(x:XF):St:={st with σ:=x.2.1++st.σ,c:=x.2.2.2.getD st.c}.put o.dst x.1
def X6(P:Bu)(o:Oper)(st:St)(x:XF):Prop:=∀a,Lk o st a x->GS P o a (lay a o x)
section
variable {σ σ':aQ} {g:G}
theorem AgZ(h:∀i∈fR g,ag σ' i=ag σ i):jU P σ' t g=jU P σ t g:=by cases g<;>grind [jU,fR]
theorem KX(h:∀i∈fR g,ag σ' i=ag σ i):Lw σ' g=Lw σ g:=by cases g<;>grind [Lw,fR]
theorem Vn(h:∀i∈fR g,ag σ' i=ag σ i)(s:Nat):fO σ' s g=fO σ s g:=by unfold fO;split<;>simp_all [fR]
theorem AeQ(h:∀i∈fR g,ag σ' i=ag σ i):B9 P σ' t g=B9 P σ t g:=by have:=KX h;unfold B9;grind
theorem Ag0(h:∀i∈fR g,ag σ' i=ag σ i):ou P σ' t g=ou P σ t g:=by have:=KX h;unfold ou;grind
theorem AcY{k:G}(h:∀i∈fR g,ag σ' i=ag σ i):bL P σ' t ok g k=bL P σ t ok g k:=by have:=KX h;grind [bL]
theorem AcZ{s:Bk}(h:∀i∈fR g,ag σ' i=ag σ i):iQ P σ' s t g=iQ P σ s t g:=by have:=Vn h 1;unfold iQ;split<;>simp_all
theorem Ag1(h:∀i∈fR g,ag σ' i=ag σ i):gR σ' g=gR σ g:=by unfold gR;split<;>simp_all [fR]
theorem Wy(h:∀i∈Aa3 σ g,ag σ' i=ag σ i):jr σ' g=jr σ g/\Aa3 σ' g=Aa3 σ g:=by have h1:=Ag1 (σ:=σ) (σ':=σ') (g:=g);have h2:=λj=>KX (σ:=σ) (σ':=σ') (g:= .mref j);grind [Aa3,jr,fR]
end
theorem QI(h:R8 st k=true):zB st (some k):=by simp only[R8,bA] at h;obtain⟨ob,h1,h2⟩:=Hy h.1;exact⟨D5 h.2,ob,h1,h2⟩
theorem nl{σ U:aQ}(h:GS P o st ({st with σ:=σ,c:=c}.put o.dst g))(a:∀i,ag (U++st.σ) i=ag σ i):GS P o st ({st with σ:=U++st.σ,c:=c}.put o.dst g):=h.eqv (Ae (Af a rfl) _ _)
theorem AeR{σ:aQ}{e:Bk}{s c:Nat}(h:xO σ 0 e s g=some (i,n,l)):∃a,xO σ c e s g=some (a,n,l)/\((∃j n,g= .rsl j 0 n/\a=j)\/g= .lit (.slice none 0 0)/\a=c):=by unfold xO at h⊢;grind [Gd]
theorem Ac0{e:Bk}(ho:o.op= .call ⟨.builtin .append,⟨[x,y]⟩,⟨[t,u]⟩⟩)(hd:LP o st.n)(hk:R8 st k=true)(hg:aa2 P st.σ t u (aB st x) (aB st y)=some (e,i,m,l)):∃a,((∃j n,aB st x= .rsl j 0 n/\a=j)\/aB st x= .lit (.slice none 0 0)/\a=st.c)/\GS P o st ({st with σ:=(k,some ⟨e,l,none⟩)::(a,none)::st.σ}.put o.dst (.rsl k 0 m)):=by
 unfold aa2 at hg;cases htu:Nat.beq t u with
 |true=>
  obtain rfl:=bc htu;rw[htu] at hg;simp only[ax,wu,Gd] at hg;obtain⟨e',he,s,hs,zs,hz,b,hb,⟨a,n,f⟩,hx,⟨d,h⟩,hy,hg⟩:=hg;obtain⟨i1,h1,h2⟩:=AeR (c:=st.c) hx;split at hg
  .rename_i hc;simp only[Fa,Fq] at hg;obtain⟨rfl,rfl,rfl,rfl⟩:=hg;exact⟨i1,h2,J4 (pl:=some k) ho hd he hs hc.1 hz hc.2.1 hb h1 hy (by grind [maxLen]) hc.2.2.2 (QI hk)⟩
  .cases hg
 |false=>
  rw[htu] at hg;simp only[Be,Hc] at hg;split at hg
  .rename_i b hy;split at hg
   .rename_i e' he;split at hg
    .rename_i h1 h2 h3;split at hg
     .rename_i a n f hx;obtain⟨i1,h4,h5⟩:=AeR (c:=st.c) hx;cases hc:(nu P u&&Nat.ble (n+b.data.toList.length) 140737488355328) with
      |false=>grind
      |true=>rw[hc] at hg;simp only[bA] at hc;cases hg;exact⟨i1,h5,Kc (pl:=some k) (s:=b.data.toList) ho hd he hc.1 h1 h2 h3 h4 (by rw[hy]) (by simp_all) (QI hk)⟩
     .cases hg
    .cases hg
   .cases hg
  .cases hg
theorem ZX(ho:o.op= .load t x)(hd:LP o st.n)(h:jU P st.σ t (aB st x)=some g):GS P o st (st.put o.dst g):=fM hd (by obtain⟨a,op,ty,pos,b,gd⟩:=o;obtain rfl:op=_:=ho;exact h)
theorem SA{ρ:DC->G}{σ:aQ}(hl:∀t x,o.op≠ .load t x)(h:aX P ρ [] o=some g):aX P ρ σ o=some g:=by
 obtain⟨d,op,ty,pos,e,gd⟩:=o;cases op with
 |load t x=>grind
 |slice t x lo hi mx=>cases mx<;>exact h
 |call c=>
  obtain⟨a,args,ats⟩:=c;cases a with
  |builtin b=>cases b<;>exact h
  |_=>exact h
 |_=>exact h
theorem Ajc{U:aQ}(hd:LP o st.n)(h:xop P o st k=some (g,U,R,q)):GS P o st ({st with σ:=U++st.σ,c:=q.getD st.c}.put o.dst g):=by
 obtain⟨d,op,ty,pos,j,gd⟩:=o;have one:∀{a:Option G} {R':Br},a.map (xv R')=some (g,U,R,q)->a=some g/\U=[]/\q=none:=λ{a R'} h=>by cases a<;>simp[xv] at h;grind
 have mk:∀{b:Bool} {a:Option XF},(bif b then a else none)=some (g,U,R,q)->b=true/\a=some (g,U,R,q):=by grind
 unfold xop at h;dsimp only at h;split at h
 .obtain⟨hk,h⟩:=mk h;obtain⟨⟨e,l⟩,hg,h⟩:=DP.1 h;cases h;exact nl (P9 (pl:=some k) rfl hd hg (QI hk)) wb
 .obtain⟨hk,h⟩:=mk h;obtain⟨⟨e,l,n⟩,hg,h⟩:=DP.1 h;cases h;exact nl (HV (pl:=some k) rfl hd hg (QI hk)) wb
 .obtain⟨hk,h⟩:=mk h;obtain⟨l,hg,h⟩:=DP.1 h;cases h;simp only[S6,Gd] at hg;obtain⟨p,h1,s,h2,hg⟩:=hg;split at hg<;>cases hg;exact nl (L5 (pl:=some k) rfl hd h1 (by rw[Pa h2];assumption) (QI hk)) wb
 .obtain⟨hk,h⟩:=mk h;obtain⟨l,hg,h⟩:=DP.1 h;cases h;simp only[FJ,Gd] at hg;obtain⟨zs,h1,s,h2,hg⟩:=hg;split at hg<;>cases hg;exact nl (Ed (pl:=some k) rfl hd h1 (by rw[Pa h2];assumption) (QI hk)) wb
 .cases hg:rC P ‹_› ((‹Option DC›).map (aB st))<;>rw[hg] at h<;>cases h;exact B8 rfl hd hg
 .obtain⟨ob,hg,h⟩:=DP.1 h;cases h;exact H2 rfl hd hg
 .obtain⟨q,hg,h⟩:=DP.1 h;cases h;exact Qg rfl hd hg
 .obtain⟨q,hg,h⟩:=DP.1 h;cases h;exact iW (.inl rfl) hd hg
 .obtain⟨q,hg,h⟩:=DP.1 h;cases h;exact iW (.inr rfl) hd hg
 .obtain⟨⟨i,ob,r⟩,hg,h⟩:=DP.1 h;cases h;exact yU rfl hd hg
 .obtain⟨q,hg,h⟩:=DP.1 h;cases h;exact tJ rfl hd hg
 .obtain⟨hk,h⟩:=mk h;split at h
  .rename_i i n hx;obtain⟨⟨e,f,m,l⟩,hg,h⟩:=DP.1 h;cases h;obtain⟨i1,h1,h2⟩:=Ac0 rfl hd hk (by rw[hx];exact hg);grind
  .rename_i hx;obtain⟨⟨e,f,m,l⟩,hg,h⟩:=DP.1 h;cases h;obtain⟨i1,h1,h2⟩:=Ac0 rfl hd hk (by rw[hx];exact hg);grind [GS.bound,LN,LM]
  .cases h
 .obtain⟨q,hg,h⟩:=DP.1 h;cases h;exact NM rfl hd hg
 .obtain⟨q,hg,h⟩:=DP.1 h;cases h;exact Qp rfl hd hg
 .obtain⟨⟨i,ob,n⟩,hg,h⟩:=DP.1 h;cases h;exact Tc rfl hd hg
 all_goals
  obtain⟨h',rfl,rfl⟩:=one h
  clear h one mk
  have h:=h'
 .exact fM hd (S4 h)
 .exact fM hd (S5 h)
 .split at h
  .rename_i hg;cases h;exact Ta rfl hd hg
  .exact fM hd (SA aC h)
 .unfold Alt at h;split at h
  .rename_i hg;cases h;exact BO rfl hd hg
  .exact NO rfl hd h
 .exact En rfl hd h
 .exact Bd rfl hd h
 .split at h
  .rename_i hg;cases h;exact fM hd (by grind [rA,AdM])
  split at h
  .rename_i hg;cases h;exact NL rfl hd hg
  .exact fM hd (SA aC h)
 .exact xS rfl hd h
 .exact H3 rfl hd h
 .exact ZX rfl hd h
 .rename_i hl;exact fM hd (SA hl h)
theorem Ajd{U:aQ}(h:xop P o st k=some (g,U,R,q))(L:Lk o st st'' (g,U,R,q)):xop P o st'' k=some (g,U,R,q):=by
 obtain⟨_,_,hn,hc,c,hx⟩:=L;obtain⟨d,op,ty,pos,j,gd⟩:=o;have hp:st''.p=st.p:=by grind [St.pr]
 have mk:∀{a a':Option XF},(bif R8 st k then a else none)=some (g,U,R,q)->(a=some (g,U,R,q)->k∈R/\a'=some (g,U,R,q))->(bif R8 st'' k then a' else none)=some (g,U,R,q):=by grind [R8]
 have one:∀{α:Type} {a b:Option α} {f:α->XF},a.map f=some (g,U,R,q)->(∀x,f x=(g,U,R,q)->b=a)->b.map f=some (g,U,R,q):=by grind [DP]
 have vl:∀{a b:Option G} {R':Br},a.map (xv R')=some (g,U,R,q)->((∀x∈R',ag st''.σ x=ag st.σ x)->b=a)->b.map (xv R')=some (g,U,R,q):=by grind [xv]
 have wl:∀{g':G} {R':Br} {a b:Option (Nat×Ob)},a.map (xw g' R')=some (g,U,R,q)->((∀x∈R',ag st''.σ x=ag st.σ x)->b=a)->b.map (xw g' R')=some (g,U,R,q):=by grind [xw]
 have ev:aX P (aB st'') [] ⟨d,op,ty,pos,j,gd⟩=aX P (aB st) [] ⟨d,op,ty,pos,j,gd⟩:=jW hx;unfold xop at h⊢;dsimp only at h hx⊢;split at h
 .refine mk h λh=>?_;obtain⟨_,hg,e⟩:=DP.1 h;cases e;exact⟨aC,by rw[Ac λx hx'=>hx x (by simpa[Op.operands] using hx'),hg];rfl⟩
 all_goals try
  simp only[Op.operands,Call.operands,Array.mem_append,List.mem_toArray,EY,LD,or_false,false_or,forall_eq_or_imp,forall_eq] at hx
  simp only[hx]
 iterate 3
  refine mk h λh=>?_
  obtain⟨_,hg,e⟩:=DP.1 h
  cases e
  exact(by grind)
 .rename_i t r;have e:r.map (aB st'')=r.map (aB st):=by cases r<;>simp_all [Op.operands]
  grind
 .grind [DP,AeQ]
 .exact wl h λc=>by unfold FK;split<;>simp_all [fR]
 iterate 2 exact(by grind [dZ,KX])
 .refine one h λ_ e=>?_;cases e;grind [ov,KX]
 .exact wl h λc=>by unfold jX;rw[KX c]
 .refine mk h λh=>?_;rename_i x y t u _;have go:∀gx,(∀i∈fR (aB st y),ag st''.σ i=ag st.σ i)->(∀i n,gx= .rsl i 0 n->ag st''.σ i=ag st.σ i)->aa2 P st''.σ t u gx (aB st y)=aa2 P st.σ t u gx (aB st y):=λgx h1 h2=>by
   have e:∀e s,xO st''.σ 0 e s gx=xO st.σ 0 e s gx:=λe s=>by unfold xO;split<;>simp_all
   unfold aa2 wu Hc;simp only[e,Vn h1]
  split at h
  .grind [DP]
  .obtain⟨_,hg,e⟩:=DP.1 h;cases e;grind
  .cases h
 .grind [FN,KX]
 .exact wl h λc=>by unfold rF;split<;>simp_all [fR]
 .refine one h λ_ e=>?_;cases e;unfold Qq;have h2:=λs=>Vn (σ:=st.σ) (σ':=st''.σ) (g:=aB st ‹_›) (λi hi=>c i (List.mem_append_right _ hi)) s;split<;>simp_all [fR]
 iterate 2 exact(by grind)
 .grind [Ag0]
 .exact vl h λ_=>by rw[Ac λx hx'=>hx x (by simpa[Op.operands] using hx')]
 .grind [Op.operands]
 .grind [AcZ]
 .grind
 .grind [AcY]
 .have e:=h;obtain⟨_,_,e⟩:=DP.1 e;cases e;grind [Wy]
 all_goals grind [AgZ]
theorem Aje{x:XF}(hd:LP o st.n)(h:xop P o st k=some x):X6 P o st x:=λa L=>Ajc (by rw[L.n];exact hd) (Ajd h L)
theorem H4{f:DC}{xs:Array DC}{ats:Array Bk}{fst cap:Bn}(ho:o.op= .call {callee:= .value f,args:=xs,argTypes:=ats})(hd:LP o st.n)(hf:aB st f= .clo (.func fid) fst cap)(hc:aK P fid=true)
  (hl:gs.length=(fst++xs.toList.map (aB st)++cap).length) (hi:∀(i:Nat) (g g':G),(fst++xs.toList.map (aB st)++cap)[i]?=some g->gs[i]?=some g'->ve P st g g') (hF:iV P st.gl fid gs t m l) (d:∀g∈l,∃v,g= .lit v):
  GS P o st ({st with σ:=(st.c,some ⟨t,l,none⟩)::st.σ,c:=st.c+1}.put o.dst (.rsl st.c 0 m)):=by
 intro cx a w K R ⟨β,h⟩ q
 obtain⟨vs,hrun,hsz,hv⟩:=lQ h ho hf hc
 refine h.loose.oper (by grind) ?_
 unfold Oper.wp
 rw[hrun]
 have hav:∀b,Av cx.S0 (λ_=>none) [] b->cx.S0 b:=by grind
 refine(hF w (λ_=>none) cx.S0 vs (by grind) (by grind) (λg l hl=>(by grind [IV.sub])) ⟨λi o ho=>by(cases ho),(by grind),(by grind)⟩ aa (λi g u hg hu=>?_)).mono ?_
 .have hlt:=(cr hg).1
  have hx:(fst++xs.toList.map (aB st)++cap)[i]?=some ((fst++xs.toList.map (aB st)++cap)[i]'aa):=by rw[EA]
  exact .imm _ _ ((hi i _ g hx hg cx a w β h u (by grind)).sub (by grind))
 .rintro e w' ⟨v,r,rfl,hp⟩
  have hkeep:A9 (λ_=>False) w w':=hp.keep.mono (by rintro k _ ⟨i,ob,C,hob,_⟩;cases hob)
  have hob:=hp.rs.ob 0 _ rfl
  have hval:=hp.val
  rcases hob with⟨h1,h2,_⟩|⟨b,x,s,h1,_⟩|⟨b,C,cur,_,h1,h2,h3,h4,h5,h6⟩
  .obtain⟨hv0,hm0⟩:v= .slice none 0 0/\m=0:=by grind [RV.rsl_form]
   subst hv0;subst hm0
   have hl0:l=[]:=h2
   subst hl0
   exact q _ _ ⟨_,((h.world hkeep).virt t (Dl _)).put o.dst hd (.rsl0 _ _ aC)⟩
  .cases h1
  .have hb:w.heap.size<=b:=by
    rcases hp.old b ⟨0,_,C,rfl,h1⟩ with⟨i,ob,D,hob,_⟩|hb
    all_goals simp_all
   have p:=h.alloc (k:=st.c) (ob:=⟨t,l,none⟩) hkeep hb h2 h3 h4 h5 rfl (λj g hj=>by obtain⟨u,hu,h7,h8⟩:=h6 j g hj;obtain⟨v',rfl⟩:=d g (bO hj);exact⟨u,hu,h7,by rw[h8.lit_eq];exact .imm _ _ (.lit _)⟩) (Dl _)
   refine q _ _ ⟨_,p.put o.dst hd ?_⟩
   grind [RV.rsl_form,RV]
inductive Hn where
 |v (d:Nat) (g:G)
 |b (d:Nat) (g:G)
 |f (d:Nat) (g:G)
 |e (d:Nat) (g:G) (i:Nat) (ob:Ob)
 |a (d:Nat) (L:Bn) (M:Nat)
 |r (d:Nat) (b:Bool)
 |w (d:Nat) (L:Bn)
 |k (d:Nat) (L:Bn) (M:Nat)
 |q (d:Nat) (ts:Bn) (g:G)
 |c (d:Nat) (g:G)
 |m (d:Nat) (g:G)
 |z (d:Nat) (R:Br) (g:G) (U:aQ) (c':Nat)
 |o (d:Nat) (ts:Bn) (t:Bk) (m:Nat) (l:Bn)
 |i (d j:Nat) (ob:Ob) (n:Nat)
 |n (d:Nat) (g:G) (ck:aQ->Bool)
def Hn.key:Hn->Nat
 | .v d _| .b d _| .f d _| .e d _ _ _| .a d _ _| .r d _| .k d _ _| .q d _ _| .o d _ _ _ _| .c d _| .m d _| .z d _ _ _ _| .i d _ _ _| .n d _ _=>d
 | .w d _=>1000000+d
def CL(o:Oper):Nat:=match o.dst with
 |some d=>d
 |none=>match o.op with
  | .store _ (.tmp d) _=>1000000+d
  | .entryStore _ _ (.tmp d) _=>2000000+d
  |_=>999999998
def Ol(o:Oper)(hs:List Hn):Option Hn:=hs.find? λh=>Nat.beq h.key (CL o)
def II:Option Prop->Prop->Prop
 |none,q=>q
 |some p,q=>p/\q
def EM(P:Bu)(o:Oper)(st:St)(g:G):Prop:=match o.op with
 | .binOp op t x y _=>∀p q:DC,b8 P op t p q (aB st x) (aB st y)=some g
 | .indexAddr t x i=>match aB st i with
  | .lit (.int _ k)=>fh P t (aB st x) k=some g
  |_=>False
 | .load t x=>match aB st x with
  | .ptr l o=>dN P t l o=some g
  | .ref i o=>match ag st.σ i with
   |some ob=>dN P t ob.l o=some g
   |none=>False
  |_=>False
 | .slice t x lo hi none=>match aB st x with
  | .sl l n=>(JQ (lo.map (aB st))).bind (λa=>(JQ (hi.map (aB st))).bind λb=>ig P t (.sl l n) a b)=some g
  | .rsl i o n=>(JQ (lo.map (aB st))).bind (λa=>(JQ (hi.map (aB st))).bind λb=>ig P t (.rsl i o n) a b)=some g
  |_=>False
 | .call {callee:= .builtin .len,args:=⟨[x]⟩,argTypes:=⟨[t]⟩}=>match aB st x with
  | .lit (.string b)=>nu P t=true/\G.lit (.int .i64 b.size)=g
  |_=>aX P (aB st) [] o=some g
 |_=>aX P (aB st) [] o=some g
theorem AeU(hd:LP o st.n)(h:EM P o st g):GS P o st (st.put o.dst g):=by
 obtain⟨a,op,ty,pos,c,gd⟩:=o;unfold EM at h;dsimp only at h;split at h
 .exact fM hd (by grind [rA])
 .split at h
  .rename_i hi;exact fM hd (by grind [aX,UG])
  .exact h.elim
 .refine ZX rfl hd ?_;grind [jU]
 .split at h
  .rename_i hx;exact fM hd (by grind [aX])
  .rename_i hx;exact fM hd (by grind [aX])
  .exact h.elim
 .split at h
  .rename_i b hx;exact fM hd (by grind [Qf,Qd])
  .exact fM hd (SA aC h)
 .rename_i hl _ _;exact fM hd (SA hl h)
def xrd(o:Oper)(st:St):Br:=match o.op with
 | .load _ x=>fR (aB st x)
 |_=>[]
theorem AeV(h:EM P o st g)(b:∀i∈xrd o st,ag st''.σ i=ag st.σ i)(hx:∀x∈o.op.operands,aB st'' x=aB st x):EM P o st'' g:=by
 obtain⟨a,op,ty,pos,c,gd⟩:=o;have ev:aX P (aB st'') [] ⟨a,op,ty,pos,c,gd⟩=aX P (aB st) [] ⟨a,op,ty,pos,c,gd⟩:=jW hx;unfold EM at h⊢;unfold xrd at b;dsimp only at h b hx⊢;have om:∀lo:Option DC,(∀y,lo=some y->y∈op.operands)->lo.map (aB st'')=lo.map (aB st):=λlo hl=>by cases lo<;>grind
 split at h
 .grind [Op.operands]
 .grind [Op.operands]
 .grind [Op.operands,fR]
 .rw[hx _ fK,om _ (by simp+contextual [Op.operands]),om _ (by simp+contextual [Op.operands])];exact h
 all_goals grind [Op.operands,Call.operands]
def KU(P:Bu)(σ:aQ)(t:Bk)(ok:Bool)(gm gk g:G):Prop:=match gm with
 | .mref i=>bL P [(i,ag σ i)] t ok (.mref i) gk=some g
 |gm=>∀σ,bL P σ t ok gm gk=some g
theorem EN{σ σ':aQ}{gm gk:G}(h:KU P σ t ok gm gk g)(hs:∀i∈fR gm,ag σ' i=ag σ i):bL P σ' t ok gm gk=some g:=by
 cases gm with
 |mref i=>have h:bL P [(i,ag σ i)] t ok (.mref i) gk=some g:=h;grind [fR,AcY]
 |_=>exact h σ'
def ge(st:St)(o:Oper):Option (FuncId×Bn):=match o.op with
 | .call {callee:= .value x,args:=xs,argTypes:=_}=>match aB st x with
  | .clo (.func fid) fst cap=>some (fid,fst++xs.toList.map (aB st)++cap)
  |_=>none
 |_=>none
def oJ(P:Bu)(gl:CB)(fid:FuncId)(gs:Bn)(σR:aQ)(c:Nat)(g:G)(U:aQ)(c':Nat):Prop:=∀(o:Oper) (st:St) (y:DC) (xs:Array DC) (ats:Array Bk) (fst cap:Bn),o.op= .call {callee:= .value y,args:=xs,argTypes:=ats}->(∀d,o.dst=some d->d<st.n)->aB st y= .clo (.func fid) fst cap->fst++xs.toList.map (aB st)++cap=gs->st.gl=gl->(∀q∈σR,ag st.σ q.1=q.2)->st.c=c->GS P o st ({st with σ:=U++st.σ,c:=c'}.put o.dst g)
def nF:Nat->G->Bool
 |0,_=>false
 |_+1,.lit _=>true
 |_+1,.sl _ _=>true
 |_+1,.ptr _ _=>true
 |_+1,.mp _ _ _ _=>true
 |n+1,.agg l=>l.all (nF n)
 |n+1,.tup l=>l.all (nF n)
 |n+1,.clo _ a b=>a.all (nF n)&&b.all (nF n)
 |_,_=>false
theorem aG:∀(n:Nat) (g:G),nF n g=true->bB g
 |0,_,h=>by cases h
 |n+1,g,h=>by
  cases g with
  |lit v=>exact mN v
  |sl l m=>exact FC l m
  |ptr l o=>exact Ah l o
  |mp ks vs ns c=>grind [J5]
  |agg l=>exact L6 λx hx=>aG n x (GK.1 h x hx)
  |tup l=>exact L7 λx hx=>aG n x (GK.1 h x hx)
  |clo fn a b=>simp only[nF,bA] at h;exact L8 (λx hx=>aG n x (by grind)) (λx hx=>aG n x (by grind))
  |_=>cases h
def w8:Nat->G->Bool
 |0,_=>false
 |_+1,.lit _=>true
 |n+1,.agg l=>l.all (w8 n)
 |n+1,.tup l=>l.all (w8 n)
 |_,_=>false
theorem rQ:∀(n:Nat) (g:G),w8 n g=true->Yc g
 |0,_,h=>by cases h
 |n+1,g,h=>by
  cases g with
  |lit v=>exact lR v
  |agg l=>exact HM λx hx=>rQ n x (GK.1 h x hx)
  |tup l=>exact HN λx hx=>rQ n x (GK.1 h x hx)
  |_=>cases h
theorem KV:ve P st (.lit (.slice none 0 0)) (.sl [] 0):=λcx a w β r v hv=>by rw[hv.lit_eq];exact .sl [] 0 none 0 (λ_=>undef) (Dl _) (Nat.zero_le _) aC aC aC
theorem QY{clock:Nat}{es:List (Value×G×Nat)}(ho:ag st.σ i=some ⟨t,l,some (.map es clock)⟩)(hi:∀e∈es,bB e.2.1):ve P st (.mref i) (.mp (es.map (·.1)) (es.map (·.2.1)) (es.map (·.2.2)) clock):=λcx a w β r v hv=>by
 obtain⟨b,C,hb,rfl⟩:=hv.mref_form;rcases r.ob i _ ho with⟨_,_,h3⟩|⟨b',x,o,h1,h2,h3,h4,h5⟩|⟨b',C',cur,h1,_⟩
 .grind
 .cases h1;have c:=hb;rw[h3] at hb;cases hb;obtain⟨ents,rfl,e2,e3⟩:=h5;have hav:=r.sep i _ _ _ ho c;refine .mp _ _ _ _ _ ents hav (r.lt ho c) h4 (by simp[e2]) ?_ ?_ λj g e hg he=>?_
  .apply List.ext_getElem?;grind
  .apply List.ext_getElem?;grind
  .rw[Nd,DP] at hg;obtain⟨⟨k,d,n⟩,hj,rfl⟩:=hg;obtain⟨e',h6,h7,h8,h9⟩:=e3 j k d n hj;rw[he] at h6;cases h6;exact(hi _ (bO hj) _ _ _ _ h9).sub (by grind)
 .cases h1
def Da(f:G->G->Option (JK×G)):Bn->Bn->Option (JK×Bn)
 |[],[]=>some ([],[])
 |g::r,t::r'=>match f g t with
  |some (C,g')=>match Da f r r' with
   |some (D,l)=>some (C++D,g'::l)
   |none=>none
  |none=>none
 |_,_=>none
theorem io{Q:G->G->Prop}{f:G->G->Option (JK×G)}(hf:∀g t C d,f g t=some (C,d)->(∀p∈C,p)->Q g d):∀(l t:Bn) (C:JK) (l':Bn),Da f l t=some (C,l')->(∀p∈C,p)->l'.length=l.length/\∀(i:Nat) (g d:G),l[i]?=some g->l'[i]?=some d->Q g d
 |[],[],C,l',h,c=>by cases h;grind
 |g::r,t::r',C,l',h,c=>by
  unfold Da at h;split at h
  .rename_i e g1 h1;split at h
   .rename_i D l1 h2;cases h;obtain⟨k1,k2⟩:=io hf r r' D l1 h2 λp hp=>c p (by grind);refine⟨by simp[k1],λi a b ha hb=>?_⟩;cases i with
    |zero=>simp at ha hb;subst ha;subst hb;exact hf _ _ _ _ h1 λp hp=>c p (by grind)
    |succ i=>grind
   .cases h
  .cases h
 |[],_::_,C,l',h,c=>by cases h
 |_::_,[],C,l',h,c=>by cases h
def KW(P:Bu)(σ:aQ):Nat->G->G->Option (JK×G)
 |0,_,_=>none
 |n+1,g,t=>match t with
  | .sl _ m'=>match g with
   | .sl l m=>some ([],.sl l m)
   | .lit (.slice none 0 0)=>some ([],.sl [] 0)
   | .rsl j o m=>match ag σ j with
    |some ob=>match bw P ob.t with
     |some s=>bif Nat.beq o 0 then some ([ob.l.length=m'*s/\(∀x∈ob.l,bB x)/\m=m'],.sl ob.l m')else some ([o+m*s<=ob.l.length/\∀x∈ob.l,bB x],.sl ((ob.l.drop o).take (m*s)) m)
     |none=>none
    |none=>none
   |_=>none
  | .ptr l' _=>match g with
   | .ptr l o=>some ([],.ptr l o)
   | .ref i o=>match ag σ i with
    |some ob=>match Da (KW P σ n) ob.l l' with
     |some (C,r)=>some (C,.ptr r o)
     |none=>none
    |none=>none
   |_=>none
  | .mp _ _ _ _=>match g with
   | .mp ks vs ns c=>some ([],.mp ks vs ns c)
   | .mref j=>match ag σ j with
    |some ⟨_,_,some (.map es clock)⟩=>some ([∀e∈es,bB e.2.1],.mp (es.map (·.1)) (es.map (·.2.1)) (es.map (·.2.2)) clock)
    |_=>none
   |_=>none
  | .agg l'=>match g with
   | .agg l=>match Da (KW P σ n) l l' with
    |some (C,r)=>some (C,.agg r)
    |none=>none
   |_=>none
  | .tup l'=>match g with
   | .tup l=>match Da (KW P σ n) l l' with
    |some (C,r)=>some (C,.tup r)
    |none=>none
   |_=>none
  | .clo _ l' m'=>match g with
   | .clo f l m=>match Da (KW P σ n) l l',Da (KW P σ n) m m' with
    |some (C,r),some (a,b)=>some (C++a,.clo f r b)
    |_,_=>none
   |_=>none
  |_=>bif nF 20 g then some ([],g)else none
theorem rR{st:St}:∀(n:Nat) (g t:G) (C:JK) (a:G),KW P st.σ n g t=some (C,a)->(∀p∈C,p)->ve P st g a
 |0,_,_,_,_,h,_=>by cases h
 |n+1,g,t,C,a,h,b=>by
  unfold KW at h;split at h
  .split at h
   .grind [jB,FC]
   .grind [KV]
   .rename_i j o m;split at h
    .rename_i ob ho;split at h
     .rename_i s hs;cases hz:Nat.beq o 0 with
      |true=>rw[hz] at h;obtain rfl:=bc hz;cases h;obtain⟨h1,h2,rfl⟩:=b _ (List.mem_singleton.2 rfl);grind [FD,jB]
      |false=>rw[hz] at h;cases h;have h1:=b _ (List.mem_singleton.2 rfl);grind [FD,jB]
     .cases h
    .cases h
   .cases h
  .split at h
   .grind [jB,Ah]
   .split at h
    .rename_i ob ho;split at h
     .rename_i C' r hl;cases h;obtain⟨k1,k2⟩:=io (Q:=ve P st) (λg t C a=>rR n g t C a) _ _ _ _ hl b;grind [Mb]
     .cases h
    .cases h
   .cases h
  .split at h
   .grind [jB,J5]
   .split at h
    .rename_i t l es clock ho;cases h;exact QY ho (b _ (by grind))
    .cases h
   .cases h
  .split at h
   .split at h
    .rename_i C' r hl;cases h;obtain⟨k1,k2⟩:=io (Q:=ve P st) (λg t C a=>rR n g t C a) _ _ _ _ hl b;exact L9 k1 k2
    .cases h
   .cases h
  .split at h
   .split at h
    .rename_i C' r hl;cases h;obtain⟨k1,k2⟩:=io (Q:=ve P st) (λg t C a=>rR n g t C a) _ _ _ _ hl b;exact Ma k1 k2
    .cases h
   .cases h
  .split at h
   .split at h
    .rename_i C' r c d hl hm;cases h;obtain⟨k1,k2⟩:=io (Q:=ve P st) (λg t C a=>rR n g t C a) _ _ _ _ hl λp hp=>b p (by grind);obtain⟨k3,e⟩:=io (Q:=ve P st) (λg t C a=>rR n g t C a) _ _ _ _ hm λp hp=>b p (by grind);grind [SX]
    .cases h
   .cases h
  grind [jB,aG]
def IJ:JK->Prop
 |[]=>True
 |p::r=>p/\IJ r
theorem w9:∀{l:JK},IJ l->∀p∈l,p
 |[],_,p,hp=>by cases hp
 |q::r,h,p,hp=>by
  rcases EY.1 hp with rfl|hp
  .exact h.1
  .exact w9 h.2 p hp
def TA(σ:aQ)(e:Bk)(s:Nat):G->Option (Nat×Nat×Bn×Prop)
 | .lit (.slice none 0 0)=>some (0,0,[],True)
 | .rsl i 0 n=>match ag σ i with
  |some ⟨t,l,none⟩=>bif Nat.beq t e then some (i,n,l,l.length=n*s)else none
  |_=>none
 |_=>none
def QZ(σ:aQ)(s:Nat):G->Option (Bn×Nat×Prop)
 | .sl l m=>some (l,m,l.length=m*s)
 | .rsl j o m=>match ag σ j with
  |some ob=>some ((ob.l.drop o).take (m*s),m,o+m*s<=ob.l.length)
  |none=>none
 | .lit (.slice none 0 _)=>some ([],0,True)
 |_=>none
def ME(P:Bu)(σ:aQ)(t u:Bk)(gx gy:G)(L:Bn)(M:Nat):Option (Bk×Prop):=match dp P t with
 |some e=>bif Nat.beq t u then(match bw P e,jj P e,(P.info? e).map (·.bytes) with
  |some s,some zs,some b=>bif Nat.blt 0 s&&Nat.beq zs.length s&&Nat.blt 0 b then(match TA σ e s gx,QZ σ s gy with
   |some (i,n,l,a),some (news,m,c)=>some (e,a/\c/\(n+m)*b<=140737488355328/\l++news=L/\n+m=M)
   |_,_=>none)else none
  |_,_,_=>none)
  else match gy,bw P e,(P.info? e).bind (·.zero),(P.info? e).map (·.bytes) with
   | .lit (.string b),some 1,some (.int .u8 0),some 1=>bif nu P u then(match TA σ e 1 gx with
    |some (i,n,l,a)=>some (e,a/\n+b.data.toList.length<=140737488355328/\l++b.data.toList.map gY=L/\n+b.data.toList.length=M)
    |none=>none)else none
   |_,_,_,_=>none
 |none=>none
theorem MF{σ:aQ}{s:Nat}{e:Bk}{C:Prop}(h:TA σ e s g=some (i,n,l,C))(a:C):xO σ 0 e s g=some (i,n,l):=by unfold TA at h;grind [bc,xO]
theorem Q0{σ:aQ}{s:Nat}{C:Prop}(h:QZ σ s g=some (l,m,C))(a:C):fO σ s g=some (l,m):=by unfold QZ at h;grind [fO]
theorem CN{σ:aQ}{e:Bk}{L:Bn}{M:Nat}{C:Prop}(h:ME P σ t u gx gy L M=some (e,C))(c:C):∃i,aa2 P σ t u gx gy=some (e,i,M,L):=by
 unfold ME at h;unfold aa2;split at h
 .rename_i e' he;cases htu:Nat.beq t u with
  |true=>
   rw[htu] at h;simp only[ax] at h⊢;split at h
   .rename_i s zs b hs hz hb;cases hk:(Nat.blt 0 s&&Nat.beq zs.length s&&Nat.blt 0 b) with
    |false=>grind
    |true=>
     rw[hk] at h;simp only[ax] at h;simp only[bA] at hk;split at h
     .rename_i a n l f d m j h1 h2;cases h;obtain⟨c1,c2,c3,rfl,rfl⟩:=c;have hb1:n+m<=(n+m)*b:=Nat.le_mul_of_pos_right _ (by simp_all);refine⟨a,?_⟩;unfold wu;simp only[he,hs,hz,hb,aL,MF h1 c1,Q0 h2 c2];rw[BB ⟨(by simp_all),(by simp_all),aa,c3⟩]
     .cases h
   .cases h
  |false=>
   rw[htu] at h;simp only[Be] at h⊢;split at h
   .rename_i b h1 h2 h3;cases hu:nu P u with
    |false=>grind
    |true=>
     rw[hu] at h;simp only[ax] at h;split at h
     .rename_i a n l f hs;cases h;obtain⟨c1,c2,rfl,rfl⟩:=c;refine⟨a,?_⟩;unfold Hc;simp only[he,h1,h2,h3,MF hs c1,hu,Bool.true_and,N8 c2,ax]
     .cases h
   .cases h
 .cases h
def Ac7(P:Bu)(σ:aQ)(t:Bk)(x:G)(lo hi:Option G)(g:G):Prop:=match JQ lo,JQ hi with
 |some a,some b=>Ju P σ t x a b=some g
 |_,_=>False
theorem AeW{lo hi:Option DC}(ho:o.op= .slice t x lo hi none)(hd:LP o st.n)(h:Ac7 P st.σ t (aB st x) (lo.map (aB st)) (hi.map (aB st)) g):GS P o st (st.put o.dst g):=by grind [Ac7,AdD]
theorem cM(h:ge st o=some (fid,gs)):∃x xs ats fst cap,o.op= .call {callee:= .value x,args:=xs,argTypes:=ats}/\aB st x= .clo (.func fid) fst cap/\gs=fst++xs.toList.map (aB st)++cap:=by grind [ge]
theorem CP{f f':G->G->Option (JK×G)}:∀(l t:Bn),(∀g∈l,∀t,f' g t=f g t)->Da f' l t=Da f l t
 |[],[],h=>rfl
 |g::r,t::r',h=>by unfold Da;rw[h g aC t,CP r r' λg hg=>h g (List.mem_cons_of_mem _ hg)]
 |[],_::_,h=>rfl
 |_::_,[],h=>rfl
def Oq(σ:aQ):Nat->G->Br
 |0,_=>[]
 |n+1,g=>match g with
  | .rsl j _ _=>[j]
  | .ref i _=>i::(match ag σ i with
   |some ob=>ob.l.flatMap (Oq σ n)
   |none=>[])
  | .mref i=>[i]
  | .agg l=>l.flatMap (Oq σ n)
  | .tup l=>l.flatMap (Oq σ n)
  | .clo _ l m=>l.flatMap (Oq σ n)++m.flatMap (Oq σ n)
  |_=>[]
theorem Ue{σ σ':aQ}:∀(n:Nat) (g t:G),(∀j∈Oq σ n g,ag σ' j=ag σ j)->KW P σ' n g t=KW P σ n g t
 |0,g,t,h=>rfl
 |n+1,g,t,h=>by
  unfold KW;cases t with
  |sl l' m'=>grind [Oq]
  |ptr l' m'=>
   cases g with
   |ref j o=>
    dsimp only;rw[h j (by simp[Oq])];cases ho:ag σ j with
    |none=>rfl
    |some ob=>
     dsimp only;rw[CP ob.l l' λg hg t=>Ue n g t λk hk=>h k (by simp only[Oq,ho,EY,List.mem_flatMap];exact .inr ⟨g,hg,hk⟩)]
   |_=>rfl
  |mp ks vs ns ck=>grind [Oq]
  |agg l'=>
   cases g with
   |agg l=>dsimp only;rw[CP l l' λg hg t=>Ue n g t λj hj=>h j (by simp only[Oq,List.mem_flatMap];exact⟨g,hg,hj⟩)]
   |_=>rfl
  |tup l'=>
   cases g with
   |tup l=>dsimp only;rw[CP l l' λg hg t=>Ue n g t λj hj=>h j (by simp only[Oq,List.mem_flatMap];exact⟨g,hg,hj⟩)]
   |_=>rfl
  |clo f' l' m'=>
   cases g with
   |clo f l m=>dsimp only;rw[CP l l' λg hg t=>Ue n g t λj hj=>h j (by simp only[Oq,Jn,List.mem_flatMap];exact .inl ⟨g,hg,hj⟩),CP m m' λg hg t=>Ue n g t λj hj=>h j (by simp only[Oq,Jn,List.mem_flatMap];exact .inr ⟨g,hg,hj⟩)]
   |_=>rfl
  |_=>rfl
theorem Q7{σ σ':aQ}{ts:Bn}(h:∀j∈gs.flatMap (Oq σ 20),ag σ' j=ag σ j):Da (KW P σ' 20) gs ts=Da (KW P σ 20) gs ts:=
 by grind [CP,Ue]
theorem sV(h:∀x∈o.op.operands,aB st'' x=aB st x)(hc:ge st o=some (fid,gs)):ge st'' o=some (fid,gs):=by
 obtain⟨x,xs,ats,fst,cap,ho,hx,rfl⟩:=cM hc;have h1:aB st'' x=aB st x:=by grind [Op.operands,Call.operands]
 have h2:xs.toList.map (aB st'')=xs.toList.map (aB st):=by grind [List.map_congr_left,Op.operands,Call.operands]
 grind [ge]
def UK(σ:aQ)(R:Br):aQ:=R.map λi=>(i,ag σ i)
theorem Hg{σ:aQ}:∀i∈R,ag σ i=ag (UK σ R) i:=λi hi=>by rw[UK,lL,BB hi]
theorem AeX{σ σ':aQ}(h:∀i∈R,ag σ' i=ag σ i):UK σ' R=UK σ R:=List.map_congr_left (by grind)
def syO(P:Bu)(o:Oper)(st:St)(hs:List Hn)(k:Nat):Option (Option Prop×XF):=match Ol o hs with
 |none=>(xop P o st k).map λx=>(none,x)
 |some h=>match h with
  | .v _ g=>some (some (EM P o st g),xv (xrd o st) g)
  | .b _ g=>match o.op with
   | .binOp op t x y _=>some (some (lD op (aB st x) (aB st y)=some g),xv [] g)
   |_=>none
  | .r _ b=>match xop P o st k with
   |some (.lit (.bool t),[],R,none)=>some (some (t=b),xv R (.lit (.bool b)))
   |_=>none
  | .f _ g=>match ge st o with
   |some (fid,gs)=>bif aK P fid&&gs.all (nF 20)then some (some (ba P st.gl fid gs g),xv [] g)else none
   |none=>none
  | .q _ ts g=>match ge st o with
   |some (fid,gs)=>bif aK P fid&&w8 20 g then(match Da (KW P st.σ 20) gs ts with
    |some (C,gs')=>some (some (IJ C/\ba P st.gl fid gs' g),xv (gs.flatMap (Oq st.σ 20)) g)
    |none=>none)else none
   |none=>none
  | .o _ ts t m l=>match ge st o with
   |some (fid,gs)=>bif aK P fid then(match Da (KW P st.σ 20) gs ts with
    |some (C,gs')=>some (some (IJ C/\iV P st.gl fid gs' t m l/\∀g∈l,∃v,g= .lit v),.rsl st.c 0 m,[(st.c,some ⟨t,l,none⟩)],gs.flatMap (Oq st.σ 20),some (st.c+1))
    |none=>none)else none
   |none=>none
  | .z _ R g U c'=>match ge st o with
   |some (fid,gs)=>some (some (oJ P st.gl fid gs (UK st.σ R) st.c g U c'),g,U,R,some c')
   |none=>none
  | .m _ g=>match o.op with
   | .lookup t x y ok=>some (some (KU P st.σ t ok (aB st x) (aB st y) g),xv (fR (aB st x)) g)
   | .entry x=>some (some (jr (UK st.σ (Aa3 st.σ (aB st x))) (aB st x)=some g),xv (Aa3 st.σ (aB st x)) g)
   |_=>none
  | .c _ g=>match o.op with
   | .convert s t x=>some (some (iQ P (UK st.σ (fR (aB st x))) s t (aB st x)=some g),xv (fR (aB st x)) g)
   | .slice t x (some lo) (some hi) (some mx)=>some (some (sJ P t (aB st x) (aB st lo) (aB st hi) (aB st mx)=some g),xv [] g)
   | .slice t x lo hi none=>some (some (Ac7 P (UK st.σ (fR (aB st x))) t (aB st x) (lo.map (aB st)) (hi.map (aB st)) g),xv (fR (aB st x)) g)
   |_=>none
  | .k _ L M=>match o.op with
   | .makeSlice t x y=>match dp P t with
    |some e=>bif R8 st k then some (some (tI P t (aB st x) (aB st y)=some (e,L,M)),xn (.rsl k 0 M) k ⟨e,L,none⟩ [])else none
    |none=>none
   |_=>none
  | .w _ L=>match o.op with
   | .store t x y=>match aB st x with
    | .ref i j=>match ag st.σ i,dH (aB st y),bw P t with
     |some ⟨d,l0,none⟩,some l,some s=>some (some (l.length=s/\j+s<=l0.length/\l0.take j++l++l0.drop (j+s)=L),xw (.lit undef) [i] (i,⟨d,L,none⟩))
     |_,_,_=>none
    |_=>none
   |_=>none
  | .a _ L M=>match o.op with
   | .call ⟨.builtin .append,⟨[x,y]⟩,⟨[t,u]⟩⟩=>bif R8 st k then(match ME P st.σ t u (aB st x) (aB st y) L M with
    |some (e,C)=>match aB st x with
     | .rsl j 0 _=>some (some C,.rsl k 0 M,[(k,some ⟨e,L,none⟩),(j,none)],k::j::fR (aB st y),none)
     | .lit (.slice none 0 0)=>some (some C,xn (.rsl k 0 M) k ⟨e,L,none⟩ (fR (aB st y)))
     |_=>none
    |none=>none)else none
   |_=>none
  | .i _ j ob n=>match o.op with
   | .call ⟨.builtin .append,⟨[x,y]⟩,⟨[t,u]⟩⟩=>bif Nat.beq t u then some (some (RY P (UK st.σ (fR (aB st x)++fR (aB st y))) t (aB st x) (aB st y)=some (j,ob,n)),xw (.rsr j n) (fR (aB st x)++fR (aB st y)) (j,ob))else none
   |_=>none
  | .e _ g i ob=>match o.op with
   | .mapUpdate t x y z=>some (some (dZ P (UK st.σ (fR (aB st x))) t (aB st x) (aB st y) (aB st z)=some (i,ob)),xw (.lit undef) (fR (aB st x)) (i,ob))
   | .mapEntry t x y=>some (some (ov P (UK st.σ (fR (aB st x))) t (aB st x) (aB st y)=some (i,ob,g)),xw g (fR (aB st x)) (i,ob))
   | .entryStore _ x y z=>some (some (jX (UK st.σ (fR (aB st x))) (aB st x) (aB st y) (aB st z)=some (i,ob)),xw (.lit undef) (fR (aB st x)) (i,ob))
   | .call ⟨.builtin .delete,⟨[x,y]⟩,⟨[t,_]⟩⟩=>some (some (FN P (UK st.σ (fR (aB st x))) t (aB st x) (aB st y)=some (i,ob)),xw (.tup []) (fR (aB st x)) (i,ob))
   | .call ⟨.builtin .clear,⟨[x]⟩,⟨[t]⟩⟩=>some (some (rF P (UK st.σ (fR (aB st x))) t (aB st x)=some (i,ob)),xw (.tup []) (fR (aB st x)) (i,ob))
   |_=>none
  | .n _ _ _=>none
section
variable {σ σ':aQ} {g:G}
theorem aba{k:G}(h:∀i∈fR g,ag σ' i=ag σ i):dZ P σ' t g k v=dZ P σ t g k v:=by grind [dZ,KX]
theorem AeY{k:G}(h:∀i∈fR g,ag σ' i=ag σ i):ov P σ' t g k=ov P σ t g k:=by grind [ov,KX]
theorem Aix{k:G}(h:∀i∈fR g,ag σ' i=ag σ i):jX σ' g k v=jX σ g k v:=by unfold jX;rw[KX h]
theorem AeZ{k:G}(h:∀i∈fR g,ag σ' i=ag σ i):FN P σ' t g k=FN P σ t g k:=by grind [FN,KX]
theorem Ae0(h:∀i∈fR g,ag σ' i=ag σ i):rF P σ' t g=rF P σ t g:=by unfold rF;split<;>simp_all [fR]
theorem Ajm{lo hi:JJ}(h:∀i∈fR g,ag σ' i=ag σ i):Ju P σ' t g lo hi=Ju P σ t g lo hi:=by unfold Ju;split;all_goals grind [fR]
end
theorem Ac8{σ σ':aQ}(h:∀i∈fR gx++fR gy,ag σ' i=ag σ i):RY P σ' t gx gy=RY P σ t gx gy:=by have:=λs=>Vn (σ:=σ) (σ':=σ') (g:=gy) (λi hi=>h i (List.mem_append_right _ hi)) s;unfold RY;split<;>simp_all [fR]
theorem Acd{hs:List Hn}{x:XF}(hd:LP o st.n)(h:syO P o st hs k=some (C,x)){X:Prop}(b:II C X):X6 P o st x/\X:=by
 have bg:xop P o st k=some x->X6 P o st x:=Aje hd;have hn:∀{a},Lk o st a x->∀d,o.dst=some d->d<a.n:=by grind [Lk.n]
 unfold syO at h;split at h
 .obtain⟨y,hy,e⟩:=DP.1 h;cases e;exact⟨bg hy,b⟩
 split at h
 .cases h;exact⟨λa L=>AeU (hn L) (AeV b.1 L.σ L.x),b.2⟩
 .split at h
  .rename_i ho;cases h;exact⟨bg (by unfold xop;rw[ho];simp only[b.1,Option.map_some]),b.2⟩
  .cases h
 .split at h
  .rename_i hv;cases h;obtain⟨rfl,f⟩:=b;exact⟨bg hv,f⟩
  .cases h
 .split at h
  .rename_i fid gs hc;cases hb:(aK P fid&&gs.all (nF 20)) with
   |false=>grind
   |true=>rw[hb] at h;simp only[bA] at hb;cases h;refine⟨λa L=>?_,b.2⟩;obtain⟨x,xs,ats,fst,cap,ho,hx,hgs⟩:=cM (sV L.x hc);exact wt ho (hn L) hx hb.1 (by grind [aG]) (by rw[<-hgs,L.gl];exact b.1)
  .cases h
 .split at h
  .rename_i fid gs hc;cases hb:(aK P fid&&w8 20 _) with
   |false=>rw[hb] at h;cases h
   |true=>
    rw[hb] at h;simp only[bA] at hb;simp only[ax] at h;split at h
    .rename_i l j hz;cases h;refine⟨λa L=>?_,b.2⟩;obtain⟨x,xs,ats,fst,cap,ho,hx,hgs⟩:=cM (sV L.x hc);have hz':=(Q7 (P:=P) L.σ).trans hz;rw[hgs] at hz';obtain⟨f1,f2⟩:=io (Q:=ve P a) (by grind [rR]) _ _ _ _ hz' (w9 b.1.1);exact Ai ho (hn L) hx hb.1 f1 f2 (by rw[L.gl];exact b.1.2) (rQ 20 _ hb.2)
    .cases h
  .cases h
 .split at h
  .rename_i fid gs hc;cases hb:aK P fid with
   |false=>grind
   |true=>
    rw[hb] at h;simp only[ax] at h;split at h
    .rename_i l j hz;cases h;obtain⟨⟨k1,k2,k3⟩,f⟩:=b;refine⟨λa L=>?_,f⟩;obtain⟨x,xs,ats,fst,cap,ho,hx,hgs⟩:=cM (sV L.x hc);have hz':=(Q7 (P:=P) L.σ).trans hz;rw[hgs] at hz';obtain⟨f1,f2⟩:=io (Q:=ve P a) (by grind [rR]) _ _ _ _ hz' (w9 k1);have:=H4 ho (hn L) hx hb f1 f2 (by rw[L.gl];exact k2) k3;rw[L.c rfl] at this;exact this
    .cases h
  .cases h
 .split at h
  .rename_i fid gs hc;cases h;obtain⟨hS,f⟩:=b;refine⟨λa L=>?_,f⟩;obtain⟨x,xs,ats,fst,cap,ho,hx,hgs⟩:=cM (sV L.x hc);exact hS o a x xs ats fst cap ho (hn L) hx hgs.symm L.gl (λq hq=>by obtain⟨i,hi,rfl⟩:=EH.1 hq;exact L.σ i hi) (L.c rfl)
  .cases h
 .split at h
  .rename_i ho;cases h;exact⟨bg (by unfold xop;rw[ho];simp only[EN b.1 (λ_ _=>rfl),Option.map_some]),b.2⟩
  .rename_i ho;cases h;have hc:=b.1;rw[(Wy λi hi=>(Hg i hi).symm).1] at hc;exact⟨(by grind [xop]),b.2⟩
  .cases h
 .split at h
  .rename_i ho;cases h;have hc:=b.1;rw[<-AcZ Hg] at hc;exact⟨(by grind [xop]),b.2⟩
  .rename_i ho;cases h;exact⟨bg (by unfold xop;rw[ho];simp only[b.1,Option.map_some]),b.2⟩
  .rename_i t x lo hi ho;cases h;refine⟨λa L=>AeW ho (hn L) ?_,b.2⟩;have hc:=b.1;have om:∀lo:Option DC,(∀y,lo=some y->y∈o.op.operands)->lo.map (aB a)=lo.map (aB st):=λlo hl=>by cases lo<;>grind [Lk.x]
   rw[L.x x (by grind [Op.operands]),om lo (by grind [Op.operands]),om hi (by grind [Op.operands])];have e:UK a.σ (fR (aB st x))=_:=AeX L.σ;rw[<-e] at hc;unfold Ac7 at hc⊢;split at hc
   .rw[Ajm Hg];exact hc
   .exact hc.elim
  .cases h
 .split at h
  .rename_i ho;split at h
   .cases hb:R8 st k with
    |false=>grind
    |true=>rw[hb] at h;cases h;exact⟨bg (by unfold xop;rw[ho];simp only[hb,ax,b.1,Option.map_some]),b.2⟩
   .cases h
  .cases h
 .split at h
  .rename_i ho;split at h
   .rename_i hx;split at h
    .rename_i h1 h2 h3;cases h;obtain⟨⟨k1,k2,rfl⟩,f⟩:=b;grind [xop,FK,fR]
    .cases h
   .cases h
  .cases h
 .split at h
  .rename_i ho;cases hb:R8 st k with
   |false=>grind
   |true=>
    rw[hb] at h;simp only[ax] at h;split at h
    .rename_i hcd;split at h
     .rename_i hx;cases h;rw[hx] at hcd;obtain⟨i,hi⟩:=CN hcd b.1;exact⟨(by grind [xop]),b.2⟩
     .rename_i hx;cases h;rw[hx] at hcd;obtain⟨i,hi⟩:=CN hcd b.1;exact⟨(by grind [xop]),b.2⟩
     .cases h
    .cases h
  .cases h
 .split at h
  .rename_i x y t u ho;cases hb:Nat.beq t u with
   |false=>grind
   |true=>rw[hb] at h;obtain rfl:=bc hb;cases h;refine⟨λa L=>?_,b.2⟩;have e:UK a.σ (fR (aB st x)++fR (aB st y))=_:=AeX L.σ;exact AgQ (st:=a) ho (hn L) (by rw[L.x x (by grind [Op.operands,Call.operands]),L.x y (by rw[ho];simp[Op.operands,Call.operands]),<-b.1,<-e];exact Ac8 Hg)
  .cases h
 .split at h;all_goals first
   |(cases h;done)
   |(
     rename_i ho
     cases h
     refine⟨bg ?_,b.2⟩
     have hc:=b.1
     grind [aba,Hg,xop,AeY,Aix,AeZ,Ae0])
 .cases h
def TI(_:aQ):Bool:=false
def lkN(P:Bu)(o:Oper)(hs:List Hn)(s:St):Option (Prop×G×Br×(aQ->Bool)):=match Ol o hs with
 |some (.n _ g ck)=>match o.op with
  | .lookup t x y ok=>some ((KU P s.σ t ok (aB s x) (aB s y) g/\∀W,ck W=true->KU P (W++s.σ) t ok (aB s x) (aB s y) g),g,fR (aB s x),ck)
  |_=>none
 |_=>none
def oPs(C:Option Prop)(ps:JK):JK:=match C with
 |some p=>p::ps
 |none=>ps
def oKs(o:Oper)(C:Option Prop)(u:Br):Br:=match C with
 |some _=>CL o::u
 |none=>u
def AdP(x:XF)(ck:aQ->Bool):DI:=⟨x.2.2.1,x.2.1,x.2.2.2.isSome,ck⟩
def yp(P:Bu)(ops:Array Oper)(hs:List Hn):Hv->St->Nat->Option (JK×Br×St×List DI)
 |[],s,_=>some ([],[],s,[])
 |o::r,s,k=>bif pj s.n o.dst then(match ce s ops o with
  |some true=>match lkN P o hs s with
   |some (C,g,R,ck)=>(match yp P ops hs r (s.put o.dst g) (Nm o k) with
    |some (ps,u,s',inf)=>some (C::ps,CL o::u,s',AdP (xv R g) ck::inf)
    |none=>none)
   |none=>match syO P o s hs k with
    |some (C,x)=>(match yp P ops hs r (lay s o x) (Nm o k) with
     |some (ps,u,s',inf)=>some (oPs C ps,oKs o C u,s',AdP x TI::inf)
     |none=>none)
    |none=>none
  |some false=>(match yp P ops hs r (s.put o.dst (.lit undef)) (Nm o k) with
   |some (ps,u,s',inf)=>some (ps,u,s',AdP (xv [] (.lit undef)) TI::inf)
   |none=>none)
  |none=>none)else none
def Ajn(s:St)(o:Oper)(x:XF):St:={s with σ:=bif x.2.2.2.isSome then x.2.1++s.σ else upd x.2.1 s.σ,c:=bif aai o then s.c+1 else x.2.2.2.getD s.c}.put o.dst x.1
def Ui(P:Bu)(ops:Array Oper)(hs:List Hn):Hv->St->Option (JK×Br×St)
 |[],s=>some ([],[],s)
 |o::r,s=>bif pj s.n o.dst then(match ce s ops o with
  |some true=>(λs1=>match syO P o s1 hs s.c with
   |some (C,x)=>bif aai o&& !(x.2.2.2.isNone&&x.2.1.any λq=>Nat.beq q.1 s.c)then none else(match Ui P ops hs r (Ajn s o x) with
    |some (ps,u,s')=>some (oPs C ps,oKs o C u,s')
    |none=>none)
   |none=>none) (bif aai o then ff 1 s else s)
  |some false=>Ui P ops hs r (s.put o.dst (.lit undef))
  |none=>none)else none
theorem Ae1(h:∀p∈oPs C ps,p):II C True/\∀p∈ps,p:=by
 cases C with
 |none=>exact⟨trivial,h⟩
 |some q=>exact⟨⟨h q (by simp[oPs]),trivial⟩,(by grind [oPs])⟩
theorem Ag6(o:Oper)(st:St)(x:XF):Lk o st st x:=by constructor<;>grind
theorem QL{ops:Array Oper}{hs:List Hn}{K:St->Prop}:∀(l:Hv) (s:St) (ps:JK) (u:Br) (s':St),Ui P ops hs l s=some (ps,u,s')->(∀p∈ps,p)->K s'->D8 P ops K l s
 |[],s,ps,u,s',h,hp,b=>by cases h;exact b
 |o::r,s,ps,u,s',h,hp,b=>by
  unfold Ui at h;cases hd:pj s.n o.dst<;>rw[hd] at h
  .cases h
  have hd:=Sx hd;simp only[ax] at h;split at h
  .rename_i hw;split at h
   .rename_i C x hx;cases hm:(aai o&& !(x.2.2.2.isNone&&x.2.1.any λq=>Nat.beq q.1 s.c))<;>rw[hm] at h;rotate_left
    .cases h
    simp only[Be] at h;split at h
    .rename_i d u1 s1 hr;cases h;obtain⟨h1,h2⟩:=Ae1 hp;have bg:∀s1:St,s1.n=s.n->Le P s s1->syO P o s1 hs s.c=some (C,x)->GS P o s (lay s1 o x):=λs1 e le hx=>λcx a w K R r=>(Acd (by grind) hx h1).1 s1 (Ag6 o s1 x) cx a w K R (le cx a w r);refine .inl ⟨hw,Ajn s o x,?_,QL r _ _ _ _ hr h2 b⟩;unfold Ajn;cases hk:aai o with
     |false=>rw[hk] at hx;refine(bg s rfl (Le.refl s) hx).eqv (Ae (Af (λi=>?_) rfl) _ _);grind [Wx]
     |true=>rw[hk] at hx hm;simp only[Bool.true_and,Bool.not_eq_false',bA,Option.isNone_iff_eq_none] at hm;refine(bg (ff 1 s) rfl (uB 1 s) hx).eqv (Ae (Af (λi=>?_) (by rw[hm.1];rfl)) _ _);rw[hm.1];refine(Wx ..).trans ?_;obtain⟨q,hq,hb⟩:=List.any_eq_true.1 hm.2;show _=ag (x.2.1++((s.c,some BC)::s.σ)) i;grind [fY,fE,bc]
    .cases h
   .cases h
  .rename_i hw;exact .inr ⟨hw,hd,QL r _ _ _ _ h hp b⟩
  .cases h
theorem sX{ops:Array Oper}{hs:List Hn}{K:St->Prop}:∀(l:Hv) (s:St) (k:Nat) (ps:JK) (u:Br) (s':St) (inf:List DI),yp P ops hs l s k=some (ps,u,s',inf)->(∀p∈ps,p)->K s'->PQ P ops K l inf s
 |[],s,k,ps,u,s',inf,h,hp,d=>by cases h;exact d
 |o::r,s,k,ps,u,s',inf,h,hp,d=>by
  unfold yp at h;cases hd:pj s.n o.dst<;>rw[hd] at h
  .cases h
  have hd:=Sx hd;simp only[ax] at h;split at h
  .rename_i hw;split at h
   .rename_i C g R ck hx;split at h
    .rename_i f u1 s1 b hr;cases h;refine⟨g,s.put o.dst g,.inl ⟨hw,s.c,rfl,λ_=>rfl,?_⟩,sX r _ _ _ _ _ _ hr (by simp_all) d⟩;have i:=hp C aC;unfold lkN at hx;split at hx
     .split at hx
      .rename_i t x y ok ho;cases hx;intro V hV a h1 h2 h3 h4 h5 h6;refine xS ho (by grind) ?_;rw[h6 x (by grind [Op.operands]),h6 y (by grind [Op.operands])];rcases hV with rfl|hV
       .exact EN i.1 h5
       .exact EN (i.2 V hV) h5
      .cases hx
     .cases hx
    .cases h
   .split at h
    .rename_i C x hx;split at h
     .rename_i f u1 s1 b hr;cases h;obtain⟨h1,h2⟩:=Ae1 hp;refine⟨x.1,_,.inl ⟨hw,x.2.2.2.getD s.c,rfl,λhc=>?_,λV hV a e1 e2 e3 e4 e5 e6=>?_⟩,sX r _ _ _ _ _ _ hr h2 d⟩
      .cases hx2:x.2.2.2<;>grind [AdP]
      .rcases hV with rfl|hV
       .have:=(Acd hd hx h1).1 a ⟨e1,e2,e3,e4,e5,e6⟩;unfold lay at this;have e:(if(AdP x TI).cu=true then x.2.2.2.getD s.c else a.c)=x.2.2.2.getD a.c:=by cases hx2:x.2.2.2<;>simp[AdP,hx2]
        rw[e];exact this
       .cases hV
     .cases h
    .cases h
  .rename_i hw;split at h
   .rename_i f u1 s1 b hr;cases h;exact⟨_,_,.inr ⟨hw,rfl,rfl,rfl,rfl⟩,sX r _ _ _ _ _ _ hr hp d⟩
   .cases h
  .cases h
def Ajo(l:Hv)(inf:List DI)(n:Nat):Option Prop:=(λR=>bif wv l R n then(match Np inf R l.length with
 |[q]=>bif(bP inf q.1).U.isEmpty&& !(bP inf q.1).cu then some ((bP inf q.1).ck (bP inf q.2).U=true)else none
 |_=>none)else none) (rgo l [])
theorem Ag7{l:Hv}{inf:List DI}{C:Prop}(h:Ajo l inf n=some C)(a:C):kL l inf n=true:=by grind [Ajo,kL]
inductive Kf where
 |thn (c:Code)
 |blk (id:Nat)
 |lp (B:St->Prop)
inductive Ae2 where
 |lp (c:Code) (K:List Kf) (st:St)
 |fin (e:Exit) (st:St)
 |bk (B:St->Prop) (st:St)
 |ct (c:Code) (K:List Kf) (st:St)
abbrev Q3:=Option (Prop×Br×Ae2)
def TE:JK->Prop->Prop
 |[],q=>q
 |p::r,q=>p/\TE r q
theorem Gr:∀{l:JK} {q:Prop},TE l q->(∀p∈l,p)/\q
 |[],q,h=>⟨(by simp_all),h⟩
 |p::r,q,h=>by
  obtain⟨h1,h2⟩:=Gr h.2;exact⟨λx hx=>by
   rcases EY.1 hx with rfl|hx
   .exact h.1
   grind,h2⟩
def AlB(hs:List Hn)(l:Hv):Bool:=l.any λo=>match Ol o hs with
 |some (.n ..)=>true
 |_=>false
def MK(P:Bu)(ops:Array Oper)(hs:List Hn)(st:St):Option (JK×Br×St):=match yp P ops hs ops.toList (ff (UN ops.toList) st) st.c with
 |some (ps,u,s,inf)=>bif AlB hs ops.toList then(match Ajo ops.toList inf st.n with
  |some C=>some (C::ps,999999996::u,s)
  |none=>none)else bif kL ops.toList inf st.n then some (ps,u,s)else none
 |none=>none
theorem Q8(hm:P.follows .mixedOrders=true){ops:Array Oper}{hs:List Hn}{u:Br}{Q:Exit->St->Prop}(h:MK P ops hs st=some (ps,u,s))(hp:∀p∈ps,p)(hQ:Q .normal s):Tr P (.region id ops true) st Q:=by
 unfold MK at h;split at h
 .rename_i a c s' inf h1;have go:kL ops.toList inf st.n=true->(∀p∈a,p)->s'=s->Tr P (.region id ops true) st Q:=λhk hp e=>by subst e;refine Tr.le ?_ (uB (UN ops.toList) st);have:=sX (K:=Q .normal) ops.toList _ _ _ _ _ _ h1 hp hQ;have hx:=pX (id:=id) (l:=ops.toList) (st:=ff (UN ops.toList) st) (Q:=Q) hm (by rw[(sv (UN ops.toList) st).1];exact hk) (by rwa [Array.toArray_toList]);simp_all
  cases hN:AlB hs ops.toList with
  |false=>grind
  |true=>
   rw[hN] at h;simp only[ax] at h;split at h
   .rename_i C b;cases h;exact go (Ag7 b (by simp_all)) (by simp_all) rfl
   .cases h
 .cases h
def rgK(k:St->Q3):Option (JK×Br×St)->Q3
 |some (ps,u,s)=>match k s with
  |some (C,u',out)=>some (TE ps C,u++u',out)
  |none=>none
 |none=>none
def U9(cut:Nat):DC->Bool
 | .tmp d=>Nat.beq d cut
 |_=>false
def sy(P:Bu)(hs:List Hn)(cut:Nat):Nat->Code⊕Exit->List Kf->St->Q3
 |0,_,_,_=>none
 |n+1,.inl c,K,st=>match c with
  | .skip=>sy P hs cut n (.inr .normal) K st
  | .label _=>sy P hs cut n (.inr .normal) K st
  | .seq a b=>sy P hs cut n (.inl a) (.thn b::K) st
  | .block id c=>sy P hs cut n (.inl c) (.blk id::K) st
  | .region id ops draw=>bif Nat.beq cut (2000000+id)then some (True,[],.ct (.region id ops draw) K st)else rgK (λs=>sy P hs cut n (.inr .normal) K s) (bif draw then MK P ops hs st else Ui P ops hs ops.toList st)
  | .cond x a b=>bif U9 cut x then some (True,[],.ct (.cond x a b) K st)else match aB st x with
   | .lit (.bool t)=>bif t then sy P hs cut n (.inl a) K st else sy P hs cut n (.inl b) K st
   |_=>none
  | .loop c=>some (True,[],.lp c K st)
  | .rangeFunc g ps a b=>some (True,[],.ct (.rangeFunc g ps a b) K st)
  | .scope c=>some (True,[],.ct (.scope c) K st)
  | .exit id=>sy P hs cut n (.inr (.exit id)) K st
  | .ret=>sy P hs cut n (.inr .ret) K st
  |_=>none
 |n+1,.inr e,K,st=>match K with
  |[]=>some (True,[],.fin e st)
  | .thn b::K=>match e with
   | .normal=>sy P hs cut n (.inl b) K st
   |_=>sy P hs cut n (.inr e) K st
  | .blk id::K=>match e with
   | .exit i=>bif Nat.beq i id then sy P hs cut n (.inr .normal) K st else sy P hs cut n (.inr (.exit i)) K st
   |_=>sy P hs cut n (.inr e) K st
  | .lp B::K=>match e with
   | .normal=>some (True,[],.bk B st)
   |_=>sy P hs cut n (.inr e) K st
def Z1(P:Bu)(Q:Exit->St->Prop):Exit->St->Prop:=λe s=>∃s',Le P s s'/\Q e s'
def LeB(P:Bu)(B:St->Prop):St->Prop:=λs=>∃s',Le P s s'/\B s'
def dz(P:Bu):List Kf->(Exit->St->Prop)->Exit->St->Prop
 |[],Q=>Z1 P Q
 | .thn b::K,Q=>uE (λs=>Tr P b s (dz P K Q)) (dz P K Q)
 | .blk id::K,Q=>pu id (dz P K Q)
 | .lp B::K,Q=>uE (LeB P B) (dz P K Q)
def Res(P:Bu)(Q:Exit->St->Prop):Ae2->Prop
 | .lp c K st=>Tr P (.loop c) st (dz P K Q)
 | .fin e st=>Z1 P Q e st
 | .bk B st=>LeB P B st
 | .ct c K st=>Tr P c st (dz P K Q)
theorem Tr.leQ{c:Code}{st:St}{Q:Exit->St->Prop}(h:Tr P c st (Z1 P Q)):Tr P c st Q:=λcx a w R r k=>h cx a w R r λe s a' w' ⟨s',h1,h2⟩ r'=>k e s' a' w' h2 (h1 cx a' w' r')
theorem pQ{Q:Exit->St->Prop}{s s':St}(l:Le P s s'):∀(K:List Kf) (e:Exit),dz P K Q e s'->dz P K Q e s
 |[],e,h=>by obtain⟨t,h1,h2⟩:=h;exact⟨t,l.trans h1,h2⟩
 | .thn b::K,e,h=>by
  unfold dz at h⊢;cases e with
  |normal=>grind [uE,Tr.le]
  |_=>unfold uE at h⊢;exact pQ l K _ h
 | .blk id::K,e,h=>by
  unfold dz at h⊢;cases e with
  |exit i=>
   by_cases hi:i=id
   .subst hi;refine PX (pQ l K _ ?_);grind [pu]
   .refine PY hi (pQ l K _ ?_);grind [pu]
  |_=>unfold pu at h⊢;exact pQ l K _ h
 | .lp B::K,e,h=>by
  unfold dz at h⊢;cases e with
  |normal=>unfold uE at h⊢;obtain⟨t,h1,h2⟩:=h;exact⟨t,l.trans h1,h2⟩
  |_=>unfold uE at h⊢;exact pQ l K _ h
def CQ(P:Bu)(Q:Exit->St->Prop)(K:List Kf)(st:St):Code⊕Exit->Prop
 | .inl c=>Tr P c st (dz P K Q)
 | .inr e=>dz P K Q e st
theorem oK(hm:P.follows .mixedOrders=true){Q:Exit->St->Prop}{hs:List Hn}{cut:Nat}{out:Ae2}(hR:Res P Q out):∀(n:Nat) (m:Code⊕Exit) (K:List Kf) (st:St) (C:Prop) (u:Br),sy P hs cut n m K st=some (C,u,out)->C->CQ P Q K st m
 |0,m,K,st,C,u,h,d=>by cases h
 |n+1,.inl c,K,st,C,u,h,d=>by
  have ih:=oK hm (hs:=hs) (cut:=cut) hR n;unfold sy at h;show Tr P c st (dz P K Q);split at h
  .exact Fy (ih _ _ _ _ _ h d)
  .exact HJ (ih _ _ _ _ _ h d)
  .exact BH (ih _ _ _ _ _ h d)
  .exact BI (ih _ _ _ _ _ h d)
  .rename_i id ops f;cases hcut:Nat.beq cut (2000000+id) with
   |true=>rw[hcut] at h;simp only[ax,Fa,Fq] at h;obtain⟨rfl,rfl,rfl⟩:=h;exact hR
   |false=>
   rw[hcut] at h;simp only[Be] at h;simp only[rgK] at h;split at h
   .rename_i ps u1 s1 hr;split at h
    .rename_i l o k h1;cases h;obtain⟨hp,j⟩:=Gr d;have hQ:=ih (.inr .normal) K _ _ _ h1 j;cases f with
     |true=>exact Q8 hm hr hp hQ
     |false=>have:=D9 (id:=id) (QL (K:=dz P K Q .normal) _ _ _ _ _ hr hp hQ);simp_all
    .cases h
   .cases h
  .rename_i x a b;cases hcut:U9 cut x with
   |true=>rw[hcut] at h;simp only[ax,Fa,Fq] at h;obtain⟨rfl,rfl,rfl⟩:=h;exact hR
   |false=>
    rw[hcut] at h;simp only[Be] at h;split at h
    .rename_i t ht;refine wk ht ?_;cases t with
     |true=>exact ih _ _ _ _ _ h d
     |false=>exact ih _ _ _ _ _ h d
    .cases h
  .simp only[Fa,Fq] at h;obtain⟨rfl,rfl,rfl⟩:=h;exact hR
  .simp only[Fa,Fq] at h;obtain⟨rfl,rfl,rfl⟩:=h;exact hR
  .simp only[Fa,Fq] at h;obtain⟨rfl,rfl,rfl⟩:=h;exact hR
  .exact Fz (ih _ _ _ _ _ h d)
  .exact PW (ih _ _ _ _ _ h d)
  .cases h
 |n+1,.inr e,K,st,C,u,h,d=>by
  have ih:=oK hm (hs:=hs) (cut:=cut) hR n;unfold sy at h;show dz P K Q e st;split at h
  .simp only[Fa,Fq] at h;obtain⟨rfl,rfl,rfl⟩:=h;exact hR
  .rename_i b K;unfold dz;split at h
   .exact wm (ih _ _ _ _ _ h d)
   .rename_i hne;exact DU hne (ih _ _ _ _ _ h d)
  .rename_i id K;unfold dz;split at h
   .rename_i i;cases hb:Nat.beq i id with
    |true=>rw[hb] at h;obtain rfl:=bc hb;exact PX (ih _ _ _ _ _ h d)
    |false=>rw[hb] at h;exact PY (by grind [Nat.beq_refl]) (ih _ _ _ _ _ h d)
   .rename_i hne;exact UP (by grind) (ih _ _ _ _ _ h d)
  .rename_i B K;unfold dz;split at h
   .simp only[Fa,Fq] at h;obtain⟨rfl,rfl,rfl⟩:=h;exact wm hR
   .rename_i hne;exact DU hne (ih _ _ _ _ _ h d)
def HC(ρ:DF)(j:Nat):Fo:=match ρ.find? (λq=>Nat.beq q.2 j) with
 |some q=>match dq ρ q.1 with
  |some k=>bif Nat.beq k j then some q.1 else none
  |none=>none
 |none=>none
theorem Ace(h:HC ρ j=some i):dq ρ i=some j:=by grind [HC,bc]
def cR(ρ:DF):Nat:=ρ.foldr (λq m=>A8 (q.1+1) m) 0
theorem Va:∀{ρ:DF} {q:Nat×Nat},q∈ρ->q.1<cR ρ
 |x::r,q,h=>by
  show q.1<A8 (x.1+1) (cR r);rcases EY.1 h with rfl|h
  .exact xz _ _
  .exact Nat.lt_of_lt_of_le (Va h) (xA _ _)
def ER(ρ:DF)(p:Nat):Bool:=(ρ.all λq=>match dq ρ q.1 with|some k=>Nat.beq k q.2|none=>false)&&(ρ.all λq=>ρ.all λa=> !(Nat.beq q.2 a.2)||Nat.beq q.1 a.1)&&(List.range p).all λi=>match dq ρ i with|some k=>Nat.beq k i|none=>false
theorem Gt(h:dq ρ i=some j):(i,j)∈ρ:=by grind [dq,List.lookup_eq_some_iff]
variable {c:Code} {K:List Kf} {st:St} {Q:Exit->St->Prop}
structure Lp (ι:Type) where
 S:ι->St
 μ:ι->Nat
def Lp.B{ι:Type}(L:Lp ι)(i:ι):St->Prop:=λs=>∃j,s=L.S j/\L.μ j<L.μ i
theorem TJ{ι:Type}(L:Lp ι)(a:ι)(h:∀i,Tr P c (L.S i) (dz P (.lp (L.B i)::K) Q)):Tr P (.loop c) (L.S a) (dz P K Q):=
 L4 L.S L.μ a (Le.refl _) λi=>(h i).mono λe s hq=>by unfold dz at hq;cases e<;>grind [LeB,Lp.B,uE]
def ai(fn:Func):Code:=fn.body.getD .skip
theorem Y7{gl:CB}{f:FuncId}{r:G}(fn:Func)(hf:P.funcs[f]?=some fn)(hb:fn.body.isSome=true)(hn:Nat.ble gs.length fn.ntmps=true)(h:Tr P (ai fn) ⟨fn.ntmps,gl,bQ 0 gs,[],0,0,false⟩ (dz P [] (tH P fn r))):ba P gl f gs r:=
 HL hf (c:=ai fn) (by unfold ai;cases hx:fn.body<;>grind) (D5 hn) h.leQ
end
section
variable {P:Bu}
variable {c:Code} {K:List Kf} {st:St}
end
class Mix (P:Bu):Prop where
 mx:P.follows .mixedOrders=true
structure HP where
 h:Option Hn
 p:Prop
 t:p
def AH(d:Nat){X:Option G}{g:G}(t:X=some g):HP:=⟨some (.v d g),X=some g,t⟩
def hV(d:Nat){X:DC->DC->Option G}{g:G}(t:∀p q,X p q=some g):HP:=⟨some (.v d g),∀p q,X p q=some g,t⟩
def hbb(d:Nat){X:Option G}{g:G}(t:X=some g):HP:=⟨some (.b d g),X=some g,t⟩
def hf(d:Nat){P:Bu}{gl:CB}{f:FuncId}{gs:Bn}{g:G}(t:ba P gl f gs g):HP:=⟨some (.f d g),ba P gl f gs g,t⟩
def ha(d:Nat)(L:Bn)(M:Nat){p:Prop}(t:p):HP:=⟨some (.a d L M),p,t⟩
def hc{p:Prop}(t:p):HP:=⟨none,p,t⟩
def bK(l:List HP):List Hn:=l.filterMap (·.h)
def psU(A:List HP):Br->Prop
 |[]=>True
 |d::r=>match A.find? (λx=>match x.h with|some h=>Nat.beq h.key d|none=>false) with
  |some x=>x.p/\psU A r
  |none=>False
theorem Ra(A:List HP):∀u:Br,(∀d∈u,(A.find? (λx=>match x.h with|some h=>Nat.beq h.key d|none=>false)).isSome=true)->psU A u
 |[],_=>trivial
 |d::r,h=>by
  have h1:=h d aC;unfold psU;split
  .rename_i x hx;exact⟨x.t,Ra A r (by grind)⟩
  grind
def qe(A:List HP)(u:Br):Bool:=u.all λd=>(A.find? (λx=>match x.h with|some h=>Nat.beq h.key d|none=>false)).isSome
theorem kA{A:List HP}{u:Br}(h:qe A u=true):psU A u:=Ra A u λd hd=>GK.1 h d hd
def xb(s:St):Br:=s.fr.map (·.1)
section
variable {P:Bu} [M:Mix P] {c:Code} {K:List Kf} {st:St} {Q:Exit->St->Prop} {ι:Type}
end
section
variable {P:Bu}
theorem fP{β:Type}{s:Sem α}{f:α->Sem β}{a:α}(h:bt P s=some a):bt P (s>>=f)=bt P (f a):=by rw[dd,h];rfl
theorem Qr{c:Prop}[Decidable c]{a b:Sem α}:bt P (if c then a else b)=if c then bt P a else bt P b:=by split<;>rfl
theorem xV{d:Nat}{fs:Array Field}(ht:bt P (underlying t)=some (.struct fs))(hp:P.stoodInHeld t=false):bt P (Op.equalIn (d+1) t (.agg xs) (.agg ys))=bt P (Op.eqFields d xs ys fs.toList):=by
 unfold Op.equalIn;rw[fP ht];simp only[];rw[fP (show bt P Go.program=some P from rfl)];rw[hp];simp only[Bool.false_eq_true,if_false];rw[<-Array.forIn_toList];generalize fs.toList=l;clear ht;induction l with
 |nil=>rfl
 |cons f fs ih=>
  rw[dd] at ih;rw[dd,List.forIn_cons,dd];unfold Op.eqFields;by_cases hn:f.name≠ "_"
  .rw[BB hn,BB hn];simp only[dd];cases bt P (part f.type xs f.offset) with
   |none=>rfl
   |some a=>
   cases bt P (part f.type ys f.offset) with
   |none=>rfl
   |some b=>
   simp only[aL];cases bt P (Op.equalIn d f.type a b) with
   |none=>rfl
   |some r=>
   cases r with
   |false=>rfl
   |true=>exact ih
  .rw[BU hn,BU hn];exact ih
theorem uJ{d:Nat}{f:Field}{fs:List Field}{k k':IntKind}{a b:Int}(hn:f.name≠ "_")(hx:bt P (part f.type xs f.offset)=some (.int k a))(hy:bt P (part f.type ys f.offset)=some (.int k b))(ht:bt P (underlying f.type)=some (.int k')):bt P (Op.eqFields (d+1) xs ys (f::fs))=if a=b then bt P (Op.eqFields (d+1) xs ys fs)else some false:=by
 rw[Op.eqFields,BB hn,fP hx,fP hy];have e:bt P (Op.equalIn (d+1) f.type (.int k a) (.int k b))=some (a==b):=by unfold Op.equalIn;rw[fP ht];simp only[if_true];rfl
 rw[fP e,Qr];by_cases h:a=b
 .simp[h]
 .rw[BU h,BB (by simp[h])];rfl
theorem Cb{q:DC}{m:Bn}{us vs:List Value}(hl:rt l=some us)(hm:rt m=some vs)(hg:bt P (eqGuard .neq t p q (.agg us.toArray) (.agg vs.toArray))=some ())(he:bt P (Op.equalIn 10000 t (.agg us.toArray) (.agg vs.toArray))=some r):b8 P .neq t p q (.agg l) (.agg m)=some (.lit (.bool (!r))):=by
 unfold b8;simp only[cD,hl,hm,Option.map_some];rw[fP hg];have e:bt P (binOp .neq t (.agg us.toArray) (.agg vs.toArray))=some (.bool (!r)):=by show bt P (Op.equalIn 10000 t (.agg us.toArray) (.agg vs.toArray)>>=λb=>pure (Value.bool (!b)))=_;rw[fP he];rfl
 rw[e];rfl
theorem Eo{q:DC}{m:Bn}{us vs:List Value}(hl:rt l=some us)(hm:rt m=some vs)(hg:bt P (eqGuard .eql t p q (.agg us.toArray) (.agg vs.toArray))=some ())(he:bt P (Op.equalIn 10000 t (.agg us.toArray) (.agg vs.toArray))=some r):b8 P .eql t p q (.agg l) (.agg m)=some (.lit (.bool r)):=by
 unfold b8;simp only[cD,hl,hm,Option.map_some];rw[fP hg];have e:bt P (binOp .eql t (.agg us.toArray) (.agg vs.toArray))=some (.bool r):=by show bt P (Op.equalIn 10000 t (.agg us.toArray) (.agg vs.toArray)>>=λb=>pure (Value.bool b))=_;rw[fP he];rfl
 rw[e];rfl
end
abbrev iG(z:Int):G:= .lit (.int .i64 z)
abbrev uG(z:Int):G:= .lit (.int .u64 z)
abbrev bG(b:Bool):G:= .lit (.bool b)
theorem Mx(h: -9223372036854775808<=z/\z<9223372036854775808):IntKind.i64.wrap z=z:=w64 aa
theorem ad{a b:Int}(h:a+b=z)(hb: -9223372036854775808<=z/\z<9223372036854775808):lD .add (iG a) (iG b)=some (iG z):=by subst h;show some (iG (IntKind.i64.wrap (a+b)))=_;rw[Mx hb]
theorem sb{a b z:Int}(h:a-b=z)(hb: -9223372036854775808<=z/\z<9223372036854775808):lD .sub (iG a) (iG b)=some (iG z):=by subst h;show some (iG (IntKind.i64.wrap (a-b)))=_;rw[Mx hb]
theorem dec{q:Nat}(h:q<4611686018427387904):lD .sub (iG ((q+1:Nat):Int)) (iG 1)=some (iG (q:Int)):=by grind [sb]
theorem Xl{q:Nat}(h:q<4611686018427387904):lD .add (iG (q:Int)) (iG 1)=some (iG ((q+1:Nat):Int)):=by grind [ad]
section
variable {α:Type} {f:α->Bn} {k:Nat}
theorem QP(hk:∀x,(f x).length=k)(l:List α):(l.flatMap f).length=l.length*k:=by induction l<;>grind
theorem sQ(hk:∀x,(f x).length=k):∀(l:List α) (i:Nat),(l.flatMap f).drop (i*k)=(l.drop i).flatMap f
 |l,0=>aC
 |[],i+1=>aC
 |x::r,i+1=>by rw[List.flatMap_cons,Nat.add_mul,Nat.one_mul,List.drop_append,hk,Nat.add_sub_cancel,sQ hk r i,List.drop_of_length_le (by grind)];rfl
theorem yk(hk:∀x,(f x).length=k):∀(l:List α) (i:Nat),(l.flatMap f).take (i*k)=(l.take i).flatMap f
 |l,0=>aC
 |[],i+1=>aC
 |x::r,i+1=>by rw[List.flatMap_cons,Nat.add_mul,Nat.one_mul,Nat.add_comm,List.take_append,hk,Nat.add_sub_cancel_left,yk hk r i,List.take_of_length_le (by grind)];rfl
theorem wQ(hk:∀x,(f x).length=k){l:List α}{x:α}(h:l[i]?=some x):((l.flatMap f).drop (i*k)).take k=f x:=by grind [sQ,List.drop_eq_getElem_cons]
theorem l9{l:List α}{x:α}(h:l[i]?=some x):i*k+k<=l.length*k:=by have hi:=(cr h).1;have:=Nat.mul_le_mul_right k (Nat.succ_le_of_lt hi);grind
end
structure A3 (P:Bu) (ts te:Bk) (k:Nat) {α:Type} (f:α->Bn):Prop where
 el:dp P ts=some te
 sz:bw P te=some k
 kp:0<k
 ln:∀x,(f x).length=k
 im:∀x,(f x).all (nF 19)=true
section
variable {P:Bu} {ts te:Bk} {k:Nat} {α:Type} {f:α->Bn}
abbrev aE(f:α->Bn)(l:List α):G:= .sl (l.flatMap f) l.length
theorem A3.im'(R:A3 P ts te k f)(x:α):∀g∈f x,bB g:=by grind [A3,aG]
theorem A3.imm(R:A3 P ts te k f)(l:List α):∀g∈l.flatMap f,bB g:=λg hg=>by obtain⟨x,_,hx⟩:=List.mem_flatMap.1 hg;exact R.im' x g hx
theorem A3.len(R:A3 P ts te k f)(l:List α):(l.flatMap f).length=l.length*k:=QP R.ln l
theorem A3.ix(R:A3 P ts te k f){l:List α}{i:Nat}{x:α}(h:l[i]?=some x):fh P ts (aE f l) (i:Int)=some (.ptr (l.flatMap f) (i*k)):=by have hi:=(cr h).1;have hb:=l9 (k:=k) h;have hl:=R.len l;have hk:=R.kp;simp only[fh,R.el,R.sz,aL];grind
theorem A3.ixr(R:A3 P ts te k f)(j:Nat){l:List α}{i o:Nat}{x:α}(h:l[i]?=some x):fh P ts (.rsl j o l.length) (i:Int)=some (.ref j (o+i*k)):=by have hi:=(cr h).1;simp only[fh,R.el,R.sz,aL];grind
theorem A3.pt(R:A3 P ts te k f)(ha:fg P te=some true){l:List α}{i:Nat}{x:α}(h:l[i]?=some x):dN P te (l.flatMap f) (i*k)=some (.agg (f x)):=by grind [A3,l9,dN,len,wQ]
theorem A3.pt1(R:A3 P ts te 1 f)(ha:fg P te=some false){l:List α}{i:Nat}{x:α}(h:l[i]?=some x){g:G}(hg:f x=[g]:=by rfl):dN P te (l.flatMap f) (i*1)=some g:=by have e:=wQ (f:=f) (k:=1) R.ln h;rw[hg] at e;have e2:=congrArg (λz=>z[0]?) e;grind [dN]
theorem A3.fd(R:A3 P ts te k f){t:Bk}(ha:fg P t=some false){l:List α}{i j:Nat}{x:α}{g:G}(h:l[i]?=some x)(hg:(f x)[j]?=some g):dN P t (l.flatMap f) (i*k+j)=some g:=by have e:=wQ (f:=f) (k:=k) R.ln h;grind [dN]
def AnB(d:Nat)(R:A3 P ts te k f)(b:Nat)(l r:List α)(hb:(l.length+r.length)*b<=140737488355328):HP:=ha d ((l++r).flatMap f) (l++r).length (p:=(l.flatMap f).length=l.length*k/\(r.flatMap f).length=r.length*k/\(l.length+r.length)*b<=140737488355328/\l.flatMap f++r.flatMap f=(l++r).flatMap f/\l.length+r.length=(l++r).length) (by grind [A3.len])
theorem A3.snoc(R:A3 P ts te k f)(l:List α)(x:α):l.flatMap f++((f x).drop 0).take (1*k)=(l++[x]).flatMap f:=by grind [A3]
def Tn(d:Nat)(R:A3 P ts te k f)(b:Nat)(l:List α)(x:α)(hb:(l.length+1)*b<=140737488355328):HP:=ha d ((l++[x]).flatMap f) (l++[x]).length (p:=(l.flatMap f).length=l.length*k/\0+1*k<=(f x).length/\(l.length+1)*b<=140737488355328/\l.flatMap f++((f x).drop 0).take (1*k)=(l++[x]).flatMap f/\l.length+1=(l++[x]).length) (by grind [A3.len,A3.snoc])
theorem A3.pre(R:A3 P ts te k f)(j:Nat){n q:Nat}(h:q<=n):ig P ts (.rsl j 0 n) none (some (q:Int))=some (.rsl j 0 q):=by have:=R.kp;simp only[ig,R.el,R.sz,aL];grind
theorem A3.suf(R:A3 P ts te k f)(j:Nat){n q:Nat}(h:q<=n):ig P ts (.rsl j 0 n) (some (q:Int)) none=some (.rsl j (0+q*k) (n-q)):=by have:=R.kp;simp only[ig,R.el,R.sz,aL];grind
end
def qg(κ:Nat->Fo):Nat->G->G
 |0,_=> .junk
 |n+1,g=>match g with
  | .lit v=> .lit v
  | .agg l=> .agg (l.map (qg κ n))
  | .tup l=> .tup (l.map (qg κ n))
  | .clo f a b=> .clo f (a.map (qg κ n)) (b.map (qg κ n))
  | .ifc t x=> .ifc t (qg κ n x)
  | .ref i o=>match κ i with|some k=> .ref k o|none=> .junk
  | .rsl i o m=>match κ i with|some k=> .rsl k o m|none=> .junk
  | .mref i=>match κ i with|some k=> .mref k|none=> .junk
  | .yld i=>match κ i with|some k=> .yld k|none=> .junk
  | .rsr i m=>match κ i with|some k=> .rsr k m|none=> .junk
  | .ptr l o=> .ptr l o
  | .sl l m=> .sl l m
  | .mp a b c d=> .mp a b c d
  | .junk=> .junk
theorem IG{β β2:Bm}{S:Fs}{w:World}{κ:Nat->Fo}(hκ:∀i k,κ i=some k->β2 k=β i):∀(n:Nat) (g:G) (v:Value),RV β S w g v->RV β2 S w (qg κ n g) v
 |0,g,v,h=> .junk v
 |n+1,g,v,h=>by
  have ih:=IG (w:=w) (S:=S) hκ n;have el:∀(l:Bn) (us:Array Value),(∀(i:Nat) (g:G) (u:Value),l[i]?=some g->us[i]?=some u->RV β S w g u)->∀(i:Nat) (g:G) (u:Value),(l.map (qg κ n))[i]?=some g->us[i]?=some u->RV β2 S w g u:=by grind
  have im:∀(l:Bn) (us:Array Value),(∀(i:Nat) (g:G) (u:Value),l[i]?=some g->us[i]?=some u->IV S w g u)->∀(i:Nat) (g:G) (u:Value),(l.map (qg κ n))[i]?=some g->us[i]?=some u->RV β2 S w g u:=by grind [RV]
  cases h with
  |imm _ _ h=>
   cases h with
   |lit=>exact .imm _ _ (.lit v)
   |agg l us hl h1 h=>exact .agg _ us (by grind) h1 (im l us h)
   |tup l us hl h=>exact .tup _ us (by grind) (im l us h)
   |ptr l o b off us hs hb hc h1 h=>exact .imm _ _ (.ptr l o b off us hs hb hc h1 h)
   |sl l m a cap us hn hm ha h1 h=>exact .imm _ _ (.sl l m a cap us hn hm ha h1 h)
   |clo f a b fs cs hf hc h h'=>exact .clo f _ _ fs cs (by grind) (by grind) (im a fs h) (im b cs h')
   |ifc t x u h=>exact .ifc t _ u (ih x u (.imm _ _ h))
   |mp ks vs ns clock b ents hs hb ho hl hk hn h=>exact .imm _ _ (.mp ks vs ns clock b ents hs hb ho hl hk hn h)
  |agg l us hl h1 h=>exact .agg _ us (by grind) h1 (el l us h)
  |tup l us hl h=>exact .tup _ us (by grind) (el l us h)
  |clo f a b fs cs hf hc h h'=>exact .clo f _ _ fs cs (by grind) (by grind) (el a fs h) (el b cs h')
  |ifc t x u h=>exact .ifc t _ u (ih x u h)
  |ref i o b C h=>grind [qg,RV]
  |rsl0 i o h=>grind [qg,RV]
  |rsl i o m b C o' cap h hn hm ho c=>grind [qg,RV]
  |mref i b C h=>grind [qg,RV]
  |rsr i m b C h hn hm=>grind [qg,RV]
  |yld i b C h=>grind [qg,RV]
  |junk=>exact .junk v
def Wu(κ:Nat->Fo)(l a:Bn):Prop:=a=l.map (qg κ 20)\/(a=l/\∀g∈l,bB g)
def RnE(κ:Nat->Fo)(l a:List (Value×G×Nat)):Prop:=a=l.map (λe=>(e.1,qg κ 20 e.2.1,e.2.2))\/(a=l/\∀e∈l,bB e.2.1)
def MB(κ:Nat->Fo)(o a:Ob):Prop:=a.t=o.t/\match o.x,a.x with
 |none,none=>Wu κ o.l a.l
 |some (.map es c),some (.map es' c')=>o.l=[]/\a.l=[]/\c'=c/\RnE κ es es'
 |_,_=>False
theorem Wu.get{β β2:Bm}{S:Fs}{w:World}{κ:Nat->Fo}{l l':Bn}(h:Wu κ l l')(hκ:∀i k,κ i=some k->β2 k=β i){j:Nat}{g':G}(hg:l'[j]?=some g'):∃g,l[j]?=some g/\∀v,RV β S w g v->RV β2 S w g' v:=by
 rcases h with rfl|⟨rfl,hi⟩
 .grind [IG]
 .exact⟨g',hg,λv hv=> .imm _ _ (hi g' (bO hg) _ _ _ _ hv)⟩
theorem Wu.len{κ:Nat->Fo}{l l':Bn}(h:Wu κ l l'):l'.length=l.length:=by
 rcases h with rfl|⟨rfl,_⟩
 .simp
 .rfl
theorem U8{P:Bu}{β β2:Bm}{S:Fs}{w:World}{κ:Nat->Fo}(hκ:∀i k,κ i=some k->β2 k=β i){o o':Ob}(h:RO P β S w i o)(hr:MB κ o o')(hk:β2 k=β i):RO P β2 S w k o':=by
 obtain⟨t,l,x⟩:=o;obtain⟨t',m,a⟩:=o';obtain⟨e,hr⟩:=hr;simp only at e hr;subst e;rcases h with⟨h1,h2,h3⟩|⟨b,y,q,h1,h2,h3,h4,h5⟩|⟨b,C,cur,hx,h1,h2,h3,h4,h5,h6⟩
 .simp only at h2 h3;rcases h3 with rfl|rfl
  .cases a with
   |some a=>exact hr.elim
   |none=>exact .inl ⟨hk.trans h1,by have:=hr.len;grind,.inl rfl⟩
  grind
 .simp only at h1 h2;subst h1;cases y with
  |map es c=>
   cases a with
   |none=>exact hr.elim
   |some a=>
    cases a with
    |map es' c'=>
     obtain⟨_,e1,rfl,he⟩:=hr;refine .inr (.inl ⟨b,_,q,rfl,e1,hk.trans h3,h4,?_⟩);obtain⟨ents,g1,g2,d⟩:=h5;rcases he with rfl|⟨rfl,hi⟩
     .refine⟨ents,g1,by grind,λj kk g n hj=>?_⟩;grind [IG]
     .refine⟨ents,g1,g2,λj kk g n hj=>?_⟩;obtain⟨e,e1,e2,e3,e4⟩:=d j kk g n hj;exact⟨e,e1,e2,e3,.imm _ _ (hi _ (bO hj) _ _ _ _ e4)⟩
    |iter _ _ _ _=>exact hr.elim
    |loop _ _ _ _ _ _ _=>exact hr.elim
    |resv=>exact hr.elim
  |iter _ _ _ _=>grind
  |loop _ _ _ _ _ _ _=>grind
  |resv=>grind
 .simp only at hx h2 h3 h5 h6;subst hx;cases a with
  |some a=>exact hr.elim
  |none=>have hl:m.length=l.length:=Wu.len hr;refine .inr (.inr ⟨b,C,cur,rfl,hk.trans h1,h2,h3,h4,by grind,λj g hg=>?_⟩);obtain⟨g0,f,hv⟩:=Wu.get (S:=S) (w:=w) hr hκ hg;grind
section
variable {P:Bu}
theorem Ais(n:Nat)(g:G):Wk P st ρ g (qg (HC ρ) n g):=λcx a w β r v hv=>
 (IG (β2:=λi=>(dq ρ i).bind β) (λi k h=>by rw[Ace h];rfl) n g v hv).step (by grind) (by grind) (A9.refl _ _)
theorem Ajh{l':Bn}(h:Wu (HC ρ) l l'):∀(k:Nat) (g a:G),l[k]?=some g->l'[k]?=some a->Wk P st ρ g a:=λk g a h1 h2=>by
 rcases h with rfl|⟨rfl,hi⟩
 all_goals grind [Ais,ry]
def Y3(κ:Nat->Fo)(s b:Option Ob):Prop:=∀a,b=some a->∃ob,s=some ob/\MB κ ob a
theorem Aa8{o':Option Ob}{σ:aQ}(h1:dq ρ i=some j)(h:Y3 (HC ρ) (ag st.σ j) o')(hr:Dp P st ρ σ):Dp P st ρ ((i,o')::σ):=λk d hk=>by
 rw[Bf] at hk;split at hk
 .subst_vars;obtain⟨⟨t,l,x⟩,e,h2,h3⟩:=h d rfl;obtain⟨t',g,f⟩:=d;cases x with
  |none=>
   cases f with
   |some _=>exact h3.elim
   |none=>have hl:=Wu.len h3;simp only at hl;exact⟨j,_,h1,e,h2,by grind,(by grind),Ajh h3,trivial⟩
  |some x=>
   cases x with
   |map es c=>
    cases f with
    |none=>exact h3.elim
    |some f=>
     cases f with
     |map es' c'=>
      obtain⟨e1,e2,rfl,he⟩:=h3;simp only at e1 e2;subst e1 e2;refine⟨j,_,h1,e,h2,Dl _,λe=>e,(by grind),SV ?_ λk a a' b b' m n g1 g2=>?_,(by grind)⟩
      .rcases he with rfl|⟨rfl,_⟩
       .simp
       .rfl
      .rcases he with rfl|⟨rfl,hi⟩
       all_goals grind [Ais,ry]
     |iter _ _ _ _=>exact h3.elim
     |loop _ _ _ _ _ _ _=>exact h3.elim
     |resv=>exact h3.elim
   |iter _ _ _ _=>grind
   |loop _ _ _ _ _ _ _=>grind
   |resv=>grind
 .exact hr k d hk
end
end Go.Proofs.YtdpdicldkohflaaGreatDoor
