/- Texts. -/
import Derived.Laws.Bits64b
import Derived.Test.YtghphhhpagagbaaGreatDoorP1
namespace Go.Proofs.YtghphhhpagagbaaGreatDoor
set_option linter.unusedSectionVars false
set_option linter.unusedVariables false
set_option linter.unusedSimpArgs false
open Go.RowKit Tryz
variable (gl:CD)
variable {α:Type}{o:Bp}{i:Ab}{R R':Ad}{l:List (Nat×Ob)}{a j k n r s w:Nat}{x x':Az}{g:CA}{b label:CM}{P:Br}{y:DC}{t:Bo}{fi_a1 fi_may:FuncId}{fa_a1 fa_may fc_a1 fc_may:Bn}{z:Int}
section
attribute [local irreducible] Tr dz Gp
abbrev oOp(o:Bp):Option Ob:=some ⟨64,aJ o,none⟩
abbrev XK(i:Ab):Option Ob:=some ⟨25,aj i,none⟩
abbrev Afi(R:Ad)(o:Bp)(i:Ab):aQ:=BW f0 R++[(14,oOp o),(15,XK i)]
abbrev UJ(R:Ad)(o:Bp)(i:Ab)(R':Ad):Prop:=UE prog gl 72 [.ref 0 0,.agg (aJ o),.agg (aj i)] (BW f0 R) 14 5 (iU []) (BW f0 R')
theorem PC{R:Ad}(hR:Bk R)(h:Gp prog Tryz.f72 (zE prog Tryz.f72 (iU []) (BW f0 R')) [] false [1,1,0] (s0 259 gl [(0,.ref 0 0),(4,.ref 14 0),(5,.ref 15 0)] (Afi R o i) 16 5)):UJ gl R o i R':=by refine dFP func72 ?_;exact pO 1110 (s0 259 gl [(0,.ref 0 0),(4,.ref 14 0),(5,.ref 15 0)] (Afi R o i) 16 5) [hof gl 24 hR o.By 16,KY 25 (Ajg R (DD R o.By))] (rlB (Gq f0++[(14,14),(15,15)]) f0 hR) h (ρ:=Gq f0++[(14,14),(15,15)]) (kd:=Nz)
abbrev f16:Nat->Nat:=fW f0 16
abbrev rlX{f:Nat->Nat}{R:Ad}:List HP:=hc (⟨rfl,L7 aC⟩:iU []=iU []/\bB (iU []))::L0.map λk=>hc (λob h=>h:∀ob,Bu f R k=some ob->Bu f R k=some ob)
theorem Ajj{R:Ad}(hR:Bk R)(hk:o.Kind=2):UJ gl R o i (I9 R o.Device o.Role):=by refine PC gl hR ?_;exact Hh f16 _ (IX hR _ _) [hr 29 (show decide (o.Kind=1)=false by rw[hk];rfl),hr 52 (show decide (o.Kind=2)=true by rw[hk];rfl),hrw 58 f0 16 [iG o.Device,iG o.Role] hR (IX hR _ _) (Wg gl hR o.Device o.Role)] (rlX (f:=f16) (R:=I9 R o.Device o.Role))
theorem AdN{R:Ad}(hR:Bk R)(hk:o.Kind=3)(hd:o.Device≠0):UJ gl R o i (G4 R o.Device):=by refine PC gl hR ?_;exact Hh f16 _ (Ko hR _) [hr 29 (show decide (o.Kind=1)=false by rw[hk];rfl),hr 52 (show decide (o.Kind=2)=false by rw[hk];rfl),hr 60 (show decide (o.Kind=3)=true by rw[hk];rfl),hr 63 (show decide (o.Device≠0)=true from C3 hd),hrw 67 f0 16 [iG o.Device] hR (Ko hR _) (Aah gl hR o.Device)] (rlX (f:=f16) (R:=G4 R o.Device))
theorem Ahb{R:Ad}(hR:Bk R)(h1:o.Kind≠1)(h2:o.Kind≠2)(h3:o.Kind≠3)(h5:o.Kind≠5)(h9:o.Kind≠9)(h11:o.Kind≠11)(h12:o.Kind≠12)(h13:o.Kind≠13):UJ gl R o i R:=by refine PC gl hR ?_;exact Hh f0 _ hR [hr 29 (C6 h1),hr 52 (C6 h2),hr 60 (C6 h3),hr 86 (C6 h5),hr 102 (C6 h9),hr 120 (C6 h11),hr 168 (C6 h12),hr 213 (C6 h13)] (rlX (f:=f0) (R:=R))
end
section
attribute [local irreducible] Tr dz Gp
abbrev Alh(t:Nat->Option Ob):aQ:=L0.map λk=>(k,t k)
abbrev frJ(a b:Nat){R:Ad}{k:Int}{x:Az}(_:R.members.get k=some x):Fr:=[(a,iG k),(b,.ref (nM k) 0)]
def tg(R:Ad)(l:List (Nat×Ob))(k:Nat):Option Ob:=match l.find? λq=>Nat.beq q.1 k with
 |some q=>some q.2
 |none=>Bu f0 R k
theorem Y1(h:∀q∈l,Bu f0 R q.1=some q.2)(k:Nat):tg R l k=Bu f0 R k:=by grind [tg,bc]
abbrev stT{R:Ad}{l:List (Nat×Ob)}(_:∀q∈l,Bu f0 R q.1=some q.2):aQ:=Alh (tg R l)
abbrev rlT(ρ:DG)(f:Nat->Nat){R:Ad}(hR:Bk R){l:List (Nat×Ob)}(hl:∀q∈l,Bu f0 R q.1=some q.2)(h:okR ρ f=true:=by kernel_rfl):List HP:=L0.map λk=>hc (show XV (Iu ρ) (Bu f R k) (tg R l k) from(Y1 hl k).symm▸PB (κ:=Iu ρ) (f:=f) (f':=f0) (λk ⟨ob,hk⟩=>Aae h (DY hk)) hR k)
abbrev Ali(ρ:DG){R:Ad}(hR:Bk R){l:List (Nat×Ob)}(hl:∀q∈l,Bu f0 R q.1=some q.2)(h:okR ρ f0=true:=by kernel_rfl):List HP:=L0.map λk=>hc (show XV (Iu ρ) (tg R l k) (Bu f0 R k) from(Y1 hl k).symm▸PB (κ:=Iu ρ) (f:=f0) (f':=f0) (λk ⟨ob,hk⟩=>Aae h (DY hk)) hR k)
abbrev Hw(R:Ad){r:G}(hr:bB r):List HP:=hc (⟨rfl,hr⟩:r=r/\bB r)::L0.map λk=>hc (λob h=>h:∀ob,Bu f0 R k=some ob->Bu f0 R k=some ob)
abbrev Wq{R:Ad}{l:List (Nat×Ob)}(hl:∀q∈l,Bu f0 R q.1=some q.2){r:G}(hr:bB r):List HP:=hc (⟨rfl,hr⟩:r=r/\bB r)::L0.map λk=>hc (λob h=>(Y1 hl k).trans h:∀ob,Bu f0 R k=some ob->tg R l k=some ob)
abbrev eM(k:Nat)(x:Az):Nat×Ob:=(4+k,⟨tMe,[iG x.role,gpG f0 k x],none⟩)
abbrev eG(k:Nat)(g:CA):Nat×Ob:=(7+k,⟨tGu,guC f0 k g,none⟩)
abbrev eV(k:Nat)(g:CA):Nat×Ob:=(10+k,M5 tMv BU iG g.vouches)
theorem Ac7(h3:k=1\/k=2\/k=3)(h:R.members.get (k:Int)=some x):Bu f0 R (eM k x).1=some (eM k x).2:=by rcases h3 with rfl|rfl|rfl<;>exact(by show Option.map _ _=_;rw[h];rfl)
theorem Afj(h3:k=1\/k=2\/k=3)(h:R.members.get (k:Int)=some x)(hg:x.guard=some g):Bu f0 R (eG k g).1=some (eG k g).2:=by rcases h3 with rfl|rfl|rfl<;>exact(by show(Option.bind _ _).map _=_;grind)
theorem Alj(h3:k=1\/k=2\/k=3)(h:R.members.get (k:Int)=some x)(hg:x.guard=some g):Bu f0 R (eV k g).1=some (eV k g).2:=by rcases h3 with rfl|rfl|rfl<;>exact(by show(Option.bind _ _).map _=_;grind)
def Lq(x:Az)(i:Ab):Bool:=match x.guard with
 |none=>false
 |some g=>decide (g.id=i)
def Ho(R:Ad)(i:Ab):Int:=match R.members.es.find? λe=>Lq e.2.1 i with
 |some e=>e.1
 |none=>0
theorem Bk.uni{R:Ad}(hR:Bk R){k k':Int}{x x':Az}{i:Ab}(h:R.members.get k=some x)(h':R.members.get k'=some x')(g:Lq x i=true)(a:Lq x' i=true):k=k':=by grind [Bk,Lq]
theorem Afk(hR:Bk R){e:Int×Az×Nat}(he:e∈R.members.es){i:Ab}(h:Lq e.2.1 i=true):Ho R i=e.1:=by
 unfold Ho;split
 .rename_i q hq;exact hR.uni (hR.mem (List.mem_of_find?_eq_some hq)).1 (hR.mem he).1 (by have:=List.find?_some hq;exact this) h
 grind
theorem AdO(h:∀e∈R.members.es,Lq e.2.1 i=false):Ho R i=0:=by grind [Ho]
abbrev stU(R:Ad)(i:Ab)(seen:Bq):aQ:=BW f0 R++[(14,XK i),(15,Aag VC 4 R.members.clk seen)]
abbrev frU:Fr:=[(0,.ref 0 0),(3,.ref 14 0),(11,.ref 15 0)]
abbrev ρ15:DG:=Gq f0++[(14,14),(15,15)]
theorem Abr(hR:Bk R)(i:Ab):UE prog gl 146 [.ref 0 0,.agg (aj i)] (BW f0 R) 14 14 (iG (Ho R i)) (BW f0 R):=by
 refine dFP func146 ?_;refine pO 1100 (s0 34 gl [(0,.ref 0 0),(3,.ref 14 0)] (BW f0 R++[(14,XK i)]) 15 14) [] (rlB (Gq f0++[(14,14)]) f0 hR) ?_ (ρ:=Gq f0++[(14,14)]) (kd:=Nz);refine yl (Bs':=[]) [1,0,0] (J:=(s0 34 gl frU (stU R i []) 16 14)) [] (rlB ρ15 f0 hR) ?_ (ρ:=ρ15) (kd:=Nz);refine dNx 1101 ?_;refine dMw 11 12 13 0 (iti:=15) (mi:=4) (clock:=R.members.clk) (since:=R.members.clk) (T:=VC) (ty:=VC) (es:=VG f0 R.members) (λseen=>(s0 34 gl frU (stU R i seen) 16 14)) (λseen=>∀e∈R.members.es,e.2.2∈seen->Lq e.2.1 i=false) (λe _ h=>by cases h) (λe he=>by obtain⟨x,hx,rfl⟩:=Fm.1 he;exact hR.cm.lt x hx) rfl (Le.refl _) (λseen=>aH) (λseen=>aH) (λseen=>⟨show 12<34 by decide,show 13<34 by decide⟩) (λB seen k g n hI hme hns a=>?_) (λseen hI hs=>?_)
 .obtain⟨e,he,c⟩:=Fm.1 hme;simp only[Ge] at c;obtain⟨rfl,rfl,rfl⟩:=c;have hge:jr ((15,Aag VC 4 R.members.clk (seen++[e.2.2]))::stU R i seen) (.ref 15 0)=some (.tup [db (JO e.1),.ref (nM e.1) 0]):=yo (iti:=15) (mi:=4) (since:=R.members.clk) (clock:=R.members.clk) (T:=VC) (ty:=VC) (seen:=seen) aH aH (by rw[HR];exact hR.cm.nd) hme;obtain⟨hm,h3⟩:=hR.mem he;have hI':Lq e.2.1 i=false->∀x∈R.members.es,x.2.2∈seen++[e.2.2]->Lq x.2.1 i=false:=λhk x hx h=>by
   rcases I5.1 h with h|h
   .exact hI x hx h
   .rw[List.mem_singleton] at h;rw[Nv hR.cm.nd hx he h];exact hk
  have hw:=Afk hR he (i:=i);obtain⟨k,x,n⟩:=e;dsimp only at hge hm h3 hI' hw a;obtain⟨j,rfl,b⟩:∃j:Nat,k=(j:Int)/\(j=1\/j=2\/j=3):=⟨k.toNat,aa,aa⟩;obtain⟨role,gd⟩:=x;have e1:=Ac7 b hm;cases gd with
  |none=>
   have a:=a (hI' rfl);have hl:∀q∈[eM j ⟨role,none⟩],Bu f0 R q.1=some q.2:=λq hq=>by rw[List.mem_singleton.1 hq];exact e1
   rcases b with rfl|rfl|rfl
   all_goals
    refine pO 11012211210 (s0 34 gl (frJ 5 6 hm++frU) (stT hl++[(14,XK i),(15,Aag VC 4 R.members.clk (seen++[n]))]) 16 14) [YT 14 hge] (rlT ρ15 f0 hR hl) ?_ (ρ:=ρ15) (kd:=Nz)
    exact jw [] (Ali ρ15 hR hl) a (ρ:=ρ15) (kd:=Nz)
  |some g=>
   have e2:=Afj b hm rfl;have hl:∀q∈[eM j ⟨role,some g⟩,eG j g],Bu f0 R q.1=some q.2:=λq hq=>by
    rcases EO.1 hq with rfl|hq
    .exact e1
    .rw[List.mem_singleton.1 hq];exact e2
   cases hd:decide (g.id=i) with
   |false=>
    have a:=a (hI' hd);rcases b with rfl|rfl|rfl
    all_goals
     refine pO 11012211210 (s0 34 gl (frJ 5 6 hm++frU) (stT hl++[(14,XK i),(15,Aag VC 4 R.members.clk (seen++[n]))]) 16 14) [YT 14 hge] (rlT ρ15 f0 hR hl) ?_ (ρ:=ρ15) (kd:=Nz)
     exact jw [hV 31 (dU g.id i hd)] (Ali ρ15 hR hl) a (ρ:=ρ15) (kd:=Nz)
   |true=>
    rw[show Ho R i=(j:Int) from hw hd];have hr:bB (iG (j:Int)):=mN _;rcases b with rfl|rfl|rfl
    all_goals
     refine pO 11012211210 (s0 34 gl (frJ 5 6 hm++frU) (stT hl++[(14,XK i),(15,Aag VC 4 R.members.clk (seen++[n]))]) 16 14) [YT 14 hge] (rlT ρ15 f0 hR hl) ?_ (ρ:=ρ15) (kd:=Nz)
     exact Hh f0 _ hR [hV 31 (dU g.id i hd)] (Wq hl hr)
 .rw[AdO λe he=>hI e he (hs (JO e.1,.ref (nM e.1) 0,e.2.2) (Fm.2 ⟨e,he,rfl⟩))];exact Hh f0 _ hR [] (Hw R (mN (.int .i64 0)))
end
def T{α:Type}(x:Option α)(Q:α->Prop):Prop:=∃v,x=some v/\Q v
section
variable {α β γ σ ρ:Type}
theorem T.mono{x:Option α}{Q R:α->Prop}(h:T x Q)(k:∀v,Q v->R v):T x R:=by obtain⟨v,e,q⟩:=h;exact⟨v,e,k v q⟩
theorem T.some{v:α}{Q:α->Prop}(h:Q v):T (some v) Q:=⟨v,rfl,h⟩
theorem T.bind{x:Option α}{f:α->Option β}{Q:β->Prop}(h:T x λv=>T (f v) Q):T (x.bind f) Q:=by obtain⟨v,e,w,e2,q⟩:=h;exact⟨w,by grind,q⟩
theorem T.eqb{x:Option α}{f:α->Option β}{Q:β->Prop}{v:α}(e:x= .some v)(h:T (f v) Q):T (x.bind f) Q:=by grind
theorem T.ite{c:Bool}{a b:Option α}{Q:α->Prop}(h1:c=true->T a Q)(h2:c=false->T b Q):T (bif c then a else b) Q:=by grind
theorem T.dec{p:Prop}[Decidable p]{a b:Option α}{Q:α->Prop}(h1:p->T a Q)(h2:¬p->T b Q):T (bif decide p then a else b) Q:=by grind
theorem T.eq{x:Option α}{v:α}(h:T x λw=>w=v):x= .some v:=by obtain⟨w,e,rfl⟩:=h;exact e
theorem T.of{x:Option α}{v:α}{Q:α->Prop}(h:x= .some v)(q:Q v):T x Q:=⟨v,h,q⟩
theorem T.ix{l:List α}{i:Int}{Q:α->Prop}{x:α}(h0:0<=i)(hx:l[i.toNat]?= .some x)(h:Q x):T (aS l i) Q:=⟨x,by grind [aS],h⟩
theorem T.ixl{l:List α}{i:Int}{Q:α->Prop}(h0:0<=i)(h1:i<l.length)(h:∀x,l[i.toNat]?= .some x->x∈l->Q x):T (aS l i) Q:=by have hx:l[i.toNat]?= .some (l[i.toNat]'aa):=DR _;grind [ix]
theorem T.app{b:Nat}{l r:List α}{Q:List α->Prop}(h:(l.length+r.length)*b<=140737488355328)(q:Q (l++r)):T (aT b l r) Q:=⟨_,by grind [aT],q⟩
theorem T.rem{a b:Int}{Q:Int->Prop}(h:b≠0)(q:Q (a.tmod b)):T (u9 a b) Q:=⟨_,by grind [u9],q⟩
theorem T.quo{a b:Int}{Q:Int->Prop}(h:b≠0)(q:Q (IntKind.i64.wrap (a.tdiv b))):T (Gg a b) Q:=⟨_,by grind [Gg],q⟩
theorem T.set{l:List α}{i:Int}{x:α}{Q:List α->Prop}(h0:0<=i)(h1:i<l.length)(q:Q (l.set i.toNat x)):T (ji l i x) Q:=⟨_,by grind [ji],q⟩
theorem T.pre{l:List α}{i:Int}{Q:List α->Prop}(h0:0<=i)(h1:i<=l.length)(q:Q (l.take i.toNat)):T (tq l i) Q:=⟨_,by grind [tq],q⟩
theorem T.suf{l:List α}{i:Int}{Q:List α->Prop}(h0:0<=i)(h1:i<=l.length)(q:Q (l.drop i.toNat)):T (mc l i) Q:=⟨_,by grind [mc],q⟩
theorem T.make{b:Nat}{z:α}{n:Int}{Q:List α->Prop}(h0:0<=n)(h1:b*n.toNat<=281474976710656)(h2:n<=9223372036854775807)(q:Q (List.replicate n.toNat z)):T (rP b z n) Q:=⟨_,by grind [rP],q⟩
def Rd(N:σ->Prop)(Q:ρ->Prop):σ⊕ρ->Prop
 | .inl s=>N s
 | .inr r=>Q r
theorem T.lpN{step:σ->Option (σ⊕ρ)}{Q:ρ->Prop}(I:σ->Prop)(μ:σ->Nat)(h:∀s,I s->T (step s) (Rd (λs'=>I s'/\μ s'<μ s) Q)):∀(n:Nat) (s:σ),μ s<n->I s->T (KN step n s) Q
 |0,s,hn,_=>(by grind)
 |n+1,s,hn,hi=>by
  obtain⟨r,e,q⟩:=h s hi;unfold KN;rw[e];cases r with
  |inl s'=>exact T.lpN I μ h n s' (by have:=q.2;omega) q.1
  |inr r=>exact⟨r,rfl,q⟩
theorem T.loop{step:σ->Option (σ⊕ρ)}{Q:ρ->Prop}{s:σ}(I:σ->Prop)(μ:σ->Nat)(hi:I s)(hm:μ s<4611686018427387904)(h:∀s,I s->T (step s) (Rd (λs'=>I s'/\μ s'<μ s) Q)):T (AB step s) Q:=T.lpN I μ h _ s hm hi
theorem T.forA{step:σ×Int->Option ((σ×Int)⊕ρ)}{Q:ρ->Prop}{a:σ}(n:Nat)(J:Nat->σ->Prop)(hn:n<2305843009213693952)(h0:J 0 a)(h:∀k acc,k<n->J k acc->T (step (acc,(k:Int))) (Rd (λs'=>s'.2=((k+1:Nat):Int)/\J (k+1) s'.1) Q))(he:∀acc,J n acc->T (step (acc,(n:Int))) (Rd (λ_=>False) Q)):T (AB step (a,0)) Q:=by
 refine T.loop (λs=>∃k:Nat,k<=n/\s.2=(k:Int)/\J k s.1) (λs=>n-s.2.toNat) (by grind) cq ?_;rintro⟨acc,i⟩ ⟨k,hk,hik,hj⟩;simp only at hik hj;subst hik;rcases Hx k n with hlt|hge
 .refine(h k acc hlt hj).mono λr hr=>?_;cases r with
  |inl s'=>refine⟨⟨k+1,aa,hr.1,hr.2⟩,?_⟩;rw[hr.1];simp;omega
  |inr r=>exact hr
 grind
theorem T.forI{step:Int->Option (Int⊕ρ)}{Q:ρ->Prop}(n:Nat)(J:Fu)(hn:n<2305843009213693952)(h0:J 0)(h:∀k,k<n->J k->T (step (k:Int)) (Rd (λs'=>s'=((k+1:Nat):Int)/\J (k+1)) Q))(he:J n->T (step (n:Int)) (Rd (λ_=>False) Q)):T (AB step 0) Q:=by
 refine T.loop (λs=>∃k:Nat,k<=n/\s=(k:Int)/\J k) (λs=>n-s.toNat) (by grind) cq ?_;rintro i ⟨k,hk,hik,hj⟩;subst hik;rcases Hx k n with hlt|hge
 .refine(h k hlt hj).mono λr hr=>?_;cases r with
  |inl s'=>refine⟨⟨k+1,aa,hr.1,hr.2⟩,?_⟩;rw[hr.1];simp;omega
  |inr r=>exact hr
 grind
theorem bM{z:Int}(h1: -9223372036854775808<=z)(h2:z<=9223372036854775807):wI z=z:=by grind [wI,IntKind.wrap_i64]
theorem aq(h:k<2305843009213693952):wI ((k:Int)+1)=((k+1:Nat):Int):=by grind [bM]
theorem rM(h:n<18446744073709551616):wU (n:Int)=n:=by grind [wU,IntKind.wrap_u64]
theorem au{l:List α}{k:Nat}:aS l (k:Int)=l[k]? :=by grind [aS]
theorem eA{l:List α}{k:Nat}(h:k<l.length):decide ((k:Int)<ah l)=true:=by grind [ah]
theorem eF{l:List α}:decide ((l.length:Int)<ah l)=false:=by grind [ah]
theorem T.forE{step:List β×Int->Option ((List β×Int)⊕List β)}(l:List α)(a:List β)(enc:α->List β)(c:Nat)(hn:l.length<2305843009213693952)(hc:∀x∈l,(enc x).length<=c)(h:∀(k:Nat) (acc:List β) (x:α),l[k]?= .some x->x∈l->k<l.length->acc.length<=a.length+k*c->T (step (acc,(k:Int))) (Rd (λs'=>s'.2=((k+1:Nat):Int)/\s'.1=acc++enc x) (λ_=>False)))(he:∀acc,step (acc,(l.length:Int))= .some (.inr acc)):T (AB step (a,0)) (λr=>r=a++l.flatMap enc):=by
 refine T.forA l.length (λk acc=>acc=a++(l.take k).flatMap enc/\acc.length<=a.length+k*c) hn aC (λk acc hk hj=>?_) λacc hj=>?_
 .have hx:l[k]?= .some (l[k]'hk):=DR hk;refine(h k acc _ hx (by simp_all) hk hj.2).mono λr hr=>?_;cases r with
  |inr r=>exact hr.elim
  |inl s'=>obtain⟨h1,h2⟩:=hr;constructor<;>grind [Jn]
 .rw[he];refine .some ?_;show acc=_;grind
theorem d8{l:List α}{enc:α->List β}{c:Nat}(hc:∀x∈l,(enc x).length<=c):(l.flatMap enc).length<=l.length*c:=by induction l<;>grind [Nat.succ_mul]
theorem T.appL{l r:List α}{n m:Nat}{Q:List α->Prop}(h1:l.length<=n)(h2:r.length<=m)(hnm:n+m<=140737488355328)(q:(l++r).length<=n+m->Q (l++r)):T (aT 1 l r) Q:=by grind [app]
theorem T.then{x:Option α}{f:α->Option β}{v:α}{Q:β->Prop}(h:T x λw=>w=v)(q:T (f v) Q):T (x.bind f) Q:=by grind [bind,mono]
end
section
attribute [local irreducible] Tr D8 GS Le Wk ve ba bB XP J6 Dp
section
variable {P:Br} {t:Bo} {x y:DC}
theorem SS{b:Nat}(ha:a<2^63)(hb:b<2^63):b8 P .or t x y (.lit (.int .i64 (a:Int))) (.lit (.int .i64 (b:Int)))=some (.lit (.int .i64 ((a|||b:Nat):Int))):=by
 have h:b8 P .or t x y (.lit (.int .i64 (a:Int))) (.lit (.int .i64 (b:Int)))=some (.lit (.int .i64 (IntKind.i64.wrap ((BitVec.ofInt IntKind.i64.bits (a:Int)|||BitVec.ofInt IntKind.i64.bits (b:Int)).toNat:Nat)))):=by simp[b8,cD,eqGuard,binOp,Op.intBits,bz,db]
 have h1:(BitVec.ofInt IntKind.i64.bits (a:Int)|||BitVec.ofInt IntKind.i64.bits (b:Int)).toNat=a|||b:=by show(BitVec.ofInt 64 (a:Int)|||BitVec.ofInt 64 (b:Int)).toNat=a|||b;rw[BitVec.ofInt_natCast,BitVec.ofInt_natCast,BitVec.toNat_or,BitVec.toNat_ofNat,BitVec.toNat_ofNat,MJ aa,MJ aa]
 have h2:a|||b<2^63:=Nat.or_lt_two_pow ha hb;rw[h,h1,w64 aa]
end
section
variable {P:Br} {ops:Array Oper} {K:St->Prop} {rest:Hz} {n:Nat} {gl:CD} {fr:Fr} {σ:aQ} {c p:Nat} {rr:Bool} {d:Tmp} {ty:Bo} {pos:String} {af:Array Edge}
end
end
section
variable {P:Br} {x y:DC} {t:Bo}
end
theorem im1{a:G}(ha:bB a):∀g∈[a],bB g:=λg hg=>by simp only[EO,KZ,or_false] at hg;subst hg;exact ha
theorem im2{a b:G}(ha:bB a)(hb:bB b):∀g∈[a,b],bB g:=λg hg=>by
 simp only[EO,KZ,or_false] at hg;rcases hg with rfl|rfl
 .exact ha
 .exact hb
abbrev gU'(n:Nat):G:= .lit (.int .u64 (n:Int))
def nb(k:Nat):CM:=if h:k<128 then[UInt8.ofNat k] else UInt8.ofNat (k%128+128)::nb (k/128)
 termination_by k
 decreasing_by omega
theorem H6(h:k<128):nb k=[UInt8.ofNat k]:=by rw[nb,dif_pos h]
theorem Er(h:¬k<128):nb k=UInt8.ofNat (k%128+128)::nb (k/128):=by rw[nb,dif_neg h]
theorem Qu:∀(f k:Nat),k<128^(f+1)->(nb k).length<=f+1
 |0,k,h=>by grind [H6]
 |f+1,k,h=>by
  by_cases h1:k<128
  .rw[H6 h1];simp
  .rw[Er h1];have:=Qu f (k/128) (by grind);simp;omega
theorem ow(h:k<18446744073709551616):(nb k).length<=10:=Qu 9 k (by grind)
theorem Yj(k:Nat):nb k≠[]:=by grind [H6,Er]
theorem Yk(h:n<256):gY (UInt8.ofNat n)= .lit (.int .u8 (n:Int)):=by
 have:(UInt8.ofNat n).toNat=n:=by simp;omega
 grind
set_option maxRecDepth 100000 in
theorem V4:∀a:Fin 256,a.1|||128=a.1%128+128:=B5
theorem Yl{x:DC}{k:IntKind}{a b:Int}:b8 P .or t x y (.lit (.int k a)) (.lit (.int k b))=some (.lit (.int k (k.wrap ((BitVec.ofInt k.bits a|||BitVec.ofInt k.bits b).toNat:Nat)))):=by simp[b8,cD,eqGuard,binOp,Op.intBits,bz,db]
theorem V5{x:DC}{k:IntKind}{a b:Int}:b8 P .xor t x y (.lit (.int k a)) (.lit (.int k b))=some (.lit (.int k (k.wrap ((BitVec.ofInt k.bits a^^^BitVec.ofInt k.bits b).toNat:Nat)))):=by simp[b8,cD,eqGuard,binOp,Op.intBits,bz,db]
theorem V6{x:DC}:b8 P .or t x y (.lit (.int .u8 (n:Int))) (.lit (.int .u8 128))=some (.lit (.int .u8 ((n%128+128:Nat):Int))):=by
 rw[Yl];have h:(BitVec.ofInt IntKind.u8.bits (n:Int)|||BitVec.ofInt IntKind.u8.bits 128).toNat=n%128+128:=by show(BitVec.ofInt 8 (n:Int)|||BitVec.ofInt 8 ((128:Nat):Int)).toNat=_;rw[BitVec.ofInt_natCast,BitVec.ofInt_natCast,BitVec.toNat_or,BitVec.toNat_ofNat,BitVec.toNat_ofNat];have:=V4 ⟨n%256,aa⟩;grind
 grind [wu8]
def Mk(n:Int):Nat:=if n<0 then(-(n+1)).toNat*2+1 else n.toNat*2
theorem FQ{n:Int}(h: -9223372036854775808<=n/\n<=9223372036854775807):Mk n<18446744073709551616:=by grind [Mk]
theorem Ym{x:DC}{n:Int}(h: -9223372036854775808<=n/\n<=9223372036854775807):b8 P .xor t x y (.lit (.int .u64 (IntKind.u64.wrap (IntKind.u64.wrap n*2^1)))) (.lit (.int .u64 (IntKind.u64.wrap (n.fdiv (2^63)))))=some (gU' (Mk n)):=by
 rw[V5];have h64:∀z:Int,IntKind.u64.wrap z=z%18446744073709551616:=λz=>IntKind.wrap_u64 z;congr 3;by_cases hn:n<0
 .have e1:n.fdiv (2^63)= -1:=by grind
  have e2:IntKind.u64.wrap (IntKind.u64.wrap n*2^1)=(((18446744073709551616+2*n)%18446744073709551616).toNat:Int):=by grind
  rw[e1,e2,h64 (-1)];show IntKind.u64.wrap ((BitVec.ofInt 64 _^^^BitVec.ofInt 64 ((18446744073709551615:Nat):Int)).toNat:Nat)=_;rw[BitVec.ofInt_natCast,BitVec.ofInt_natCast];have e3:BitVec.ofNat 64 18446744073709551615=BitVec.allOnes 64:=B5;rw[e3,BitVec.xor_allOnes,BitVec.toNat_not,BitVec.toNat_ofNat,h64];grind [Mk]
 .have e1:n.fdiv (2^63)=0:=by grind
  have e2:IntKind.u64.wrap (IntKind.u64.wrap n*2^1)=((n.toNat*2:Nat):Int):=by grind
  rw[e1,e2,h64 0];show IntKind.u64.wrap ((BitVec.ofInt 64 _^^^BitVec.ofInt 64 ((0:Nat):Int)).toNat:Nat)=_;rw[BitVec.ofInt_natCast,BitVec.ofInt_natCast];grind [Mk]
theorem Ajn(h:k<4611686018427387904):wI ((k:Int)+1)=((k+1:Nat):Int):=by unfold wI;rw[IntKind.wrap_i64];omega
theorem Ahf{s:List α}(p:α->Bool)(hn:s.length<2305843009213693952){step:Int->Option (Int⊕(Unit⊕Int))}(hs:∀(k:Nat) (x:α),s[k]?=some x->step (k:Int)=some (if p x=true then .inr (.inr (k:Int)) else .inl (wI ((k:Int)+1))))(he:step (s.length:Int)=some (.inr (.inl ()))):∃r:Unit⊕Int,AB step 0=some r/\((r= .inl ()/\s.any p=false)\/∃j:Nat,r= .inr (j:Int)/\s.any p=true/\s.findIdx? p=some j):=by
 obtain⟨r,h1,h2⟩:T (AB step 0) λr=>(r= .inl ()/\s.any p=false)\/∃j:Nat,r= .inr (j:Int)/\s.any p=true/\s.findIdx? p=some j:=by
  refine T.forI s.length (λk=>∀j,j<k->∀x,s[j]?=some x->p x=false) hn (λj h=>aa) (λk hk a=>?_) λa=>?_
  .obtain⟨x,hx⟩:∃x,s[k]?=some x:=⟨_,DR hk⟩;rw[hs k x hx];cases hp:p x with
   |true=>refine⟨_,rfl,.inr ⟨k,rfl,(by grind),?_⟩⟩;grind [List.findIdx?_eq_some_iff_getElem]
   |false=>refine⟨_,rfl,?_⟩;rw[BA B5];constructor<;>grind [Ajn]
  .rw[he];refine⟨_,rfl,.inl ⟨rfl,?_⟩⟩;grind [G9]
 exact⟨r,h1,h2⟩
theorem Bg{s:List α}{x:α}(h:s[k]?=some x):aS s (k:Int)=some x:=by grind [aS]
theorem Dk{s:List α}{k:Nat}{x:α}(h:s[k]?=some x):decide ((k:Int)<ah s)=true:=by grind [ah]
theorem D4{s:List α}:decide ((s.length:Int)<ah s)=false:=C6 (by unfold ah;omega)
theorem SP[DecidableEq α]{s:List α}(hn:s.length<2305843009213693952)(v:α):Ab0 s v=some (s.any λy=>decide (v=y)):=by
 obtain⟨r,h1,h2⟩:=Ahf (s:=s) (λy=>decide (v=y)) hn (step:=ZN s v) (by grind [ZN,Dk,Bg]) (by unfold ZN;rw[D4];rfl);unfold Ab0 ixT;rw[h1];rcases h2 with⟨rfl,h2⟩|⟨j,rfl,h2,_⟩<;>rw[h2]
 .rfl
 .show some (decide (0<=(j:Int)))=_;rw[C3 aa]
theorem Abt{s:List α}{f:α->Fo}{p:α->Bool}(hn:s.length<2305843009213693952)(hf:∀x∈s,f x=some (p x)):Aa1 s f=some (s.any p):=by
 obtain⟨r,h1,h2⟩:=Ahf (s:=s) p hn (step:=Hv s f) (by grind [Hv,Dk,Bg]) (by unfold Hv;rw[D4];rfl);unfold Aa1 UD;rw[h1];rcases h2 with⟨rfl,h2⟩|⟨j,rfl,h2,_⟩<;>rw[h2]
 .rfl
 .show some (decide (0<=(j:Int)))=_;rw[C3 aa]
section
attribute [local irreducible] Tr dz Gp
def Afl(m:FM Int Az):FM Int (Option Az):=⟨m.es.map λe=>(e.1,some e.2.1,e.2.2),m.clk⟩
theorem Afm(m:FM Int Az)(k:Int):(Afl m).get k=(m.get k).map some:=by unfold FM.get Afl;dsimp only;induction m.es<;>grind
theorem Ahc(R:Ad)(m:Int):∀σ,bL prog σ VC false (FM.g JO (λx=> .ptr (Fw x) 0) R.members) (iG m)=some (npG Fw (R.members.get m)):=λσ=>by
 have h:=FM.look1 (et:=198) Pp (t:=VC) (vg:=npG Fw) (v0:=none) aH aH (Afl R.members) m (gk:=iG m) rfl σ;have e:(Afl R.members).g JO (npG Fw)=FM.g JO (λx=> .ptr (Fw x) 0) R.members:=by unfold FM.g Afl;simp only[HR];rfl
 rw[e,Afm] at h;rw[h];cases R.members.get m<;>rfl
abbrev frI(a:Nat){R:Ad}{k:Int}{x:Az}(_:R.members.get k=some x):Fr:=[(a,iG k)]
theorem UU(R:Ad)(m:Int):ba prog gl 147 [.ptr (CB R) 0,iG m] (iG (Mj R m)):=by
 have h:=Ahc R m;unfold Mj;cases hx:R.members.get m with
 |none=>rw[hx] at h;exact Gh func147 (Ar [hm 11 h] [])
 |some x=>rw[hx] at h;exact Gh func147 (Ar [hm 11 h] [])
def Dd(R:Ad)(o:Bp):Int×Int:=match R.members.es.find? λe=>Lq e.2.1 o.Of with
 |none=>(0,25)
 |some e=>match e.2.1.guard with
  |none=>(0,25)
  |some g=>bif g.guards.any λy=>decide (o.By=y) then(e.1,0) else(0,14)
theorem Uf(hR:Bk R)(o:Bp):UE prog gl 145 [.ref 0 0,.agg (aJ o)] (BW f0 R) 14 14 (.tup [iG (Dd R o).1,iG (Dd R o).2]) (BW f0 R):=by
 refine dFP func145 ?_;have hr2:∀a b:Int,bB (.tup [iG a,iG b]):=by grind [L7,mN]
 have hw:=Abr gl hR o.Of;unfold Dd;cases hfi:R.members.es.find? λe=>Lq e.2.1 o.Of with
 |none=>rw[show Ho R o.Of=0 by unfold Ho;rw[hfi]] at hw;have hr:=hr2 0 25;exact Hh f0 _ hR [hrr 10 f0 15 [.agg (aj o.Of)] hR hw] (Hw R hr)
 |some e=>
  have he:=List.mem_of_find?_eq_some hfi;have hg:Lq e.2.1 o.Of=true:=by have:=List.find?_some hfi;exact this
  obtain⟨hx,h3⟩:=hR.mem he;rw[show Ho R o.Of=e.1 by unfold Ho;rw[hfi]] at hw;obtain⟨k,x,n⟩:=e;dsimp only at hx h3 hw hg⊢;obtain⟨j,rfl,d⟩:∃j:Nat,k=(j:Int)/\(j=1\/j=2\/j=3):=by grind
  obtain⟨role,gd⟩:=x;cases gd with
  |none=>cases hg
  |some g=>
   have e1:=Ac7 d hx;have e2:=Afj d hx rfl;have hl:∀q∈[eM j ⟨role,some g⟩,eG j g],Bu f0 R q.1=some q.2:=by grind
   have hlk:=R9 hx;have c:=Dq gl (SP (Nat.lt_of_le_of_lt (hR.gn _ _ _ hx rfl) B5) o.By);dsimp only;cases hb:g.guards.any λy=>decide (o.By=y) with
   |false=>
    rw[hb] at c;have hr:=hr2 0 14;rcases d with rfl|rfl|rfl
    all_goals
     refine pO 11102140 (s0 32 gl (frI 6 hx++[(0,.ref 0 0),(3,.ref 14 0)]) (stT hl++[(14,oOp o)]) 15 14) [hrr 10 f0 15 [.agg (aj o.Of)] hR hw] (rlT (Gq f0++[(14,14)]) f0 hR hl) ?_ (ρ:=Gq f0++[(14,14)]) (kd:=Nz)
     exact Hh f0 _ hR [KY 20 hlk,hf 29 c] (Wq hl hr)
   |true=>
    rw[hb] at c;have hr:=hr2 (j:Int) 0;rcases d with rfl|rfl|rfl
    all_goals
     refine pO 11102140 (s0 32 gl (frI 6 hx++[(0,.ref 0 0),(3,.ref 14 0)]) (stT hl++[(14,oOp o)]) 15 14) [hrr 10 f0 15 [.agg (aj o.Of)] hR hw] (rlT (Gq f0++[(14,14)]) f0 hR hl) ?_ (ρ:=Gq f0++[(14,14)]) (kd:=Nz)
     exact Hh f0 _ hR [KY 20 hlk,hf 29 c] (Wq hl hr)
end
section
attribute [local irreducible] Tr dz Gp
abbrev HE(R:Ad)(k:Int)(x:Az):Ad:={R with members:=C4 R.members k x}
theorem JG{R:Ad}{k:Int}{x:Az}(j:Int):(HE R k x).members.get j=if j=k then some x else R.members.get j:=BB _ _
theorem Ajk{k:Int}(h:R.members.get k=some x):(HE R k x').members.es.map (·.1)=R.members.es.map (·.1):=by grind [Qi,Hp]
theorem Ahd{k:Int}(h:R.members.get k=some x)(f:Nat->Nat):R8 f (HE R k x')=R8 f R:=by
 show(⟨_,_,some (.map _ _)⟩:Ob)=⟨_,_,some (.map _ _)⟩;have key:VG f (C4 R.members k x')=VG f R.members/\(C4 R.members k x').clk=R.members.clk:=by
  unfold C4 VG;cases hk:bu k (R.members.es.map (·.1)) with
  |none=>rw[S8 hk] at h;cases h
  |some j=>obtain⟨e,he,rfl,_⟩:=MG hk;refine⟨?_,rfl⟩;dsimp only;rw[he,List.map_set];apply List.ext_getElem?;grind
 grind
theorem Aai(hR:Bk R){k:Int}(h:R.members.get k=some x)(hv:∀g,x'.guard=some g->Q6 g.vouches/\(DV (R.cards.get g.id.By)).Member=k/\g.guards.length<=1000000/\(1<=g.need/\g.need<=1000000)/\∀e∈g.vouches.es,1<=e.1.by_/\e.1.by_<=6):Bk (HE R k x'):=by
 have cas:∀(j:Int) (y:Az) (g:CA),(HE R k x').members.get j=some y->y.guard=some g->(j=k/\x'.guard=some g)\/(R.members.get j=some y):=by grind [JG]
 refine⟨hR.ci,hR.cw,On hR.cm _,λe he=>?_,hR.c3,λj y g h1 h2=>?_,λj y g h1 h2=>?_,λj y g h1 h2=>?_,λj y g h1 h2=>?_,hR.i6,hR.c6,λj y g h1 h2=>?_⟩
 .have hk:e.1∈(HE R k x').members.es.map (·.1):=Fm.2 ⟨e,he,rfl⟩;rw[Ajk h] at hk;grind [Bk]
 .grind [Bk.cv]
 .grind [Bk.gm]
 .grind [Bk.gN]
 .rcases cas j y g h1 h2 with⟨rfl,h3⟩|h3
  .exact(hv g h3).2.2.2.2
  .exact hR.vb j y g h3 h2
 grind [Bk.gn]
theorem Afn(hx:R.members.get (k:Int)=some x)(q:Nat)(h4:q≠4+k)(h7:q≠7+k\/x'.guard=none)(h10:q≠10+k\/x'.guard=none):∀ob,Bu f0 (HE R (k:Int) x') q=some ob->Bu f0 R q=some ob:=λob h=>by
 have hM:∀j:Nat,j≠k->roM f0 (HE R (k:Int) x') j=roM f0 R j:=by grind [roM,JG]
 have hB:∀j:Nat,j≠k\/x'.guard=none->∀y,((HE R (k:Int) x').members.get (j:Int)).bind (·.guard)=some y->(R.members.get (j:Int)).bind (·.guard)=some y:=by grind [JG]
 have hG:∀j:Nat,j≠k\/x'.guard=none->∀ob,roG f0 (HE R (k:Int) x') j=some ob->roG f0 R j=some ob:=by grind [roG,DH]
 have hV:∀j:Nat,j≠k\/x'.guard=none->∀ob,roV (HE R (k:Int) x') j=some ob->roV R j=some ob:=by grind [roV,DH]
 match q,DY h with
 |0,_=>exact h
 |1,_=>exact h
 |2,_=>exact h
 |3,_=>exact h
 |4,_=>rw[<-h];exact congrArg some (Ahd hx f0).symm
 |5,_=>rw[<-h];exact(hM 1 aa).symm
 |6,_=>rw[<-h];exact(hM 2 aa).symm
 |7,_=>rw[<-h];exact(hM 3 aa).symm
 |8,_=>exact hG 1 (h7.imp (λh=>aa) id) ob h
 |9,_=>exact hG 2 (h7.imp (λh=>aa) id) ob h
 |10,_=>exact hG 3 (h7.imp (λh=>aa) id) ob h
 |11,_=>exact hV 1 (h10.imp (λh=>aa) id) ob h
 |12,_=>exact hV 2 (h10.imp (λh=>aa) id) ob h
 |13,_=>exact hV 3 (h10.imp (λh=>aa) id) ob h
def tgU(R:Ad)(l a:List (Nat×Ob))(k:Nat):Option Ob:=match a.find? λq=>Nat.beq q.1 k with
 |some q=>some q.2
 |none=>tg R l k
theorem Ajl{l':List (Nat×Ob)}(hl:∀q∈l,Bu f0 R q.1=some q.2)(a:∀q∈l',Bu f0 R' q.1=some q.2)(hs:∀q,(∀e∈l',e.1≠q)->∀ob,Bu f0 R' q=some ob->Bu f0 R q=some ob)(k:Nat):∀ob,Bu f0 R' k=some ob->tgU R l l' k=some ob:=by grind [tgU,bc,Y1,Nat.beq_refl]
abbrev rlU{R R':Ad}{l l':List (Nat×Ob)}(hl:∀q∈l,Bu f0 R q.1=some q.2)(a:∀q∈l',Bu f0 R' q.1=some q.2)(hs:∀q,(∀e∈l',e.1≠q)->∀ob,Bu f0 R' q=some ob->Bu f0 R q=some ob):List HP:=hc (⟨rfl,L7 aC⟩:iU []=iU []/\bB (iU []))::L0.map λk=>hc (Ajl hl a hs k)
theorem hl1{x:Az}(h3:k=1\/k=2\/k=3)(h:R.members.get (k:Int)=some x):∀q∈[eM k x],Bu f0 R q.1=some q.2:=by grind [Ac7]
theorem hl3{R:Ad}{role:Int}{g:CA}(h3:k=1\/k=2\/k=3)(h:R.members.get (k:Int)=some ⟨role,some g⟩):∀q∈[eM k ⟨role,some g⟩,eG k g,eV k g],Bu f0 R q.1=some q.2:=λq hq=>by
 simp only[EO,KZ,or_false] at hq;rcases hq with rfl|rfl|rfl
 .exact Ac7 h3 h
 all_goals grind [Afj,Alj]
theorem hs1{role:Int}(hx:R.members.get (k:Int)=some x):∀q,(∀e∈[eM k (⟨role,none⟩:Az)],e.1≠q)->∀ob,Bu f0 (HE R (k:Int) ⟨role,none⟩) q=some ob->Bu f0 R q=some ob:=λq hq=>Afn hx q (λe=>hq _ (List.mem_singleton.2 rfl) e.symm) (.inr rfl) (.inr rfl)
theorem hs3{R:Ad}{role:Int}{g:CA}(hx:R.members.get (k:Int)=some x):∀q,(∀e∈[eM k (⟨role,some g⟩:Az),eG k g,eV k g],e.1≠q)->∀ob,Bu f0 (HE R (k:Int) ⟨role,some g⟩) q=some ob->Bu f0 R q=some ob:=λq hq=>Afn hx q (λe=>(by simp_all)) (.inl λe=>hq (eG k g) aC e.symm) (.inl λe=>hq (eV k g) aC e.symm)
def UB(R:Ad)(o:Bp):Ad:=match R.members.get o.Member with
 |none=>R
 |some x=>HE R o.Member ⟨o.Role,x.guard⟩
theorem Ac8(hR:Bk R)(o:Bp):Bk (UB R o):=by
 unfold UB;split
 .exact hR
 .rename_i x hx;exact Aai hR hx (by grind [Bk])
abbrev frP(a:Nat){R:Ad}{k:Int}{x:Az}(_:R.members.get k=some x):Fr:=[(a,.ref (nM k) 0)]
abbrev ρD:DG:=Gq f0++[(14,14),(15,15)]
theorem Acg(hR:Bk R)(hk:o.Kind=5):UJ gl R o i (UB R o):=by
 have hok:=Ac8 hR o;refine PC gl hR ?_;have a1:decide (o.Kind=1)=false:=by rw[hk];rfl
 have a2:decide (o.Kind=2)=false:=by rw[hk];rfl
 have a3:decide (o.Kind=3)=false:=by rw[hk];rfl
 have a5:decide (o.Kind=5)=true:=by rw[hk];rfl
 unfold UB at hok⊢;cases hx:R.members.get o.Member with
 |none=>exact Hh f0 _ hR [hr 29 a1,hr 52 a2,hr 60 a3,hr 86 a5,KY 93 (VX hx)] (rlX (f:=f0) (R:=R))
 |some x=>
  rw[hx] at hok;have hlk:=R9 hx;obtain⟨j,hj,b⟩:∃j:Nat,o.Member=(j:Int)/\(j=1\/j=2\/j=3):=by have:=Ag8 hR hx;exact⟨o.Member.toNat,aa,aa⟩
  dsimp only at hok⊢;rw[hj] at hx hok⊢;rw[show(.ref (nM o.Member) 0:G)= .ref (nM (j:Int)) 0 by rw[hj]] at hlk;obtain⟨role,gd⟩:=x;have hg':(HE R (j:Int) ⟨o.Role,gd⟩).members.get (j:Int)=some ⟨o.Role,gd⟩:=by rw[JG,Bx rfl]
  cases gd with
  |none=>
   have hl:=hl1 b hx;have a:=hl1 b hg';have hs:=hs1 (role:=o.Role) hx;rcases b with rfl|rfl|rfl
   all_goals
    refine pO 1111214141413113 (s0 259 gl (frP 9 hx++[(4,.ref 14 0)]) (stT hl++[(14,oOp o),(15,XK i)]) 16 5) [hr 29 a1,hr 52 a2,hr 60 a3,hr 86 a5,KY 93 hlk] (rlT ρD f0 hR hl) ?_ (ρ:=ρD) (kd:=Nz)
    exact Hh f0 _ hok [] (rlU hl a hs)
  |some g=>
   have hl:=hl3 b hx;have a:=hl3 b hg';have hs:=hs3 (role:=o.Role) (g:=g) hx;rcases b with rfl|rfl|rfl
   all_goals
    refine pO 1111214141413113 (s0 259 gl (frP 9 hx++[(4,.ref 14 0)]) (stT hl++[(14,oOp o),(15,XK i)]) 16 5) [hr 29 a1,hr 52 a2,hr 60 a3,hr 86 a5,KY 93 hlk] (rlT ρD f0 hR hl) ?_ (ρ:=ρD) (kd:=Nz)
    exact Hh f0 _ hok [] (rlU hl a hs)
end
section
attribute [local irreducible] Tr dz Gp
def Wv(R:Ad)(o:Bp):Ad:=match R.members.get (DD R o.By) with
 |some ⟨role,some g⟩=>bif decide (g.id=o.Of) then HE R (DD R o.By) ⟨role,some {g with objected:=true,last:=EY g.last o.At}⟩ else R
 |_=>R
theorem Afp(hR:Bk R)(o:Bp):Bk (Wv R o):=by
 unfold Wv;split
 .rename_i role g hx;cases decide (g.id=o.Of) with
  |false=>exact hR
  |true=>refine Aai hR hx λa hg=>?_;grind [Bk]
 .exact hR
theorem AdP(hR:Bk R)(hk:o.Kind=12):UJ gl R o i (Wv R o):=by
 have hok:=Afp hR o;have hrt:bB (iU []):=L7 aC;have a1:decide (o.Kind=1)=false:=by rw[hk];rfl
 have a2:decide (o.Kind=2)=false:=by rw[hk];rfl
 have a3:decide (o.Kind=3)=false:=by rw[hk];rfl
 have a5:decide (o.Kind=5)=false:=by rw[hk];rfl
 have a9:decide (o.Kind=9)=false:=by rw[hk];rfl
 have a11:decide (o.Kind=11)=false:=by rw[hk];rfl
 have a12:decide (o.Kind=12)=true:=by rw[hk];rfl
 refine dFP func72 ?_;unfold Wv at hok⊢;cases hx:R.members.get (DD R o.By) with
 |none=>exact Hh f0 _ hR [hof gl 24 hR o.By 16,KY 25 (VX hx),hr 29 a1,hr 52 a2,hr 60 a3,hr 86 a5,hr 102 a9,hr 120 a11,hr 168 a12] (rlX (f:=f0) (R:=R))
 |some x=>
  rw[hx] at hok;have hlk:=R9 hx;obtain⟨j,hj,a⟩:∃j:Nat,DD R o.By=(j:Int)/\(j=1\/j=2\/j=3):=by grind [Ag8]
  rw[hj] at hx hok hlk⊢;obtain⟨role,gd⟩:=x;cases gd with
  |none=>
   have hl:=hl1 a hx;rcases a with rfl|rfl|rfl
   all_goals
    refine pO 11112141414141414130 (s0 259 gl (frP 6 hx++[(4,.ref 14 0)]) (stT hl++[(14,oOp o),(15,XK i)]) 16 5) [Afe gl 24 hR hj 16,KY 25 hlk,hr 29 a1,hr 52 a2,hr 60 a3,hr 86 a5,hr 102 a9,hr 120 a11,hr 168 a12] (rlT ρD f0 hR hl) ?_ (ρ:=ρD) (kd:=Nz)
    exact Hh f0 _ hR [] (Wq hl hrt)
  |some g=>
   have hl:=hl3 a hx;dsimp only at hok⊢;cases hd:decide (g.id=o.Of) with
   |false=>
    rcases a with rfl|rfl|rfl
    all_goals
     refine pO 11112141414141414130 (s0 259 gl (frP 6 hx++[(4,.ref 14 0)]) (stT hl++[(14,oOp o),(15,XK i)]) 16 5) [Afe gl 24 hR hj 16,KY 25 hlk,hr 29 a1,hr 52 a2,hr 60 a3,hr 86 a5,hr 102 a9,hr 120 a11,hr 168 a12] (rlT ρD f0 hR hl) ?_ (ρ:=ρD) (kd:=Nz)
     exact Hh f0 _ hR [hV 188 (dU g.id o.Of hd)] (Wq hl hrt)
   |true=>
    rw[hd] at hok;rw[ax] at hok⊢;have b:=hl3 (R:=HE R (j:Int) ⟨role,some {g with objected:=true,last:=EY g.last o.At}⟩) a (by rw[JG,Bx rfl]);have hs:=hs3 (role:=role) (g:={g with objected:=true,last:=EY g.last o.At}) hx;rcases a with rfl|rfl|rfl
    all_goals
     refine pO 11112141414141414130 (s0 259 gl (frP 6 hx++[(4,.ref 14 0)]) (stT hl++[(14,oOp o),(15,XK i)]) 16 5) [Afe gl 24 hR hj 16,KY 25 hlk,hr 29 a1,hr 52 a2,hr 60 a3,hr 86 a5,hr 102 a9,hr 120 a11,hr 168 a12] (rlT ρD f0 hR hl) ?_ (ρ:=ρD) (kd:=Nz)
     exact Hh f0 _ hok [hV 188 (dU g.id o.Of hd)] (rlU hl b hs)
end
section
attribute [local irreducible] Tr dz Gp
theorem Alo(k:CY):Instr.sameBits 10000 (BU k) (BU k)=true:=by unfold BU Hk;simp[Instr.sameBits]
abbrev Ww(o:Bp):CY:=⟨o.By,o.Device⟩
def Aaj(g:CA)(o:Bp):Bool:=match g.vouches.get (Ww o) with
 |none=>true
 |some a=>decide (o.At<a)
abbrev Ach(g:CA)(o:Bp):CA:={g with vouches:=C4 g.vouches (Ww o) o.At}
def X3(R:Ad)(o:Bp):Ad:=match R.members.es.find? λe=>Lq e.2.1 o.Of with
 |some (k,⟨role,some g⟩,_)=>bif(g.guards.any λy=>decide (o.By=y))&&Aaj g o then HE R k ⟨role,some (Ach g o)⟩ else R
 |_=>R
theorem Afq(hR:Bk R)(hb:1<=o.By/\o.By<=6):Bk (X3 R o):=by
 unfold X3;split
 .rename_i k role g n hf;have hx:=(hR.mem (List.mem_of_find?_eq_some hf)).1;dsimp only at hx;cases(g.guards.any λy=>decide (o.By=y))&&Aaj g o with
  |false=>exact hR
  |true=>
   refine Aai hR hx λa hg=>?_;cases hg;exact⟨On (hR.cv _ _ g hx rfl) _,hR.gm _ _ g hx rfl,hR.gn _ _ g hx rfl,hR.gN _ _ g hx rfl,λe he=>by
    have hk:e.1∈(C4 g.vouches (Ww o) o.At).es.map (·.1):=Fm.2 ⟨e,he,rfl⟩;rw[Qi] at hk;split at hk
    .grind [Bk]
    .rcases I5.1 hk with hk|hk
     .obtain⟨y,hy,h⟩:=Fm.1 hk;grind [Bk]
     grind⟩
 .exact hR
theorem lkV(g:CA)(k:CY)(q:Nat):bL prog [(10+q,some (M5 tMv BU iG g.vouches))] tMv true (.mref (10+q)) (.agg (M0 k))=some (.tup [iG (LL (g.vouches.get k)),bG (g.vouches.get k).isSome]):=(S7 (et:=3) K3 aH (k:=k) rfl (by rw[RU])).trans (Sv g.vouches k _)
def hmr(c:Nat){P:Br}{σ:aQ}{t:Bo}{gm gk g:G}{i:Nat}{ob:Ob}(h:dZ P σ t gm gk g=some (i,ob)):HP:=⟨some (.e 999999998 (.lit undef) i ob),dZ P (UF σ (fR gm)) t gm gk g=some (i,ob),(ZP Hg).symm.trans h⟩
theorem And(g:CA)(k:CY)(a:Int)(q:Nat):dZ prog [(10+q,some (M5 tMv BU iG g.vouches))] tMv (.mref (10+q)) (.agg (M0 k)) (iG a)=some (10+q,M5 tMv BU iG (C4 g.vouches k a)):=Afz (et:=3) K3 Alo aH rfl (by rw[RU]) a
theorem Afr(hR:Bk R)(hk:o.Kind=11)(l:1<=o.By/\o.By<=6):UJ gl R o i (X3 R o):=by
 have hok:=Afq hR l;have hrt:bB (iU []):=L7 aC;have a1:decide (o.Kind=1)=false:=by rw[hk];rfl
 have a2:decide (o.Kind=2)=false:=by rw[hk];rfl
 have a3:decide (o.Kind=3)=false:=by rw[hk];rfl
 have a5:decide (o.Kind=5)=false:=by rw[hk];rfl
 have a9:decide (o.Kind=9)=false:=by rw[hk];rfl
 have a11:decide (o.Kind=11)=true:=by rw[hk];rfl
 refine PC gl hR ?_;have hg:=Uf gl hR o;unfold X3 at hok⊢;unfold Dd at hg;cases hf:R.members.es.find? λe=>Lq e.2.1 o.Of with
 |none=>rw[hf] at hg;exact Hh f0 _ hR [hr 29 a1,hr 52 a2,hr 60 a3,hr 86 a5,hr 102 a9,hr 120 a11,hrr 124 f0 16 [.agg (aJ o)] hR hg] (rlX (f:=f0) (R:=R))
 |some e=>
  have he:=List.mem_of_find?_eq_some hf;have hh:Lq e.2.1 o.Of=true:=by have:=List.find?_some hf;exact this
  obtain⟨hx,h3⟩:=hR.mem he;rw[hf] at hg hok;obtain⟨k,x,n⟩:=e;dsimp only at hx h3 hg hh hok⊢;obtain⟨j,rfl,c⟩:∃j:Nat,k=(j:Int)/\(j=1\/j=2\/j=3):=by grind
  obtain⟨role,gd⟩:=x;cases gd with
  |none=>cases hh
  |some g=>
   dsimp only at hg hok⊢;cases hb:g.guards.any λy=>decide (o.By=y) with
   |false=>rw[hb] at hg;exact Hh f0 _ hR [hr 29 a1,hr 52 a2,hr 60 a3,hr 86 a5,hr 102 a9,hr 120 a11,hrr 124 f0 16 [.agg (aJ o)] hR hg] (rlX (f:=f0) (R:=R))
   |true=>
    rw[hb] at hg hok;rw[Bool.true_and] at hok⊢;have hl:=hl3 c hx;have hlk:=R9 hx;have b:=lkV g (Ww o) j;have d:=And g (Ww o) o.At j;have h:=hl3 (R:=HE R (j:Int) ⟨role,some (Ach g o)⟩) c (by rw[JG,Bx rfl]);have hs:=hs3 (role:=role) (g:=Ach g o) hx;unfold Aaj at hok⊢;cases hv:g.vouches.get (Ww o) with
    |none=>
     rw[hv] at hok b;rcases c with rfl|rfl|rfl
     all_goals
      refine pO 111121414141414131130 (s0 259 gl (frI 10 hx++[(0,.ref 0 0),(4,.ref 14 0)]) (stT hl++[(14,oOp o),(15,XK i)]) 16 5) [hr 29 a1,hr 52 a2,hr 60 a3,hr 86 a5,hr 102 a9,hr 120 a11,hrr 124 f0 16 [.agg (aJ o)] hR hg] (rlT ρD f0 hR hl) ?_ (ρ:=ρD) (kd:=Nz)
      exact Hh f0 _ hok [KY 134 hlk,KY 149 b,hmr 17 d] (rlU hl h hs)
    |some a=>
     rw[hv] at hok b;dsimp only at hok⊢;cases hat:decide (o.At<a) with
     |true=>
      rw[hat] at hok;rcases c with rfl|rfl|rfl
      all_goals
       refine pO 111121414141414131130 (s0 259 gl (frI 10 hx++[(0,.ref 0 0),(4,.ref 14 0)]) (stT hl++[(14,oOp o),(15,XK i)]) 16 5) [hr 29 a1,hr 52 a2,hr 60 a3,hr 86 a5,hr 102 a9,hr 120 a11,hrr 124 f0 16 [.agg (aJ o)] hR hg] (rlT ρD f0 hR hl) ?_ (ρ:=ρD) (kd:=Nz)
       exact Hh f0 _ hok [KY 134 hlk,KY 149 b,hr 158 hat,hmr 17 d] (rlU hl h hs)
     |false=>
      rcases c with rfl|rfl|rfl
      all_goals
       refine pO 111121414141414131130 (s0 259 gl (frI 10 hx++[(0,.ref 0 0),(4,.ref 14 0)]) (stT hl++[(14,oOp o),(15,XK i)]) 16 5) [hr 29 a1,hr 52 a2,hr 60 a3,hr 86 a5,hr 102 a9,hr 120 a11,hrr 124 f0 16 [.agg (aJ o)] hR hg] (rlT ρD f0 hR hl) ?_ (ρ:=ρD) (kd:=Nz)
       exact Hh f0 _ hR [KY 134 hlk,KY 149 b,hr 158 hat] (Wq hl hrt)
end
section
attribute [local irreducible] Tr dz Gp
abbrev Ane(o:Bp)(i:Ab):CA:=⟨i,o.Guards,o.Need,o.Wait,⟨[],0⟩,false,0⟩
def Aak(R:Ad)(o:Bp)(i:Ab):Ad:=match R.members.get (DD R o.By) with
 |none=>R
 |some x=>HE R (DD R o.By) ⟨x.role,some (Ane o i)⟩
theorem Afs(hR:Bk R){o:Bp}(hi:i.By=o.By)(hg:o.Guards.length<=1000000)(hn:1<=o.Need/\o.Need<=1000000):Bk (Aak R o i):=by
 unfold Aak;split
 .exact hR
 .rename_i x hx;refine Aai hR hx λa h=>?_;cases h;exact⟨(by grind [Q6,FxOk]),by show(DV (R.cards.get i.By)).Member=_;rw[hi];rfl,hg,hn,λe he=>by cases he⟩
def fGu(j q:Nat):Nat:=bif Nat.beq q (7+j) then 16 else bif Nat.beq q (10+j) then 17 else q
theorem Ajm{q:Nat}(h1:q≠7+j)(h2:q≠10+j):fGu j q=q:=by grind [fGu,bc]
theorem Alp(a:∀e∈R.members.es,1<=e.1/\e.1<=3)(h3:j=1\/j=2\/j=3)(q:Nat)(h4:q≠4+j)(h7:q≠7+j)(h10:q≠10+j):Bu (fGu j) R q=Bu f0 R q:=by
 rcases Hx q 14 with hlt|hge
 rotate_left
 .obtain⟨k,rfl⟩:∃k,q=k+14:=⟨q-14,aa⟩;rfl
 match q,hlt with
 |0,_=>rcases h3 with rfl|rfl|rfl<;>rfl
 |1,_=>rfl
 |2,_=>rfl
 |3,_=>rfl
 |4,_=>show some (⟨_,_,some (.map _ _)⟩:Ob)=some ⟨_,_,some (.map _ _)⟩;grind [List.map_congr_left,nM,Ajm]
 |5,_=>rcases h3 with rfl|rfl|rfl<;>first|exact absurd rfl h4|rfl
 |6,_=>rcases h3 with rfl|rfl|rfl<;>first|exact absurd rfl h4|rfl
 |7,_=>rcases h3 with rfl|rfl|rfl<;>first|exact absurd rfl h4|rfl
 |8,_=>rcases h3 with rfl|rfl|rfl<;>first|exact absurd rfl h7|rfl
 |9,_=>rcases h3 with rfl|rfl|rfl<;>first|exact absurd rfl h7|rfl
 |10,_=>rcases h3 with rfl|rfl|rfl<;>first|exact absurd rfl h7|rfl
 |11,_=>rfl
 |12,_=>rfl
 |13,_=>rfl
abbrev fH{R:Ad}{k:Int}{x:Az}(_:R.members.get k=some x):Nat->Nat:=fGu k.toNat
abbrev rlG{R:Ad}{j:Nat}{x:Az}{g:CA}(h3:j=1\/j=2\/j=3)(hx:R.members.get (j:Int)=some x)(hok:Bk (HE R (j:Int) ⟨x.role,some g⟩))(hl:∀q∈[eM j x],Bu f0 R q.1=some q.2):List HP:=hc (⟨rfl,L7 aC⟩:iU []=iU []/\bB (iU []))::L0.map λq=>
 if h4:q=4+j then hc (λob h=>(by
  have:=JG (R:=R) (k:=(j:Int)) (x:=⟨x.role,some g⟩) j;rw[Bx rfl] at this;have e:Bu (fGu j) (HE R (j:Int) ⟨x.role,some g⟩) (4+j)=some ⟨tMe,[iG x.role,.ref 16 0],none⟩:=by rcases h3 with rfl|rfl|rfl<;>exact(by show Option.map _ _=_;rw[this];rfl)
  exact e.symm.trans h):∀ob,Bu (fGu j) (HE R (j:Int) ⟨x.role,some g⟩) (4+j)=some ob->some ⟨tMe,[iG x.role,.ref 16 0],none⟩=some ob)
 else if h7:q=7+j then hc (λob h=>(by
  have:=JG (R:=R) (k:=(j:Int)) (x:=⟨x.role,some g⟩) j;rw[Bx rfl] at this;have e:Bu (fGu j) (HE R (j:Int) ⟨x.role,some g⟩) (7+j)=some ⟨tGu,guC (fGu j) j g,none⟩:=by rcases h3 with rfl|rfl|rfl<;>exact(by show Option.map _ (Option.bind _ _)=_;rw[this];rfl)
  exact e.symm.trans h):∀ob,Bu (fGu j) (HE R (j:Int) ⟨x.role,some g⟩) (7+j)=some ob->some ⟨tGu,guC (fGu j) j g,none⟩=some ob)
 else if h10:q=10+j then hc (λob h=>(by
  have:=JG (R:=R) (k:=(j:Int)) (x:=⟨x.role,some g⟩) j;rw[Bx rfl] at this;have e:Bu (fGu j) (HE R (j:Int) ⟨x.role,some g⟩) (10+j)=some (M5 tMv BU iG g.vouches):=by rcases h3 with rfl|rfl|rfl<;>exact(by show Option.map _ (Option.bind _ _)=_;rw[this];rfl)
  exact e.symm.trans h):∀ob,Bu (fGu j) (HE R (j:Int) ⟨x.role,some g⟩) (10+j)=some ob->some (M5 tMv BU iG g.vouches)=some ob)
 else hc (λob h=>(by rw[Alp (λe he=>hok.m3 e he) h3 q h4 h7 h10] at h;exact(Y1 hl q).trans (Afn hx q h4 (.inl h7) (.inl h10) ob h)):∀ob,Bu (fGu j) (HE R (j:Int) ⟨x.role,some g⟩) q=some ob->tg R [eM j x] q=some ob)
theorem Aft(hR:Bk R)(hk:o.Kind=9)(hi:i.By=o.By)(hgl:o.Guards.length<=1000000)(hn:1<=o.Need/\o.Need<=1000000):UJ gl R o i (Aak R o i):=by
 have hok:=Afs hR (o:=o) hi hgl hn;have a1:decide (o.Kind=1)=false:=by rw[hk];rfl
 have a2:decide (o.Kind=2)=false:=by rw[hk];rfl
 have a3:decide (o.Kind=3)=false:=by rw[hk];rfl
 have a5:decide (o.Kind=5)=false:=by rw[hk];rfl
 have a9:decide (o.Kind=9)=true:=by rw[hk];rfl
 have hcl:=rZ.fo (uK gl (s:=o.Guards) (r:=o.Guards) (by unfold fF aT;rw[Bx (by rw[List.length_nil];omega)];rfl));refine dFP func72 ?_;unfold Aak at hok⊢;cases hx:R.members.get (DD R o.By) with
 |none=>exact Hh f0 _ hR [hof gl 24 hR o.By 16,KY 25 (VX hx),hr 29 a1,hr 52 a2,hr 60 a3,hr 86 a5,hr 102 a9] (rlX (f:=f0) (R:=R))
 |some x=>
  rw[hx] at hok;have hlk:=R9 hx;obtain⟨j,hj,a⟩:∃j:Nat,DD R o.By=(j:Int)/\(j=1\/j=2\/j=3):=by have:=Ag8 hR hx;exact⟨(DD R o.By).toNat,aa,aa⟩
  rw[hj] at hx hok hlk⊢;have hl:=hl1 a hx;rcases a with rfl|rfl|rfl
  all_goals
   refine pO 11112141414141313 (s0 259 gl (frP 6 hx++[(4,.ref 14 0),(5,.ref 15 0)]) (stT hl++[(14,oOp o),(15,XK i)]) 16 5) [Afe gl 24 hR hj 16,KY 25 hlk,hr 29 a1,hr 52 a2,hr 60 a3,hr 86 a5,hr 102 a9] (rlT ρD f0 hR hl) ?_ (ρ:=ρD) (kd:=Nz)
   exact Hh (fH hx) _ hok [hf 109 hcl] (rlG B5 hx hok hl)
end
section
attribute [local irreducible] Tr dz Gp
abbrev Afu(R:Ad)(n:Int):Ad:={R with back:=n}
def Abs(R:Ad)(o:Bp):Ad:=bif decide ((R.was.es.length:Int)=0)&&D3 R o.By then Afu (I9 R o.By 3) o.Need else R
theorem Ahe(hR:Bk R)(n:Int):Bk (Afu R n):=by grind [Bk]
theorem Afv(hR:Bk R)(o:Bp):Bk (Abs R o):=by grind [Abs,Ahe,IX]
def Aci(R:Ad)(o:Bp):Bool:=bif decide (Ho R o.Of>0) then(bif PP R o.Old then(bif decide (DD R o.Old=Ho R o.Of) then decide (DD R o.Device=Ho R o.Of) else false) else false) else false
def Aal(R:Ad)(o:Bp):Ad:=bif Aci R o then G4 (I9 R o.Device (Mj R (DD R o.Device))) o.Old else R
theorem Afw(hR:Bk R)(o:Bp):Bk (Aal R o):=by grind [Aal,Ko,IX]
abbrev hro(d:Nat){R:Ad}(hR:Bk R)(x:Int)(c:Nat:=14):HP:=hrl d f0 c hR (UU gl R x) Ag7 (lR _)
theorem AdR(hR:Bk R)(hk:o.Kind=1):UJ gl R o i (Abs R o):=by
 have hok:=Afv hR o;have a1:decide (o.Kind=1)=true:=by rw[hk];rfl
 refine PC gl hR ?_;unfold Abs at hok⊢;have hle:decide (((mEs JO bG R.was).length:Int)=0)=decide ((R.was.es.length:Int)=0):=by rw[Hi]
 cases hw:decide ((R.was.es.length:Int)=0) with
 |false=>exact Hh f0 _ hR [hr 29 a1,hr 35 (hle.trans hw)] (rlX (f:=f0) (R:=R))
 |true=>
  rw[hw] at hok;rw[Bool.true_and] at hok⊢;cases hf:D3 R o.By with
  |false=>exact Hh f0 _ hR [hr 29 a1,hr 35 (hle.trans hw),hfr gl 40 hR hf 16] (rlX (f:=f0) (R:=R))
  |true=>rw[hf] at hok;exact Hh f16 _ hok [hr 29 a1,hr 35 (hle.trans hw),hfr gl 40 hR hf 16,hrw 45 f0 16 [iG o.By,iG 3] hR (IX hR _ _) (Wg gl hR o.By 3)] (rlX (f:=f16) (R:=Afu (I9 R o.By 3) o.Need))
theorem Acj(hR:Bk R)(hk:o.Kind=13):UJ gl R o i (Aal R o):=by
 have hok:=Afw hR o;have a1:decide (o.Kind=1)=false:=by rw[hk];rfl
 have a2:decide (o.Kind=2)=false:=by rw[hk];rfl
 have a3:decide (o.Kind=3)=false:=by rw[hk];rfl
 have a5:decide (o.Kind=5)=false:=by rw[hk];rfl
 have a9:decide (o.Kind=9)=false:=by rw[hk];rfl
 have a11:decide (o.Kind=11)=false:=by rw[hk];rfl
 have a12:decide (o.Kind=12)=false:=by rw[hk];rfl
 have a13:decide (o.Kind=13)=true:=by rw[hk];rfl
 refine PC gl hR ?_;have hw:=Abr gl hR o.Of;have hin:=Aha R o.Old;unfold Aal Aci at hok⊢;generalize Ho R o.Of=w at hw hok⊢;cases b1:decide (w>0) with
 |false=>exact Hh f0 _ hR [hr 29 a1,hr 52 a2,hr 60 a3,hr 86 a5,hr 102 a9,hr 120 a11,hr 168 a12,hr 213 a13,hrr 217 f0 16 [.agg (aj o.Of)] hR hw,hr 219 b1] (rlX (f:=f0) (R:=R))
 |true=>
  rw[b1] at hok;cases b2:PP R o.Old with
  |false=>rw[b2] at hin;exact Hh f0 _ hR [hr 29 a1,hr 52 a2,hr 60 a3,hr 86 a5,hr 102 a9,hr 120 a11,hr 168 a12,hr 213 a13,hrr 217 f0 16 [.agg (aj o.Of)] hR hw,hr 219 b1,KY 227 hin] (rlX (f:=f0) (R:=R))
  |true=>
   rw[b2] at hin hok;cases b3:decide (DD R o.Old=w) with
   |false=>exact Hh f0 _ hR [hr 29 a1,hr 52 a2,hr 60 a3,hr 86 a5,hr 102 a9,hr 120 a11,hr 168 a12,hr 213 a13,hrr 217 f0 16 [.agg (aj o.Of)] hR hw,hr 219 b1,KY 227 hin,hof gl 233 hR o.Old 16,hr 235 b3] (rlX (f:=f0) (R:=R))
   |true=>
    rw[b3] at hok;cases b4:decide (DD R o.Device=w) with
    |false=>exact Hh f0 _ hR [hr 29 a1,hr 52 a2,hr 60 a3,hr 86 a5,hr 102 a9,hr 120 a11,hr 168 a12,hr 213 a13,hrr 217 f0 16 [.agg (aj o.Of)] hR hw,hr 219 b1,KY 227 hin,hof gl 233 hR o.Old 16,hr 235 b3,hof gl 241 hR o.Device 16,hr 243 b4] (rlX (f:=f0) (R:=R))
    |true=>rw[b4] at hok;have h1:=IX hR o.Device (Mj R (DD R o.Device));exact Hh (fW f16 25) _ hok [hr 29 a1,hr 52 a2,hr 60 a3,hr 86 a5,hr 102 a9,hr 120 a11,hr 168 a12,hr 213 a13,hrr 217 f0 16 [.agg (aj o.Of)] hR hw,hr 219 b1,KY 227 hin,hof gl 233 hR o.Old 16,hr 235 b3,hof gl 241 hR o.Device 16,hr 243 b4,hof gl 252 hR o.Device 16,hro gl 253 hR (DD R o.Device) 16,hrw 254 f0 16 [iG o.Device,iG (Mj R (DD R o.Device))] hR h1 (Wg gl hR o.Device (Mj R (DD R o.Device))),hrw 258 f16 25 [iG o.Old] h1 (Ko h1 _) (Aah gl h1 o.Old)] (rlX (f:=fW f16 25) (R:=G4 (I9 R o.Device (Mj R (DD R o.Device))) o.Old))
end
section
set_option maxHeartbeats 2000000
attribute [local irreducible] Tr dz Gp
def SB{α:Type}(b:α)(a1:α->Fo):Fo:=
 (a1 b).bind λa=>some (!a)
theorem Ce{x_:Hb}{a1:Hb->Fo}(a:T9 prog gl fi_a1 fa_a1 fc_a1 (λx:Hb=>[.agg (cz x)]) (λx:Bool=>bG x) a1):DF prog gl (SB x_ a1) 365 [.agg (cz x_),.ptr [.clo (.func fi_a1) fa_a1 fc_a1] 0] bG:=
 cy func365 λK=>ak λb e2=>aw [hz 6 [] (a.cs (c:=1) e2 (aY (aG 20 (.agg (cz x_)) aH) (bf)))]<|rv K
def N4{α:Type}(l:List α)(a:α->Fo):Fo:=
 (Aa1 l (λz=>SB z a)).bind λb=>some (!b)
theorem wA{l:List Hb}{may:Hb->Fo}(a:T9 prog gl fi_may fa_may fc_may (λx:Hb=>[.agg (cz x)]) (λx:Bool=>bG x) may):DF prog gl (N4 l may) 326 [aE cz l,.clo (.func fi_may) fa_may fc_may] bG:=
 cy func326 λK=>cN [1,0] (sf [1] [(3,.ptr [.clo (.func fi_may) fa_may fc_may] 0)]) [hc (a.im),hc (aY (a.im) (bf))]<|ak λb e2=>aw [hz 7 [] (jf (c:=0) aH (LW gl (⟨aH,bf,eB aH,λ_ _ e=>Ce gl a e⟩) e2) (aY (aG 20 (aE cz l) aH) (aY (aG 20 (.clo (.func 365) [] [.ptr [.clo (.func fi_may) fa_may fc_may] 0]) aH) (bf))))]<|rv K
def wB(b:Hb):Fo:=
 ((rJ b.To).bind λe=>bif e then((rJ b.Eph).bind λa=>bif a then((Kq b.Body).bind λc=>bif c then((Kq b.Tag).bind λd=>some d) else(some false)) else(some false)) else(some false)).bind λf=>some f
theorem Cf{b}:DF prog gl (wB b) 327 [.agg (cz b)] bG:=
 cy func327 λK=>cN [1,0] (sp [] [(1,.ref 0 0)] [ob 0 181 (cz b)] 1) []<|cC [1,0] (λa=>sk [] [(2,bG a)] [] 0) (λa=>rv K) λa k5=>ak λg e8=>kV (λc=>Bz 9 (iz gl) λd=>aw [hf 5 (cF (iz gl e8) c)]<|aF 10 (Bz 14 (Ak gl) λe=>aF 15 (Bz 19 (Ak gl) λf=>rx k5)<|rx k5)<|rx k5) λc=>aw [hf 5 (cF (iz gl e8) c)]<|rx k5
def uP(n:E1):Fo:=
 ((rJ n.Pub).bind λb=>bif b then((N4 n.Boxes (λz=>wB z)).bind λa=>some a) else(some false)).bind λc=>some c
theorem Du{n}:DF prog gl (uP n) 325 [.agg (bY n)] bG:=
 cy func325 λK=>cN [1,0] (sp [] [(1,.ref 0 0)] [ob 0 70 (bY n)] 1) []<|cC [1,0] (λa=>sk [] [(2,bG a)] [] 0) (λa=>rv K) λa k5=>ak λd e8=>kV (λb=>Bz 9 (wA gl (⟨aH,bf,eB aH,λ_ _ e=>Cf gl e⟩)) λc=>aw [hf 5 (cF (iz gl e8) b)]<|rx k5) λb=>aw [hf 5 (cF (iz gl e8) b)]<|rx k5
def uQ(s:DS):Fo:=
 (Al s.Of).bind λa=>some a
theorem Dv{s}:DF prog gl (uQ s) 328 [.agg (bp s)] bG:=
 cy func328 λK=>Bz 5 (pH gl) λa=>rv K
def uR(n:Int):Fo:=
 (FV n 1 12).bind λa=>some a
theorem Dw{n}:DF prog gl (uR n) 329 [iG n] bG:=
 cy func329 λK=>Bz 4 (eE gl) λa=>rv K
theorem Cg{x_:Int}{a1:Int->Fo}(a:T9 prog gl fi_a1 fa_a1 fc_a1 (λx:Int=>[iG x]) (λx:Bool=>bG x) a1):DF prog gl (SB x_ a1) 366 [iG x_,.ptr [.clo (.func fi_a1) fa_a1 fc_a1] 0] bG:=
 cy func366 λK=>ak λb e2=>aw [hz 6 [] (a.cs (c:=0) e2 (aY (aG 20 (iG x_) aH) (bf)))]<|rv K
theorem FW{l:Be}{may:Int->Fo}(a:T9 prog gl fi_may fa_may fc_may (λx:Int=>[iG x]) (λx:Bool=>bG x) may):DF prog gl (N4 l may) 330 [aE cZ l,.clo (.func fi_may) fa_may fc_may] bG:=
 cy func330 λK=>cN [1,0] (sf [1] [(3,.ptr [.clo (.func fi_may) fa_may fc_may] 0)]) [hc (a.im),hc (aY (a.im) (bf))]<|ak λb e2=>aw [hz 7 [] (jf (c:=0) aH (ml gl (⟨aH,bf,eB aH,λ_ _ e=>Cg gl a e⟩) e2) (aY (aG 20 (aE cZ l) aH) (aY (aG 20 (.clo (.func 366) [] [.ptr [.clo (.func fi_may) fa_may fc_may] 0]) aH) (bf))))]<|rv K
theorem mo:Aa0 prog gl cW (λx=>[uG x]) 381:=λs f fi_f fa_f fc_f a=>
 cy func381 λK=>Nk 1101 (λg=>sg [] []) (λs1=>sf [] [(7,iG (ah s)),(8,iG s1)]) [hc (a.im)] K (λg=>rv K) λs1 k5 h k6=>aF 9 (Cd 14 rW.ixZ 15 (rW.p1Y tW) λd=>ak λi e=>kV (λb=>aw [hz 16 [] (cS (a.cs (c:=0) e (aY (aG 20 (uG d) aH) (bf))) b)]<|aP c3 k6 []) λb=>aw [hz 16 [] (cS (a.cs (c:=0) e (aY (aG 20 (uG d) aH) (bf))) b)]<|cj k5 [hc (a.im)])<|aA c2 h []
theorem ku:AbZ prog gl cW (λx=>[uG x]) 367:=λs f fi_f fa_f fc_f a=>
 cy func367 λK=>ak λb e2=>aw [hz 7 [] (jf (c:=0) aH (mo gl (a) e2) (aY (aG 20 (aE cW s) aH) (aY (a.im) (bf))))]<|rv K
theorem wC{x_:Nat}{a1:Nat->Fo}(a:T9 prog gl fi_a1 fa_a1 fc_a1 (λx:Nat=>[uG x]) (λx:Bool=>bG x) a1):DF prog gl (SB x_ a1) 368 [uG x_,.ptr [.clo (.func fi_a1) fa_a1 fc_a1] 0] bG:=
 cy func368 λK=>ak λb e2=>aw [hz 6 [] (a.cs (c:=0) e2 (aY (aG 20 (uG x_) aH) (bf)))]<|rv K
theorem zL{l:Bq}{may:Nat->Fo}(a:T9 prog gl fi_may fa_may fc_may (λx:Nat=>[uG x]) (λx:Bool=>bG x) may):DF prog gl (N4 l may) 331 [aE cW l,.clo (.func fi_may) fa_may fc_may] bG:=
 cy func331 λK=>cN [1,0] (sf [1] [(3,.ptr [.clo (.func fi_may) fa_may fc_may] 0)]) [hc (a.im),hc (aY (a.im) (bf))]<|ak λb e2=>aw [hz 7 [] (jf (c:=0) aH (ku gl (⟨aH,bf,eB aH,λ_ _ e=>wC gl a e⟩) e2) (aY (aG 20 (aE cW l) aH) (aY (aG 20 (.clo (.func 368) [] [.ptr [.clo (.func fi_may) fa_may fc_may] 0]) aH) (bf))))]<|rv K
theorem xY{x_:Ab}{a1:Ab->Fo}(a:T9 prog gl fi_a1 fa_a1 fc_a1 (λx:Ab=>[.agg (aj x)]) (λx:Bool=>bG x) a1):DF prog gl (SB x_ a1) 369 [.agg (aj x_),.ptr [.clo (.func fi_a1) fa_a1 fc_a1] 0] bG:=
 cy func369 λK=>ak λb e2=>aw [hz 6 [] (a.cs (c:=1) e2 (aY (aG 20 (.agg (aj x_)) aH) (bf)))]<|rv K
theorem Ch{l:Bc}{may:Ab->Fo}(a:T9 prog gl fi_may fa_may fc_may (λx:Ab=>[.agg (aj x)]) (λx:Bool=>bG x) may):DF prog gl (N4 l may) 333 [aE aj l,.clo (.func fi_may) fa_may fc_may] bG:=
 cy func333 λK=>cN [1,0] (sf [1] [(3,.ptr [.clo (.func fi_may) fa_may fc_may] 0)]) [hc (a.im),hc (aY (a.im) (bf))]<|ak λb e2=>aw [hz 7 [] (jf (c:=0) aH (kP gl (⟨aH,bf,eB aH,λ_ _ e=>xY gl a e⟩) e2) (aY (aG 20 (aE aj l) aH) (aY (aG 20 (.clo (.func 369) [] [.ptr [.clo (.func fi_may) fa_may fc_may] 0]) aH) (bf))))]<|rv K
theorem oB:Aa0 prog gl bY (λx=>[.agg (bY x)]) 382:=λs f fi_f fa_f fc_f a=>
 cy func382 λK=>Nk 1101 (λg=>sg [] []) (λs1=>sf [] [(7,iG (ah s)),(8,iG s1)]) [hc (a.im)] K (λg=>rv K) λs1 k5 h k6=>aF 9 (Cd 14 bZ.ixZ 15 (bZ.ptZ Pc) λd=>ak λi e=>kV (λb=>aw [hz 16 [] (cS (a.cs (c:=0) e (aY (aG 20 (.agg (bY d)) aH) (bf))) b)]<|aP c3 k6 []) λb=>aw [hz 16 [] (cS (a.cs (c:=0) e (aY (aG 20 (.agg (bY d)) aH) (bf))) b)]<|cj k5 [hc (a.im)])<|aA c2 h []
theorem lV:AbZ prog gl bY (λx=>[.agg (bY x)]) 370:=λs f fi_f fa_f fc_f a=>
 cy func370 λK=>ak λb e2=>aw [hz 7 [] (jf (c:=0) aH (oB gl (a) e2) (aY (aG 20 (aE bY s) aH) (aY (a.im) (bf))))]<|rv K
theorem zM{x_:E1}{a1:E1->Fo}(a:T9 prog gl fi_a1 fa_a1 fc_a1 (λx:E1=>[.agg (bY x)]) (λx:Bool=>bG x) a1):DF prog gl (SB x_ a1) 371 [.agg (bY x_),.ptr [.clo (.func fi_a1) fa_a1 fc_a1] 0] bG:=
 cy func371 λK=>ak λb e2=>aw [hz 6 [] (a.cs (c:=1) e2 (aY (aG 20 (.agg (bY x_)) aH) (bf)))]<|rv K
theorem tK{l:List E1}{may:E1->Fo}(a:T9 prog gl fi_may fa_may fc_may (λx:E1=>[.agg (bY x)]) (λx:Bool=>bG x) may):DF prog gl (N4 l may) 334 [aE bY l,.clo (.func fi_may) fa_may fc_may] bG:=
 cy func334 λK=>cN [1,0] (sf [1] [(3,.ptr [.clo (.func fi_may) fa_may fc_may] 0)]) [hc (a.im),hc (aY (a.im) (bf))]<|ak λb e2=>aw [hz 7 [] (jf (c:=0) aH (lV gl (⟨aH,bf,eB aH,λ_ _ e=>zM gl a e⟩) e2) (aY (aG 20 (aE bY l) aH) (aY (aG 20 (.clo (.func 371) [] [.ptr [.clo (.func fi_may) fa_may fc_may] 0]) aH) (bf))))]<|rv K
theorem mq:Aa0 prog gl bp (λx=>[.agg (bp x)]) 383:=λs f fi_f fa_f fc_f a=>
 cy func383 λK=>Nk 1101 (λg=>sg [] []) (λs1=>sf [] [(7,iG (ah s)),(8,iG s1)]) [hc (a.im)] K (λg=>rv K) λs1 k5 h k6=>aF 9 (Cd 14 bH.ixZ 15 (bH.ptZ GM) λd=>ak λi e=>kV (λb=>aw [hz 16 [] (cS (a.cs (c:=0) e (aY (aG 20 (.agg (bp d)) aH) (bf))) b)]<|aP c3 k6 []) λb=>aw [hz 16 [] (cS (a.cs (c:=0) e (aY (aG 20 (.agg (bp d)) aH) (bf))) b)]<|cj k5 [hc (a.im)])<|aA c2 h []
theorem kw:AbZ prog gl bp (λx=>[.agg (bp x)]) 372:=λs f fi_f fa_f fc_f a=>
 cy func372 λK=>ak λb e2=>aw [hz 7 [] (jf (c:=0) aH (mq gl (a) e2) (aY (aG 20 (aE bp s) aH) (aY (a.im) (bf))))]<|rv K
theorem wD{x_:DS}{a1:DS->Fo}(a:T9 prog gl fi_a1 fa_a1 fc_a1 (λx:DS=>[.agg (bp x)]) (λx:Bool=>bG x) a1):DF prog gl (SB x_ a1) 373 [.agg (bp x_),.ptr [.clo (.func fi_a1) fa_a1 fc_a1] 0] bG:=
 cy func373 λK=>ak λb e2=>aw [hz 6 [] (a.cs (c:=1) e2 (aY (aG 20 (.agg (bp x_)) aH) (bf)))]<|rv K
theorem pY{l:List DS}{may:DS->Fo}(a:T9 prog gl fi_may fa_may fc_may (λx:DS=>[.agg (bp x)]) (λx:Bool=>bG x) may):DF prog gl (N4 l may) 335 [aE bp l,.clo (.func fi_may) fa_may fc_may] bG:=
 cy func335 λK=>cN [1,0] (sf [1] [(3,.ptr [.clo (.func fi_may) fa_may fc_may] 0)]) [hc (a.im),hc (aY (a.im) (bf))]<|ak λb e2=>aw [hz 7 [] (jf (c:=0) aH (kw gl (⟨aH,bf,eB aH,λ_ _ e=>wD gl a e⟩) e2) (aY (aG 20 (aE bp l) aH) (aY (aG 20 (.clo (.func 373) [] [.ptr [.clo (.func fi_may) fa_may fc_may] 0]) aH) (bf))))]<|rv K
def wE(n:E1):Fo:=
 some (decide (ah n.Boxes<=12))
theorem H8{n}:DF prog gl (wE n) 336 [.agg (bY n)] bG:=
 cy func336 λK=>rv K
def wF(s:DS):Fo:=
 some (decide (ah s.Body<=208))
theorem H9{s}:DF prog gl (wF s) 337 [.agg (bp s)] bG:=
 cy func337 λK=>rv K
def FX(o:Bp):Fo:=
 (bif decide (12<ah o.Past) then(some true) else(bif decide (5<ah o.Path) then(some true) else((N4 o.Path (λz=>wE z)).bind λa=>bif(!a) then(some true) else(bif decide (208<ah o.Body) then(some true) else(bif decide (8<ah o.Refs) then(some true) else(bif decide (20<ah o.Hist) then(some true) else((N4 o.Hist (λz=>wF z)).bind λb=>bif(!b) then(some true) else(some (decide (6<ah o.Guards)))))))))).bind λc=>bif c then(some true) else(bif decide (o.Kind=7) then((FV (ah o.Body) 1 20).bind λd=>some (!d)) else(bif decide (o.Kind=9) then(some (decide (ah o.Boxes≠ah o.Guards))) else(bif decide (o.Kind=10) then((FV (ah o.Boxes) 1 6).bind λe=>some (!e)) else(bif decide (o.Kind=11) then(some (decide (ah o.Boxes≠1))) else(some false)))))
theorem Es{o}:DF prog gl (FX o) 264 [.agg (aJ o)] bG:=
 cy func264 λK=>cN 111100 (sp [] [(1,.ref 0 0),(3,.clo (.func 336) [] []),(4,.clo (.func 337) [] [])] [ob 0 64 (aJ o)] 1) [hc (aG 20 (.clo (.func 336) [] []) aH),hc (aG 20 (.clo (.func 337) [] []) aH)]<|cC 111100 (λa=>sg [1] [(52,bG a)]) (λa=>eH [52] (rv K)<|aF 56 (Bz 60 (eE gl) λd=>rv K)<|aF 63 (rv K)<|aF 72 (Bz 76 (eE gl) λf=>rv K)<|aF 79 (rv K)<|rv K) λa k12=>aF 8 (rx k12)<|aF 14 (rx k12)<|Bz 19 (tK gl (⟨aH,bf,eB aH,λ_ _ e=>H8 gl e⟩)) λb=>aF 21 (rx k12)<|aF 27 (rx k12)<|aF 33 (rx k12)<|aF 39 (rx k12)<|Bz 44 (pY gl (⟨aH,bf,eB aH,λ_ _ e=>H9 gl e⟩)) λc=>aF 46 (rx k12)<|rx k12
def eR(n:Nat):Ft:=
 bif decide (((2305843009213693951:Nat):Int)<=((wU (((bD n 2305843009213693951:Nat):Int)+((Jo n 61:Nat):Int)):Nat):Int)) then(some (wU (((wU (((bD n 2305843009213693951:Nat):Int)+((Jo n 61:Nat):Int)):Nat):Int)-((2305843009213693951:Nat):Int)))) else(some (wU (((bD n 2305843009213693951:Nat):Int)+((Jo n 61:Nat):Int))))
theorem dr{n}:DF prog gl (eR n) 294 [uG n] (λr:Nat=>uG r):=
 cy func294 λK=>aw [hV 4 (ju (P:=prog) (t:=23) n 2305843009213693951),hV 6 (T0 (P:=prog) (t:=23) (k':= .u64) n 61),hbb 7 (gV ((bD n 2305843009213693951:Nat):Int) ((Jo n 61:Nat):Int))]<|aF 9 (aw [hbb 11 (YH ((wU (((bD n 2305843009213693951:Nat):Int)+((Jo n 61:Nat):Int)):Nat):Int) ((2305843009213693951:Nat):Int))]<|rv K)<|rv K
def jZ(a:Nat)(b:Nat):Ft:=
 (eR a).bind λd=>(eR b).bind λe=>(sL d e).bind λc=>(eR c.2).bind λf=>(eR (wU ((f:Int)+((It c.1 3:Nat):Int)))).bind λg=>some g
theorem j0{a b}:DF prog gl (jZ a b) 341 [uG a,uG b] (λr:Nat=>uG r):=
 cy func341 λK=>Bz 9 (dr gl) λe=>Bz 11 (dr gl) λf=>Bz 12 (FY gl) λc=>Bz 16 (dr gl) λd=>Bz 20 (dr gl) λg=>aw [hV 18 (Ks (P:=prog) (t:=23) (k':= .u64) c.1 3),hbb 19 (gV (d:Int) ((It c.1 3:Nat):Int))]<|rv K
def iB(n:Nat)(low:Nat)(a:Nat):Fo:=
 (bif decide ((low:Int)<=(n:Int)) then(some (decide ((n:Int)<=(a:Int)))) else(some false)).bind λb=>some b
theorem GI{n low a}:DF prog gl (iB n low a) 338 [uG n,uG low,uG a] bG:=
 cy func338 λK=>cN [1,0] (sf [] []) []<|cC [1,0] (λb=>sg [] [(6,bG b)]) (λb=>rv K) λb k3=>aF 9 (rx k3)<|rx k3
end
section
set_option maxHeartbeats 2000000
attribute [local irreducible] Tr dz Gp
def df(a:Ab)(a1:Aj):Fo:=
 some ((a1.at_.get a).isSome)
theorem jk{id_ a1}:DF prog gl (df id_ a1) 266 [.agg (aj id_),.ptr [.ptr (Ag a1) 0] 0] bG:=
 cy func266 λK=>aw [hm 12 (H7 a1.at_ id_)]<|rv K
def wG(a:Nat)(b:Nat):Ft:=
 (eR a).bind λc=>(eR b).bind λd=>(eR (wU ((c:Int)+(d:Int)))).bind λe=>some e
theorem Ia{a b}:DF prog gl (wG a b) 355 [uG a,uG b] (λr:Nat=>uG r):=
 cy func355 λK=>Bz 6 (dr gl) λc=>Bz 8 (dr gl) λd=>Bz 10 (dr gl) λe=>aw [hbb 9 (gV (c:Int) (d:Int))]<|rv K
def N7(d:Int)(a1:Ad):Fo:=
 some (!(Ht (a1.in_.get d)))
theorem OI{d a1}:DF prog gl (N7 d a1) 413 [iG d,.ptr [.ptr (CB a1) 0] 0] bG:=
 cy func413 λK=>aw [hm 9 (Su a1.in_ d)]<|rv K
def Vv(b:Ad)(o:Bp)(m:Int):JM:=
 (Aa1 o.Guards (λz=>N7 z b)).bind λa=>bif a then(some 17) else(some 0)
theorem XU{r_ o m}:DF prog gl (Vv r_ o m) 412 [.ptr (CB r_) 0,.agg (aJ o),iG m] iG:=
 cy func412 λK=>cN 1100 (sp [] [(3,.ptr [.ptr (CB r_) 0] 0),(4,.ref 0 0)] [ob 0 64 (aJ o)] 1) [hc (aY (Ah (CB r_) 0) (bf))]<|ak λa e2=>kV (λb3=>aw [hf 10 (cF (ml gl (⟨aH,bf,eB aH,λ_ _ e=>OI gl e⟩) e2) b3)]<|rv K) λb3=>aw [hf 10 (cF (ml gl (⟨aH,bf,eB aH,λ_ _ e=>OI gl e⟩) e2) b3)]<|rv K
end
section
attribute [local irreducible] Tr dz Gp
abbrev u1(n:Nat):Option Ob:=some ⟨23,[uG n],none⟩
theorem Kt(a n:Nat):jg prog gl 374 [uG a,uG n] [] 0 (.clo (.func 384) [] [.ref 0 0,.ref 1 0]) [(0,u1 a),(1,u1 n)] 2:=by refine pP func374 ?_;exact dEf .ret (s0 6 gl [(4,.clo (.func 384) [] [.ref 0 0,.ref 1 0])] [(1,u1 n),(0,u1 a)] 2 0) [.clo (.func 384) [] [.ref 0 0,.ref 1 0]] [] (λk o hk=>by rcases k with _|_|k<;>exact hk)
def mW(s:Nat×Nat×Nat):Option ((Nat×Nat×Nat)⊕Nat):=
 bif decide (((0:Nat):Int)<(s.2.1:Int)) then((bif decide (((bD s.2.1 1:Nat):Int)=((1:Nat):Int)) then(jZ s.2.2 s.1) else some s.2.2).bind λo=>(jZ s.1 s.1).bind λb=>some (.inl (b,Jo s.2.1 1,o))) else some (.inr s.2.2)
def j7(a n:Nat):Ft:=(eR a).bind λv=>AB mW (v,n,1)
noncomputable abbrev FZ:Code:=bq 111012 (ai Tryz.f340)
noncomputable abbrev tL(st:LoopState)(fr:Fr):Option Ob:=some ⟨0,[],some (.loop st none 18 fr (Dy FZ) (Dz FZ) (DA FZ))⟩
noncomputable abbrev Yo:Fr:=[(5,.ref 0 0),(10,.clo (.func 384) [] [.ref 1 0,.ref 2 0])]
abbrev r4:DG:=[(0,0),(1,1),(2,2),(3,3)]
theorem mX(h:j7 a n=some r):ba prog gl 340 [uG a,uG n] (uG r):=by
 unfold j7 at h;obtain⟨v,ev,h⟩:=bS h;refine Gh func340 ?_;refine YR [1,1,0,1,2] (s0 18 gl Yo [(1,u1 a),(2,u1 n),(0,u1 1)] 3 0) [hmc 10 [] 1 [] [uG a,uG n] [(0,⟨23,[uG a],none⟩),(1,⟨23,[uG n],none⟩)] (Kt gl a n) trivial ⟨⟨rfl,.inl rfl⟩,⟨rfl,.inl rfl⟩,trivial⟩] ?_;refine Xt (fst:=[]) (cap:=[.ref 1 0,.ref 2 0]) Tryz.f384 func384 ?_;refine pN (λs:Nat×Nat×Nat=>(s0 22 gl [(0,.yld 3),(1,.ref 1 0),(2,.ref 2 0),(4,uG s.1)] [(0,u1 s.2.2),(2,u1 s.2.1),(3,tL .ready [(5,.ref 0 0)])] 4 4)) 1122 h [hf 6 (dr gl ev)] [] (λB s w hs k5 d=>?_) [] r4;unfold mW at hs;rcases bC hs with⟨b1,hs⟩|⟨b1,hs⟩
 .obtain⟨o,c,hs⟩:=bS hs;obtain⟨b,eb,hs⟩:=bS hs;obtain rfl:=Bj hs;refine pO 112200 (s0 22 gl [(0,.yld 3),(1,.ref 1 0),(2,.ref 2 0),(4,uG s.1)] [(0,u1 s.2.2),(2,u1 s.2.1),(3,tL .ready [(5,.ref 0 0)])] 4 4) [] [] ?_ [] r4;refine Xw (i:=3) (j:=8) (n:=18) (t:=0) (t2:=0) (pe:=none) (fr:=[(5,.ref 0 0)]) (ps:=Dy FZ) (a:=Dz FZ) (b:=DA FZ) (s1:=(s0 22 gl [(14,bG (decide (((bD s.2.1 1:Nat):Int)=((1:Nat):Int)))),(13,uG (bD s.2.1 1)),(12,uG s.2.1),(11,uG s.1),(10,.yld 3),(9,bG true),(8,bG true),(7,uG s.2.1),(0,.yld 3),(1,.ref 1 0),(2,.ref 2 0),(4,uG s.1)] [(0,u1 s.2.2),(2,u1 s.2.1),(3,tL .ready [(5,.ref 0 0)])] 4 4))
   (s3:=(s0 22 gl [(16,bG true),(15,bG true),(14,bG (decide (((bD s.2.1 1:Nat):Int)=((1:Nat):Int)))),(13,uG (bD s.2.1 1)),(12,uG s.2.1),(11,uG s.1),(10,.yld 3),(9,bG true),(8,bG true),(7,uG s.2.1),(0,.yld 3),(1,.ref 1 0),(2,.ref 2 0),(4,uG s.1)] ((3,tL .ready [(5,.ref 0 0)])::[(0,u1 o),(2,u1 s.2.1),(3,tL .busy [(5,.ref 0 0)])]) 4 4))
   [(0,u1 o),(2,u1 s.2.1),(3,tL .busy [(5,.ref 0 0)])] 4 (.loop .ready none 18 [(5,.ref 0 0)] (Dy FZ) (Dz FZ) (DA FZ)) [hr 8 b1,hV 13 (ju (P:=prog) (t:=23) s.2.1 1)] [] ?_ ?_
  .refine C9 .normal ⟨18,gl,[(5,.ref 0 0),(6,uG s.1),(7,bG (decide (((bD s.2.1 1:Nat):Int)=((1:Nat):Int))))],[(0,u1 s.2.2),(2,u1 s.2.1),(3,tL .ready [(5,.ref 0 0)])],4,4,true⟩ [] [] (Xv Tryz.f340 ?_ rfl) [] r4;rcases bC c with⟨b2,c⟩|⟨b2,c⟩
   .rw[b2];exact C9 .normal ⟨18,gl,[],[(0,u1 o),(2,u1 s.2.1),(3,tL .busy [(5,.ref 0 0)])],4,4,true⟩ [hf 16 (j0 gl c)] [] (jy rfl rfl rfl rfl rfl rfl) [] r4
   .rw[b2];obtain rfl:=Bj c;exact C9 .normal ⟨18,gl,[],[(0,u1 s.2.2),(2,u1 s.2.1),(3,tL .busy [(5,.ref 0 0)])],4,4,true⟩ [] [] (jy rfl rfl rfl rfl rfl rfl) [] r4
  .exact jw [hf 21 (j0 gl eb),hV 18 (T0 (P:=prog) (t:=23) (k':= .u64) s.2.1 1)] [] (k5 _ rfl) [] r4
 .obtain rfl:=Bj hs;obtain rfl:=d _ rfl;refine C9 .normal (s0 22 gl [] [(0,u1 s.2.2),(3,tL .ready [(5,.ref 0 0)])] 4 4) [hr 8 b1] [] (Xu ?_ rfl) [] r4;exact Ar [] []
end
section
attribute [local irreducible] Tr dz Gp
def kE(s k w:Nat):Ft:=(jZ 37 s).bind λa=>(eR (wU ((w:Int)+((wU ((k:Int)+((1:Nat):Int)):Nat):Int)))).bind λb=>(wG a b).bind λc=>j7 c 17
def rK(l:Bq)(x:Nat×Nat×Int):Option ((Nat×Nat×Int)⊕(Nat×Nat)):=bif decide (x.2.2<ah l) then(aS l x.2.2).bind λw=>(kE x.1 x.2.1 w).bind λs=>some (.inl (s,wU ((x.2.1:Int)+((1:Nat):Int)),wI (x.2.2+1))) else some (.inr (x.1,x.2.1))
abbrev Ku(s k:Nat):Option Ob:=some ⟨336,[uG s,uG k],none⟩
abbrev Ci(l:Bq):Option Ob:=some ⟨23,l.flatMap cW,none⟩
theorem Th{l:Bq}{r:Nat×Nat}(h:AB (rK l) (s,k,0)=some r):jg prog gl 293 [.ref 0 0,.rsl 1 0 l.length] [(0,Ku s k),(1,Ci l)] 2 (.tup []) [(0,Ku r.1 r.2),(1,Ci l)] 2:=by
 refine pP func293 ?_;refine pN (λx:Nat×Nat×Int=>(s0 37 gl [(0,.ref 0 0),(6,.rsl 1 0 l.length),(7,iG (ah l)),(8,iG x.2.2)] [(0,Ku x.1 x.2.1),(1,Ci l)] 2 2)) 1122 h [] [hc (rfl:l.length=l.length),hc (rW.imm l)] (λB x w hs k5 e=>?_) (kd:=[(1,.row)]);unfold rK at hs;rcases bC hs with⟨b1,hs⟩|⟨b1,hs⟩
 .obtain⟨y,d,hs⟩:=bS hs;obtain⟨s',es,hs⟩:=bS hs;obtain rfl:=Bj hs;unfold kE at es;obtain⟨a,f,es⟩:=bS es;obtain⟨b,eb,es⟩:=bS es;obtain⟨c,g,es⟩:=bS es;exact jw [hr 9 b1,AA 10 (rW.ixrZ 1 d),AA 11 (rW.p10Z tW d),hbb 16 (gV (x.2.1:Int) ((1:Nat):Int)),hf 24 (j0 gl f),hbb 30 (gV (y:Int) ((wU ((x.2.1:Int)+((1:Nat):Int)):Nat):Int)),hf 31 (dr gl eb),hf 32 (Ia gl g),hf 33 (mX gl es)] [hc (rfl:l.length=l.length),hc (rW.imm l)] (k5 _ rfl) (kd:=[(1,.row)])
 .obtain rfl:=Bj hs;obtain rfl:=e _ rfl;exact mt .normal (s0 37 gl [] [(0,Ku x.1 x.2.1),(1,Ci l)] 2 2) [] [hr 9 b1] [hc (rW.imm l)] (kd:=[(1,.row)])
end
section
attribute [local irreducible] Tr dz Gp
abbrev ny(b:CM):G:= .clo (.func 296) [] [.ptr [aE cY b] 0]
abbrev Kv(b:CM):G:= .clo (.func 356) [] [.ptr [aE cY b] 0,.ptr [iG 7] 0]
theorem Ic(b:CM):ba prog gl 222 [aE cY b] (ny b):=by refine Gh func222 ?_;refine pO [1,0] (s0 4 gl [(1,.ptr [aE cY b] 0)] [] 0 0) [] [hc (aY (aG 20 (aE cY b) aH) bf)] ?_;exact Ar [] []
theorem Ie(b:CM):ba prog gl 297 [aE cY b,iG 7] (Kv b):=by refine Gh func297 ?_;refine pO 1100 (s0 9 gl [(2,.ptr [aE cY b] 0),(3,.ptr [iG 7] 0)] [] 0 0) [] [hc (aY (aG 20 (aE cY b) aH) bf),hc (aY (aG 20 (iG 7) aH) bf)] ?_;exact Ar [] []
def hcv(d:Nat){g:G}{p:Prop}(t:p):HP:=⟨some (.c d g),p,t⟩
theorem Yp{ts te:Bo}{f:α->Bn}(R:AH P ts te k f){l y z:List α}{i j:Int}(h1:tq l j=some y)(h2:mc y i=some z):sJ P ts (aE f l) (iG i) (iG j) (iG j)=some (aE f z):=by obtain⟨a1,a2,rfl⟩:=ym h1;obtain⟨b1,b2,rfl⟩:=yn h2;rw[N3] at b2;simp only[sJ,R.el,R.sz,aE,iG,xL];grind [AH,yk,sQ]
def oD(q:CM)(x:Nat×Int):Option ((Nat×Int)⊕Nat):=bif decide (x.2<ah q) then(aS q x.2).bind λy=>(wJ (wI (8*x.2))).bind λn=>some (.inl (gM x.1 (It (wU (y.toNat:Int)) n),wI (x.2+1))) else some (.inr x.1)
def xZ(b:CM)(x:Bq×Int):Option ((Bq×Int)⊕Bq):=bif decide (x.2<ah b) then(mc b x.2).bind λq0=>(tq b (wI (x.2+iI 7 (ah q0)))).bind λy=>(mc y x.2).bind λq=>(AB (oD q) (0,0)).bind λw=>(aT 8 x.1 [w]).bind λa=>some (.inl (a,wI (x.2+7))) else some (.inr x.1)
def Cj(b:CM):Option Bq:=AB (xZ b) ([],0)
end
section
attribute [local irreducible] Tr dz Gp
noncomputable abbrev OV:Code:=bq 11012 (ai Tryz.f295)
noncomputable abbrev Kw:Code:=bq 1112 (ai Tryz.f296)
noncomputable abbrev uS(st:LoopState):Option Ob:=some ⟨0,[],some (.loop st none 13 [(2,.ref 0 0)] (Dy OV) (Dz OV) (DA OV))⟩
noncomputable abbrev Pr(st:LoopState):Option Ob:=some ⟨0,[],some (.loop st none 29 [(2,.ref 2 0)] (Dy Kw) (Dz Kw) (DA Kw))⟩
abbrev I8(g:G):Option Ob:=some ⟨58,[g],none⟩
abbrev Kx(i:Nat):Option Ob:=some ⟨329,[.yld i],none⟩
abbrev aar(b:CM)(i m:Int):Fr:=[(0,.yld 3),(1,.ptr [aE cY b] 0),(2,.ptr [iG 7] 0),(4,iG i),(5,iG m)]
noncomputable abbrev σCh(acc:Bq):aQ:=[(0,I8 (.rsl 4 0 acc.length)),(1,uS .ready),(2,Kx 1),(3,Pr .ready),(4,Ci acc)]
abbrev Ti(b q:CM)(i m:Int):Fr:=[(28,aE cY q),(27,iG (wI (i+m))),(26,iG m),(25,iG i),(24,iG (wI (i+m))),(23,iG m),(22,iG i),(21,iG i),(20,aE cY b),(19,.yld 3)]++aar b i m
noncomputable abbrev σRd(acc:Bq):aQ:=[(0,I8 (.rsl 5 0 acc.length)),(1,uS .ready),(2,Kx 1),(3,Pr .busy),(5,Ci acc)]
theorem F0{r:Bq}(h:Cj b=some r):iV prog gl 295 [.lit (.slice none 0 0),ny b] 23 r.length (r.flatMap cW):=by
 unfold Cj at h;refine OW func295 ?_;refine YR [1,0,1,2] (s0 13 gl [(2,.ref 0 0),(6,ny b)] [(0,I8 (.lit (.slice none 0 0)))] 1 0) [] ?_;refine Xt (fst:=[]) (cap:=[.ptr [aE cY b] 0]) Tryz.f296 func296 ?_;refine YR [1,1,2] (s0 29 gl [(2,.ref 2 0),(8,Kv b)] [(2,Kx 1),(1,some ⟨0,[],some (.loop .ready none 13 [(2,.ref 0 0),(6,ny b)] (Dy OV) (Dz OV) (DA OV))⟩),(0,I8 (.lit (.slice none 0 0)))] 3 2) [hf 8 (Ie gl b)] ?_;refine Xt (fst:=[]) (cap:=[.ptr [aE cY b] 0,.ptr [iG 7] 0]) Tryz.f356 func356 ?_;refine pN (λx:Bq×Int=>(s0 31 gl [(0,.yld 3),(1,.ptr [aE cY b] 0),(2,.ptr [iG 7] 0),(4,iG x.2)] [(0,I8 (.rsl 4 0 x.1.length)),(1,uS .ready),(2,Kx 1),(3,Pr .ready),(4,Ci x.1)] 5 4)) 1122 h [] [hc (rW.imm [])] (λB x w hs k5 d=>?_) (vs:=[23]) (ρ:=rI 5) (kd:=[(4,.row)]);unfold xZ at hs;rcases bC hs with⟨b1,hs⟩|⟨b1,hs⟩
 .obtain⟨q0,e0,hs⟩:=bS hs;obtain⟨y,k,hs⟩:=bS hs;obtain⟨q,l,hs⟩:=bS hs;obtain⟨w,ew,hs⟩:=bS hs;obtain⟨a,m,hs⟩:=bS hs;obtain rfl:=Bj hs;refine pO 112210210 (s0 31 gl [(0,.yld 3),(1,.ptr [aE cY b] 0),(2,.ptr [iG 7] 0),(4,iG x.2),(5,iG (iI 7 (ah q0)))] [(0,I8 (.rsl 4 0 x.1.length)),(1,uS .ready),(2,Kx 1),(3,Pr .ready),(4,Ci x.1)] 5 4) [hr 9 b1,AA 16 (rY.sufZI e0)] [hc (rfl:x.1.length=x.1.length),hc (rW.imm x.1)] ?_ (ρ:=rI 5) (kd:=[(4,.row)]);refine Xw (i:=3) (j:=10) (n:=29) (t:=0) (t2:=0) (pe:=none) (fr:=[(2,.ref 2 0)]) (ps:=Dy Kw) (a:=Dz Kw) (b:=DA Kw) (s1:=(s0 31 gl (Ti b q x.2 (iI 7 (ah q0))) (σCh x.1) 5 4))
   (s3:=(s0 31 gl ([(30,bG false),(29,bG true)]++Ti b q x.2 (iI 7 (ah q0))) ((3,Pr .ready)::σRd a) 6 4))
   (σRd a) 6 (.loop .ready none 29 [(2,.ref 2 0)] (Dy Kw) (Dz Kw) (DA Kw)) [hcv 28 (g:=aE cY q) (Yp rY k l)] [] ?_ ?_
  .refine C9 .normal ⟨29,gl,[(2,.ref 2 0),(3,aE cY q)],σCh x.1,5,5,true⟩ [] [hc (rfl:x.1.length=x.1.length),hc (rW.imm x.1)] (Xv Tryz.f296 ?_ rfl) (ρ:=rI 5) (kd:=[(4,.row)]);refine Ix 12101 ⟨29,gl,[(2,.ref 2 0),(4,uG w)],[(0,I8 (.rsl 4 0 x.1.length)),(1,uS .ready),(2,Kx 1),(3,Pr .busy),(4,Ci x.1)],5,5,true⟩ ?_ λkk=>?_
   .refine pO 12110 ⟨29,gl,[(2,.ref 2 0),(4,uG w)],[(0,I8 (.rsl 4 0 x.1.length)),(1,uS .ready),(2,Kx 1),(3,Pr .busy),(4,Ci x.1)],5,5,true⟩ [] [hc (rfl:x.1.length=x.1.length),hc (rW.imm x.1)] ?_ (ρ:=rI 5) (kd:=[(4,.row)]);refine Xw (i:=1) (j:=2) (n:=13) (t:=0) (t2:=0) (pe:=none) (fr:=[(2,.ref 0 0)]) (ps:=Dy OV) (a:=Dz OV) (b:=DA OV) (s1:=⟨29,gl,[(26,uG w),(25,.yld 1),(2,.ref 2 0),(4,uG w)],[(0,I8 (.rsl 4 0 x.1.length)),(1,uS .ready),(2,Kx 1),(3,Pr .busy),(4,Ci x.1)],5,5,true⟩)
     (s3:=⟨29,gl,[(28,bG false),(27,bG true),(26,uG w),(25,.yld 1),(2,.ref 2 0),(4,uG w)],(1,uS .ready)::[(0,I8 (.rsl 5 0 a.length)),(1,uS .busy),(2,Kx 1),(3,Pr .busy),(5,Ci a)],6,5,true⟩)
     [(0,I8 (.rsl 5 0 a.length)),(1,uS .busy),(2,Kx 1),(3,Pr .busy),(5,Ci a)] 6 (.loop .ready none 13 [(2,.ref 0 0)] (Dy OV) (Dz OV) (DA OV)) [] [] ?_ ?_
    .refine C9 .normal ⟨13,gl,[(2,.ref 0 0),(5,uG w)],[(0,I8 (.rsl 4 0 x.1.length)),(1,uS .ready),(2,Kx 1),(3,Pr .busy),(4,Ci x.1)],5,5,true⟩ [] [hc (rfl:x.1.length=x.1.length),hc (rW.imm x.1)] (Xv Tryz.f295 ?_ rfl) (ρ:=rI 5) (kd:=[(4,.row)]);exact C9 .normal ⟨13,gl,[],[(0,I8 (.rsl 5 0 a.length)),(1,uS .busy),(2,Kx 1),(3,Pr .busy),(5,Ci a)],6,5,true⟩ [dg 11 rW m] [hc (el a),hc (rW.imm a)] (by grind [jy]) (ρ:=rI 5++[(5,6)]) (kd:=[(5,.row)])
    .exact C9 .normal ⟨29,gl,[],σRd a,6,5,true⟩ [] [hc (el a),hc (rW.imm a)] (by grind [jy]) (ρ:=rI 6) (kd:=[(5,.row)])
   refine pN (λz:Nat×Int=>⟨29,gl,[(2,.ref 2 0),(4,uG z.1),(10,aE cY q),(11,iG (ah q)),(12,iG z.2)],[(0,I8 (.rsl 4 0 x.1.length)),(1,uS .ready),(2,Kx 1),(3,Pr .busy),(4,Ci x.1)],5,5,true⟩) [2,1,0,1,2,2] ew [] [hc (rfl:x.1.length=x.1.length),hc (rW.imm x.1)] (λo z v hz e f=>?_) (ρ:=rI 5) (kd:=[(4,.row)]);unfold oD at hz;rcases bC hz with⟨c1,hz⟩|⟨c1,hz⟩
   .obtain⟨c,e1,hz⟩:=bS hz;obtain⟨n1,e2,hz⟩:=bS hz;obtain rfl:=Bj hz;exact jw [hr 13 c1,AA 15 (rY.ixZ e1),AA 16 (rY.p1Z tY e1),AA 19 (C8 (c.toNat:Int)),hV 22 (sM (P:=prog) (t:=23) (wU (c.toNat:Int)) e2),hV 23 (jc (P:=prog) (t:=23) z.1 (It (wU (c.toNat:Int)) n1))] [hc (rfl:x.1.length=x.1.length),hc (rW.imm x.1)] (e _ rfl) (ρ:=rI 5) (kd:=[(4,.row)])
   .obtain rfl:=Bj hz;obtain rfl:=f _ rfl;exact yl 12101 [hr 13 c1] [hc (rfl:x.1.length=x.1.length),hc (rW.imm x.1)] kk (ρ:=rI 5) (kd:=[(4,.row)])
  .exact jw [] [hc (rfl:a.length=a.length),hc (rW.imm a)] (k5 _ rfl) (ρ:=rI 4++[(4,5)]) (kd:=[(4,.row)])
 .obtain rfl:=Bj hs;obtain rfl:=d _ rfl;refine C9 .normal (s0 31 gl [] [(0,I8 (.rsl 4 0 x.1.length)),(1,uS .ready),(3,Pr .ready),(4,Ci x.1)] 5 4) [hr 9 b1] [hc (rfl:x.1.length=x.1.length),hc (rW.imm x.1)] (Xu ?_ rfl) (ρ:=rI 5) (kd:=[(4,.row)]);refine C9 .normal (s0 29 gl [] [(0,I8 (.rsl 4 0 x.1.length)),(1,uS .ready),(4,Ci x.1)] 5 2) [] [hc (rfl:x.1.length=x.1.length),hc (rW.imm x.1)] (Xu ?_ rfl) (ρ:=[(0,0),(1,1),(4,4)]) (kd:=[(4,.row)]);exact EI [] (rW.imm _)
end
section
attribute [local irreducible] Tr dz Gp
theorem Ky{r:Bq}(h:Cj b=some r):iV prog gl 221 [ny b] 23 r.length (r.flatMap cW):=by refine OW func221 ?_;exact EI [ho 4 [.lit (.slice none 0 0),ny b] [] (F0 gl h) (Gj (λx g hg=>by simp only[cW,List.mem_singleton] at hg;exact⟨_,hg⟩) r)] (rW.imm _)
end
section
attribute [local irreducible] Tr dz Gp
theorem Qx{σ ρ:Type}{step:σ->Option (σ⊕ρ)}{s s':σ}{r:ρ}(h1:step s=some (.inl s'))(h2:step s'=some (.inr r)):AB step s=some r:=by unfold AB FU;rw[show(4611686018427387904:Nat)=4611686018427387902+1+1 from rfl];unfold KN;rw[h1];show KN step (4611686018427387902+1) s'=some r;unfold KN;rw[h2]
def k1(k:Nat):Nat:=wU ((k:Int)+((1:Nat):Int))
theorem Qy{s':Nat}(h:kE s k w=some s'):jg prog gl 293 [.ref 0 0,.rsl 1 0 1] [(0,Ku s k),(1,Ci [w])] 2 (.tup []) [(0,Ku s' (k1 k)),(1,Ci [w])] 2:=by
 have e:AB (rK [w]) (s,k,0)=some (s',k1 k):=by
  refine Qx (s':=(s',k1 k,1)) ?_ ?_
  .unfold rK;rw[C3 (show((s,k,0):Nat×Nat×Int).2.2<ah [w] by simp[ah]),ax];show(some w:Ft).bind _=_;rw[aL];show(kE s k w).bind _=_;rw[h,aL];rfl
  .unfold rK;rw[C6 (show¬((s',k1 k,1):Nat×Nat×Int).2.2<ah [w] by simp[ah]),A9]
 exact Th gl e
end
section
attribute [local irreducible] Tr dz Gp
def F1(b:CM)(x:(Nat×Nat)×Int):Option (((Nat×Nat)×Int)⊕(Nat×Nat)):=bif decide (x.2<ah b) then(mc b x.2).bind λq0=>(tq b (wI (x.2+iI 7 (ah q0)))).bind λy=>(mc y x.2).bind λq=>(AB (oD q) (0,0)).bind λw=>(kE x.1.1 x.1.2 w).bind λs=>some (.inl ((s,k1 x.1.2),wI (x.2+7))) else some (.inr x.1)
def F3(l:Bq)(x:(Nat×Nat)×Int):Option (((Nat×Nat)×Int)⊕(Nat×Nat)):=bif decide (x.2<ah l) then(aS l x.2).bind λy=>(eR y).bind λn=>(kE x.1.1 x.1.2 n).bind λs=>some (.inl ((s,k1 x.1.2),wI (x.2+1))) else some (.inr x.1)
def x6(label:CM)(l:Bq):Ft:=(Gk label).bind λt=>(AB (F1 t) ((wU (ah label),0),0)).bind λa=>(kE a.1 a.2 (wU (ah l))).bind λs1=>(AB (F3 l) ((s1,k1 a.2),0)).bind λc=>kE c.1 c.2 0
end
theorem Cm:wY (n:Int)=UInt8.ofNat n:=by
 unfold wY;apply UInt8.toNat_inj.1;have e:IntKind.u8.wrap (n:Int)=((n%256:Nat):Int):=by show(n:Int)%256=_;omega
 rw[e];simp;omega
theorem ya(hk:k<18446744073709551616):jl k=some (nb k):=by
 unfold jl;refine T.eq (.bind ?_);refine T.loop (Q:=λx=>T _ _) (λs=>s.2++nb s.1=nb k/\s.1<18446744073709551616) (λs=>(nb s.1).length) ⟨rfl,hk⟩ (by grind [ow]) ?_;rintro⟨m,out⟩ ⟨h1,h2⟩;simp only at h1 h2;have hl:out.length+(nb m).length<=10:=by grind [ow]
 have hp:0<(nb m).length:=List.length_pos_iff.2 (Yj m);unfold DJ;dsimp only;refine .dec (λh=>?_) λh=>?_
 .have hm:¬m<128:=aa;refine .bind (.app cq (.some ?_));have e1:wU ((m/128:Nat):Int)=m/128:=rM aa;have e2:wY (((wY ((m%128:Nat):Int)).toNat:Int)+((128:UInt8).toNat:Int))=UInt8.ofNat (m%128+128):=by grind [Cm,UInt8.toNat_ofNat']
  constructor<;>grind [Er]
 .have hm:m<128:=aa;refine .some ?_;show T _ _;grind [T.app,Cm,H6]
theorem F4{n:Int}(h: -9223372036854775808<=n/\n<=9223372036854775807):cg n=some (nb (Mk n)):=by
 obtain⟨h1,h2⟩:=h;unfold cg;refine T.eq (.dec (λhn=>?_) λhn=>?_)
 .have e1:wI (n+1)=n+1:=by grind [bM]
  have e2:wI (0-(n+1))= -(n+1):=by grind [bM]
  have e3:wU (-(n+1))=(-(n+1)).toNat:=by grind [rM]
  have e4:wU (((wU (((-(n+1)).toNat:Int)*((2:Nat):Int)):Nat):Int)+((1:Nat):Int))=Mk n:=by unfold Mk;rw[Bx hn];generalize hm:(-(n+1)).toNat=m;rw[show(m:Int)*((2:Nat):Int)=((m*2:Nat):Int) by omega,rM aa,show((m*2:Nat):Int)+((1:Nat):Int)=((m*2+1:Nat):Int) by omega,rM aa]
  grind [ya,FQ,T.some]
 grind [rM,Mk,T.eqb,ya,T.some]
def bl(n:Nat):Nat:=if h:n=0 then 0 else bl (n/2)+1
theorem Mo(h:0<n):bl (n/2)<bl n:=by grind [bl.eq_1]
theorem QB:∀(k n:Nat),n<2^k->bl n<=k
 |0,n,h=>by grind [bl.eq_1]
 |k+1,n,h=>by
  rw[bl.eq_1];by_cases h0:n=0
  .grind
  .rw[dif_neg h0];have:=QB k (n/2) (by grind);omega
theorem wL(a b:Nat):T (oQ a b) λv=>v<2305843009213693951:=⟨_,rfl,(by grind)⟩
theorem Il(a b:Nat):T (qi a b) λv=>v<2305843009213693951:=⟨_,rfl,(by grind)⟩
theorem AcP(h:n<18446744073709551616):wU ((n/2:Nat):Int)=n/2:=rM aa
theorem ka(a:Nat){n:Nat}(hn:n<18446744073709551616):T (iK a n) λv=>v<2305843009213693951:=by unfold iK;refine .bind (T.loop (λs=>s.1<2305843009213693951/\s.2.2<18446744073709551616) (λs=>bl s.2.2) (by grind) (by have:=QB 64 n (by grind);grind) ?_);rintro⟨x,y,m⟩ ⟨hx,hm⟩;simp only at hx hm;unfold r6;dsimp only;refine .dec (λh=>?_) λh=> .some (.some hx);refine .bind (T.mono (Q:=λv=>v<2305843009213693951) (by grind [wL,T.some]) λv hv=>?_);refine .bind ((wL _ _).mono λw _=> .some ⟨⟨hv,?_⟩,?_⟩);all_goals grind [AcP,Mo]
theorem Cn{b:CM}(hb:b.length<=1099511627776):T (LK b) λr=>r.length<=b.length:=by
 unfold LK;refine .bind (T.loop (λs=>0<=s.2/\s.2<=b.length+6/\(s.1.length:Int)<=s.2/\s.1.length<=b.length) (λs=>(b.length+7-s.2).toNat) (by grind) cq ?_);rintro⟨acc,i⟩ ⟨h0,h1,h2,h3⟩;simp only at h0 h1 h2 h3;unfold qh;dsimp only;refine .dec (λh=>?_) λh=> .some (.some h3);unfold ah at h;have e7:wI (i+7)=i+7:=by grind [bM]
 have em:0<=iI (ah b) (i+7)/\iI (ah b) (i+7)<=b.length:=by grind [iI,ah]
 refine .bind (T.mono (Q:=λ_=>True) (T.loop (λs=>s.2<b.length) (λs=>(s.2+1-i).toNat) ?_ ?_ ?_) λx _=>?_)
 .grind [bM]
 .grind [bM]
 .rintro⟨u,j⟩ hj;simp only at hj;unfold my;dsimp only;refine .dec (λh=>?_) λh=> .some trivial;refine .bind (.ixl aa hj λx _ _=> .some ⟨?_,?_⟩);all_goals grind [bM]
 .refine .bind (.app cq (.some ⟨?_,?_⟩));all_goals grind
theorem T.strB{s:CM}{Q:CM->Prop}(h:s.length<=1099511627776)(q:Q s):T (Gk s) Q:=⟨s,by grind [Gk],q⟩
theorem Mp(z:Int):wU z<18446744073709551616:=by grind [wU,IntKind.wrap_u64]
theorem F5{l:Bq}(h1:label.length<=1000)(h2:l.length<=1099511627776):T (yA label l) λv=>v<18446744073709551616:=by
 unfold yA;refine .bind (.strB aa (.bind ((Cn (b:=label) aa).mono λw hw=> .bind (.app cq (.bind ?_)))));refine T.forA l.length (λk acc=>acc.length<=w.length+1+k) aa aC (λk acc hk hj=>?_) λacc hj=>?_
 .unfold qk;dsimp only;rw[eA hk,ax,au,DR hk,aL];exact .bind (.app cq (.some ⟨aq aa,by simp;omega⟩))
 .unfold qk;dsimp only;rw[eF,A9];refine .some (.bind (.app cq (.bind ?_)));have hl:(acc++[0]).length<=w.length+2+l.length:=by simp;omega
  generalize acc++[0]=v at hl;refine T.forA v.length (λ_ x=>x<18446744073709551616) aa (Mp _) (λk x hk _=>?_) λx hx=>?_
  .unfold qj;dsimp only;rw[eA hk,ax,au,DR hk];refine .bind ((wL _ _).mono λ_ _=> .bind (.some (.bind ((Il _ _).mono λ_ _=> .bind ((Il _ _).mono λ_ _=> .bind ((ka _ aa).mono λ_ h=> .some ⟨aq aa,(by grind)⟩))))))
  .unfold qj;dsimp only;rw[eF,A9];exact .some (.some hx)
theorem yX{l:Bq}(h1:label.length<=1000)(h2:l.length<=1099511627776):T (M6 label l) λv=>1<=v/\v<=2305843009213693949:=by unfold M6;refine .bind ((F5 h1 h2).mono λv _=> .some ?_);rw[show((1:Nat):Int)+((v%2305843009213693949:Nat):Int)=((1+v%2305843009213693949:Nat):Int) by omega,rM aa];omega
theorem Im{kind:CM}{d:Int}(h1:kind.length<=1000):T (lf kind d) λv=>1<=v/\v<=2305843009213693949:= .bind (by grind [T.mono,yX,T.some])
theorem QC(h:s<18446744073709551616):T (xo s) λv=>v<2305843009213693951:= .bind ((ka _ h).mono λ_ h=> .some h)
theorem Co{label b:CM}(h1:label.length<=1000)(h2:b.length<=1073741824):T (jI label b) λv=>v<18446744073709551616:= .bind (by grind [T.mono,Cn,T.bind,T.app,F5])
theorem QD(h2:b.length<=1073741824):T (Ph b) λv=>v<18446744073709551616:= .bind (by grind [T.mono,Co,T.some])
theorem QE{p:Nat}(h2:b.length<=1073741824):T (Pi r p b) λv=>v<18446744073709551616:= .bind (by grind [T.mono,QD,F5])
theorem Kz{b:Nat}(hb:b<18446744073709551616):T (vp a b) λv=>v<2305843009213693950:=by unfold vp;refine .bind (.some (.bind ⟨_,rfl,.bind (.some (.bind ⟨_,rfl,.bind ?_⟩))⟩));have hq:b%2305843009213693950<2^64:=aa;refine T.loop (λs=>s.2.1<18446744073709551616/\s.2.2<2305843009213693950) (λs=>bl s.2.1) (by grind) (by have:=QB 64 _ hq;grind) ?_;rintro⟨x,m,y⟩ ⟨hm,hy⟩;simp only at hm hy;unfold yC;dsimp only;refine .dec (λh=>?_) λh=> .some (.some hy);refine .bind (T.mono (Q:=λv=>v<2305843009213693950) (.ite (λ_=> .bind (.some (.bind ⟨_,rfl,(by grind [T.some])⟩))) λ_=> .some hy) λv hv=>?_);refine .bind (.some (.bind ⟨_,rfl,.some ⟨⟨?_,hv⟩,?_⟩⟩));all_goals grind [AcP,Mo]
def c8(z:Int):Prop:= -9223372036854775808<=z/\z<=9223372036854775807
def fS(n:Nat):Prop:=n<18446744073709551616
theorem NY(hk:k<18446744073709551616)(hb:b.length<=1073741824):T (zX k b) λs=>fS s.R/\fS s.S:=by unfold zX;refine .bind ((QD hb).mono λc _=> .bind ((yX B5 aC).mono λd h3=> .bind ((ka _ aa).mono λe h5=> .bind ((QC hk).mono λf _=> .bind ((QE hb).mono λg _=> .bind ((Kz hk).mono λa _=> .bind (.some (.bind ⟨_,rfl,.some ⟨Nat.lt_trans h5 B5,Nat.lt_trans (Nat.mod_lt _ B5) B5⟩⟩))))))))
structure JV (i:Ab):Prop where
 a:c8 i.By
 b:c8 i.Seq
 c:fS i.Sum
structure Fs (i:Hb):Prop where
 a:fS i.To
 b:fS i.Eph
 c:fS i.Body
 d:fS i.Tag
structure I6 (i:E1):Prop where
 a:fS i.Pub
 n:i.Boxes.length<=1000
 b:∀x∈i.Boxes,Fs x
structure Hl (i:DS):Prop where
 a:JV i.Of
 n:i.Body.length<=1000
structure Bf (o:Bp):Prop where
 ints:∀z∈[o.By,o.Seq,o.Kind,o.At,o.Device,o.Old,o.Member,o.Role,o.N,o.Need,o.Wait],c8 z
 nPast:o.Past.length<=1000
 past:∀x∈o.Past,JV x
 nPath:o.Path.length<=1000
 path:∀x∈o.Path,I6 x
 epoch:JV o.Epoch
 nBody:o.Body.length<=1000
 nRefs:o.Refs.length<=1000
 refs:∀x∈o.Refs,fS x
 of_:JV o.Of
 nGuards:o.Guards.length<=1000
 guards:∀x∈o.Guards,c8 x
 nBoxes:o.Boxes.length<=1000
 boxes:∀x∈o.Boxes,Fs x
 pub:fS o.Pub
 nHist:o.Hist.length<=1000
 hist:∀x∈o.Hist,Hl x
def aV(z:Int):CM:=nb (Mk z)
def sN(i:Ab):CM:=aV i.By++aV i.Seq++nb i.Sum
def tM(s:CM):CM:=aV (s.length:Int)++s
def uT(b:Hb):CM:=[b.To,b.Eph,b.Body,b.Tag].flatMap nb
def uU(l:List Hb):CM:=aV (l.length:Int)++l.flatMap uT
def ke(n:E1):CM:=nb n.Pub++uU n.Boxes
def lX(x:DS):CM:=sN x.Of++tM x.Body
def qc(o:Bp):CM:=[o.By,o.Seq,o.Kind,o.At,(o.Past.length:Int)].flatMap aV++o.Past.flatMap sN++[o.Device,o.Old,o.Member,o.Role,(o.Path.length:Int)].flatMap aV++o.Path.flatMap ke++sN o.Epoch++aV o.N++tM o.Body++aV (o.Refs.length:Int)++o.Refs.flatMap nb++sN o.Of++aV (o.Guards.length:Int)++o.Guards.flatMap aV++[o.Need,o.Wait].flatMap aV++uU o.Boxes++nb o.Pub++aV (o.Hist.length:Int)++o.Hist.flatMap lX
theorem gH(h:fS k):(nb k).length<=10:=ow h
theorem aR(h:c8 z):(aV z).length<=10:=ow (FQ h)
theorem Ll(h:JV i):(sN i).length<=30:=by grind [aR,JV.a,JV.b,gH,JV.c,sN]
theorem dO{l:List α}(h:l.length<=1000000):c8 (l.length:Int):=by unfold c8;omega
theorem Ao{b:Hb}(h:Fs b):(uT b).length<=40:=by grind [gH,Fs.a,Fs.b,Fs.c,Fs.d,uT]
theorem wM{l:List Hb}(hn:l.length<=1000)(h:∀x∈l,Fs x):(uU l).length<=40010:=by have h1:=aR (dO (l:=l) aa);have h2:=d8 (l:=l) (enc:=uT) (c:=40) (by grind [Ao]);grind [uU]
theorem Ap{s:CM}(hn:s.length<=1000):(tM s).length<=1010:=by grind [aR,dO,tM]
theorem Aq{n:E1}(h:I6 n):(ke n).length<=40020:=by grind [gH,I6.a,wM,I6.n,I6.b,ke]
theorem F6{n:DS}(h:Hl n):(lX n).length<=1040:=by grind [Ll,Hl.a,Ap,Hl.n,lX]
theorem oF(h:fS k):T (jl k) λv=>v=nb k:= .of (ya h) rfl
theorem cK(h:c8 z):T (cg z) λv=>v=aV z:= .of (F4 h) rfl
theorem l6(h:JV i):T (iJ i) λv=>v=sN i:=by have h1:=aR h.a;have h2:=aR h.b;have h3:=gH h.c;unfold iJ;refine .bind ((cK h.a).mono ?_);rintro v rfl;refine .bind ((cK h.b).mono ?_);rintro v rfl;refine .bind (.app aa (.bind ((oF h.c).mono ?_)));rintro v rfl;exact .bind (.app (by grind) (.some rfl))
theorem Ey{s:CM}(h:s.length<=1000):T (vu s) λv=>v=tM s:=by have h1:=aR (dO (l:=s) aa);refine .bind ((cK (dO (l:=s) aa)).mono ?_);rintro v rfl;exact .bind (.app aa (.some rfl))
theorem sO{l:Be}(hn:l.length<=1000)(h:∀x∈l,c8 x):T (PK l) λv=>v=l.flatMap aV:=by
 refine .bind (T.mono (T.forE l [] aV 10 aa (by grind [aR]) (λk acc x hx hm hk hl=>?_) λacc=>?_) (by grind [T.some]))
 .unfold tR;dsimp only;rw[eA hk,ax,au,hx,aL];refine .bind ((cK (h x hm)).mono ?_);rintro v rfl;have:=aR (h x hm);exact .bind (.app (by grind) (.some ⟨aq aa,rfl⟩))
 grind [tR,eF]
theorem Ez{l:Bq}(hn:l.length<=1000)(h:∀x∈l,fS x):T (vt l) λv=>v=l.flatMap nb:=by
 refine .bind (T.mono (T.forE l [] nb 10 aa (by grind [gH]) (λk acc x hx hm hk hl=>?_) λacc=>?_) (by grind [T.some]))
 .unfold tS;dsimp only;rw[eA hk,ax,au,hx,aL];refine .bind ((oF (h x hm)).mono ?_);rintro v rfl;have:=gH (h x hm);exact .bind (.app (by grind) (.some ⟨aq aa,rfl⟩))
 grind [tS,eF]
theorem Cp{l:List Hb}(hn:l.length<=1000)(h:∀x∈l,Fs x):T (nQ l) λv=>v=uU l:=by
 have h1:=aR (dO (l:=l) aa);unfold nQ;refine .bind ((cK (dO (l:=l) aa)).mono ?_);rintro v rfl;refine .bind (T.mono (T.forE l (aV (ah l)) uT 40 aa (by grind [Ao]) (λk acc x hx hm hk hl=>?_) λacc=>?_) λv hv=> .some (by rw[hv];rfl))
 .have hb:=h x hm;unfold qq;dsimp only;rw[eA hk,ax,au,hx];simp only[aL];refine .bind ((Ez aC (by grind [Fs.a,Fs.b,Fs.c,Fs.d])).mono ?_);rintro v rfl;have h4:=Ao hb;unfold uT at h4;unfold ah at hl;exact .bind (.app aa (.some ⟨aq aa,rfl⟩))
 grind [qq,eF]
theorem yY(h:Bf o):(qc o).length<=50000000:=by have e1:=d8 (l:=o.Past) (enc:=sN) (c:=30) λx hx=>Ll (h.past x hx);have e2:=d8 (l:=o.Path) (enc:=ke) (c:=40020) λx hx=>Aq (h.path x hx);have e3:=Ll h.epoch;have e4:=Ll h.of_;have e5:=Ap h.nBody;have e6:=d8 (l:=o.Refs) (enc:=nb) (c:=10) λx hx=>gH (h.refs x hx);have e7:=d8 (l:=o.Guards) (enc:=aV) (c:=10) λx hx=>aR (h.guards x hx);have e8:=wM h.nBoxes h.boxes;have e:=d8 (l:=o.Hist) (enc:=lX) (c:=1040) λx hx=>F6 (h.hist x hx);have a:=gH h.pub;have i1:=aR (h.ints o.By aC);have f:=aR (h.ints o.Seq aC);have g:=aR (h.ints o.Kind aC);have i:=aR (h.ints o.At aC);have j:=aR (h.ints o.Device aC);have i6:=aR (h.ints o.Old aC);have k:=aR (h.ints o.Member aC);have m:=aR (h.ints o.Role aC);have n:=aR (h.ints o.N aC);have b:=aR (h.ints o.Need aC);have d:=aR (h.ints o.Wait aC);have l1:=aR (dO (l:=o.Past) (by have:=h.nPast;omega));have l2:=aR (dO (l:=o.Path) (by have:=h.nPath;omega));have l3:=aR (dO (l:=o.Refs) (by have:=h.nRefs;omega));have l4:=aR (dO (l:=o.Guards) (by have:=h.nGuards;omega));have l5:=aR (dO (l:=o.Hist) (by have:=h.nHist;omega));have n1:=h.nPast;have n2:=h.nPath;have p:=h.nRefs;have q:=h.nGuards;have r:=h.nHist;simp only[qc,List.flatMap_cons,List.flatMap_nil,Sq,List.length_nil];omega
theorem uV(h:Bf o):T (lz o) λv=>v=qc o:=by
 have e1:=d8 (l:=o.Past) (enc:=sN) (c:=30) λx hx=>Ll (h.past x hx);have e2:=d8 (l:=o.Path) (enc:=ke) (c:=40020) λx hx=>Aq (h.path x hx);have e6:=d8 (l:=o.Refs) (enc:=nb) (c:=10) λx hx=>gH (h.refs x hx);have e7:=d8 (l:=o.Guards) (enc:=aV) (c:=10) λx hx=>aR (h.guards x hx);have n1:=h.nPast;have n2:=h.nPath;have p:=h.nRefs;have q:=h.nGuards;have r:=h.nHist;have l1:c8 (ah o.Past):=dO (l:=o.Past) aa;have l2:c8 (ah o.Path):=dO (l:=o.Path) aa;have l3:c8 (ah o.Refs):=dO (l:=o.Refs) aa;have l4:c8 (ah o.Guards):=dO (l:=o.Guards) aa;have l5:c8 (ah o.Hist):=dO (l:=o.Hist) aa;have A:∀z∈[o.By,o.Seq,o.Kind,o.At,ah o.Past],c8 z:=by grind [Bf.ints]
 have B:∀z∈[o.Device,o.Old,o.Member,o.Role,ah o.Path],c8 z:=λz hz=>by simp only[EO,KZ,or_false] at hz;rcases hz with rfl|rfl|rfl|rfl|rfl<;>first|exact l2|exact h.ints _ aC
 have C:∀z∈[o.Need,o.Wait],c8 z:=by grind [Bf.ints]
 have a5:([o.By,o.Seq,o.Kind,o.At,ah o.Past].flatMap aV).length<=50:=d8 λx hx=>aR (A x hx);have b5:([o.Device,o.Old,o.Member,o.Role,ah o.Path].flatMap aV).length<=50:=d8 λx hx=>aR (B x hx);have c2:([o.Need,o.Wait].flatMap aV).length<=20:=by grind [aR]
 unfold lz;refine .then (sO aC A) (.then (T.forE o.Past _ sN 30 aa (by grind [Ll,Bf.past]) (λk acc x hx hm hk hl=>?_) λacc=>?_) ?_)
 .unfold qt;dsimp only;rw[eA hk,ax,au,hx,aL];have:=Ll (h.past x hm);exact .then (l6 (h.past x hm)) (.bind (.app aa (.some ⟨aq aa,rfl⟩)))
 .grind [qt,eF]
 refine .then (sO aC B) (.bind (.appL (n:=50+30000) (by grind) b5 B5 λk1=>?_));refine .then (T.forE o.Path _ ke 40020 aa (by grind [Aq,Bf.path]) (λk acc x hx hm hk hl=>?_) λacc=>?_) ?_
 .have hp:=h.path x hm;unfold qs;dsimp only;rw[eA hk,ax,au,hx];simp only[aL];have q1:=gH hp.a;have f:=wM hp.n hp.b;refine .then (oF hp.a) (.bind (.appL (n:=50000000) (m:=10) aa q1 B5 λd=> .then (Cp hp.n hp.b) (.bind (.appL d f B5 λ_=> .some ⟨aq aa,?_⟩))));simp[ke]
 .grind [qs,eF]
 have k2:∀(u:CM),u.length<=30100->(u++o.Path.flatMap ke).length<=41000000:=by grind
 refine .then (l6 h.epoch) (.bind (.appL (k2 _ k1) (Ll h.epoch) B5 λk3=>?_));refine .then (cK (h.ints o.N aC)) (.bind (.appL k3 (aR (h.ints o.N aC)) B5 λg=>?_));refine .then (Ey h.nBody) (.bind (.appL g (Ap h.nBody) B5 λk5=>?_));refine .then (cK l3) (.bind (.appL k5 (aR l3) B5 λk6=>?_));refine .then (Ez h.nRefs h.refs) (.bind (.appL (m:=10000) k6 aa B5 λi=>?_));refine .then (l6 h.of_) (.bind (.appL i (Ll h.of_) B5 λk8=>?_));refine .then (cK l4) (.bind (.appL k8 (aR l4) B5 λk9=>?_));refine .then (sO h.nGuards h.guards) (.bind (.appL (m:=10000) k9 aa B5 λe=>?_));refine .then (sO aC C) (.bind (.appL e c2 B5 λk11=>?_));refine .then (Cp h.nBoxes h.boxes) (.bind (.appL k11 (wM h.nBoxes h.boxes) B5 λk12=>?_));refine .then (oF h.pub) (.bind (.appL k12 (gH h.pub) B5 λk13=>?_));refine .then (cK l5) (.bind (.appL k13 (aR l5) B5 λj=>?_));refine .then (T.forE o.Hist _ lX 1040 aa (λx hx=>F6 (h.hist x hx)) (λk acc x hx hm hk hl=>?_) λacc=>?_) (.some rfl)
 .have hp:=h.hist x hm;unfold OY;dsimp only;rw[eA hk,ax,au,hx];simp only[aL];refine .then (l6 hp.a) (.bind (.appL (n:=50000000) aa (Ll hp.a) B5 λd=> .then (Ey hp.n) (.bind (.appL d (Ap hp.n) B5 λ_=> .some ⟨aq aa,?_⟩))));simp[lX]
 .unfold OY;dsimp only;rw[eF,A9]
theorem wN(h:Bf o):T (pV o) λi=>i.By=o.By/\i.Seq=o.Seq/\jI [111,112] (qc o)=some i.Sum/\JV i:=by refine .then (uV h) (.bind ?_);obtain⟨v,e,hv⟩:=Co (label:=[111,112]) (b:=qc o) B5 (by grind [yY]);exact⟨v,e,.some ⟨rfl,rfl,e,⟨h.ints _ aC,h.ints _ aC,hv⟩⟩⟩
theorem Bf.sig{o:Bp}(h:Bf o)(s:XM):Bf {o with Sig:=s}:=by grind [Bf]
theorem Io(h:Bf o):T (nR o) λr=>∃s:XM,r={o with Sig:=s}/\fS s.R/\fS s.S:=by refine .bind ((Im B5).mono (by grind [uV,T.bind,T.mono,NY,yY,T.some]))
section
attribute [local irreducible] Tr dz Gp
abbrev oO(i:Nat)(l:CM):Option Ob:=some ⟨281,[.rsl i 0 l.length],none⟩
abbrev oY(l:CM):Option Ob:=some ⟨5,l.flatMap cY,none⟩
theorem MN{P:Br}{t:Bo}(y:UInt8):∀p q:DC,b8 P .or t p q (gY y) (gY 128)=some (gY (UInt8.ofNat (y.toNat%128+128))):=by grind [Yk,V6]
def Gv(s:Bool×CM×Nat):Option ((Bool×CM×Nat)⊕(Bool×CM×Nat)):=
 bif decide (((128:Nat):Int)<=(s.2.2:Int)) then(aT 1 s.2.1 [UInt8.ofNat ((wY (s.2.2:Int)).toNat%128+128)]).bind λa=>some (.inl (true,a,Jo s.2.2 7)) else some (.inr s)
theorem WH(l:CM)(n:Nat)(hn:n<18446744073709551616)(hl:l.length<=100000000000000):T (AB Gv (false,l,n)) λr=>T (aT 1 r.2.1 [wY (r.2.2:Int)]) λv=>v=l++nb n:=by
 refine T.loop (λs=>s.2.1++nb s.2.2=l++nb n/\s.2.2<18446744073709551616) (λs=>(nb s.2.2).length) ⟨rfl,hn⟩ (by grind [ow]) ?_;rintro⟨a,o,m⟩ ⟨h1,h2⟩;simp only at h1 h2;have hln:o.length+(nb m).length<=l.length+10:=by grind [Sq,ow]
 unfold Gv;dsimp only;refine .dec (λh=>?_) λh=>?_
 .have hm:¬m<128:=aa;refine .bind (.app cq (.some ?_));have e1:Jo m 7=m/128:=by unfold Jo;congr 1
  have e2:(wY (m:Int)).toNat%128+128=m%128+128:=by rw[Cm,UInt8.toNat_ofNat'];omega
  constructor<;>grind [Er]
 .have hm:m<128:=aa;refine .some ?_;show T _ _;grind [T.app,Cm,H6]
def MO(s:Bool×CM×Nat):St:=match s.1 with
 |true=>(s0 31 gl [(0,.ref 0 0),(1,uG s.2.2)] [(0,oO 2 s.2.1),(2,oY s.2.1)] 3 2)
 |false=>(s0 31 gl [(0,.ref 0 0),(1,uG s.2.2)] [(0,oO 1 s.2.1),(1,oY s.2.1)] 2 2)
theorem JW{l r:CM}(hn:n<18446744073709551616)(hl:l.length<=100000000000000)(d:l++nb n=r):jg prog gl 226 [.ref 0 0,uG n] [(0,oO 1 l),(1,oY l)] 2 (.tup []) [(0,oO 2 r),(2,oY r)] 3:=by
 obtain⟨⟨f,o,m⟩,hL,v,c,e⟩:=WH l n hn hl;obtain rfl:=e.trans d;refine pP func226 ?_;refine Ix [0] (MO gl (f,o,m)) ?_ λkk=>?_
 .cases f
  .exact mt .normal (s0 31 gl [] [(0,oO 2 v),(2,oY v)] 3 2) [] [AA 26 (Iz (m:Int)),dg 28 rY c] [hc (el v),hc (rY.imm v)] (ρ:=[(0,0),(1,1),(2,3)]) (kd:=[(2,.row)])
  .exact mt .normal (s0 31 gl [] [(0,oO 2 v),(2,oY v)] 3 2) [] [AA 26 (Iz (m:Int)),dg 28 rY c] [hc (el v),hc (rY.imm v)] (ρ:=[(0,0),(1,1),(2,4)]) (kd:=[(2,.row)])
 refine pN (MO gl) [0,2,2] hL [] [hc (el l),hc (rY.imm l)] (λB s w hs k5 i=>?_) (kd:=[(1,.row)]);obtain⟨g,j,b⟩:=s;unfold Gv at hs;rcases bC hs with⟨b1,hs⟩|⟨b1,hs⟩
 .obtain⟨a,h,hs⟩:=bS hs;obtain rfl:=Bj hs;have k:=k5 _ rfl;cases g
  .exact jw [hr 5 b1,AA 12 (Iz (b:Int)),hV 13 (MN (P:=prog) (t:=5) (wY (b:Int))),dg 15 rY h,hV 19 (T0 (P:=prog) (t:=23) (k':= .u64) b 7)] [hc (el a),hc (rY.imm a)] k (ρ:=[(0,0),(1,1),(2,3)]) (kd:=[(2,.row)])
  .exact jw [hr 5 b1,AA 12 (Iz (b:Int)),hV 13 (MN (P:=prog) (t:=5) (wY (b:Int))),dg 15 rY h,hV 19 (T0 (P:=prog) (t:=23) (k':= .u64) b 7)] [hc (el a),hc (rY.imm a)] k (ρ:=[(0,0),(1,1),(2,4)]) (kd:=[(2,.row)])
 .obtain rfl:=Bj hs;obtain e:=i _ rfl;cases e;cases f
  .exact yl [0] [hr 5 b1] [hc (el o),hc (rY.imm o)] kk (kd:=[(1,.row)])
  .exact yl [0] [hr 5 b1] [hc (el o),hc (rY.imm o)] kk (ρ:=rI 3) (kd:=[(2,.row)])
theorem WI{P:Br}{t:Bo}{n:Int}(h:c8 n):∀p q:DC,b8 P .xor t p q (uG (It (wU n) 1)) (uG (wU (Tf n 63)))=some (uG (Mk n)):=λp q=>by
 have e1:((It (wU n) 1:Nat):Int)=IntKind.u64.wrap (IntKind.u64.wrap n*2^1):=by have h1:=zk n;rw[<-h1,IntKind.wrap_u64];grind [It]
 have e2:((wU (Tf n 63):Nat):Int)=IntKind.u64.wrap (n.fdiv (2^63)):=by rw[zk];rfl
 rw[e1,e2];exact Ym h
theorem TL{n:Int}(h:c8 n):ba prog gl 298 [iG n] (uG (Mk n)):=by refine Gh func298 ?_;exact Ar [AA 4 (C8 n),hV 5 (Ks (P:=prog) (t:=23) (k':= .u64) (wU n) 1),hV 7 (V9 (P:=prog) (t:=3) (k':= .u64) n 63),AA 8 (C8 (Tf n 63)),hV 9 (WI (P:=prog) (t:=23) h)] []
theorem cA{l r:CM}{n:Int}(hn:c8 n)(hl:l.length<=100000000000000)(a:l++aV n=r):jg prog gl 224 [.ref 0 0,iG n] [(0,oO 1 l),(1,oY l)] 2 (.tup []) [(0,oO 2 r),(2,oY r)] 3:=by refine pP func224 ?_;exact mt .normal (s0 8 gl [] [(0,oO 2 r),(2,oY r)] 3 2) [] [hf 6 (TL gl hn),tN 7 [0,1] 2 [(0,oO 1 l),(1,oY l)] [.ref 0 0,uG (Mk n)] [(0,oO 2 r),(1,none),(2,oY r)] (JW gl (FQ hn) hl a) ⟨⟨rfl,.inl rfl⟩,⟨rfl,.inr ⟨rfl,rY.imm l⟩⟩,trivial⟩ ⟨⟨rfl,.inl rfl⟩,⟨rfl,.inr ⟨rfl,rY.imm r⟩⟩,trivial⟩] [hc (el r),hc (rY.imm r)] (ρ:=rI 3) (kd:=[(2,.row)])
def gD(d i k c:Nat)(gs:Bn){gl:CD}{fid:FuncId}{gs0:Bn}{l r:CM}(h:jg prog gl fid gs0 [(0,oO 1 l),(1,oY l)] [i,k].length (.tup []) [(0,oO 2 r),(2,oY r)] 3)
  (hin:w6 (vi [i,k]) [(i,oO k l),(k,oY l)] [(0,oO 1 l),(1,oY l)] 0 [i,k]:=by exact⟨⟨rfl,.inl rfl⟩,⟨rfl,.inr ⟨rfl,rY.imm _⟩⟩,trivial⟩) (a:oI (GR [i,k] c) [(0,oO 2 r),(2,oY r)] [(0,oO c r),(1,none),(2,oY r)]:=by exact⟨⟨rfl,.inl rfl⟩,⟨rfl,.inr ⟨rfl,rY.imm _⟩⟩,trivial⟩)
  (hlt:[i,k].all (λi=>Nat.blt i c)=true:=by kernel_rfl) (hnd:decide [i,k].Nodup=true:=by kernel_rfl) (hgs:gs.map (qg (vi [i,k]) 20)=gs0:=by kernel_rfl):HP:=
 tN d [i,k] c [(i,oO k l),(k,oY l)] gs [(0,oO c r),(1,none),(2,oY r)] h hin a hlt hnd hgs (by rfl) (by rfl) (by rfl)
theorem aaT(a b c d:List α):a++b++c++d=a++(b++c++d):=by grind
theorem kh{l r:CM}(hi:JV i)(hl:l.length<=10000000000000)(d:l++sN i=r):jg prog gl 228 [.ref 0 0,.agg (aj i)] [(0,oO 1 l),(1,oY l)] 2 (.tup []) [(0,oO 2 r),(2,oY r)] 3:=by
 have h1:=aR hi.a;have h2:=aR hi.b;have e:l++aV i.By++aV i.Seq++nb i.Sum=r:=by rw[aaT];exact d
 refine pP func228 ?_;exact mt .normal (s0 16 gl [] [(0,oO 2 r),(2,oY r)] 3 2) [] [gD 7 0 1 3 [.ref 0 0,iG i.By] (cA gl hi.a aa (r:=l++aV i.By) rfl),gD 11 0 3 4 [.ref 0 0,iG i.Seq] (cA gl hi.b cq (r:=l++aV i.By++aV i.Seq) rfl),gD 15 0 4 5 [.ref 0 0,uG i.Sum] (JW gl hi.c cq e)] [hc (el r),hc (rY.imm r)] (ρ:=[(0,0),(1,1),(2,5)]) (kd:=[(2,.row)])
theorem CR{l r s:CM}(hs:s.length<=1000000)(hl:l.length<=10000000000000)(a:l++tM s=r):jg prog gl 232 [.ref 0 0,sG s] [(0,oO 1 l),(1,oY l)] 2 (.tup []) [(0,oO 2 r),(2,oY r)] 3:=by
 have h1:=aR (dO hs);have e:aT 1 (l++aV (s.length:Int)) s=some r:=by grind [aT,tM]
 refine pP func232 ?_;exact mt .normal (s0 17 gl [] [(0,oO 2 r),(2,oY r)] 3 2) [] [hL 6 s,gD 7 0 1 2 [.ref 0 0,iG (ah s)] (cA gl (dO hs) aa (r:=l++aV (s.length:Int)) rfl),XZ 14 e] [hc (el r),hc (rY.imm r)] (ρ:=[(0,0),(1,1),(2,3)]) (kd:=[(2,.row)])
theorem rS{l:CM}(hl:l.length<=10000000000000):jg prog gl 140 [.ref 0 0] [(0,oO 1 l),(1,oY l)] 2 (.rsl 2 0 l.length) [(0,oO 1 l),(1,oY l),(2,oY l)] 3:=by refine pP func140 ?_;exact mt .ret (s0 8 gl [(2,.rsl 2 0 l.length)] [(0,oO 1 l),(1,oY l),(2,oY l)] 3 2) [.rsl 2 0 l.length] [YL 7 rY (show aT 1 [] l=some l by unfold aT;rw[Bx cq];rfl)] [hc (el l),hc (el l),hc (rY.imm l),hc (rY.imm l)] (ρ:=rI 3) (kd:=[(1,.row),(2,.row)])
end
section
attribute [local irreducible] Tr dz Gp
section
def md{α:Type}(N:Nat)(enc:α->CM)(ok:α->Bool)(L:List α)(s:Bool×CM×Int):Option ((Bool×CM×Int)⊕(Bool×CM)):=
 bif decide (s.2.2<ah L) then(aS L s.2.2).bind λy=>bif ok y&&decide (s.2.1.length<=N) then some (.inl (true,s.2.1++enc y,wI (s.2.2+1))) else none else some (.inr (s.1,s.2.1))
theorem zp(N:Nat){enc:α->CM}{ok:α->Bool}{L:List α}(c:Nat)(b:Bool){l:CM}(hok:∀x∈L,ok x=true)(hc:∀x∈L,(enc x).length<=c)(hn:L.length<=1000000)(hl:l.length+L.length*c<=N):AB (md N enc ok L) (b,l,0)=some (b||decide (0<L.length),l++L.flatMap enc):=by
 have h:T (AB (md N enc ok L) (b,l,0)) λr=>r=(b||decide (0<L.length),l++L.flatMap enc):=by
  refine T.loop (λs=>∃k:Nat,s.2.2=(k:Int)/\k<=L.length/\s.2.1=l++(L.take k).flatMap enc/\s.1=(b||decide (0<k))) (λs=>L.length-s.2.2.toNat) (by grind) (by show L.length-_<_;omega) ?_;rintro⟨a,acc,i⟩ ⟨k,h1,h2,h3,h0⟩;simp only at h1 h2 h3 h0;subst h1;subst h3;subst h0;unfold md;refine .dec (λh=>?_) λh=>?_
  .have hk:k<L.length:=by grind [ah]
   refine .bind (.ix (by dsimp only;omega) (x:=L[k]) (by rw[Fv,DR hk]) ?_);have hm:L[k]∈L:=List.getElem_mem hk;have h4:((L.take k).flatMap enc).length<=(L.take k).length*c:=d8 (by grind);have h5:(L.take k).length*c<=L.length*c:=Nat.mul_le_mul_right c (by rw[N3];omega);rw[hok _ hm,Bool.true_and,C3 (by grind),ax];refine .some ⟨⟨k+1,aq aa,hk,?_,aC⟩,?_⟩;all_goals grind [List.take_succ_eq_append_getElem,aq]
  .have hk:k=L.length:=by grind [ah]
   refine .some ?_;show((b||decide (0<k)),l++(L.take k).flatMap enc)=_;rw[hk,EQ]
 exact h.eq
instance (z:Int):Decidable (c8 z):=by unfold c8;infer_instance
instance (n:Nat):Decidable (fS n):=by unfold fS;infer_instance
def okI(z:Int):Bool:=decide (c8 z)
def okU(n:Nat):Bool:=decide (fS n)
theorem rT{c:Bool}{N:Nat}{x:Option α}{r:α}(h:(bif c&&decide (n<=N) then x else none)=some r):c=true/\n<=N/\x=some r:=by grind
variable {P:Br}
end
abbrev bx:Option Ob:=some ⟨193,[.ref 1 0],none⟩
abbrev bb:Option Ob:=some ⟨284,[.clo (.func 225) [] [.ref 0 0]],none⟩
def oN(k:Nat):Bool->Nat:=λb=>bif b then k else 2
instance (x:Ab):Decidable (JV x):=decidable_of_iff (c8 x.By/\c8 x.Seq/\fS x.Sum) ⟨λ⟨a,b,c⟩=>⟨a,b,c⟩,λ⟨a,b,c⟩=>⟨a,b,c⟩⟩
instance (x:Hb):Decidable (Fs x):=decidable_of_iff (fS x.To/\fS x.Eph/\fS x.Body/\fS x.Tag) ⟨λ⟨a,b,c,d⟩=>⟨a,b,c,d⟩,λ⟨a,b,c,d⟩=>⟨a,b,c,d⟩⟩
instance (x:E1):Decidable (I6 x):=decidable_of_iff (fS x.Pub/\x.Boxes.length<=1000/\∀b∈x.Boxes,Fs b) ⟨λ⟨a,b,c⟩=>⟨a,b,c⟩,λ⟨a,b,c⟩=>⟨a,b,c⟩⟩
instance (x:DS):Decidable (Hl x):=decidable_of_iff (JV x.Of/\x.Body.length<=1000) ⟨λ⟨a,b⟩=>⟨a,b⟩,λ⟨a,b⟩=>⟨a,b⟩⟩
def WJ(L:Be)(s:Bool×CM×Int):St:=match s.1 with
 |true=>(s0 15 gl [(1,.ref 0 0),(5,.rsl 3 0 L.length),(6,iG (ah L)),(7,iG s.2.2)] [(0,bx),(1,oO 4 s.2.1),(4,oY s.2.1),ob 3 3 (L.flatMap cZ)] 5 4)
 |false=>(s0 15 gl [(1,.ref 0 0),(5,.rsl 3 0 L.length),(6,iG (ah L)),(7,iG s.2.2)] [(0,bx),(1,oO 2 s.2.1),(2,oY s.2.1),ob 3 3 (L.flatMap cZ)] 4 4)
theorem CS{l r:CM}{L:Be}(hL:∀x∈L,c8 x)(hn:L.length<=1000000)(h0:0<L.length)(hl:l.length<=900000000000)(b:l++L.flatMap aV=r):jg prog gl 223 [.rsl 3 0 L.length,.ref 0 0] [(0,bx),(1,oO 2 l),(2,oY l),ob 3 3 (L.flatMap cZ)] 4 (.tup []) [(0,bx),(1,oO 4 r),(4,oY r),ob 3 3 (L.flatMap cZ)] 5:=by
 have hs:=zp 1000000000000 (enc:=aV) (ok:=okI) (L:=L) 10 false (l:=l) (λx hx=>C3 (hL x hx)) (λx hx=>aR (hL x hx)) hn aa;rw[b,C3 h0,Bool.false_or] at hs;refine pP func223 ?_;refine pN (WJ gl L) [1,2,2] hs [] [hc (rfl:L.length=L.length),hc (el l),hc (rY.imm l),hc (rZ.imm L)] (λB s w hs k5 c=>?_) (kd:=[(2,.row),(3,.row)]) (ρ:=rI 4);obtain⟨d,acc,i⟩:=s;unfold md at hs;rcases bC hs with⟨b1,hs⟩|⟨b1,hs⟩
 .obtain⟨y,a,hs⟩:=bS hs;obtain⟨e,hacc,hs⟩:=rT hs;obtain rfl:=Bj hs;have hy:c8 y:=DP e;have hacc:acc.length<=1000000000000:=hacc;have k:=k5 _ rfl;cases d
  .exact jw [hr 8 b1,AA 9 (rZ.ixrZ 3 a),AA 10 (rZ.p10Z tZ a),gD 13 1 2 4 [.ref 1 0,iG y] (cA gl hy aa (r:=acc++aV y) rfl)] [hc (rfl:L.length=L.length),hc (el (acc++aV y)),hc (rY.imm (acc++aV y)),hc (rZ.imm L)] k (ρ:=rI 5) (kd:=[(4,.row),(3,.row)])
  .exact jw [hr 8 b1,AA 9 (rZ.ixrZ 3 a),AA 10 (rZ.p10Z tZ a),gD 13 1 4 5 [.ref 1 0,iG y] (cA gl hy aa (r:=acc++aV y) rfl)] [hc (rfl:L.length=L.length),hc (el (acc++aV y)),hc (rY.imm (acc++aV y)),hc (rZ.imm L)] k (ρ:=rI 4++[(4,5)]) (kd:=[(4,.row),(3,.row)])
 .obtain rfl:=Bj hs;cases c _ rfl;exact mt .normal (s0 15 gl [] [(0,bx),(1,oO 4 acc),(4,oY acc),ob 3 3 (L.flatMap cZ)] 5 4) [] [hr 8 b1] [hc (el acc),hc (rY.imm acc),hc (rZ.imm L)] (ρ:=rI 5) (kd:=[(4,.row),(3,.row)])
def WK(x:Hb)(s:Bool×CM×Int):St:=match s.1 with
 |true=>(s0 23 gl [(1,.ref 0 0),(13,.rsl 3 0 4),(14,iG 4),(15,iG s.2.2)] [(0,bx),(1,oO 4 s.2.1),(4,oY s.2.1),ob 3 23 ([x.To,x.Eph,x.Body,x.Tag].flatMap cW)] 5 3)
 |false=>(s0 23 gl [(1,.ref 0 0),(13,.rsl 3 0 4),(14,iG 4),(15,iG s.2.2)] [(0,bx),(1,oO 2 s.2.1),(2,oY s.2.1),ob 3 23 ([x.To,x.Eph,x.Body,x.Tag].flatMap cW)] 4 3)
theorem Ri{l r:CM}{x:Hb}(hx:Fs x)(hl:l.length<=900000000000)(f:l++uT x=r):jg prog gl 225 [.agg (cz x),.ref 0 0] [(0,bx),(1,oO 2 l),(2,oY l)] 3 (.tup []) [(0,bx),(1,oO 3 r),(3,oY r)] 4:=by
 have hU:∀n∈[x.To,x.Eph,x.Body,x.Tag],fS n:=by grind [Fs.a,Fs.b,Fs.c,Fs.d]
 have hs:=zp 1000000000000 (enc:=nb) (ok:=okU) (L:=[x.To,x.Eph,x.Body,x.Tag]) 10 false (l:=l) (λx hx=>C3 (hU x hx)) (λx hx=>gH (hU x hx)) aC cq;rw[show l++[x.To,x.Eph,x.Body,x.Tag].flatMap nb=r from f,C3 (by grind),Bool.false_or] at hs;refine pP func225 ?_;refine pN (WK gl x) [1,1,2,2] hs [] [hc (rfl:(4:Nat)=4),hc (el l),hc (rY.imm l),hc (rW.imm [x.To,x.Eph,x.Body,x.Tag])] (λB s w hs k5 g=>?_) (kd:=[(2,.row),(3,.row)]) (ρ:=rI 3++[(3,4)]);obtain⟨h,acc,i⟩:=s;unfold md at hs;rcases bC hs with⟨b1,hs⟩|⟨b1,hs⟩
 .obtain⟨y,e,hs⟩:=bS hs;obtain⟨j,hacc,hs⟩:=rT hs;obtain rfl:=Bj hs;have hy:fS y:=DP j;have hacc:acc.length<=1000000000000:=hacc;have k:=k5 _ rfl;cases h
  .exact jw [hr 16 b1,AA 17 (rW.ixrZ 3 e),AA 18 (rW.p10Z tW e),gD 21 1 2 4 [.ref 1 0,uG y] (JW gl hy aa (r:=acc++nb y) rfl)] [hc (rfl:(4:Nat)=4),hc (el (acc++nb y)),hc (rY.imm (acc++nb y)),hc (rW.imm [x.To,x.Eph,x.Body,x.Tag])] k (ρ:=rI 5) (kd:=[(4,.row),(3,.row)])
  .exact jw [hr 16 b1,AA 17 (rW.ixrZ 3 e),AA 18 (rW.p10Z tW e),gD 21 1 4 5 [.ref 1 0,uG y] (JW gl hy aa (r:=acc++nb y) rfl)] [hc (rfl:(4:Nat)=4),hc (el (acc++nb y)),hc (rY.imm (acc++nb y)),hc (rW.imm [x.To,x.Eph,x.Body,x.Tag])] k (ρ:=rI 4++[(4,5)]) (kd:=[(4,.row),(3,.row)])
 .obtain rfl:=Bj hs;cases g _ rfl;exact mt .normal (s0 23 gl [] [(0,bx),(1,oO 3 acc),(3,oY acc)] 4 3) [] [hr 16 b1] [hc (el acc),hc (rY.imm acc)] (ρ:=rI 3++[(3,4)]) (kd:=[(3,.row)])
abbrev sW(k:Nat)(l:CM):aQ:=[(0,bx),(1,oO k l),(k,oY l),(3,bb)]
def IN(d k c:Nat)(gs:Bn){gl:CD}{fid:FuncId}{gs0:Bn}{l r:CM}(h:jg prog gl fid gs0 (sW 2 l) [0,1,k,3].length (.tup []) (sW 4 r) 5)
  (hin:w6 (vi [0,1,k,3]) (sW k l) (sW 2 l) 0 [0,1,k,3]:=by exact⟨⟨rfl,.inl rfl⟩,⟨rfl,.inl rfl⟩,⟨rfl,.inr ⟨rfl,rY.imm _⟩⟩,⟨rfl,.inl rfl⟩,trivial⟩) (a:oI (GR [0,1,k,3] c) (sW 4 r) [(0,bx),(1,oO c r),(2,none),(3,bb),(4,oY r)]:=by exact⟨⟨rfl,.inl rfl⟩,⟨rfl,.inl rfl⟩,⟨rfl,.inl rfl⟩,⟨rfl,.inr ⟨rfl,rY.imm _⟩⟩,trivial⟩)
  (hlt:[0,1,k,3].all (λi=>Nat.blt i c)=true:=by kernel_rfl) (hnd:decide [0,1,k,3].Nodup=true:=by kernel_rfl) (hgs:gs.map (qg (vi [0,1,k,3]) 20)=gs0:=by kernel_rfl):HP:=
 tN d [0,1,k,3] c (sW k l) gs [(0,bx),(1,oO c r),(2,none),(3,bb),(4,oY r)] h hin a hlt hnd hgs (by rfl) (by rfl) (by rfl)
def Zc(d k c:Nat)(gs:Bn){gl:CD}{fid:FuncId}{gs0:Bn}{l r:CM}(h:jg prog gl fid gs0 [(0,bx),(1,oO 2 l),(2,oY l)] [0,1,k].length (.tup []) [(0,bx),(1,oO 3 r),(3,oY r)] 4)
  (hin:w6 (vi [0,1,k]) [(0,bx),(1,oO k l),(k,oY l)] [(0,bx),(1,oO 2 l),(2,oY l)] 0 [0,1,k]:=by exact⟨⟨rfl,.inl rfl⟩,⟨rfl,.inl rfl⟩,⟨rfl,.inr ⟨rfl,rY.imm _⟩⟩,trivial⟩) (a:oI (GR [0,1,k] c) [(0,bx),(1,oO 3 r),(3,oY r)] [(0,bx),(1,oO c r),(2,none),(3,oY r)]:=by exact⟨⟨rfl,.inl rfl⟩,⟨rfl,.inl rfl⟩,⟨rfl,.inr ⟨rfl,rY.imm _⟩⟩,trivial⟩)
  (hlt:[0,1,k].all (λi=>Nat.blt i c)=true:=by kernel_rfl) (hnd:decide [0,1,k].Nodup=true:=by kernel_rfl) (hgs:gs.map (qg (vi [0,1,k]) 20)=gs0:=by kernel_rfl):HP:=
 tN d [0,1,k] c [(0,bx),(1,oO k l),(k,oY l)] gs [(0,bx),(1,oO c r),(2,none),(3,oY r)] h hin a hlt hnd hgs (by rfl) (by rfl) (by rfl)
theorem Rj{l r:CM}{L:Bc}(hL:∀x∈L,JV x)(hn:L.length<=1000)(hl:l.length<=900000000000)(a:l++(aV (L.length:Int)++L.flatMap sN)=r):jg prog gl 227 [.ref 1 0,aE aj L,.clo (.func 228) [.ref 1 0] []] (sW 2 l) 4 (.tup []) (sW 4 r) 5:=by
 have h1:=aR (dO (l:=L) aa);have hs:=zp 1000000000000 (enc:=sN) (ok:=λx=>decide (JV x)) (L:=L) 30 true (l:=l++aV (L.length:Int)) (λx hx=>C3 (hL x hx)) (λx hx=>Ll (hL x hx)) aa cq;rw[List.append_assoc,a,Bool.true_or] at hs;refine pP func227 ?_;refine pN (λs:Bool×CM×Int=>(s0 22 gl [(2,.clo (.func 228) [.ref 1 0] []),(12,aE aj L),(13,iG (ah L)),(14,iG s.2.2)] (sW 4 s.2.1) 5 4)) 11122 hs [gD 11 1 2 4 [.ref 1 0,iG (ah L)] (cA gl (dO (l:=L) aa) aa (r:=l++aV (L.length:Int)) rfl)] [hc (el (l++aV (L.length:Int))),hc (rY.imm (l++aV (L.length:Int)))] (λB s w hs k5 c=>?_) (kd:=[(4,.row),(999999,.clo)]) (ρ:=rI 5);obtain⟨e,acc,i⟩:=s;unfold md at hs;rcases bC hs with⟨b1,hs⟩|⟨b1,hs⟩
 .obtain⟨y,b,hs⟩:=bS hs;obtain⟨d,hacc,hs⟩:=rT hs;obtain rfl:=Bj hs;have hy:JV y:=DP d;have hacc:acc.length<=1000000000000:=hacc;exact jw [hr 15 b1,AA 16 (ac.ixZ b),AA 17 (ac.ptZ aW b),gD 20 1 4 6 [.ref 1 0,.agg (aj y)] (kh gl hy aa (r:=acc++sN y) rfl)] [hc (el (acc++sN y)),hc (rY.imm (acc++sN y))] (k5 _ rfl) (ρ:=rI 4++[(4,6)]) (kd:=[(4,.row),(999999,.clo)])
 .obtain rfl:=Bj hs;cases c _ rfl;exact mt .normal (s0 22 gl [] (sW 4 acc) 5 4) [] [hr 15 b1] [hc (el acc),hc (rY.imm acc)] (ρ:=rI 5) (kd:=[(4,.row),(999999,.clo)])
theorem IO_q{l r:CM}{L:List Hb}(hL:∀x∈L,Fs x)(hn:L.length<=1000)(hl:l.length<=800000000000)(a:l++(aV (L.length:Int)++L.flatMap uT)=r):jg prog gl 231 [.ref 1 0,aE cz L,.clo (.func 225) [] [.ref 0 0]] (sW 2 l) 4 (.tup []) (sW 4 r) 5:=by
 have h1:=aR (dO (l:=L) aa);have hs:=zp 900000000000 (enc:=uT) (ok:=λx=>decide (Fs x)) (L:=L) 40 true (l:=l++aV (L.length:Int)) (λx hx=>C3 (hL x hx)) (λx hx=>Ao (hL x hx)) aa cq;rw[List.append_assoc,a,Bool.true_or] at hs;refine pP func231 ?_;refine pN (λs:Bool×CM×Int=>(s0 22 gl [(2,.clo (.func 225) [] [.ref 0 0]),(12,aE cz L),(13,iG (ah L)),(14,iG s.2.2)] (sW 4 s.2.1) 5 4)) 11122 hs [gD 11 1 2 4 [.ref 1 0,iG (ah L)] (cA gl (dO (l:=L) aa) aa (r:=l++aV (L.length:Int)) rfl)] [hc (el (l++aV (L.length:Int))),hc (rY.imm (l++aV (L.length:Int)))] (λB s w hs k5 c=>?_) (kd:=[(4,.row),(999999,.clo)]) (ρ:=rI 5);obtain⟨e,acc,i⟩:=s;unfold md at hs;rcases bC hs with⟨b1,hs⟩|⟨b1,hs⟩
 .obtain⟨y,b,hs⟩:=bS hs;obtain⟨d,hacc,hs⟩:=rT hs;obtain rfl:=Bj hs;have hy:Fs y:=DP d;have hacc:acc.length<=900000000000:=hacc;exact jw [hr 15 b1,AA 16 (EA.ixZ b),AA 17 (EA.ptZ UL b),Zc 20 4 6 [.agg (cz y),.ref 0 0] (Ri gl hy aa (r:=acc++uT y) rfl)] [hc (el (acc++uT y)),hc (rY.imm (acc++uT y))] (k5 _ rfl) (ρ:=rI 4++[(4,6)]) (kd:=[(4,.row),(999999,.clo)])
 .obtain rfl:=Bj hs;cases c _ rfl;exact mt .normal (s0 22 gl [] (sW 4 acc) 5 4) [] [hr 15 b1] [hc (el acc),hc (rY.imm acc)] (ρ:=rI 5) (kd:=[(4,.row),(999999,.clo)])
theorem TM{l r:CM}{L:Bq}(hL:∀x∈L,fS x)(hn:L.length<=1000)(hl:l.length<=900000000000)(a:l++(aV (L.length:Int)++L.flatMap nb)=r):jg prog gl 233 [.ref 1 0,aE cW L,.clo (.func 226) [.ref 1 0] []] (sW 2 l) 4 (.tup []) (sW 4 r) 5:=by
 have h1:=aR (dO (l:=L) aa);have hs:=zp 1000000000000 (enc:=nb) (ok:=λx=>decide (fS x)) (L:=L) 10 true (l:=l++aV (L.length:Int)) (λx hx=>C3 (hL x hx)) (λx hx=>gH (hL x hx)) aa cq;rw[List.append_assoc,a,Bool.true_or] at hs;refine pP func233 ?_;refine pN (λs:Bool×CM×Int=>(s0 22 gl [(2,.clo (.func 226) [.ref 1 0] []),(12,aE cW L),(13,iG (ah L)),(14,iG s.2.2)] (sW 4 s.2.1) 5 4)) 11122 hs [gD 11 1 2 4 [.ref 1 0,iG (ah L)] (cA gl (dO (l:=L) aa) aa (r:=l++aV (L.length:Int)) rfl)] [hc (el (l++aV (L.length:Int))),hc (rY.imm (l++aV (L.length:Int)))] (λB s w hs k5 c=>?_) (kd:=[(4,.row),(999999,.clo)]) (ρ:=rI 5);obtain⟨e,acc,i⟩:=s;unfold md at hs;rcases bC hs with⟨b1,hs⟩|⟨b1,hs⟩
 .obtain⟨y,b,hs⟩:=bS hs;obtain⟨d,hacc,hs⟩:=rT hs;obtain rfl:=Bj hs;have hy:fS y:=DP d;have hacc:acc.length<=1000000000000:=hacc;exact jw [hr 15 b1,AA 16 (rW.ixZ b),AA 17 (rW.p1Z tW b),gD 20 1 4 5 [.ref 1 0,uG y] (JW gl hy aa (r:=acc++nb y) rfl)] [hc (el (acc++nb y)),hc (rY.imm (acc++nb y))] (k5 _ rfl) (ρ:=rI 4++[(4,5)]) (kd:=[(4,.row),(999999,.clo)])
 .obtain rfl:=Bj hs;cases c _ rfl;exact mt .normal (s0 22 gl [] (sW 4 acc) 5 4) [] [hr 15 b1] [hc (el acc),hc (rY.imm acc)] (ρ:=rI 5) (kd:=[(4,.row),(999999,.clo)])
theorem TN{l r:CM}{L:Be}(hL:∀x∈L,c8 x)(hn:L.length<=1000)(hl:l.length<=900000000000)(a:l++(aV (L.length:Int)++L.flatMap aV)=r):jg prog gl 234 [.ref 1 0,aE cZ L,.clo (.func 224) [.ref 1 0] []] (sW 2 l) 4 (.tup []) (sW 4 r) 5:=by
 have h1:=aR (dO (l:=L) aa);have hs:=zp 1000000000000 (enc:=aV) (ok:=λx=>decide (c8 x)) (L:=L) 10 true (l:=l++aV (L.length:Int)) (λx hx=>C3 (hL x hx)) (λx hx=>aR (hL x hx)) aa cq;rw[List.append_assoc,a,Bool.true_or] at hs;refine pP func234 ?_;refine pN (λs:Bool×CM×Int=>(s0 22 gl [(2,.clo (.func 224) [.ref 1 0] []),(12,aE cZ L),(13,iG (ah L)),(14,iG s.2.2)] (sW 4 s.2.1) 5 4)) 11122 hs [gD 11 1 2 4 [.ref 1 0,iG (ah L)] (cA gl (dO (l:=L) aa) aa (r:=l++aV (L.length:Int)) rfl)] [hc (el (l++aV (L.length:Int))),hc (rY.imm (l++aV (L.length:Int)))] (λB s w hs k5 c=>?_) (kd:=[(4,.row),(999999,.clo)]) (ρ:=rI 5);obtain⟨e,acc,i⟩:=s;unfold md at hs;rcases bC hs with⟨b1,hs⟩|⟨b1,hs⟩
 .obtain⟨y,b,hs⟩:=bS hs;obtain⟨d,hacc,hs⟩:=rT hs;obtain rfl:=Bj hs;have hy:c8 y:=DP d;have hacc:acc.length<=1000000000000:=hacc;exact jw [hr 15 b1,AA 16 (rZ.ixZ b),AA 17 (rZ.p1Z tZ b),gD 20 1 4 5 [.ref 1 0,iG y] (cA gl hy aa (r:=acc++aV y) rfl)] [hc (el (acc++aV y)),hc (rY.imm (acc++aV y))] (k5 _ rfl) (ρ:=rI 4++[(4,5)]) (kd:=[(4,.row),(999999,.clo)])
 .obtain rfl:=Bj hs;cases c _ rfl;exact mt .normal (s0 22 gl [] (sW 4 acc) 5 4) [] [hr 15 b1] [hc (el acc),hc (rY.imm acc)] (ρ:=rI 5) (kd:=[(4,.row),(999999,.clo)])
theorem Rl{l r:CM}{x:E1}(hx:I6 x)(hl:l.length<=700000000000)(c:l++ke x=r):jg prog gl 230 [.agg (bY x),.ref 0 0,.ref 3 0] (sW 2 l) 4 (.tup []) (sW 4 r) 5:=by
 have h1:=gH hx.a;have e:l++nb x.Pub++(aV (x.Boxes.length:Int)++x.Boxes.flatMap uT)=r:=by grind [ke,uU]
 refine pP func230 ?_;exact mt .normal (s0 13 gl [] (sW 4 r) 5 4) [] [gD 7 1 2 5 [.ref 1 0,uG x.Pub] (JW gl hx.a aa (r:=l++nb x.Pub) rfl),IN 12 5 6 [.ref 1 0,aE cz x.Boxes,.clo (.func 225) [] [.ref 0 0]] (IO_q gl hx.b hx.n cq e)] [hc (el r),hc (rY.imm r)] (ρ:=rI 4++[(4,6)]) (kd:=[(4,.row),(999999,.clo)])
theorem Rm{l r:CM}{x:DS}(hx:Hl x)(hl:l.length<=9000000000000)(b:l++lX x=r):jg prog gl 236 [.agg (bp x),.ref 0 0] [(0,bx),(1,oO 2 l),(2,oY l)] 3 (.tup []) [(0,bx),(1,oO 3 r),(3,oY r)] 4:=by
 have h1:=Ll hx.a;have e:l++sN x.Of++tM x.Body=r:=by grind [lX]
 refine pP func236 ?_;exact mt .normal (s0 12 gl [] [(0,bx),(1,oO 3 r),(3,oY r)] 4 3) [] [gD 6 1 2 4 [.ref 1 0,.agg (aj x.Of)] (kh gl hx.a aa (r:=l++sN x.Of) rfl),XY 10 x.Body,gD 11 1 4 5 [.ref 1 0,sG x.Body] (CR gl (by have:=hx.n;omega) cq e)] [hc (el r),hc (rY.imm r)] (ρ:=rI 3++[(3,5)]) (kd:=[(3,.row)])
theorem Ro{l r:CM}{L:List E1}(hL:∀x∈L,I6 x)(hn:L.length<=1000)(hl:l.length<=600000000000)(a:l++(aV (L.length:Int)++L.flatMap ke)=r):jg prog gl 229 [.ref 1 0,aE bY L,.clo (.func 230) [] [.ref 0 0,.ref 3 0]] (sW 2 l) 4 (.tup []) (sW 4 r) 5:=by
 have h1:=aR (dO (l:=L) aa);have hs:=zp 700000000000 (enc:=ke) (ok:=λx=>decide (I6 x)) (L:=L) 40020 true (l:=l++aV (L.length:Int)) (λx hx=>C3 (hL x hx)) (λx hx=>Aq (hL x hx)) aa cq;rw[List.append_assoc,a,Bool.true_or] at hs;refine pP func229 ?_;refine pN (λs:Bool×CM×Int=>(s0 22 gl [(2,.clo (.func 230) [] [.ref 0 0,.ref 3 0]),(12,aE bY L),(13,iG (ah L)),(14,iG s.2.2)] (sW 4 s.2.1) 5 4)) 11122 hs [gD 11 1 2 4 [.ref 1 0,iG (ah L)] (cA gl (dO (l:=L) aa) aa (r:=l++aV (L.length:Int)) rfl)] [hc (el (l++aV (L.length:Int))),hc (rY.imm (l++aV (L.length:Int)))] (λB s w hs k5 c=>?_) (kd:=[(4,.row),(999999,.clo)]) (ρ:=rI 5);obtain⟨e,acc,i⟩:=s;unfold md at hs;rcases bC hs with⟨b1,hs⟩|⟨b1,hs⟩
 .obtain⟨y,b,hs⟩:=bS hs;obtain⟨d,hacc,hs⟩:=rT hs;obtain rfl:=Bj hs;have hy:I6 y:=DP d;have hacc:acc.length<=700000000000:=hacc;exact jw [hr 15 b1,AA 16 (bZ.ixZ b),AA 17 (bZ.ptZ Pc b),IN 20 4 6 [.agg (bY y),.ref 0 0,.ref 3 0] (Rl gl hy aa (r:=acc++ke y) rfl)] [hc (el (acc++ke y)),hc (rY.imm (acc++ke y))] (k5 _ rfl) (ρ:=rI 4++[(4,6)]) (kd:=[(4,.row),(999999,.clo)])
 .obtain rfl:=Bj hs;cases c _ rfl;exact mt .normal (s0 22 gl [] (sW 4 acc) 5 4) [] [hr 15 b1] [hc (el acc),hc (rY.imm acc)] (ρ:=rI 5) (kd:=[(4,.row),(999999,.clo)])
theorem Rp{l r:CM}{L:List DS}(hL:∀x∈L,Hl x)(hn:L.length<=1000)(hl:l.length<=900000000000)(a:l++(aV (L.length:Int)++L.flatMap lX)=r):jg prog gl 235 [.ref 1 0,aE bp L,.clo (.func 236) [] [.ref 0 0]] (sW 2 l) 4 (.tup []) (sW 4 r) 5:=by
 have h1:=aR (dO (l:=L) aa);have hs:=zp 1000000000000 (enc:=lX) (ok:=λx=>decide (Hl x)) (L:=L) 1040 true (l:=l++aV (L.length:Int)) (λx hx=>C3 (hL x hx)) (λx hx=>F6 (hL x hx)) aa cq;rw[List.append_assoc,a,Bool.true_or] at hs;refine pP func235 ?_;refine pN (λs:Bool×CM×Int=>(s0 22 gl [(2,.clo (.func 236) [] [.ref 0 0]),(12,aE bp L),(13,iG (ah L)),(14,iG s.2.2)] (sW 4 s.2.1) 5 4)) 11122 hs [gD 11 1 2 4 [.ref 1 0,iG (ah L)] (cA gl (dO (l:=L) aa) aa (r:=l++aV (L.length:Int)) rfl)] [hc (el (l++aV (L.length:Int))),hc (rY.imm (l++aV (L.length:Int)))] (λB s w hs k5 c=>?_) (kd:=[(4,.row),(999999,.clo)]) (ρ:=rI 5);obtain⟨e,acc,i⟩:=s;unfold md at hs;rcases bC hs with⟨b1,hs⟩|⟨b1,hs⟩
 .obtain⟨y,b,hs⟩:=bS hs;obtain⟨d,hacc,hs⟩:=rT hs;obtain rfl:=Bj hs;have hy:Hl y:=DP d;have hacc:acc.length<=1000000000000:=hacc;exact jw [hr 15 b1,AA 16 (bH.ixZ b),AA 17 (bH.ptZ GM b),Zc 20 4 6 [.agg (bp y),.ref 0 0] (Rm gl hy aa (r:=acc++lX y) rfl)] [hc (el (acc++lX y)),hc (rY.imm (acc++lX y))] (k5 _ rfl) (ρ:=rI 4++[(4,6)]) (kd:=[(4,.row),(999999,.clo)])
 .obtain rfl:=Bj hs;cases c _ rfl;exact mt .normal (s0 22 gl [] (sW 4 acc) 5 4) [] [hr 15 b1] [hc (el acc),hc (rY.imm acc)] (ρ:=rI 5) (kd:=[(4,.row),(999999,.clo)])
end
section
attribute [local irreducible] Tr dz Gp
noncomputable abbrev OZ:Code:=bq 111012 (ai Tryz.f220)
abbrev WL(l:Bq):Fr:=[(1,aE cW l),(5,.ref 0 0)]
noncomputable abbrev TO(l:Bq)(st:LoopState):Option Ob:=some ⟨0,[],some (.loop st none 40 (WL l) (Dy OZ) (Dz OZ) (DA OZ))⟩
noncomputable abbrev K5(l:Bq)(s k:Nat)(a b:LoopState):aQ:=[(0,Ku s k),(1,TO l a),(2,Kx 1),(3,Pr b)]
def Z3(d j c s k w:Nat){s':Nat}{gl:CD}(h:kE s k w=some s')
  (hin:w6 (vi [0,j]) [(0,Ku s k),(j,Ci [w])] [(0,Ku s k),(1,Ci [w])] 0 [0,j]:=by exact⟨⟨rfl,.inl rfl⟩,⟨rfl,.inl rfl⟩,trivial⟩) (hlt:[0,j].all (λi=>Nat.blt i c)=true:=by kernel_rfl) (hnd:decide [0,j].Nodup=true:=by kernel_rfl) (hgs:[G.ref 0 0,.rsl j 0 1].map (qg (vi [0,j]) 20)=[.ref 0 0,.rsl 1 0 1]:=by kernel_rfl):HP:=
 hmc d [0,j] c [(0,Ku s k),(j,Ci [w])] [.ref 0 0,.rsl j 0 1] [(0,⟨336,[uG s',uG (k1 k)],none⟩),(1,⟨23,[w].flatMap cW,none⟩)] (Qy gl h) hin ⟨⟨rfl,.inl rfl⟩,⟨rfl,.inl rfl⟩,trivial⟩ hlt hnd hgs (by rfl) (by rfl) (by rfl)
theorem ES{l:Bq}(h:x6 label l=some r):ba prog gl 220 [sG label,aE cW l] (uG r):=by
 unfold x6 at h;obtain⟨t,et,h⟩:=bS h;obtain⟨a,o,h⟩:=bS h;obtain⟨s1,e1,h⟩:=bS h;obtain⟨c,p,h⟩:=bS h;refine Gh func220 ?_;refine pO 111012 (s0 40 gl [(1,aE cW l),(5,.ref 0 0),(15,ny t)] [(0,Ku (wU (ah label)) 0)] 1 0) [hL 10 label,AA 11 (C8 (ah label)),hcB 14 et,hf 15 (Ic gl t)] [hc (aG 20 (ny t) aH)] ?_ [] [(0,0)];refine Xt (fst:=[]) (cap:=[.ptr [aE cY t] 0]) Tryz.f296 func296 ?_;refine YR [1,1,2] (s0 29 gl [(2,.ref 2 0),(8,Kv t)] [(2,Kx 1),(1,some ⟨0,[],some (.loop .ready none 40 [(1,aE cW l),(5,.ref 0 0),(15,ny t)] (Dy OZ) (Dz OZ) (DA OZ))⟩),(0,Ku (wU (ah label)) 0)] 3 2) [hf 8 (Ie gl t)] ?_;refine Xt (fst:=[]) (cap:=[.ptr [aE cY t] 0,.ptr [iG 7] 0]) Tryz.f356 func356 ?_;refine pN (λx:(Nat×Nat)×Int=>(s0 31 gl [(0,.yld 3),(1,.ptr [aE cY t] 0),(2,.ptr [iG 7] 0),(4,iG x.2)] (K5 l x.1.1 x.1.2 .ready .ready) 4 4)) 1122 o [] [] (λB x w hs k5 e=>?_) [] r4;unfold F1 at hs;rcases bC hs with⟨b1,hs⟩|⟨b1,hs⟩
 .obtain⟨q0,e0,hs⟩:=bS hs;obtain⟨y,d,hs⟩:=bS hs;obtain⟨q,u,hs⟩:=bS hs;obtain⟨w,ew,hs⟩:=bS hs;obtain⟨s,es,hs⟩:=bS hs;obtain rfl:=Bj hs;refine pO 112210210 (s0 31 gl [(0,.yld 3),(1,.ptr [aE cY t] 0),(2,.ptr [iG 7] 0),(4,iG x.2),(5,iG (iI 7 (ah q0)))] (K5 l x.1.1 x.1.2 .ready .ready) 4 4) [hr 9 b1,AA 16 (rY.sufZI e0)] [] ?_ [] r4;refine Xw (i:=3) (j:=10) (n:=29) (t:=0) (t2:=0) (pe:=none) (fr:=[(2,.ref 2 0)]) (ps:=Dy Kw) (a:=Dz Kw) (b:=DA Kw) (s1:=(s0 31 gl (Ti t q x.2 (iI 7 (ah q0))) (K5 l x.1.1 x.1.2 .ready .ready) 4 4))
   (s3:=(s0 31 gl ([(30,bG false),(29,bG true)]++Ti t q x.2 (iI 7 (ah q0))) ((3,Pr .ready)::K5 l s (k1 x.1.2) .ready .busy) 4 4))
   (K5 l s (k1 x.1.2) .ready .busy) 4 (.loop .ready none 29 [(2,.ref 2 0)] (Dy Kw) (Dz Kw) (DA Kw)) [hcv 28 (g:=aE cY q) (Yp rY d u)] [] ?_ ?_
  .refine C9 .normal ⟨29,gl,[(2,.ref 2 0),(3,aE cY q)],K5 l x.1.1 x.1.2 .ready .ready,4,4,true⟩ [] [] (Xv Tryz.f296 ?_ rfl) [] r4;refine Ix 12101 ⟨29,gl,[(2,.ref 2 0),(4,uG w)],K5 l x.1.1 x.1.2 .ready .busy,4,4,true⟩ ?_ λkk=>?_
   .refine pO 12110 ⟨29,gl,[(2,.ref 2 0),(4,uG w)],K5 l x.1.1 x.1.2 .ready .busy,4,4,true⟩ [] [] ?_ [] r4;refine Xw (i:=1) (j:=2) (n:=40) (t:=0) (t2:=0) (pe:=none) (fr:=WL l) (ps:=Dy OZ) (a:=Dz OZ) (b:=DA OZ) (s1:=⟨29,gl,[(26,uG w),(25,.yld 1),(2,.ref 2 0),(4,uG w)],K5 l x.1.1 x.1.2 .ready .busy,4,4,true⟩)
     (s3:=⟨29,gl,[(28,bG false),(27,bG true),(26,uG w),(25,.yld 1),(2,.ref 2 0),(4,uG w)],(1,TO l .ready)::K5 l s (k1 x.1.2) .busy .busy,4,4,true⟩)
     (K5 l s (k1 x.1.2) .busy .busy) 4 (.loop .ready none 40 (WL l) (Dy OZ) (Dz OZ) (DA OZ)) [] [] ?_ ?_
    .refine C9 .normal ⟨40,gl,[(5,.ref 0 0),(6,uG w)],K5 l x.1.1 x.1.2 .ready .busy,4,4,true⟩ [] [] (Xv Tryz.f220 ?_ rfl) [] r4;exact C9 .normal ⟨40,gl,[],K5 l s (k1 x.1.2) .busy .busy,4,4,true⟩ [Z3 (gl:=gl) 19 4 5 x.1.1 x.1.2 w es] [] (by grind [jy]) [] r4
    .exact C9 .normal ⟨29,gl,[],K5 l s (k1 x.1.2) .ready .busy,4,4,true⟩ [] [] (by grind [jy]) [] r4
   refine pN (λz:Nat×Int=>⟨29,gl,[(2,.ref 2 0),(4,uG z.1),(10,aE cY q),(11,iG (ah q)),(12,iG z.2)],K5 l x.1.1 x.1.2 .ready .busy,4,4,true⟩) [2,1,0,1,2,2] ew [] [] (λC z v hz k m=>?_) [] r4;unfold oD at hz;rcases bC hz with⟨c1,hz⟩|⟨c1,hz⟩
   .obtain⟨f,e1,hz⟩:=bS hz;obtain⟨n1,e2,hz⟩:=bS hz;obtain rfl:=Bj hz;exact jw [hr 13 c1,AA 15 (rY.ixZ e1),AA 16 (rY.p1Z tY e1),AA 19 (C8 (f.toNat:Int)),hV 22 (sM (P:=prog) (t:=23) (wU (f.toNat:Int)) e2),hV 23 (jc (P:=prog) (t:=23) z.1 (It (wU (f.toNat:Int)) n1))] [] (k _ rfl) [] r4
   .obtain rfl:=Bj hz;obtain rfl:=m _ rfl;exact yl 12101 [hr 13 c1] [] kk [] r4
  .exact jw [] [] (k5 _ rfl) [] r4
 .obtain rfl:=Bj hs;obtain rfl:=e _ rfl;refine C9 .normal (s0 31 gl [] [(0,Ku x.1.1 x.1.2),(1,TO l .ready),(3,Pr .ready)] 4 4) [hr 9 b1] [] (Xu ?_ rfl) [] r4;refine C9 .normal (s0 29 gl [] [(0,Ku x.1.1 x.1.2),(1,TO l .ready)] 2 2) [] [] (Xu ?_ rfl) [] [(0,0),(1,1)];refine pN (λx:(Nat×Nat)×Int=>(s0 40 gl [(5,.ref 0 0),(25,aE cW l),(26,iG (ah l)),(27,iG x.2)] [(0,Ku x.1.1 x.1.2)] 1 0)) 111110122 p [AA 22 (C8 (ah l)),Z3 (gl:=gl) 24 2 3 x.1.1 x.1.2 (wU (ah l)) e1] [] (λB z v hz k5 e=>?_) [] [(0,0)];unfold F3 at hz;rcases bC hz with⟨c1,hz⟩|⟨c1,hz⟩
  .obtain⟨y,d,hz⟩:=bS hz;obtain⟨n,A,hz⟩:=bS hz;obtain⟨s,es,hz⟩:=bS hz;obtain rfl:=Bj hz;exact jw [hr 28 c1,AA 29 (rW.ixZ d),AA 30 (rW.p1Z tW d),hf 32 (dr gl A),Z3 (gl:=gl) 34 1 2 z.1.1 z.1.2 n es] [] (k5 _ rfl) [] [(0,0)]
  .obtain rfl:=Bj hz;obtain rfl:=e _ rfl;exact Ar [hr 28 c1,Z3 (gl:=gl) 37 1 2 z.1.1 z.1.2 0 h] []
def LD(label b:CM):Ft:=(Cj b).bind λw=>(aT 8 w [wU (ah b)]).bind λl=>x6 label l
theorem xd(h:LD label b=some r):ba prog gl 138 [sG label,aE cY b] (uG r):=by unfold LD at h;obtain⟨w,ew,h⟩:=bS h;obtain⟨l,el',h⟩:=bS h;refine Gh func138 ?_;exact Ar [hf 7 (Ic gl b),ho 8 [ny b] [] (Ky gl ew) (by grind [cW]),AA 11 (C8 (ah b)),dg 13 rW el',hq 14 [sG label,aE cW l] [hc (rW.al l)] (ES gl h)] []
end
section
attribute [local irreducible] Tr dz Gp
section
def Xy(o:Bp):CM:=[]++[o.By,o.Seq,o.Kind,o.At].flatMap aV
def Xz(o:Bp):CM:=Xy o++(aV (o.Past.length:Int)++o.Past.flatMap sN)
def XA(o:Bp):CM:=Xz o++[o.Device,o.Old,o.Member,o.Role].flatMap aV
def XB(o:Bp):CM:=XA o++(aV (o.Path.length:Int)++o.Path.flatMap ke)
def XC(o:Bp):CM:=XB o++sN o.Epoch
def XD(o:Bp):CM:=XC o++aV o.N
def XE(o:Bp):CM:=XD o++tM o.Body
def XG(o:Bp):CM:=XE o++(aV (o.Refs.length:Int)++o.Refs.flatMap nb)
def XH(o:Bp):CM:=XG o++sN o.Of
def Ox(o:Bp):CM:=XH o++(aV (o.Guards.length:Int)++o.Guards.flatMap aV)
def Oy(o:Bp):CM:=Ox o++[o.Need,o.Wait].flatMap aV
def Oz(o:Bp):CM:=Oy o++(aV (o.Boxes.length:Int)++o.Boxes.flatMap uT)
def OA(o:Bp):CM:=Oz o++nb o.Pub
def IP(o:Bp):CM:=OA o++(aV (o.Hist.length:Int)++o.Hist.flatMap lX)
theorem AeT(o:Bp):IP o=qc o:=by simp only[Xy,Xz,XA,XB,XC,XD,XE,XG,XH,Ox,Oy,Oz,OA,IP,qc,uU,List.flatMap_cons,List.flatMap_nil,List.append_assoc,MT,M7]
theorem aaU(o:Bp):[]++[o.By,o.Seq,o.Kind,o.At].flatMap aV=Xy o:=rfl
theorem Zd(o:Bp):Xy o++(aV (o.Past.length:Int)++o.Past.flatMap sN)=Xz o:=rfl
theorem Ze(o:Bp):Xz o++[o.Device,o.Old,o.Member,o.Role].flatMap aV=XA o:=rfl
theorem Zf(o:Bp):XA o++(aV (o.Path.length:Int)++o.Path.flatMap ke)=XB o:=rfl
theorem Zg(o:Bp):XB o++sN o.Epoch=XC o:=rfl
theorem Zh(o:Bp):XC o++aV o.N=XD o:=rfl
theorem Zi(o:Bp):XD o++tM o.Body=XE o:=rfl
theorem Zj(o:Bp):XE o++(aV (o.Refs.length:Int)++o.Refs.flatMap nb)=XG o:=rfl
theorem Zk(o:Bp):XG o++sN o.Of=XH o:=rfl
theorem Vd(o:Bp):XH o++(aV (o.Guards.length:Int)++o.Guards.flatMap aV)=Ox o:=rfl
theorem Ve(o:Bp):Ox o++[o.Need,o.Wait].flatMap aV=Oy o:=rfl
theorem Vf(o:Bp):Oy o++(aV (o.Boxes.length:Int)++o.Boxes.flatMap uT)=Oz o:=rfl
theorem Vg(o:Bp):Oz o++nb o.Pub=OA o:=rfl
theorem Vh(o:Bp):OA o++(aV (o.Hist.length:Int)++o.Hist.flatMap lX)=IP o:=rfl
def AeU(d k j c:Nat){gl:CD}{fid:FuncId}{L:Be}{l r:CM}(h:jg prog gl fid [.rsl 3 0 L.length,.ref 0 0] [(0,bx),(1,oO 2 l),(2,oY l),ob 3 3 (L.flatMap cZ)] [0,1,k,j].length (.tup []) [(0,bx),(1,oO 4 r),(4,oY r),ob 3 3 (L.flatMap cZ)] 5)
  (hin:w6 (vi [0,1,k,j]) [(0,bx),(1,oO k l),(k,oY l),(j,some ⟨3,L.flatMap cZ,none⟩)] [(0,bx),(1,oO 2 l),(2,oY l),ob 3 3 (L.flatMap cZ)] 0 [0,1,k,j]:=by exact⟨⟨rfl,.inl rfl⟩,⟨rfl,.inl rfl⟩,⟨rfl,.inr ⟨rfl,rY.imm _⟩⟩,⟨rfl,.inr ⟨rfl,rZ.imm _⟩⟩,trivial⟩) (a:oI (GR [0,1,k,j] c) [(0,bx),(1,oO 4 r),(4,oY r),ob 3 3 (L.flatMap cZ)] [(0,bx),(1,oO c r),(2,none),ob 3 3 (L.flatMap cZ),(4,oY r)]:=by exact⟨⟨rfl,.inl rfl⟩,⟨rfl,.inl rfl⟩,⟨rfl,.inr ⟨rfl,rZ.imm _⟩⟩,⟨rfl,.inr ⟨rfl,rY.imm _⟩⟩,trivial⟩)
  (hlt:[0,1,k,j].all (λi=>Nat.blt i c)=true:=by kernel_rfl) (hnd:decide [0,1,k,j].Nodup=true:=by kernel_rfl) (hgs:[G.rsl j 0 L.length,.ref 0 0].map (qg (vi [0,1,k,j]) 20)=[.rsl 3 0 L.length,.ref 0 0]:=by kernel_rfl):HP:=
 tN d [0,1,k,j] c [(0,bx),(1,oO k l),(k,oY l),(j,some ⟨3,L.flatMap cZ,none⟩)] [.rsl j 0 L.length,.ref 0 0] [(0,bx),(1,oO c r),(2,none),ob 3 3 (L.flatMap cZ),(4,oY r)] h hin a hlt hnd hgs (by rfl) (by rfl) (by rfl)
attribute [local irreducible] Xy Xz XA XB XC XD XE XG XH Ox Oy Oz OA IP
set_option maxHeartbeats 2000000 in
theorem MP(ho:Bf o):jg prog gl 139 [.agg (aJ o)] [] 0 (.ref 0 0) [(0,oO 1 (qc o)),(1,oY (qc o))] 2:=by
 have hI:∀l:Be,(∀z∈l,z∈[o.By,o.Seq,o.Kind,o.At,o.Device,o.Old,o.Member,o.Role,o.N,o.Need,o.Wait])->∀z∈l,c8 z:=by grind [Bf.ints]
 have h14:=yY ho;rw[<-AeT] at h14;have h13:(OA o).length<=50000000:=by grind [Vh]
 have h12:(Oz o).length<=50000000:=by grind [Vg]
 have h11:(Oy o).length<=50000000:=by grind [Vf]
 have h10:(Ox o).length<=50000000:=by grind [Ve]
 have h9:(XH o).length<=50000000:=by grind [Vd]
 have h8:(XG o).length<=50000000:=by grind [Zk]
 have h7:(XE o).length<=50000000:=by grind [Zj]
 have h6:(XD o).length<=50000000:=by grind [Zi]
 have h5:(XC o).length<=50000000:=by grind [Zh]
 have h4:(XB o).length<=50000000:=by grind [Zg]
 have h3:(XA o).length<=50000000:=by grind [Zf]
 have h2:(Xz o).length<=50000000:=by grind [Ze]
 have h1:(Xy o).length<=50000000:=by grind [Zd]
 rw[<-AeT o];refine pP func139 ?_;refine pO 111110 (s0 94 gl [(1,.ptr (aJ o) 0),(3,.ref 0 0),(4,.clo (.func 223) [] [.ref 0 0]),(5,.ref 3 0)] (sW 2 []) 4 0) [] [hc (eB (gs:=aJ o) aH),hc (rY.imm [])] ?_ (kd:=[(2,.row),(999999,.clo)]);exact mt .ret (s0 94 gl [(2,.ref 0 0)] [(0,oO 1 (IP o)),(1,oY (IP o))] 2 0) [.ref 0 0] [AeU 20 2 4 5 (L:=[o.By,o.Seq,o.Kind,o.At]) (CS gl (hI _ aC) aC aC aC (aaU o)),
  IN 26 5 6 [.ref 1 0,aE aj o.Past,.clo (.func 228) [.ref 1 0] []] (Rj gl ho.past ho.nPast aa (Zd o)),
  AeU 37 6 7 8 (L:=[o.Device,o.Old,o.Member,o.Role]) (CS gl (hI _ aC) aC aC aa (Ze o)),
  IN 42 8 9 [.ref 1 0,aE bY o.Path,.clo (.func 230) [] [.ref 0 0,.ref 3 0]] (Ro gl ho.path ho.nPath aa (Zf o)),
  gD 46 1 9 10 [.ref 1 0,.agg (aj o.Epoch)] (kh gl ho.epoch aa (Zg o)),
  gD 50 1 10 11 [.ref 1 0,iG o.N] (cA gl (ho.ints _ aC) aa (Zh o)),
  XY 54 o.Body,gD 55 1 11 12 [.ref 1 0,sG o.Body] (CR gl (by have:=ho.nBody;omega) aa (Zi o)),
  IN 61 12 13 [.ref 1 0,aE cW o.Refs,.clo (.func 226) [.ref 1 0] []] (TM gl ho.refs ho.nRefs aa (Zj o)),
  gD 65 1 13 14 [.ref 1 0,.agg (aj o.Of)] (kh gl ho.of_ aa (Zk o)),
  IN 71 14 15 [.ref 1 0,aE cZ o.Guards,.clo (.func 224) [.ref 1 0] []] (TN gl ho.guards ho.nGuards aa (Vd o)),
  AeU 78 15 16 17 (L:=[o.Need,o.Wait]) (CS gl (hI _ aC) aC aC aa (Ve o)),
  IN 83 17 18 [.ref 1 0,aE cz o.Boxes,.clo (.func 225) [] [.ref 0 0]] (IO_q gl ho.boxes ho.nBoxes aa (Vf o)),
  gD 87 1 18 19 [.ref 1 0,uG o.Pub] (JW gl ho.pub aa (Vg o)),
  IN 92 19 20 [.ref 1 0,aE bp o.Hist,.clo (.func 236) [] [.ref 0 0]] (Rp gl ho.hist ho.nHist aa (Vh o))]
  [hc (el (IP o)),hc (rY.imm (IP o))]
attribute [local irreducible] qc
def Rs(o:Bp):Option Ab:=(LD [111,112] (qc o)).bind λv=>some ⟨o.By,o.Seq,v⟩
theorem TP(ho:Bf o){r:Ab}(h:Rs o=some r):ba prog gl 70 [.agg (aJ o)] (.agg (aj r)):=by
 unfold Rs at h;obtain⟨v,ev,h⟩:=bS h;obtain rfl:=Bj h;have h14:=yY ho;refine Gh func70 ?_;refine pO [1,0] (s0 12 gl [(1,.ptr (aJ o) 0),(2,.ref 0 0)] [ob 0 25 [iG 0,iG 0,uG 0]] 1 0) [] [hc (eB (gs:=aJ o) aH)] ?_ [] [(0,1)];exact Ar [tN 8 [] 1 [] [.agg (aJ o)] [(0,oO 2 (qc o)),(1,oY (qc o))] (MP gl ho) trivial ⟨⟨rfl,.inl rfl⟩,⟨rfl,.inr ⟨rfl,rY.imm _⟩⟩,trivial⟩,
  tN 9 [1,2] 3 [(1,oO 2 (qc o)),(2,oY (qc o))] [.ref 1 0] [(0,oO 2 (qc o)),(1,oY (qc o)),(2,oY (qc o))] (rS gl (l:=qc o) aa) ⟨⟨rfl,.inl rfl⟩,⟨rfl,.inr ⟨rfl,rY.imm _⟩⟩,trivial⟩ ⟨⟨rfl,.inl rfl⟩,⟨rfl,.inr ⟨rfl,rY.imm _⟩⟩,⟨rfl,.inr ⟨rfl,rY.imm _⟩⟩,trivial⟩,
  hq 10 [sG [111,112],aE cY (qc o)] [hc (rY.al (qc o))] (xd gl ev)] []
end
end
theorem K6(a b:Nat):wU ((a:Int)*(b:Int))=a*b%18446744073709551616:=by rw[<-Int.natCast_mul,gP]
theorem me(a b:Nat):wU ((a:Int)+(b:Int))=(a+b)%18446744073709551616:=by rw[<-Int.natCast_add,gP]
theorem Zl{b:Nat}(h:b<=a):wU ((a:Int)-(b:Int))=(a-b)%18446744073709551616:=by rw[<-Int.natCast_sub h,gP]
abbrev PF:Nat:=2305843009213693951
theorem TR(a:Nat):Jo a 61=a/2305843009213693952:=rfl
theorem WM(a:Nat):It a 3=a*8%18446744073709551616:=rfl
theorem TS(h:a<18446744073709551616):bD a 2305843009213693951=a%2305843009213693952:=by unfold bD;rw[MJ h];exact Nat.and_two_pow_sub_one_eq_mod a 61
theorem E5(h:n<18446744073709551616):eR n=some (n%PF):=by
 unfold eR;rw[TS h,TR,me];have e:(n%2305843009213693952+n/2305843009213693952)%18446744073709551616=n%2305843009213693952+n/2305843009213693952:=MJ aa;rw[e];by_cases h1:2305843009213693951<=n%2305843009213693952+n/2305843009213693952
 .rw[C3 aa,ax,Zl h1];grind
 grind
theorem Gx{x y:Nat}(hx:x<18446744073709551616)(hy:y<18446744073709551616):sL x y=some (x*y/18446744073709551616,x*y%18446744073709551616):=by unfold sL;rw[C3 ⟨hx,hy⟩];rfl
theorem Rt(a b:Nat)(hi lo:Nat)(h:hi*18446744073709551616+lo=a%2305843009213693951*(b%2305843009213693951))(hl:lo<18446744073709551616):hi<288230376151711744/\(lo%2305843009213693951+hi*8)%2305843009213693951=a*b%2305843009213693951:=by have h1:a%2305843009213693951*(b%2305843009213693951)<=2305843009213693950*2305843009213693950:=Nat.mul_le_mul aa aa;rw[Nat.mul_mod a b,<-h];omega
theorem Pw{b:Nat}(ha:a<18446744073709551616)(hb:b<18446744073709551616):jZ a b=some (a*b%PF):=by
 unfold jZ;rw[E5 ha,aL,E5 hb,aL];have hA:a%PF<2305843009213693951:=Nat.mod_lt _ B5;have hB:b%PF<2305843009213693951:=Nat.mod_lt _ B5;rw[Gx aa aa,aL];dsimp only;have hlo:a%PF*(b%PF)%18446744073709551616<18446744073709551616:=Nat.mod_lt _ B5;rw[E5 hlo,aL];obtain⟨h1,h2⟩:=Rt a b (a%PF*(b%PF)/18446744073709551616) (a%PF*(b%PF)%18446744073709551616) (Nat.div_add_mod' _ _) hlo;rw[WM,me];generalize a%PF*(b%PF)/18446744073709551616=hi at*;generalize a%PF*(b%PF)%18446744073709551616=lo at*;have e:(lo%PF+hi*8%18446744073709551616)%18446744073709551616=lo%PF+hi*8:=by grind
 grind [E5]
theorem IQ{b:Nat}(ha:a<18446744073709551616)(hb:b<18446744073709551616):wG a b=some ((a+b)%PF):=by unfold wG;have hA:a%PF<2305843009213693951:=Nat.mod_lt _ B5;have hB:b%PF<2305843009213693951:=Nat.mod_lt _ B5;rw[E5 ha,aL,E5 hb,aL,me,E5 (Nat.mod_lt _ B5),aL];congr 1;show(a%2305843009213693951+b%2305843009213693951)%18446744073709551616%2305843009213693951=(a+b)%2305843009213693951;omega
theorem ll{b:Nat}:oQ a b=some (a*b%PF):=rfl
theorem yq{b:Nat}:qi a b=some ((a+b)%PF):=by unfold qi;rw[me];congr 1;show _=(a+b)%2305843009213693951;omega
section
variable {σ1 σ2 ρ1 ρ2:Type}
def Sim(R:σ1->σ2->Prop)(Q:ρ1->ρ2->Prop):σ1⊕ρ1->σ2⊕ρ2->Prop
 | .inl a,.inl b=>R a b
 | .inr a,.inr b=>Q a b
 |_,_=>False
theorem MQ{s1:σ1->Option (σ1⊕ρ1)}{s2:σ2->Option (σ2⊕ρ2)}(R:σ1->σ2->Prop)(Q:ρ1->ρ2->Prop)(h:∀a b,R a b->∀v,s2 b=some v->∃u,s1 a=some u/\Sim R Q u v):∀(n:Nat) (a:σ1) (b:σ2) (r:ρ2),R a b->KN s2 n b=some r->∃q,KN s1 n a=some q/\Q q r
 |0,a,b,r,_,hl=>by cases hl
 |n+1,a,b,r,hR,hl=>by
  unfold KN at hl⊢;cases hb:s2 b with
  |none=>rw[hb] at hl;cases hl
  |some v=>
   rw[hb] at hl;obtain⟨u,hu,hs⟩:=h a b hR v hb;rw[hu];cases u with
   |inl a'=>
    cases v with
    |inl b'=>exact MQ R Q h n a' b' r hs hl
    |inr b'=>exact hs.elim
   |inr a'=>
    cases v with
    |inl b'=>exact hs.elim
    |inr b'=>dsimp only at hl⊢;cases hl;exact⟨a',rfl,hs⟩
theorem Rv{s1:σ1->Option (σ1⊕ρ1)}{s2:σ2->Option (σ2⊕ρ2)}(R:σ1->σ2->Prop)(Q:ρ1->ρ2->Prop)(h:∀a b,R a b->∀v,s2 b=some v->∃u,s1 a=some u/\Sim R Q u v){a:σ1}{b:σ2}{r:ρ2}(hR:R a b)(hl:AB s2 b=some r):∃q,AB s1 a=some q/\Q q r:=MQ R Q h _ a b r hR hl
end
theorem WN(h:n<18446744073709551616):bD n 1=n%2:=by grind [bD]
theorem WO(n:Nat):Jo n 1=n/2:=rfl
theorem CT(n:Nat):n%PF<2305843009213693951:=Nat.mod_lt _ B5
theorem nf(ha:a<18446744073709551616)(hn:n<18446744073709551616)(h:iK a n=some r):j7 a n=some r:=by
 unfold iK at h;obtain⟨x,hx,h⟩:=bS h;cases h;unfold j7;rw[E5 ha,aL];have hst:∀(s t:Nat×Nat×Nat),(λ(s:Nat×Nat×Nat) (t:Nat×Nat×Nat)=>t=(s.2.2,s.1,s.2.1)/\s.1<2305843009213693951/\s.2.1<18446744073709551616/\s.2.2<2305843009213693951) s t->∀v,r6 t=some v->∃u,mW s=some u/\Sim (λ(s:Nat×Nat×Nat) (t:Nat×Nat×Nat)=>t=(s.2.2,s.1,s.2.1)/\s.1<2305843009213693951/\s.2.1<18446744073709551616/\s.2.2<2305843009213693951) (λa b=>a=b) u v:=by
  intro s t hR v hv;obtain⟨b,m,o⟩:=s;obtain⟨rfl,k1,k2,k3⟩:=hR;dsimp only at k1 k2 k3;unfold r6 at hv;unfold mW;dsimp only at hv⊢;rw[WN k2,WO];have hm:∀x y:Nat,x<2305843009213693951->y<2305843009213693951->jZ x y=some (x*y%PF):=by grind [Pw]
  rcases bC hv with⟨c,hv⟩|⟨c,hv⟩
  .rw[c,ax];obtain⟨j,hj,hv⟩:=bS hv;obtain⟨w,hw,hv⟩:=bS hv;cases hv;rw[ll] at hw;cases hw;refine⟨.inl (b*b%PF,m/2,j),?_,?_⟩
   .grind [ll]
   .refine⟨?_,CT _,by show m/2<_;omega,?_⟩
    .show(j,b*b%PF,wU ((m/2:Nat):Int))=(j,b*b%PF,m/2);rw[gP,MJ (a:=m/2) aa]
    grind [ll]
  .rw[c,A9];cases hv;exact⟨_,rfl,rfl⟩
 obtain⟨q,h1,h2⟩:=Rv _ _ hst (a:=(a%PF,n,1)) (by grind) hx;rw[h1,h2]
def DB:Nat->Nat->Bq->Ft
 |s,_,[]=>some s
 |s,k,w::r=>(kE s k w).bind λs'=>DB s' (k+1) r
def Z4(s k w:Nat):Nat:=(37*s%PF+(w+(k+1))%PF)%PF
theorem CU{s k w:Nat}(hs:s<18446744073709551616)(hw:w<9223372036854775808)(hk:k<4611686018427387904):∃r,iK (Z4 s k w) 17=some r/\kE s k w=some r/\r<2305843009213693951:=by
 obtain⟨r,h1,h2⟩:=ka (Z4 s k w) (n:=17) B5;refine⟨r,h1,?_,h2⟩;have hp:Z4 s k w<2305843009213693951:=CT _;unfold kE;rw[Pw B5 hs,aL];have e:wU ((w:Int)+((wU ((k:Int)+((1:Nat):Int)):Nat):Int))=w+(k+1):=by rw[me k 1,me,MJ (show k+1<18446744073709551616 by omega),MJ aa]
 grind [E5,IQ,nf,Z4]
theorem Vi:∀(l:Bq) (s k:Nat),s<18446744073709551616->(∀w∈l,w<9223372036854775808)->k+l.length<4611686018427387904->T (DB s k l) λr=>r<18446744073709551616
 |[],s,k,hs,_,_=>⟨s,rfl,hs⟩
 |w::r,s,k,hs,hw,hk=>by simp only[List.length_cons] at hk;obtain⟨s',h1,h2,h3⟩:=CU (s:=s) (k:=k) (w:=w) hs (hw w aC) aa;unfold DB;exact .eqb h2 (Vi r s' (k+1) aa (by grind) aa)
theorem Au:∀(l m:Bq) (s k:Nat),DB s k (l++m)=(DB s k l).bind λs'=>DB s' (k+l.length) m
 |[],m,s,k=>rfl
 |w::r,m,s,k=>by show(kE s k w).bind (λs'=>DB s' (k+1) (r++m))=((kE s k w).bind λs'=>DB s' (k+1) r).bind _;rw[Option.bind_assoc];congr 1;funext s';rw[Au r m s' (k+1),List.length_cons,Nat.add_assoc,Nat.add_comm 1]
def xi:CM->Nat
 |[]=>0
 |x::r=>x.toNat+256*xi r
theorem Gy:∀l:CM,xi l<256^l.length
 |[]=>B5
 |x::r=>by have:=Gy r;grind [UInt8.toNat_lt,xi]
theorem MR:∀(l m:CM),xi (l++m)=xi l+256^l.length*xi m
 |[],m=>by simp[xi]
 |x::r,m=>by show x.toNat+256*xi (r++m)=x.toNat+256*xi r+256^(r.length+1)*xi m;rw[MR r m,Nat.pow_succ,Nat.mul_add,Nat.mul_comm (256^r.length) 256,Nat.mul_assoc,Nat.add_assoc]
theorem WP{l:CM}(h:l.length<=7):xi l<72057594037927936:=Nat.lt_of_lt_of_le (Gy l) (MI (Nat.pow_le_pow_right B5 h) B5)
def ws(b:CM):Bq:=match b with
 |[]=>[]
 |x::r=>xi ((x::r).take 7)::ws ((x::r).drop 7)
 termination_by b.length
 decreasing_by simp;omega
theorem Gz(h:0<b.length):ws b=xi (b.take 7)::ws (b.drop 7):=by cases b<;>grind [ws]
theorem vc:ws []=[]:=by rw[ws]
theorem CV:∀(n:Nat) (b:CM),b.length<=n->(ws b).length<=b.length
 |0,b,h=>by grind [vc]
 |n+1,b,h=>by
  by_cases hb:0<b.length
  .rw[Gz hb,List.length_cons];have:=CV n (b.drop 7) (by rw[List.length_drop];omega);rw[List.length_drop] at this;omega
  grind [vc]
theorem Rx:∀(n:Nat) (b:CM),b.length<=n->∀w∈ws b,w<9223372036854775808
 |0,b,h,w,hw=>by grind [vc]
 |n+1,b,h,w,hw=>by
  by_cases hb:0<b.length
  .rw[Gz hb] at hw;rcases EO.1 hw with rfl|hw
   .grind [WP]
   .exact Rx n (b.drop 7) (by rw[List.length_drop];omega) w hw
  grind [vc]
theorem WQ{a b k:Nat}(h:a<2^k):a|||b*2^k=a+b*2^k:=by grind [Nat.two_pow_add_eq_or_of_lt,Nat.mul_comm]
theorem Zm(k:Nat):256^k=2^(8*k):=by rw[Nat.pow_mul]
theorem IR{q:CM}(hq:q.length<=7):AB (oD q) (0,0)=some (xi q):=by
 refine T.eq (T.loop (λs=>∃i:Nat,s.2=(i:Int)/\i<=q.length/\s.1=xi (q.take i)) (λs=>q.length-s.2.toNat) (by grind [xi]) (by show q.length-_<_;omega) ?_);rintro⟨w,j⟩ ⟨i,rfl,h2,rfl⟩;unfold oD;dsimp only;refine .dec (λh=>?_) λh=>?_
 .unfold ah at h;have hi:i<q.length:=aa;refine .bind (.ix aa (x:=q[i]) (by rw[Fv,DR hi]) ?_);have e8:wI (8*(i:Int))=((8*i:Nat):Int):=by grind [bM]
  refine .bind (x:=wJ _) ⟨8*i,by grind [wJ],?_⟩;refine .some ⟨⟨i+1,aq aa,hi,?_⟩,?_⟩
  .show gM (xi (q.take i)) (It (wU ((q[i].toNat:Nat):Int)) (8*i))=xi (q.take (i+1));have hx:=q[i].toNat_lt;have hl:=Gy (q.take i);rw[N3,Nat.min_eq_left h2,Zm] at hl;have hp:(2:Nat)^(8*i)<=2^48:=Nat.pow_le_pow_right B5 aa;rw[List.take_succ_eq_append_getElem hi,MR,N3,Nat.min_eq_left h2,Zm];unfold gM It;rw[gP,Nat.min_eq_left (by omega:8*i<=64),MJ (a:=q[i].toNat) aa];have hb:q[i].toNat*2^(8*i)<=255*2^48:=Nat.mul_le_mul aa hp;grind [xi,WQ,Nat.mul_comm]
  grind [aq]
 .unfold ah at h;have hi:i=q.length:=aa;refine .some ?_;show xi (q.take i)=_;rw[hi,EQ]
theorem WR:iI 7 (n:Int)=((min 7 n:Nat):Int):=by unfold iI;omega
theorem yr{i:Nat}(hb:b.length<=1099511627776)(hi:i<b.length):mc b (i:Int)=some (b.drop i)/\tq b (wI ((i:Int)+iI 7 (ah (b.drop i))))=some (b.take (i+min 7 (b.length-i)))/\mc (b.take (i+min 7 (b.length-i))) (i:Int)=some ((b.drop i).take 7)/\wI ((i:Int)+7)=((i+7:Nat):Int):=by
 refine⟨?_,?_,?_,?_⟩
 .grind [mc]
 .grind [ah,WR,bM,tq]
 .unfold mc;grind
 grind [bM]
theorem Ry{i:Nat}(hi:i<b.length):ws (b.drop i)=xi ((b.drop i).take 7)::ws (b.drop (i+7)):=by grind [Gz,List.drop_drop]
theorem Vj:((b.take 7)).length<=7:=by rw[N3];omega
theorem WS(hb:b.length<=1099511627776)(hk:k+b.length<4611686018427387904)(h:DB s k (ws b)=some r):AB (F1 b) ((s,k),0)=some (r,k+(ws b).length):=by
 refine T.eq (T.loop (λx=>∃i:Nat,x.2=(i:Int)/\i<=b.length+6/\x.1.2<=k+i/\DB x.1.1 x.1.2 (ws (b.drop i))=some r/\x.1.2+(ws (b.drop i)).length=k+(ws b).length) (λx=>b.length+7-x.2.toNat) (by grind) (by show b.length+7-_<_;omega) ?_);rintro⟨⟨s1,a⟩,z⟩ ⟨i,rfl,h2,h3,h4,h5⟩;dsimp only at h3 h4 h5;unfold F1;dsimp only;refine .dec (λh=>?_) λh=>?_
 .unfold ah at h;have hi:i<b.length:=aa;obtain⟨c1,c2,c3,c4⟩:=yr hb hi;rw[Ry hi] at h4 h5;refine .eqb c1 (.eqb c2 (.eqb c3 (.eqb (IR Vj) ?_)));unfold DB at h4;obtain⟨s',e1,e2⟩:=bS h4;refine .eqb e1 (.some ⟨⟨i+7,c4,aa,?_,?_,?_⟩,?_⟩)
  .show k1 a<=_;unfold k1;rw[me a 1,MJ aa];omega
  .show DB s' (k1 a) _=_;unfold k1;rw[me a 1,MJ aa];exact e2
  .show k1 a+_=_;unfold k1;rw[me a 1,MJ aa,<-h5,List.length_cons];omega
  grind
 .unfold ah at h;have e:b.drop i=[]:=List.drop_eq_nil_of_le aa;rw[e,vc] at h4 h5;refine .some ?_;show(s1,a)=_;rw[<-h5,<-Bj h4];rfl
theorem OB(hb:b.length<=1099511627776):Cj b=some (ws b):=by
 have hln:=CV _ b (Dx _);refine T.eq (T.loop (λx=>∃i:Nat,x.2=(i:Int)/\i<=b.length+6/\x.1++ws (b.drop i)=ws b) (λx=>b.length+7-x.2.toNat) ⟨0,rfl,aa,rfl⟩ (by show b.length+7-_<_;omega) ?_);rintro⟨acc,z⟩ ⟨i,rfl,h2,h3⟩;dsimp only at h3;unfold xZ;dsimp only;refine .dec (λh=>?_) λh=>?_
 .unfold ah at h;have hi:i<b.length:=aa;obtain⟨c1,c2,c3,c4⟩:=yr hb hi;rw[Ry hi] at h3;have hl:=congrArg List.length h3;rw[Sq,List.length_cons] at hl;refine .eqb c1 (.eqb c2 (.eqb c3 (.eqb (IR Vj) (.bind (.app cq (.some ⟨⟨i+7,c4,aa,?_⟩,?_⟩))))));all_goals grind
 .unfold ah at h;have e:b.drop i=[]:=List.drop_eq_nil_of_le aa;rw[e,vc,MT] at h3;exact .some h3
theorem zq(hb:b.length<=1099511627776):LK b=some (ws b):=by
 have hln:=CV _ b (Dx _);unfold LK;refine T.eq (.bind (T.loop (λx=>∃i:Nat,x.2=(i:Int)/\i<=b.length+6/\x.1++ws (b.drop i)=ws b) (λx=>b.length+7-x.2.toNat) ⟨0,rfl,aa,rfl⟩ (by show b.length+7-_<_;omega) ?_));rintro⟨acc,z⟩ ⟨i,rfl,h2,h3⟩;dsimp only at h3;unfold qh;dsimp only;refine .dec (λh=>?_) λh=>?_
 .unfold ah at h;have hi:i<b.length:=aa;have c4:=(yr hb hi).2.2.2;rw[Ry hi] at h3;have hl:=congrArg List.length h3;rw[Sq,List.length_cons] at hl;generalize hq:(b.drop i).take 7=q at h3;have hq7:q.length=min 7 (b.length-i):=by rw[<-hq,N3,List.length_drop]
  have em:iI (ah b) (((i+7:Nat):Int))=((i+q.length:Nat):Int):=by unfold iI ah;omega
  have inner:AB (my b (acc,(i:Int))) (0,wI (iI (ah b) (wI ((i:Int)+7))-1))=some (xi q):=by
   rw[c4,em,bM aa aa];refine T.eq (T.loop (λx=>∃j:Nat,x.2=((i+j:Nat):Int)-1/\j<=q.length/\x.1=xi (q.drop j)) (λx=>(x.2+1-i).toNat) ⟨q.length,aC,Dx _,by rw[List.drop_length];rfl⟩ (by grind) ?_);rintro⟨w,y⟩ ⟨j,rfl,c,rfl⟩;unfold my;dsimp only;refine .dec (λhh=>?_) λhh=>?_
   .have hj:0<j:=aa;have hjq:j-1<q.length:=aa;have hx:b[i+(j-1)]?=some q[j-1]:=by grind
    refine .bind (.ix aa (x:=q[j-1]) (by rw[<-hx];congr 1;omega) (.some ⟨⟨j-1,?_,aa,?_⟩,?_⟩))
    .grind [bM]
    .show wU (((wU (((xi (q.drop j):Nat):Int)*((256:Nat):Int)):Nat):Int)+((wU ((q[j-1].toNat:Nat):Int):Nat):Int))=xi (q.drop (j-1));rw[List.drop_eq_getElem_cons hjq,show j-1+1=j by omega];show _=q[j-1].toNat+256*xi (q.drop j);have h6:=Gy (q.drop j);rw[List.length_drop] at h6;have h7:(256:Nat)^(q.length-j)<=256^6:=Nat.pow_le_pow_right B5 aa;have hx:=q[j-1].toNat_lt;rw[K6,gP q[j-1].toNat,me,MJ (a:=xi (q.drop j)*256) aa,MJ (a:=q[j-1].toNat) aa,MJ aa];omega
    grind [bM]
   .obtain rfl:j=0:=aa;exact .some rfl
  refine .eqb inner (.bind (.app cq (.some ⟨⟨i+7,c4,aa,?_⟩,?_⟩)));all_goals grind
 .unfold ah at h;have e:b.drop i=[]:=List.drop_eq_nil_of_le aa;rw[e,vc,MT] at h3;exact .some (.some h3)
theorem WT{l:Bq}(hl:l.length<=1099511627776)(hw:∀w∈l,w<18446744073709551616)(hk:k+l.length<4611686018427387904)(h:DB s k (l.map (·%PF))=some r):AB (F3 l) ((s,k),0)=some (r,k+l.length):=by
 refine T.eq (T.loop (λx=>∃i:Nat,x.2=(i:Int)/\i<=l.length/\x.1.2=k+i/\DB x.1.1 x.1.2 ((l.drop i).map (·%PF))=some r) (λx=>l.length-x.2.toNat) (by grind) (by show l.length-_<_;omega) ?_);rintro⟨⟨s1,a⟩,z⟩ ⟨i,rfl,h2,h3,h4⟩;dsimp only at h3 h4;subst h3;unfold F3;dsimp only;refine .dec (λh=>?_) λh=>?_
 .unfold ah at h;have hi:i<l.length:=aa;rw[List.drop_eq_getElem_cons hi,Fe] at h4;unfold DB at h4;obtain⟨s',e1,e2⟩:=bS h4;refine .bind (.ix aa (x:=l[i]) (by rw[Fv,DR hi]) ?_);refine .eqb (E5 (hw _ (List.getElem_mem hi))) (.eqb e1 (.some ⟨⟨i+1,aq aa,hi,?_,?_⟩,?_⟩))
  .show k1 (k+i)=_;unfold k1;rw[me (k+i) 1,MJ aa];omega
  .show DB s' (k1 (k+i)) _=_;unfold k1;rw[me (k+i) 1,MJ aa];exact e2
  grind [aq]
 .unfold ah at h;obtain rfl:i=l.length:=aa;rw[List.drop_length] at h4;refine .some ?_;show(s1,k+l.length)=_;rw[<-Bj h4]
theorem TT(hs:s<18446744073709551616)(hw:w<9223372036854775808)(hk:k<4611686018427387904)(h:kE s k w=some r):((oQ 37 s).bind λa=>(qi w (k+1)).bind λb=>(qi a b).bind λc=>iK c 17)=some r:=by obtain⟨r',h1,h2,_⟩:=CU hs hw hk;rw[h] at h2;cases h2;rw[ll,aL,yq,aL,yq,aL];exact h1
theorem K7{l:Bq}(hl:l.length<=2199023255552)(hw:∀w∈l,w<9223372036854775808)(hs:s<18446744073709551616)(h:DB s 0 l=some r):AB (qj l) (s,0)=some r:=by
 refine T.eq (T.loop (λx=>∃i:Nat,x.2=(i:Int)/\i<=l.length/\x.1<18446744073709551616/\DB x.1 i (l.drop i)=some r) (λx=>l.length-x.2.toNat) ⟨0,rfl,aa,hs,h⟩ (by show l.length-_<_;omega) ?_);rintro⟨s1,z⟩ ⟨i,rfl,h2,h3,h4⟩;dsimp only at h3 h4;unfold qj;dsimp only;refine .dec (λh=>?_) λh=>?_
 .unfold ah at h;have hi:i<l.length:=aa;rw[List.drop_eq_getElem_cons hi] at h4;unfold DB at h4;obtain⟨s',e1,e2⟩:=bS h4;have a:=hw _ (List.getElem_mem hi);obtain⟨r',_,e3,e4⟩:=CU h3 a (show i<4611686018427387904 by omega);rw[e1] at e3;cases e3;have key:=TT h3 a aa e1;have ek:wU (wI ((i:Int)+1))=i+1:=by rw[aq aa,gP];omega
  rw[ek];obtain⟨b,m1,key⟩:=bS key;obtain⟨c,m2,key⟩:=bS key;obtain⟨d,m3,key⟩:=bS key;refine .eqb m1 (.bind (.ix aa (x:=l[i]) (by rw[Fv,DR hi]) (.eqb m2 (.eqb m3 (.eqb key (.some ⟨⟨i+1,aq aa,hi,by show s'<_;omega,e2⟩,?_⟩))))));show l.length-(wI ((i:Int)+1)).toNat<l.length-((i:Int)).toNat;rw[aq aa];omega
 .unfold ah at h;obtain rfl:i=l.length:=aa;rw[List.drop_length] at h4;refine .some ?_;show s1=r;exact Bj h4
theorem K8{l v:Bq}(hv:v.length+l.length<=2199023255552):AB (qk l) (v,0)=some (v++l.map (·%PF)):=by
 refine T.eq (T.loop (λx=>∃i:Nat,x.2=(i:Int)/\i<=l.length/\x.1=v++(l.take i).map (·%PF)) (λx=>l.length-x.2.toNat) (by grind) (by show l.length-_<_;omega) ?_);rintro⟨acc,z⟩ ⟨i,rfl,h2,rfl⟩;unfold qk;dsimp only;refine .dec (λh=>?_) λh=>?_
 .unfold ah at h;have hi:i<l.length:=aa;refine .bind (.ix aa (x:=l[i]) (by rw[Fv,DR hi]) (.bind (.app cq (.some ⟨⟨i+1,aq aa,hi,?_⟩,?_⟩))));all_goals grind [List.take_succ_eq_append_getElem,aq]
 .unfold ah at h;obtain rfl:i=l.length:=aa;rw[EQ];exact .some rfl
theorem ET{label:CM}{l:Bq}(h1:label.length<=1000)(h2:l.length<=1099511627776)(hw:∀w∈l,w<18446744073709551616):T (x6 label l) λr=>yA label l=some r/\r<18446744073709551616:=by
 have hln:=CV _ label (Dx _);have hwl:∀w∈ws label++[l.length]++l.map (·%PF)++[0],w<9223372036854775808:=λw hm=>by
  simp only[I5,List.mem_singleton,Fm] at hm;rcases hm with((hm|rfl)|⟨x,_,rfl⟩)|rfl
  .exact Rx _ label (Dx _) w hm
  all_goals grind
 obtain⟨r,e,hr⟩:=Vi (ws label++[l.length]++l.map (·%PF)++[0]) label.length 0 aa hwl cq;have ew:wU (ah label)=label.length:=by unfold ah;rw[gP];omega
 have el':wU (ah l)=l.length:=by unfold ah;rw[gP];omega
 have eb:Gk label=some label:=by unfold Gk;rw[Bx aa]
 refine⟨r,?_,?_,hr⟩
 .have e:=e;rw[Au,Au,Au] at e;obtain⟨a3,e,b⟩:=bS e;obtain⟨a2,e,f2⟩:=bS e;obtain⟨a1,e,f1⟩:=bS e;unfold x6;rw[eb,aL,ew,el',WS aa aa e,aL];have f1':kE a1 (0+(ws label).length) l.length=some a2:=by unfold DB at f1;obtain⟨q,q1,a⟩:=bS f1;rw[q1];exact a
  dsimp only;rw[f1',aL];have ek:k1 (0+(ws label).length)=0+(ws label++[l.length]).length:=by unfold k1;rw[me _ 1,MJ aa,Sq];simp
  rw[ek,WT h2 hw cq f2,aL];dsimp only;unfold DB at b;obtain⟨q,q1,a⟩:=bS b;rw[show 0+(ws label++[l.length]).length+l.length=0+(ws label++[l.length]++l.map (·%PF)).length by simp;omega,q1];exact a
 .unfold yA;rw[eb,aL,zq aa,aL,el',ew];grind [aT,K8,K7]
theorem xe{label b:CM}(h1:label.length<=1000)(h2:b.length<=1073741824):T (LD label b) λr=>jI label b=some r/\r<18446744073709551616:=by
 have hln:=CV _ b (Dx _);unfold LD jI;rw[OB aa,aL,zq aa,aL];have el':wU (ah b)=b.length:=by unfold ah;rw[gP];omega
 have a1:aT 8 (ws b) [b.length]=some (ws b++[b.length]):=by grind [aT]
 rw[el',a1,aL,aL];refine(ET h1 cq λw hw=>?_).mono (by grind);simp only[I5,List.mem_singleton] at hw;rcases hw with hw|rfl
 .have:=Rx _ b (Dx _) w hw;omega
 .omega
theorem TU(h:Bf o):T (Rs o) λi=>pV o=some i:=by obtain⟨i,e,e1,e2,e3,_⟩:=wN h;obtain⟨v,f1,f2,_⟩:=xe (label:=[111,112]) (b:=qc o) B5 (by have:=yY h;omega);refine⟨i,?_,e⟩;unfold Rs;rw[f1,aL];rw[f2] at e3;cases e3;rw[<-e1,<-e2]
end Go.Proofs.YtghphhhpagagbaaGreatDoor
