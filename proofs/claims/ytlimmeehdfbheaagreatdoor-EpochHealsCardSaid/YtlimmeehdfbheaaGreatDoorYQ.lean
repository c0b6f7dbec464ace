/- Texts. -/
import Derived.Test.YtlimmeehdfbheaaGreatDoorQB
namespace Go.Proofs.YtlimmeehdfbheaaGreatDoor
set_option linter.unusedSectionVars false
set_option linter.unusedVariables false
set_option linter.unusedSimpArgs false
open Go.RowKit Tryz
variable (gl:CC)
variable {K V α:Type}{R:Ad}{a b i j k n:Nat}{m:FM K V}{seen:Bp}{e:K×V×Nat}{id x:Ab}{l:List α}{P:Br}{fn:Func}{t:Bn}{g:AB}{p:O0}{r:List Bool}
section
attribute [local irreducible] Tr dz Gp
def Sd(R:Ad)(o:Bi)(i:Ab):Ad:=
 if o.Kind=1 then Aby R o else if o.Kind=2 then Jk R o.Device o.Role else if o.Kind=3 then(if o.Device=0 then Agi R o else Hg R o.Device)else if o.Kind=5 then Uu R o else if o.Kind=9 then Aao R o i else if o.Kind=11 then XW R o else if o.Kind=12 then UG R o else if o.Kind=13 then XX R o else R
structure TB (o:Bi) (i:Ab):Prop where
 i:i.By=o.By
 g:o.Guards.length<=1000000
 n:o.Kind=9->1<=o.Need/\o.Need<=1000000
 b:1<=o.By/\o.By<=6
theorem PR(hR:Bf R){o:Bi}{i:Ab}(ho:TB o i):Bf (Sd R o i):=by
 unfold Sd;split
 .exact Af8 hR o
 split
 .exact HB hR _ _
 split
 .split
  .exact U0 hR
  .exact K3 hR _
 grind [Adp,Af5,TB.i,TB.g,TB.n,Af3,TB.b,Af2,Af9]
theorem Adw(hR:Bf R){o:Bi}{i:Ab}(ho:TB o i):UF gl R o i (Sd R o i):=by
 unfold Sd;split
 .exact Aed gl hR (by assumption)
 split
 .exact Aka gl hR (by assumption)
 split
 .split
  .grind [AcA]
  grind [Ad9]
 split
 .exact Acr gl hR (by assumption)
 split
 .grind [Af6,TB.i,TB.g,TB.n]
 split
 .exact Af4 gl hR (by assumption) ho.b
 split
 .exact Aeb gl hR (by assumption)
 split
 .exact Acv gl hR (by assumption)
 grind [AhZ]
def Akj(l:LP):FM Int DF:=l.foldl (λm c=>C4 m c.Device c) ⟨[],0⟩
def Ha(l:LP):Ad:=⟨Akj l,⟨[],0⟩,⟨[],0⟩,⟨[],0⟩,0⟩
structure Aeh (l:LP):Prop where
 n:l.length<=1000
 r:∀c∈l,1<=c.Device/\c.Device<=6/\1<=c.Member/\c.Member<=3
theorem AbC{d:Int}{c:DF}:∀{l:LP} {m:FM Int DF},(l.foldl (λm c=>C4 m c.Device c) m).get d=some c->(c∈l/\c.Device=d)\/m.get d=some c
 |[],m,h=> .inr h
 |x::r,m,h=>by
  rcases AbC (l:=r) h with⟨h1,h2⟩|h
  all_goals grind [BA]
theorem K4{l:LP}(h:∀c∈l,1<=c.Device/\c.Device<=6/\1<=c.Member/\c.Member<=3):Bf (Ha l):=by
 have e:∀{K V:Type},Q9 (⟨[],0⟩:FM K V):=by grind [Q9,FxOk]
 have hc:∀d,(DW ((Ha l).cards.get d)).Member=0\/∃c∈l,c.Device=d/\DW ((Ha l).cards.get d)=c:=λd=>by
  cases hg:(Ha l).cards.get d with
  |none=>exact .inl rfl
  |some c=>
   rcases AbC (l:=l) hg with⟨h1,h2⟩|h1
   .exact .inr ⟨c,h1,h2,rfl⟩
   .cases h1
 refine⟨e,e,e,λe he=>(by cases he),λd=>?_,λk x g h1=>(by cases h1),λk x g h1=>(by cases h1),λk x g h1=>(by cases h1),λk x g h1=>(by cases h1),λe he=>(by cases he),λd hd=>?_,λk x g h1=>(by cases h1)⟩;all_goals grind
abbrev ρN:Dx:=[(0,4),(1,0),(2,1),(3,2),(4,3),(5,5),(6,6),(7,7),(8,8),(9,9),(10,10),(11,11),(12,12),(13,13)]
def fN0(k:Nat):Nat:=match k with
 |0=>4
 |1=>0
 |2=>1
 |3=>2
 |4=>3
 |k=>k
theorem AcB{l:LP}(hl:Aeh l):R4 prog gl 25 [aE bv l] [] 0 0 (.ref 0 0) (Bz f0 (Ha l)):=by
 have hQ:∀k,Bf (Ha (l.take k)):=λk=>K4 λc hc=>hl.r c (List.mem_of_mem_take hc);refine dFP func25 ?_;refine dLl (l:=l) (by have:=hl.n;omega) (λk:Nat=>(s0 27 gl [(3,.ref 0 0),(12,aE bv l),(13,iG (ah l)),(14,iG (k:Int))] (Bz f0 (Ha (l.take k))) 14 0)) 1110122 [] (rlB ρN fN0 (hQ 0)) (λB k x hx hz k5=>?_) (λB=>?_) [] ρN N7
 .have hlt:=(cr hx).1;have e:Ha (l.take (k+1))={Ha (l.take k) with cards:=C4 (Ha (l.take k)).cards x.Device x}:=by unfold Ha Akj;rw[Hv,hx,Option.toList_some,LF];rfl
  have hq:=hQ k;have a:=hQ (k+1);rw[e] at k5 a;have hn:=hl.n;have hp:=Agc (P:=prog) (σ:=[(1,some (No tMc JR cdG (Ha (l.take k)).cards))]) (i:=1) (t:=tMc) (t':=tMc) (vg:=cdG) (et:=103) PE Adn aH (k:=x.Device) (gk:=iG x.Device) rfl (m:=(Ha (l.take k)).cards) rfl x;generalize Ha (l.take k)=Q at hq a hp k5⊢;exact jw [hr 15 (Dk hx),AA 16 (bT.ixZ hz),AA 17 (bT.ptZ E2 hz),hmr 15 hp,hbb 25 (Xl (q:=k) aa)] (rlB (GI f0) f0 a) k5 [] (GI f0) N7
 .rw[D5];exact ZT [hr 15 (Fe (s:=l))] (rlB (GI f0) f0 (K4 hl.r)) (GI f0) N7
def Jm(R:Ad)(m:Int):Bool:=decide (M7 R m=3)
def Agj(R:Ad)(o:Bi)(m:Int):Int:=bif DZ R o.Device then(bif Jm R m then 0 else bif Dq R o.Device≠m then 14 else 0)else 17
def Aei(R:Ad)(o:Bi)(m:Int):Int:=bif o.Device≠0 then(bif Pl R o.Device then(bif Jm R m then 0 else bif Dq R o.Device≠m then 14 else 0)else 17)else match R.members.get o.Member with
 |none=>16
 |some _=>bif Jm R m then 0 else bif o.Member≠m then 14 else 0
def Agk(R:Ad)(o:Bi)(m:Int):Int:=bif Jm R m then(match R.members.get o.Member with
 |none=>16
 |some _=>0)else 14
def Agl(R:Ad)(m:Int):Int:=bif M7 R m<2 then 14 else 0
def Agm(R:Ad)(o:Bi)(m:Int):Int:=bif Jm R m then 0 else bif Dq R o.Of.By≠m then 14 else 0
def AbD(R:Ad)(o:Bi)(m:Int):Int:=match R.members.get m with
 |none=>25
 |some x=>match x.guard with
  |none=>25
  |some g=>bif g.id=o.Of then 0 else 25
theorem Te(R:Ad)(m:Int):ba prog gl 392 [.ptr (CB R) 0,iG m] (bG (Jm R m)):=Gh func392 (Ar [hf 7 (UT gl R m)] [])
theorem An3(R:Ad)(d:Int):∀σ,bL prog σ Y3 false (FM.g JR bG R.in_) (iG d)=some (bG (Pl R d)):=SA R.in_ d
theorem Ah8(R:Ad)(o:Bi)(m:Int):ba prog gl 391 [.ptr (CB R) 0,.agg (aJ o),iG m] (iG (Agj R o m)):=by
 have h1:=Abu gl R o.Device;have h2:=Te gl R m;have h3:=Abt gl R o.Device;unfold Agj;refine Gh func391 ?_;cases b1:DZ R o.Device with
 |false=>rw[b1] at h1;exact Ar [hf 11 h1] []
 |true=>
  rw[b1] at h1;cases b2:Jm R m with
  |true=>rw[b2] at h2;exact Ar [hf 11 h1,hf 16 h2] []
  |false=>
   rw[b2] at h2;cases b3:decide (Dq R o.Device≠m) with
   |true=>exact Ar [hf 11 h1,hf 16 h2,hf 22 h3,hr 24 b3] []
   |false=>exact Ar [hf 11 h1,hf 16 h2,hf 22 h3,hr 24 b3] []
theorem Ah9(R:Ad)(o:Bi)(m:Int):ba prog gl 393 [.ptr (CB R) 0,.agg (aJ o),iG m] (iG (Aei R o m)):=by
 have h2:=Te gl R m;have h3:=Abt gl R o.Device;have h4:=An3 R o.Device;have h5:=Ah1 R o.Member;unfold Aei;refine Gh func393 ?_;cases b1:decide (o.Device≠0) with
 |true=>
  cases b4:Pl R o.Device with
  |false=>rw[b4] at h4;exact Ar [hr 12 b1,hm 19 h4] []
  |true=>
   rw[b4] at h4;cases b2:Jm R m with
   |true=>rw[b2] at h2;exact Ar [hr 12 b1,hm 19 h4,hf 24 h3,hf 35 h2] []
   |false=>
    rw[b2] at h2;cases b3:decide (Dq R o.Device≠m) with
    |true=>exact Ar [hr 12 b1,hm 19 h4,hf 24 h3,hf 35 h2,hr 40 b3] []
    |false=>exact Ar [hr 12 b1,hm 19 h4,hf 24 h3,hf 35 h2,hr 40 b3] []
 |false=>
  cases b5:R.members.get o.Member with
  |none=>rw[b5] at h5;exact Ar [hr 12 b1,hm 31 h5] []
  |some x=>
   rw[b5] at h5;cases b2:Jm R m with
   |true=>rw[b2] at h2;exact Ar [hr 12 b1,hm 31 h5,hf 35 h2] []
   |false=>
    rw[b2] at h2;cases b3:decide (o.Member≠m) with
    |true=>exact Ar [hr 12 b1,hm 31 h5,hf 35 h2,hr 40 b3] []
    |false=>exact Ar [hr 12 b1,hm 31 h5,hf 35 h2,hr 40 b3] []
theorem Aia(R:Ad)(o:Bi)(m:Int):ba prog gl 394 [.ptr (CB R) 0,.agg (aJ o),iG m] (iG (Agk R o m)):=by
 have h2:=Te gl R m;have h5:=Ah1 R o.Member;unfold Agk;refine Gh func394 ?_;cases b2:Jm R m with
 |false=>rw[b2] at h2;exact Ar [hf 10 h2] []
 |true=>
  rw[b2] at h2;cases b5:R.members.get o.Member with
  |none=>rw[b5] at h5;exact Ar [hf 10 h2,hm 19 h5] []
  |some x=>rw[b5] at h5;exact Ar [hf 10 h2,hm 19 h5] []
theorem Aib(R:Ad)(o:Bi)(m:Int):ba prog gl 395 [.ptr (CB R) 0,.agg (aJ o),iG m] (iG (Agl R m)):=by
 unfold Agl;refine Gh func395 ?_;cases b:decide (M7 R m<2) with
 |true=>exact Ar [hf 9 (UT gl R m),hr 10 b] []
 |false=>exact Ar [hf 9 (UT gl R m),hr 10 b] []
theorem Aic(R:Ad)(o:Bi)(m:Int):ba prog gl 396 [.ptr (CB R) 0,.agg (aJ o),iG m] (iG (Agm R o m)):=by
 have h2:=Te gl R m;have h3:=Abt gl R o.Of.By;unfold Agm;refine Gh func396 ?_;cases b2:Jm R m with
 |true=>rw[b2] at h2;exact Ar [hf 9 h2] []
 |false=>
  rw[b2] at h2;cases b3:decide (Dq R o.Of.By≠m) with
  |true=>exact Ar [hf 9 h2,hf 16 h3,hr 18 b3] []
  |false=>exact Ar [hf 9 h2,hf 16 h3,hr 18 b3] []
theorem Adx(R:Ad)(o:Bi)(m:Int):ba prog gl 399 [.ptr (CB R) 0,.agg (aJ o),iG m] (iG (AbD R o m)):=by
 have h5:=Ah1 R m;unfold AbD;refine Gh func399 ?_;cases b5:R.members.get m with
 |none=>rw[b5] at h5;exact Ar [hm 13 h5] []
 |some x=>
  rw[b5] at h5;obtain⟨role,gd⟩:=x;cases gd with
  |none=>exact Ar [hm 13 h5] []
  |some g=>
   dsimp only;cases b:decide (g.id=o.Of) with
   |true=>exact Ar [hm 13 h5,hV 33 (dy g.id o.Of (r:=false) (by rw[b];rfl))] []
   |false=>exact Ar [hm 13 h5,hV 33 (dy g.id o.Of (r:=true) (by rw[b];rfl))] []
def eQ{K V:Type}(m:FM K V)(seen:Bp):List (K×V×Nat):=seen.filterMap λn=>m.es.find? λe=>Nat.beq e.2.2 n
theorem Se{K V:Type}:∀{es:List (K×V×Nat)} {e:K×V×Nat},(es.map (·.2.2)).Nodup->e∈es->es.find? (λx=>Nat.beq x.2.2 e.2.2)=some e
 |[],e,_,h=>by cases h
 |x::r,e,hd,h=>by
  rw[Fo,M2] at hd;rcases EY.1 h with rfl|h
  .simp
  .have hb:Nat.beq x.2.2 e.2.2=false:=by grind [bc]
   rw[List.find?_cons,hb];exact Se hd.2 h
theorem Agn(hm:FxOk m)(he:e∈m.es):eQ m (seen++[e.2.2])=eQ m seen++[e]:=by unfold eQ;rw[List.filterMap_append];simp[Se hm.nd he]
theorem Ai5{K V:Type}{m:FM K V}(hm:FxOk m):∀es:List (K×V×Nat),(∀e∈es,e∈m.es)->eQ m (es.map (·.2.2))=es
 |[],_=>rfl
 |e::r,h=>by have ih:=Ai5 hm r (by grind);unfold eQ at ih⊢;rw[Fo,List.filterMap_cons,Se hm.nd (h e aC),ih]
theorem Ady(hm:FxOk m)(h:KsQ m seen)(ha:∀e∈m.es,e.2.2∈seen):(eQ m seen).Perm m.es:=by have hp:seen.Perm (m.es.map (·.2.2)):=(List.perm_ext_iff_of_nodup h.1 hm.nd).2 λn=>⟨h.2 n,(by grind)⟩;have h1:(eQ m seen).Perm (eQ m (m.es.map (·.2.2))):=hp.filterMap _;rwa [Ai5 hm m.es λe h=>h] at h1
theorem Akk(h:e∈eQ m seen):e∈m.es:=by grind [eQ]
theorem Aml:∀{seen:Bp},KsQ m seen->(eQ m seen).Nodup
 |[],_=> .nil
 |n::r,h=>by grind [KsQ,eQ,bc]
abbrev dvE(d:Int)(l:List (CY×Int×Nat)):Bj:=(l.filter λe=>decide (e.1.device=d)).map (·.2.1)
theorem Aau{m:FM CY Int}(hk:(m.es.map (·.1)).Nodup)(hb:∀e∈m.es,1<=e.1.by_/\e.1.by_<=6){l:List (CY×Int×Nat)}(hn:l.Nodup)(hs:∀e∈l,e∈m.es)(d:Int):(dvE d l).length<=6:=by
 unfold dvE;rw[Hm];have key:∀l:List (CY×Int×Nat),l.Nodup->(∀e∈l,e∈m.es/\e.1.device=d)->(l.map (·.1.by_)).Nodup:=by
  intro l;induction l with
  |nil=>intro _ _;exact .nil
  |cons a r ih=>
   intro hn hs;rw[M2] at hn;rw[Fo,M2];refine⟨λhm=>?_,(by grind)⟩;obtain⟨b,hb,e⟩:=E7.1 hm;obtain⟨a1,a2⟩:=hs a aC;obtain⟨b1,b2⟩:=hs b (by simp[hb]);have:a.1=b.1:=by cases h1:a.1;cases h2:b.1;grind
   grind [N3]
 have h2:=le6 (key _ (hn.sublist List.filter_sublist) λe he=>⟨hs e (HE.1 he).1,DP (HE.1 he).2⟩) λx hx=>by obtain⟨e,he,rfl⟩:=E7.1 hx;exact hb e (hs e (HE.1 he).1)
 rwa [Hm] at h2
def AcD(g:CA)(d:Int):Bj:=(inZ (dvE d g.vouches.es)).getD []
def X8(R:Ad)(m d:Int):Int×Int:=match R.members.get m with
 |none=>(0,4)
 |some x=>match x.guard with
  |none=>(0,4)
  |some g=>bif ah (AcD g d)<g.need then(0,26)else bif g.objected&&decide ((AcD g d).getD 0 0<=g.last)then(0,28)else(wI ((AcD g d).getD (g.need.toNat-1) 0+g.wait),0)
abbrev frV(a:Nat){R:Ad}{k:Int}{x:Az}(_:R.members.get k=some x):Fr:=[(a,.ref (3+nM k) 0)]
abbrev miV{R:Ad}{k:Int}{x:Az}(_:R.members.get k=some x):Nat:=6+nM k
abbrev Aid(ρ:Dx){R:Ad}(hR:Bf R){l:List (Nat×Ob)}(hl:∀q∈l,Bv f0 R q.1=some q.2)(h:okR ρ f0=true:=by kernel_rfl):List HP:=L0.map λk=>hc (show XU (I3 ρ) (tg R l k) (tg R l k) from(Y6 hl k).symm▸O6 (κ:=I3 ρ) (f:=f0) (f':=f0) (λk ⟨ob,hk⟩=>Aai h (DT hk)) hR k)
abbrev ρV:Dx:=GI f0++[(14,14),(15,18)]
abbrev kdV:List (Nat×Rk):=N7++[(15,.row)]
abbrev frD{R:Ad}{k:Int}{x:Az}(hx:R.members.get k=some x)(d:Int)(a:Bj):Fr:=frV 9 hx++[(2,iG d),(10,.rsl 15 0 a.length),(36,.ref 14 0)]
abbrev stD{R:Ad}{k:Int}{x:Az}(hx:R.members.get k=some x){l:List (Nat×Ob)}(hl:∀q∈l,Bv f0 R q.1=some q.2)(g:CA)(seen:Bp)(a:Bj):aQ:=stT hl++[(14,Aak tMv (miV hx) g.vouches.clk seen),(15,JI a)]
theorem Akl(hR:Bf R)(m d:Int):R4 prog gl 402 [.ref 0 0,iG m,iG d] (Bz f0 R) 14 14 (.tup [iG (X8 R m d).1,iG (X8 R m d).2]) (Bz f0 R):=by
 have hr2:∀a b:Int,bB (.tup [iG a,iG b]):=λa b=>L7 λg hg=>by simp only[EY,Lv,or_false] at hg;rcases hg with rfl|rfl<;>exact mN _
 refine dFP func402 ?_;unfold X8;cases hx:R.members.get m with
 |none=>have hr:=hr2 0 4;exact Ht f0 _ hR [Lu 18 (Ww hx)] (HU R hr)
 |some x=>
  have hlk:=R9 hx;obtain⟨j,hj,o⟩:∃j:Nat,m=(j:Int)/\(j=1\/j=2\/j=3):=by grind [AhW]
  subst hj;obtain⟨role,gd⟩:=x;cases gd with
  |none=>
   have hl:=hl1 o hx;have hr:=hr2 0 4;rcases o with rfl|rfl|rfl
   all_goals
    refine pO 11100 (s0 88 gl (frP 8 hx++[(2,iG d)]) (stT hl) 14 14) [Lu 18 hlk] (rlT (GI f0) f0 hR hl) ?_ (ρ:=GI f0) (kd:=N7)
    exact Ht f0 _ hR [] (Wz hl hr)
  |some g=>
   have hl:=hl3 o hx;have hv:=hR.cv _ _ g hx rfl;obtain⟨u,v⟩:=hR.gN _ _ g hx rfl;have hb:=hR.vb _ _ g hx rfl;have h6:=Aau hv.kd hb (List.Pairwise.of_map (λx=>x.1) (λa b h e=>h (by rw[e])) hv.kd) (λe he=>he) d;obtain⟨srt,e1,p,s1⟩:=Abz (l:=dvE d g.vouches.es) aa;have hsr:∀q:Bj,q.Perm (dvE d g.vouches.es)->inZ q=some srt:=λq hk=>Ads s1 (hk.trans p.symm) (by rw[p.length_eq];omega);have hda:AcD g d=srt:=by unfold AcD;rw[e1];rfl
   dsimp only;rw[hda];have hadd:∀seen (e:CY×Int×Nat),e∈g.vouches.es->dvE d (eQ g.vouches (seen++[e.2.2]))=dvE d (eQ g.vouches seen)++(if e.1.device=d then[e.2.1] else[]):=λseen e he=>by grind [Agn,Q9.toFxOk]
   rcases o with rfl|rfl|rfl
   all_goals
    refine pO 11100 (s0 88 gl (frP 8 hx++[(2,iG d)]) (stT hl) 14 14) [Lu 18 hlk] (rlT (GI f0) f0 hR hl) ?_ (ρ:=GI f0) (kd:=N7)
    refine pO 11111100 (s0 88 gl (frV 9 hx++[(2,iG d),(10,Iy)]) (stT hl) 14 14) [] (Aid (GI f0) hR hl) ?_ (ρ:=GI f0) (kd:=N7)
    refine yl (Bs':=[]) [1,1,1,1,1,0,0] (J:=(s0 88 gl (frD hx d []) (stD hx hl g [] []) 16 14)) [] (Aid ρD hR hl++[hc (rZ.imm [])]) ?_ (vs:=[3]) (kd:=kdV)
    refine dNx 11111101 ?_
    refine dMw 36 37 38 0 (iti:=14) (mi:=miV hx) (clock:=g.vouches.clk) (since:=g.vouches.clk) (T:=tMv) (ty:=tMv) (es:=mEs B5 iG g.vouches) (λseen=>(s0 88 gl (frD hx d (dvE d (eQ g.vouches seen))) (stD hx hl g seen (dvE d (eQ g.vouches seen))) 16 14)) (KsQ g.vouches) Aar (λe he=>by obtain⟨x,hx,rfl⟩:=E7.1 he;exact hv.1.lt x hx) rfl (Le.refl _) (λseen=>aH) (λseen=>aH) (λseen=>⟨show 37<88 by decide,show 38<88 by decide⟩) (λB seen k w n hI hme hns c=>?_) (λseen hI hs=>?_)
    .obtain⟨e,he,s⟩:=E7.1 hme
     simp only[Gb] at s
     obtain⟨rfl,rfl,rfl⟩:=s
     have hla:=Aau hv.kd hb (Aml hI) (λe he=>Akk he) d
     have c:=c (Aas hI he hns)
     rw[hadd seen e he] at c
     generalize dvE d (eQ g.vouches seen)=a at hla c⊢
     have hge:jr ((14,Aak tMv (miV hx) g.vouches.clk (seen++[e.2.2]))::stD hx hl g seen a) (.ref 14 0)=some (.tup [db (B5 e.1),iG e.2.1]):=yo (iti:=14) (mi:=miV hx) (since:=g.vouches.clk) (clock:=g.vouches.clk) (T:=tMv) (ty:=tMv) (seen:=seen) aH aH (by rw[IX];exact hv.1.nd) hme
     cases hdv:decide (e.1.device=d) with
     |false=>
      rw[BB (Np hdv),LK] at c
      exact jw [YT 39 hge,hr 45 hdv] (hc (rfl:a.length=a.length)::Aid ρD hR hl++[hc (rZ.imm a)]) c [] ρD kdV
     |true=>
      rw[Bx (DP hdv)] at c
      exact jw [YT 39 hge,hr 45 hdv,Tn 49 rZ 8 a e.2.1 aa] (hc (el (a++[e.2.1]))::Aid ρV hR hl++[hc (rZ.imm (a++[e.2.1]))]) c [] ρV kdV
    .have hp:=Ady hv.1 hI λe he=>hs (B5 e.1,iG e.2.1,e.2.2) (E7.2 ⟨e,he,rfl⟩)
     have hpa:(dvE d (eQ g.vouches seen)).Perm (dvE d g.vouches.es):=(hp.filter _).map _
     generalize dvE d (eQ g.vouches seen)=a at hpa⊢
     have hi:=hsr a hpa
     have hsl:srt.length=a.length:=by rw[p.length_eq,hpa.length_eq]
     have hal:a.length<=6:=by rw[hpa.length_eq];exact h6
     have hlz:decide ((a.length:Int)<g.need)=decide (ah srt<g.need):=by unfold ah;rw[hsl]
     cases c1:decide (ah srt<g.need) with
     |true=>
      have hr:=hr2 0 26
      exact Ht f0 _ hR [tN 51 [15] 16 [(15,JI a)] [.rsl 15 0 a.length] [(0,JI srt)] (N4 gl aa hi) ⟨⟨rfl,.inr ⟨rfl,rZ.imm a⟩⟩,trivial⟩ ⟨⟨rfl,.inr ⟨rfl,rZ.imm srt⟩⟩,trivial⟩,Go.Proofs.YtlimmeehdfbheaaGreatDoor.hr 59 (hlz.trans c1)] (Wz hl hr)
     |false=>
      have hge:g.need<=ah srt:=by have:=Np c1;omega
      have hz0:aS srt 0=some (srt.getD 0 0):=by grind [au]
      have h71:fh prog 22 (.rsl 15 0 a.length) 0=some (.ref 15 (0+(0:Int).toNat*1)):=by rw[<-hsl];exact rZ.ixrZ 15 hz0
      have f:=rZ.p10Z tZ hz0
      have hw1:wI (g.need-1)=((g.need.toNat-1:Nat):Int):=by grind [bM]
      have hz1:aS srt (wI (g.need-1))=some (srt.getD (g.need.toNat-1) 0):=by grind [au]
      have h81:fh prog 22 (.rsl 15 0 a.length) (wI (g.need-1))=some (.ref 15 (0+(wI (g.need-1)).toNat*1)):=by rw[<-hsl];exact rZ.ixrZ 15 hz1
      have i:=rZ.p10Z tZ hz1
      obtain⟨y,gg,gn,t,z,go,r⟩:=g
      dsimp only at*
      cases go with
      |false=>
       have hr:=hr2 (wI (srt.getD (gn.toNat-1) 0+t)) 0
       exact Ht f0 _ hR [tN 51 [15] 16 [(15,JI a)] [.rsl 15 0 a.length] [(0,JI srt)] (N4 gl aa hi) ⟨⟨rfl,.inr ⟨rfl,rZ.imm a⟩⟩,trivial⟩ ⟨⟨rfl,.inr ⟨rfl,rZ.imm srt⟩⟩,trivial⟩,Go.Proofs.YtlimmeehdfbheaaGreatDoor.hr 59 (hlz.trans c1),AA 81 h81,AA 82 i] (Wz hl hr)
      |true=>
       cases c2:decide (srt.getD 0 0<=r) with
       |true=>
        have hr:=hr2 0 28
        exact Ht f0 _ hR [tN 51 [15] 16 [(15,JI a)] [.rsl 15 0 a.length] [(0,JI srt)] (N4 gl aa hi) ⟨⟨rfl,.inr ⟨rfl,rZ.imm a⟩⟩,trivial⟩ ⟨⟨rfl,.inr ⟨rfl,rZ.imm srt⟩⟩,trivial⟩,Go.Proofs.YtlimmeehdfbheaaGreatDoor.hr 59 (hlz.trans c1),AA 71 h71,AA 72 f,Go.Proofs.YtlimmeehdfbheaaGreatDoor.hr 73 c2] (Wz hl hr)
       |false=>
        have hr:=hr2 (wI (srt.getD (gn.toNat-1) 0+t)) 0
        exact Ht f0 _ hR [tN 51 [15] 16 [(15,JI a)] [.rsl 15 0 a.length] [(0,JI srt)] (N4 gl aa hi) ⟨⟨rfl,.inr ⟨rfl,rZ.imm a⟩⟩,trivial⟩ ⟨⟨rfl,.inr ⟨rfl,rZ.imm srt⟩⟩,trivial⟩,Go.Proofs.YtlimmeehdfbheaaGreatDoor.hr 59 (hlz.trans c1),AA 71 h71,AA 72 f,Go.Proofs.YtlimmeehdfbheaaGreatDoor.hr 73 c2,AA 81 h81,AA 82 i] (Wz hl hr)
def Ago(R:Ad)(o:Bi):Int:=bif o.Guards.any λd=> !Pl R d then 17 else 0
def Aej(R:Ad)(o:Bi):Int:=bif (Dd R o).2≠0 then(Dd R o).2 else bif Dq R o.Device≠(Dd R o).1 then 16 else bif DZ R o.Device then 0 else 17
def Akm(R:Ad)(o:Bi)(w:Int):Bool:=bif Pl R o.Old then(bif Dq R o.Old≠w then true else bif DZ R o.Device then decide (Dq R o.Device≠w)else true)else true
def Aek(R:Ad)(o:Bi):Int:=bif (Dd R o).2≠0 then(Dd R o).2 else bif Akm R o (Dd R o).1 then 17 else bif (X8 R (Dd R o).1 o.Device).2=0 then(bif o.At<(X8 R (Dd R o).1 o.Device).1 then 27 else 0)else(X8 R (Dd R o).1 o.Device).2
theorem Aie(R:Ad){o:Bi}(hg:o.Guards.length<=1000000)(m:Int):ba prog gl 397 [.ptr (CB R) 0,.agg (aJ o),iG m] (iG (Ago R o)):=XT gl (by grind [VG,Adq,Ou,Pl,Ago])
theorem Aif(hR:Bf R)(o:Bi)(m:Int):R4 prog gl 400 [.ref 0 0,.agg (aJ o),iG m] (Bz f0 R) 14 14 (iG (Aej R o)) (Bz f0 R):=by
 refine dFP func400 ?_;have hg:=Ue gl hR o;unfold Aej;generalize Dd R o=we at hg⊢;obtain⟨w,e⟩:=we;dsimp only at hg⊢;have hre:bB (iG e):=mN _;have hr16:bB (iG 16):=mN _;have hr17:bB (iG 17):=mN _;have hr0:bB (iG 0):=mN _;cases c1:decide (e≠0) with
 |true=>exact Ht f0 _ hR [hrr 12 f0 15 [.agg (aJ o)] hR hg,hr 17 c1] (HU R hre)
 |false=>
  cases c2:decide (Dq R o.Device≠w) with
  |true=>exact Ht f0 _ hR [hrr 12 f0 15 [.agg (aJ o)] hR hg,hr 17 c1,hof gl 23 hR o.Device 15,hr 25 c2] (HU R hr16)
  |false=>
   cases c3:DZ R o.Device with
   |true=>exact Ht f0 _ hR [hrr 12 f0 15 [.agg (aJ o)] hR hg,hr 17 c1,hof gl 23 hR o.Device 15,hr 25 c2,hfr gl 30 hR c3 15] (HU R hr0)
   |false=>exact Ht f0 _ hR [hrr 12 f0 15 [.agg (aJ o)] hR hg,hr 17 c1,hof gl 23 hR o.Device 15,hr 25 c2,hfr gl 30 hR c3 15] (HU R hr17)
theorem Aig(hR:Bf R)(o:Bi)(m:Int):R4 prog gl 401 [.ref 0 0,.agg (aJ o),iG m] (Bz f0 R) 14 14 (iG (Aek R o)) (Bz f0 R):=by
 refine dFP func401 ?_;have hg:=Ue gl hR o;have hin:=AhY R o.Old;unfold Aek;generalize Dd R o=we at hg⊢;obtain⟨w,e⟩:=we;dsimp only at hg⊢;have hre:bB (iG e):=mN _;have hr17:bB (iG 17):=mN _;have hr27:bB (iG 27):=mN _;have hr0:bB (iG 0):=mN _;cases c1:decide (e≠0) with
 |true=>exact Ht f0 _ hR [hrr 13 f0 15 [.agg (aJ o)] hR hg,hr 18 c1] (HU R hre)
 |false=>
  unfold Akm;cases c2:Pl R o.Old with
  |false=>rw[c2] at hin;exact Ht f0 _ hR [hrr 13 f0 15 [.agg (aJ o)] hR hg,hr 18 c1,Lu 27 hin] (HU R hr17)
  |true=>
   rw[c2] at hin;cases c3:decide (Dq R o.Old≠w) with
   |true=>exact Ht f0 _ hR [hrr 13 f0 15 [.agg (aJ o)] hR hg,hr 18 c1,Lu 27 hin,hof gl 33 hR o.Old 15,hr 35 c3] (HU R hr17)
   |false=>
    cases c4:DZ R o.Device with
    |false=>exact Ht f0 _ hR [hrr 13 f0 15 [.agg (aJ o)] hR hg,hr 18 c1,Lu 27 hin,hof gl 33 hR o.Old 15,hr 35 c3,hfr gl 40 hR c4 15] (HU R hr17)
    |true=>
     cases c5:decide (Dq R o.Device≠w) with
     |true=>exact Ht f0 _ hR [hrr 13 f0 15 [.agg (aJ o)] hR hg,hr 18 c1,Lu 27 hin,hof gl 33 hR o.Old 15,hr 35 c3,hfr gl 40 hR c4 15,hof gl 46 hR o.Device 15,hr 48 c5] (HU R hr17)
     |false=>
      have hd:=Akl gl hR w o.Device;generalize X8 R w o.Device=de at hd⊢;obtain⟨a,e2⟩:=de;dsimp only[A9,ax] at hd⊢;have hre2:bB (iG e2):=mN _;cases c6:decide (e2=0) with
      |false=>exact Ht f0 _ hR [hrr 13 f0 15 [.agg (aJ o)] hR hg,hr 18 c1,Lu 27 hin,hof gl 33 hR o.Old 15,hr 35 c3,hfr gl 40 hR c4 15,hof gl 46 hR o.Device 15,hr 48 c5,hrr 55 f0 15 [iG w,iG o.Device] hR hd,hr 59 c6] (HU R hre2)
      |true=>
       cases c7:decide (o.At<a) with
       |true=>exact Ht f0 _ hR [hrr 13 f0 15 [.agg (aJ o)] hR hg,hr 18 c1,Lu 27 hin,hof gl 33 hR o.Old 15,hr 35 c3,hfr gl 40 hR c4 15,hof gl 46 hR o.Device 15,hr 48 c5,hrr 55 f0 15 [iG w,iG o.Device] hR hd,hr 59 c6,hr 64 c7] (HU R hr27)
       |false=>have:e2=0:=DP c6;subst this;exact Ht f0 _ hR [hrr 13 f0 15 [.agg (aJ o)] hR hg,hr 18 c1,Lu 27 hin,hof gl 33 hR o.Old 15,hr 35 c3,hfr gl 40 hR c4 15,hof gl 46 hR o.Device 15,hr 48 c5,hrr 55 f0 15 [iG w,iG o.Device] hR hd,hr 59 c6,hr 64 c7] (HU R hr0)
def AcE(R:Ad)(o:Bi)(m:Int):Int:=if o.Kind=2 then Agj R o m else if o.Kind=3 then Aei R o m else if o.Kind=5 then Agk R o m else if o.Kind=6 then Agl R m else if o.Kind=8 then Agm R o m else if o.Kind=9 then Ago R o else if o.Kind=10 then AbD R o m else if o.Kind=11 then Aej R o else if o.Kind=12 then AbD R o m else if o.Kind=13 then Aek R o else 0
def Re(R:Ad)(o:Bi):Int:=if o.Kind=1 then(bif Dq R o.By=0 then 17 else bif 0<(R.was.es.length:Int)then 5 else 0)else bif Pl R o.By then AcE R o (Dq R o.By)else 15
abbrev tAs:Bn:=269
theorem An6{z:Int}(hz:z=(k:Int))(hk:k<14):fh prog tAs (.ptr IU 0) z=some (.ptr IU k):=by
 subst hz;rcases(by omega:k=0\/k=1\/k=2\/k=3\/k=4\/k=5\/k=6\/k=7\/k=8\/k=9\/k=10\/k=11\/k=12\/k=13) with rfl|rfl|rfl|rfl|rfl|rfl|rfl|rfl|rfl|rfl|rfl|rfl|rfl|rfl
 all_goals kernel_rfl
abbrev Amm(R:Ad)(o:Bi)(i:Ab)(r:Int):Prop:=R4 prog fI 128 [.ref 0 0,.agg (aJ o),.agg (aj i)] (Bz f0 R) 14 14 (iG r) (Bz f0 R)
theorem An7{o:Bi}{m:Int}:∀x∈[G.agg (aJ o),iG m],bB x:=λx hx=>by
 simp only[EY,Lv,or_false] at hx;rcases hx with rfl|rfl
 .exact aG 20 _ aH
 .exact mN _
abbrev hla(d:Nat){R:Ad}(hR:Bf R){f:FuncId}{o:Bi}{m r:Int}(h:ba prog fI f [.ptr (CB R) 0,.agg (aJ o),iG m] (iG r))(hc:aK prog f=true:=by kernel_rfl):HP:=hrl d f0 16 hR h An7 (lR _) (hc:=hc)
theorem Agp(hR:Bf R){o:Bi}{i:Ab}(hg:o.Guards.length<=1000000):Amm R o i (Re R o):=by
 refine dFP func128 ?_;have hi0:∀r:Int,bB (iG r):=λr=>mN _;have hin:=AhY R o.By;unfold Re;split
 .rename_i hk;have a1:decide (o.Kind=1)=true:=CM hk;have hle:decide (0<((mEs JR bG R.was).length:Int))=decide (0<(R.was.es.length:Int)):=by rw[Hm]
  have c:=hi0 17;have h5:=hi0 5;have h0:=hi0 0;cases c1:decide (Dq R o.By=0) with
  |true=>exact Ht f0 _ hR [hr 9 a1,hof fI 14 hR o.By 16,hr 15 c1] (HU R c)
  |false=>
   cases c2:decide (0<(R.was.es.length:Int)) with
   |true=>exact Ht f0 _ hR [hr 9 a1,hof fI 14 hR o.By 16,hr 15 c1,hr 22 (hle.trans c2)] (HU R h5)
   |false=>exact Ht f0 _ hR [hr 9 a1,hof fI 14 hR o.By 16,hr 15 c1,hr 22 (hle.trans c2)] (HU R h0)
 .rename_i hk1;have a1:decide (o.Kind=1)=false:=C3 hk1;cases hb:Pl R o.By with
  |false=>rw[hb] at hin;have d:=hi0 15;exact Ht f0 _ hR [hr 9 a1,Lu 29 hin] (HU R d)
  |true=>
   rw[hb] at hin;rw[ax];have h0:=hi0 0;by_cases hlo:o.Kind<0
   .have:AcE R o (Dq R o.By)=0:=by unfold AcE;repeat rw[BB aa]
    rw[this];exact Ht f0 _ hR [hr 9 a1,Lu 29 hin,hr 33 (CM hlo)] (HU R h0)
   by_cases hhi:14<=o.Kind
   .have:AcE R o (Dq R o.By)=0:=by unfold AcE;repeat rw[BB aa]
    rw[this];exact Ht f0 _ hR [hr 9 a1,Lu 29 hin,hr 33 (C3 hlo),hr 37 (show decide (14<=o.Kind)=true from CM hhi)] (HU R h0)
   have a33:decide (o.Kind<0)=false:=C3 hlo;have a37:decide (14<=o.Kind)=false:=C3 hhi;unfold AcE;obtain⟨k,hk,b⟩:∃k:Nat,o.Kind=(k:Int)/\k<14:=⟨o.Kind.toNat,aa,aa⟩;have a:=An6 hk b;rcases(by omega:k=0\/k=1\/k=2\/k=3\/k=4\/k=5\/k=6\/k=7\/k=8\/k=9\/k=10\/k=11\/k=12\/k=13) with rfl|rfl|rfl|rfl|rfl|rfl|rfl|rfl|rfl|rfl|rfl|rfl|rfl|rfl
   .repeat rw[BB aa]
    exact Ht f0 _ hR [hr 9 a1,Lu 29 hin,hr 33 a33,hr 37 a37,AA 42 a] (HU R h0)
   .exact absurd hk hk1
   .rw[Bx aa];have hr0:=hi0 (Agj R o (Dq R o.By));exact Ht f0 _ hR [hr 9 a1,Lu 29 hin,hr 33 a33,hr 37 a37,AA 42 a,AA 48 a,hof fI 55 hR o.By 16,hla 56 hR (Ah8 fI R o (Dq R o.By))] (HU R hr0)
   .repeat rw[BB aa]
    rw[Bx aa];have hr0:=hi0 (Aei R o (Dq R o.By));exact Ht f0 _ hR [hr 9 a1,Lu 29 hin,hr 33 a33,hr 37 a37,AA 42 a,AA 48 a,hof fI 55 hR o.By 16,hla 56 hR (Ah9 fI R o (Dq R o.By))] (HU R hr0)
   .repeat rw[BB aa]
    exact Ht f0 _ hR [hr 9 a1,Lu 29 hin,hr 33 a33,hr 37 a37,AA 42 a] (HU R h0)
   .repeat rw[BB aa]
    rw[Bx aa];have hr0:=hi0 (Agk R o (Dq R o.By));exact Ht f0 _ hR [hr 9 a1,Lu 29 hin,hr 33 a33,hr 37 a37,AA 42 a,AA 48 a,hof fI 55 hR o.By 16,hla 56 hR (Aia fI R o (Dq R o.By))] (HU R hr0)
   .repeat rw[BB aa]
    rw[Bx aa];have hr0:=hi0 (Agl R (Dq R o.By));exact Ht f0 _ hR [hr 9 a1,Lu 29 hin,hr 33 a33,hr 37 a37,AA 42 a,AA 48 a,hof fI 55 hR o.By 16,hla 56 hR (Aib fI R o (Dq R o.By))] (HU R hr0)
   .repeat rw[BB aa]
    exact Ht f0 _ hR [hr 9 a1,Lu 29 hin,hr 33 a33,hr 37 a37,AA 42 a] (HU R h0)
   .repeat rw[BB aa]
    rw[Bx aa];have hr0:=hi0 (Agm R o (Dq R o.By));exact Ht f0 _ hR [hr 9 a1,Lu 29 hin,hr 33 a33,hr 37 a37,AA 42 a,AA 48 a,hof fI 55 hR o.By 16,hla 56 hR (Aic fI R o (Dq R o.By))] (HU R hr0)
   .repeat rw[BB aa]
    rw[Bx aa];have hr0:=hi0 (Ago R o);exact Ht f0 _ hR [hr 9 a1,Lu 29 hin,hr 33 a33,hr 37 a37,AA 42 a,AA 48 a,hof fI 55 hR o.By 16,hla 56 hR (Aie fI R hg (Dq R o.By))] (HU R hr0)
   .repeat rw[BB aa]
    rw[Bx aa];have hr0:=hi0 (AbD R o (Dq R o.By));exact Ht f0 _ hR [hr 9 a1,Lu 29 hin,hr 33 a33,hr 37 a37,AA 42 a,AA 48 a,hof fI 55 hR o.By 16,hla 56 hR (Adx fI R o (Dq R o.By))] (HU R hr0)
   .repeat rw[BB aa]
    rw[Bx aa];have hr0:=hi0 (Aej R o);exact Ht f0 _ hR [hr 9 a1,Lu 29 hin,hr 33 a33,hr 37 a37,AA 42 a,AA 48 a,hof fI 55 hR o.By 16,hrr 56 f0 16 [.agg (aJ o),iG (Dq R o.By)] hR (Aif fI hR o (Dq R o.By))] (HU R hr0)
   .repeat rw[BB aa]
    rw[Bx aa];have hr0:=hi0 (AbD R o (Dq R o.By));exact Ht f0 _ hR [hr 9 a1,Lu 29 hin,hr 33 a33,hr 37 a37,AA 42 a,AA 48 a,hof fI 55 hR o.By 16,hla 56 hR (Adx fI R o (Dq R o.By))] (HU R hr0)
   .repeat rw[BB aa]
    rw[Bx aa];have hr0:=hi0 (Aek R o);exact Ht f0 _ hR [hr 9 a1,Lu 29 hin,hr 33 a33,hr 37 a37,AA 42 a,AA 48 a,hof fI 55 hR o.By 16,hrr 56 f0 16 [.agg (aJ o),iG (Dq R o.By)] hR (Aig fI hR o (Dq R o.By))] (HU R hr0)
structure Gi where
 op:Ab->Option Bi
 bef:Ab->Ab->Bool
 lev:Ab->Int
 cards:LP
 card:Int->Option DF
def Gi.o(I:Gi)(x:Ab):Bi:=(I.op x).getD ip
def WF:DF:=⟨0,0,0,0,0⟩
structure Sf (gl:CC) (gg:Aj) (I:Gi):Prop where
 op:∀x,ba prog gl 28 [.ptr (Ag gg) 0,.agg (aj x)] (.tup [.agg (aJ (I.o x)),bG (I.op x).isSome])
 bef:∀x y,ba prog gl 118 [.ptr (Ag gg) 0,.agg (aj x),.agg (aj y)] (bG (I.bef x y))
 lev:∀x,ba prog gl 213 [.ptr (Ag gg) 0,.agg (aj x)] (iG (I.lev x))
 cards:ba prog gl 26 [.ptr (Ag gg) 0] (aE bv I.cards)
 card:∀d,ba prog gl 43 [.ptr (Ag gg) 0,iG d] (.tup [.agg (bv ((I.card d).getD WF)),bG (I.card d).isSome])
def Zb(I:Gi)(x:Bi)(d:Int):Bool:=bif x.Kind=13 then decide (d=x.Old)else bif x.Device≠0 then decide (d=x.Device)else bif(I.card d).isSome then decide (((I.card d).getD WF).Member=x.Member)else false
def Aih(I:Gi)(a b:Bi):Bool:=bif a.Kind=3 then Zb I a b.By else bif a.Kind=13 then(bif decide (b.Kind=12)&&decide (a.Of=b.Of)then false else Zb I a b.By)else bif a.Kind=12 then(decide (b.Kind=13)&&decide (b.Of=a.Of)&&decide (a.At<=b.At))else false
def Hb(I:Gi)(x y:Ab):Bool:=(I.op x).isSome&&(I.op y).isSome&& !decide (x=y)&& !I.bef y x&& !I.bef x y&&Aih I (I.o x) (I.o y)
section
variable {gl:CC} {gg:Aj} {I:Gi} (h:Sf gl gg I)
include h
theorem Agq(x:Bi)(d:Int):ba prog gl 235 [.ptr (Ag gg) 0,.agg (aJ x),iG d] (bG (Zb I x d)):=by
 have hc:=h.card d;unfold Zb;refine Gh func235 ?_;cases b1:decide (x.Kind=13) with
 |true=>exact Ar [hr 11 b1] []
 |false=>
  cases b2:decide (x.Device≠0) with
  |true=>exact Ar [hr 11 b1,hr 18 b2] []
  |false=>
   cases b3:(I.card d).isSome with
   |false=>rw[b3] at hc;exact Ar [hr 11 b1,hr 18 b2,hf 26 hc] []
   |true=>rw[b3] at hc;exact Ar [hr 11 b1,hr 18 b2,hf 26 hc] []
theorem Zu(x y:Ab):ba prog gl 153 [.ptr (Ag gg) 0,.agg (aj x),.agg (aj y)] (bG (Hb I x y)):=by
 have h1:=h.op x;have h2:=h.op y;have h3:=h.bef y x;have h4:=h.bef x y;have hg:=Agq h (I.o x) (I.o y).By;unfold Hb;generalize I.o x=a at h1 hg⊢;generalize I.o y=b at h2 hg⊢;refine Gh func153 ?_;cases c1:(I.op x).isSome with
 |false=>rw[c1] at h1;exact Ar [hf 15 h1,hf 21 h2] []
 |true=>
  rw[c1] at h1;cases c2:(I.op y).isSome with
  |false=>rw[c2] at h2;exact Ar [hf 15 h1,hf 21 h2] []
  |true=>
   rw[c2] at h2;cases c3:decide (x=y) with
   |true=>exact Ar [hf 15 h1,hf 21 h2,hV 33 (dU x y c3)] []
   |false=>
    cases c4:I.bef y x with
    |true=>rw[c4] at h3;exact Ar [hf 15 h1,hf 21 h2,hV 33 (dU x y c3),hf 39 h3] []
    |false=>
     rw[c4] at h3;cases c5:I.bef x y with
     |true=>rw[c5] at h4;exact Ar [hf 15 h1,hf 21 h2,hV 33 (dU x y c3),hf 39 h3,hf 45 h4] []
     |false=>
      rw[c5] at h4;unfold Aih;cases k3:decide (a.Kind=3) with
      |true=>
       have k13:decide (a.Kind=13)=false:=by rw[DP k3];rfl
       exact Ar [hf 15 h1,hf 21 h2,hV 33 (dU x y c3),hf 39 h3,hf 45 h4,hr 50 k3,hr 54 k13,hf 74 hg] []
      |false=>
       cases k13:decide (a.Kind=13) with
       |true=>
        cases j12:decide (b.Kind=12) with
        |false=>exact Ar [hf 15 h1,hf 21 h2,hV 33 (dU x y c3),hf 39 h3,hf 45 h4,hr 50 k3,hr 51 k13,hr 54 k13,hr 58 j12,hf 74 hg] []
        |true=>
         cases jo:decide (a.Of=b.Of) with
         |true=>exact Ar [hf 15 h1,hf 21 h2,hV 33 (dU x y c3),hf 39 h3,hf 45 h4,hr 50 k3,hr 51 k13,hr 54 k13,hr 58 j12,hV 65 (dU a.Of b.Of jo)] []
         |false=>exact Ar [hf 15 h1,hf 21 h2,hV 33 (dU x y c3),hf 39 h3,hf 45 h4,hr 50 k3,hr 51 k13,hr 54 k13,hr 58 j12,hV 65 (dU a.Of b.Of jo),hf 74 hg] []
       |false=>
        cases k12:decide (a.Kind=12) with
        |false=>exact Ar [hf 15 h1,hf 21 h2,hV 33 (dU x y c3),hf 39 h3,hf 45 h4,hr 50 k3,hr 51 k13,hr 77 k12] []
        |true=>
         cases j13:decide (b.Kind=13) with
         |false=>exact Ar [hf 15 h1,hf 21 h2,hV 33 (dU x y c3),hf 39 h3,hf 45 h4,hr 50 k3,hr 51 k13,hr 77 k12,hr 80 j13] []
         |true=>
          cases jo:decide (b.Of=a.Of) with
          |false=>exact Ar [hf 15 h1,hf 21 h2,hV 33 (dU x y c3),hf 39 h3,hf 45 h4,hr 50 k3,hr 51 k13,hr 77 k12,hr 80 j13,hV 86 (dU b.Of a.Of jo)] []
          |true=>exact Ar [hf 15 h1,hf 21 h2,hV 33 (dU x y c3),hf 39 h3,hf 45 h4,hr 50 k3,hr 51 k13,hr 77 k12,hr 80 j13,hV 86 (dU b.Of a.Of jo)] []
end
def JN(c k:Nat):Nat:=c+k
theorem Aii(hR:Bf R)(c:Nat):aad (kO [] [] 0 14 c) (Bz f0 R) (Bz (JN c) R):=λi o h0=>by
 rw[G9] at h0;obtain⟨k,hk,e,h⟩:=KX h0;subst e;have hκ:∀k,(∃ob,Bv f0 R k=some ob)->kO [] [] 0 14 c (f0 k)=some (JN c k):=λk ⟨ob,h⟩=>by have:=DT h;show(bif Nat.blt k 0 then _ else bif Nat.blt k (0+14)then some (c+(k-0))else none)=_;rw[show Nat.blt k 0=false from by cases hb:Nat.blt k 0 with|false=>rfl|true=>simp_all,show Nat.blt k (0+14)=true from Ng aa];rfl
 obtain⟨a,h1,h2⟩:=O6 hκ hR k o h;grind [KY]
theorem Ags{κ:Nat->FF}:InP κ [] [] []:=λk o0 h=>by cases h
def hrn(d c:Nat)(args:Bo){P:Br}{gl:CC}{fid:FuncId}{args0:Bo}{R:Ad}(hR:Bf R)(hM:R4 P gl fid args0 [] 0 0 (.ref 0 0) (Bz f0 R))(hc:aK P fid=true:=by kernel_rfl)(hgs:args.map (qg (vi []) 20)=args0:=by kernel_rfl):HP:=
 hfm d [] 0 14 c [] args (Bz (JN c) R) hM Ags (Aii hR c) hc rfl rfl hgs
def Sg(I:Gi)(id:Ab)(R:Ad)(x:Ab):Ad:=bif I.bef x id then Sd R (I.o x) x else R
def Tk(I:Gi)(l:AH)(id:Ab):Ad:=l.foldl (Sg I id) (Ha I.cards)
structure Ael (gl:CC) (l:Be) (I:Gi):Prop where
 g:Sf gl l.g I
 c:Aeh I.cards
 o:∀x∈l.row,TB (I.o x) x
 n:l.row.length<=1000
theorem Aij{I:Gi}(hR:Bf R)(hx:TB (I.o x) x):Bf (Sg I id R x):=by grind [Sg,PR]
theorem Adz{I:Gi}{id:Ab}:∀{l:AH} {R:Ad},Bf R->(∀x∈l,TB (I.o x) x)->Bf (l.foldl (Sg I id) R)
 |[],R,h,_=>h
 |x::r,R,h,hx=>Adz (l:=r) (Aij h (hx x aC)) (by grind)
theorem AcF{I:Gi}(hc:Aeh I.cards){l:AH}(h:∀x∈l,TB (I.o x) x)(id:Ab):Bf (Tk I l id):=Adz (K4 hc.r) h
section
variable {gl:CC}
end
abbrev Bt(l:AH):Option Ob:=some ⟨42,l.flatMap aj,none⟩
def Amn(ρ:Dx)(f f':Nat->Nat):Bool:=L0.all λk=>match I3 ρ (f k) with|some j=>Nat.beq j (f' k)|none=>false
theorem Aik{ρ:Dx}{f f':Nat->Nat}(h:Amn ρ f f'=true)(hk:k<14):I3 ρ (f k)=some (f' k):=by have:=GE.1 h k (by have:k∈List.range 14:=List.mem_range.2 hk;exact this);grind [bc]
abbrev rlC(ρ:Dx)(f f':Nat->Nat){R:Ad}(hR:Bf R)(h:Amn ρ f f'=true:=by kernel_rfl):List HP:=L0.map λk=>hc (O6 (κ:=I3 ρ) (f:=f) (f':=f') (λk ⟨ob,hk⟩=>Aik h (DT hk)) hR k)
abbrev kd1:List (Nat×Rk):=(0,.row)::L0.map λk=>(k+1,.any)
abbrev stO(l:AH)(c:Nat)(R:Ad):aQ:=(0,Bt l)::Bz (JN c) R
abbrev ρe0:Dx:=[(0,0),(1,2),(2,3),(3,4),(4,5),(5,6),(6,7),(7,8),(8,9),(9,10),(10,11),(11,12),(12,13),(13,14),(14,15),(15,1)]
abbrev ρe1:Dx:=[(0,0),(1,1),(2,2),(3,3),(4,4),(5,5),(6,6),(7,7),(8,8),(9,9),(10,10),(11,11),(12,12),(13,13),(14,14),(15,15)]
abbrev ρe2:Dx:=[(0,0),(1,1),(2,2),(3,3),(4,4),(5,5),(6,18),(7,19),(8,20),(9,21),(10,22),(11,23),(12,24),(13,25),(14,26),(15,15)]
abbrev ρe3:Dx:=[(0,0),(1,1),(2,2),(3,3),(4,4),(5,5),(6,6),(7,7),(8,8),(9,9),(10,10),(11,11),(12,12),(13,13),(14,14)]
section
variable {gl:CC}
theorem Ail{gg:Aj}{I:Gi}(h:Sf gl gg I)(hc:Aeh I.cards){al:Be}(hal:al.g=gg){l:AH}(hl:∀x∈l,TB (I.o x) x)(hn:l.length<=1000)(id:Ab):R4 prog gl 155 [.ptr (BG al) 0,.rsl 0 0 l.length,.agg (aj id)] [(0,Bt l)] 1 1 (.ref 1 0) (stO l 1 (Tk I l id)):=by
 subst hal;have hQ:∀k,Bf (Tk I (l.take k) id):=λk=>AcF hc (λx hx=>hl x (List.mem_of_mem_take hx)) id;refine dFP func155 ?_;refine dLl (l:=l) aa (λk:Nat=>(s0 46 gl [(0,.ptr (BG al) 0),(5,.ref 15 0),(7,.ref 1 0),(18,.rsl 0 0 l.length),(19,iG (ah l)),(20,iG (k:Int))] (stO l 1 (Tk I (l.take k) id)++[(15,Xi id)]) 16 1)) 1110122 [hf 16 h.cards,hrn 17 2 [aE bv I.cards] (K4 hc.r) (AcB gl hc)] (Go.Proofs.YtlimmeehdfbheaaGreatDoor.hc (el l)::Go.Proofs.YtlimmeehdfbheaaGreatDoor.hc (ac.imm l)::rlC ρe0 (JN 2) (JN 1) (hQ 0)) (λB k x hx hz k5=>?_) (λB=>?_) [] ρe0 kd1
 .have hlt:=(cr hx).1;have hq:=hQ k;have a:=hl x (bO hx);have hb:=h.bef x id;unfold Tk at k5 hq⊢;rw[Hv,hx,Option.toList_some,LF,List.foldl_cons,List.foldl_nil] at k5;generalize (l.take k).foldl (Sg I id) (Ha I.cards)=Q at hq k5⊢;unfold Sg at k5;cases c1:I.bef x id with
  |false=>rw[c1] at hb k5;exact jw [hr 21 (Dk hx),AA 22 (ac.ixrZ 0 hz),AA 23 (ac.pt0Z aW hz),hf 30 hb,hbb 44 (Xl (q:=k) aa)] (Go.Proofs.YtlimmeehdfbheaaGreatDoor.hc (el l)::Go.Proofs.YtlimmeehdfbheaaGreatDoor.hc (ac.imm l)::rlC ρe1 (JN 1) (JN 1) hq) k5 [] ρe1 kd1
  |true=>rw[c1] at hb k5;have b:=PR hq a;exact jw [hr 21 (Dk hx),AA 22 (ac.ixrZ 0 hz),AA 23 (ac.pt0Z aW hz),hf 30 hb,hf 37 (h.op x),Y4 43 (JN 1) 18 [.agg (aJ (I.o x)),.agg (aj x)] hq b (Adw gl hq a),hbb 44 (Xl (q:=k) aa)] (Go.Proofs.YtlimmeehdfbheaaGreatDoor.hc (el l)::Go.Proofs.YtlimmeehdfbheaaGreatDoor.hc (ac.imm l)::rlC ρe2 (fW (JN 1) 18) (JN 1) b) k5 [] ρe2 kd1
 .rw[D5];exact ZT [hr 21 (Fe (s:=l))] (Go.Proofs.YtlimmeehdfbheaaGreatDoor.hc (ac.imm l)::rlC ρe3 (JN 1) (JN 1) (AcF hc hl id)) ρe3 kd1
def Hh(I:Gi)(vd:FM Ab Bool)(out:AH)(x:Ab):AH:=bif A7 (vd.get x)then out else bif Re (Tk I out x) (I.o x)=0 then out++[x]else out
def Jt(I:Gi)(al:Be):AH:=al.row.foldl (Hh I al.void) []
theorem Aem{I:Gi}{vd:FM Ab Bool}{out:AH}{y:Ab}(h:y∈Hh I vd out x):y∈out\/y=x:=by grind [Hh]
theorem Aen{I:Gi}{vd:FM Ab Bool}{out:AH}:(Hh I vd out x).length<=out.length+1:=by grind [Hh]
theorem WG{I:Gi}{vd:FM Ab Bool}:∀{l out:AH},(∀y∈l.foldl (Hh I vd) out,y∈out\/y∈l)/\(l.foldl (Hh I vd) out).length<=out.length+l.length
 |[],out=>(by grind)
 |x::r,out=>by obtain⟨h1,h2⟩:=WG (I:=I) (vd:=vd) (l:=r) (out:=Hh I vd out x);grind [Aem,Aen]
end
theorem Agt{κ:Nat->FF}(l:AH):InP κ [0] [(0,Bt l)] [(0,Bt l)]:=λk o0 h=>by
 rw[A3] at h;split at h
 .rename_i e;subst e;exact⟨0,o0,rfl,by rw[A3,Bx rfl];exact h,by cases h;exact⟨rfl,.inr ⟨rfl,ac.imm l⟩⟩⟩
 .cases h
theorem AdA{c:Nat}(h:JN c a=JN c b):a=b:=Nat.add_left_cancel h
theorem AdB(hR:Bf R)(l:AH)(c:Nat):aad (kO [(0,Bt l)] [0] 1 14 c) (stO l 1 R) ((0,Bt l)::Bz (JN c) R):=λi o h0=>by
 rw[A3] at h0;split at h0
 .rename_i e;subst e;exact⟨0,o,rfl,by grind,by cases h0;exact⟨rfl,.inr ⟨rfl,ac.imm l⟩⟩⟩
 .rw[G9] at h0;obtain⟨k,hk,e,h⟩:=KX h0;subst e;have hκ:∀k,(∃ob,Bv (JN 1) R k=some ob)->kO [(0,Bt l)] [0] 1 14 c (JN 1 k)=some (JN c k):=λk ⟨ob,h⟩=>by have:=DT h;unfold kO JN;rw[show Nat.blt (1+k) 1=false from by cases hb:Nat.blt (1+k) 1 with|false=>rfl|true=>simp_all,show Nat.blt (1+k) (1+14)=true from Ng aa,Nat.add_sub_cancel_left];rfl
  obtain⟨d,h1,h2⟩:=O6 hκ hR k o h;refine⟨JN 1 k,d,hκ k ⟨d,h1⟩,?_,h2⟩;show ag ((0,Bt l)::Bz (JN 1) R) (JN 1 k)=_;rw[A3,BB (by unfold JN;omega),G9,KS (λa _ b _ e=>AdA e) hk];exact h1
abbrev oGd(al:Be)(I:Gi)(k:Nat):AH:=(al.row.take k).foldl (Hh I al.void) []
abbrev Amo(al:Be)(l:AH)(k:Nat):St:=(s0 49 fI [(0,.ptr (BG al) 0),(3,.rsl 0 0 l.length),(11,aE aj al.row),(12,iG (ah al.row)),(13,iG (k:Int))] [(0,Bt l)] 1 0)
theorem AdC{al:Be}{I:Gi}(h:Ael fI al I):iV prog fI 69 [.ptr (BG al) 0] 42 (Jt I al).length ((Jt I al).flatMap aj):=by
 have hn:=h.n;refine OW func69 ?_;refine dLl (l:=al.row) aa (λk:Nat=>Amo al (oGd al I k) k) [1,1,0,1,2,2] [] [hc (ac.imm [])] (λB k x hx hz k5=>?_) (λB=>?_)
 .have hlt:=(cr hx).1;have hsub:=WG (I:=I) (vd:=al.void) (l:=al.row.take k) (out:=[]);have a:=h.o x (bO hx);have hle:(oGd al I k).length<=1000:=M1 hsub.2 (by rw[Ns];simp;omega);have hO:∀y∈oGd al I k,TB (I.o y) y:=λy hy=>by
   rcases hsub.1 y hy with h1|h1
   .cases h1
   .exact h.o y (List.mem_of_mem_take h1)
  unfold oGd at k5 hle hO⊢;rw[Hv,hx,Option.toList_some,LF,List.foldl_cons,List.foldl_nil] at k5;generalize (al.row.take k).foldl (Hh I al.void) []=l at k5 hle hO⊢;have hd:=Ail h.g h.c (al:=al) rfl hO hle x;have hq:=AcF h.c hO x;unfold Hh at k5;have hw:=SC al.void x;cases c1:A7 (al.void.get x) with
  |true=>rw[c1] at k5 hw;exact jw [hr 14 (Dk hx),AA 15 (ac.ixZ hz),AA 16 (ac.ptZ aW hz),hf 23 (h.g.op x),hm 31 hw,hbb 47 (Xl (q:=k) aa)] [hc (el l),hc (ac.imm l)] k5
  |false=>
   rw[c1,A9] at k5;rw[c1] at hw;have hm:=Agp (i:=x) hq a.g;generalize Tk I l x=R at hd hq hm k5;cases c2:decide (Re R (I.o x)=0) with
   |false=>rw[c2] at k5;exact jw [hr 14 (Dk hx),AA 15 (ac.ixZ hz),AA 16 (ac.ptZ aW hz),hf 23 (h.g.op x),Go.Proofs.YtlimmeehdfbheaaGreatDoor.hm 31 hw,hfm 37 [0] 1 14 3 [(0,Bt l)] [.ptr (BG al) 0,.rsl 0 0 l.length,.agg (aj x)] ((0,Bt l)::Bz (JN 3) R) hd (Agt l) (AdB hq l 3),hrr 40 (JN 3) 17 [.agg (aJ (I.o x)),.agg (aj x)] hq hm,hr 41 c2,hbb 47 (Xl (q:=k) aa)] [hc (el l),hc (ac.imm l)] k5
   |true=>rw[c2] at k5;exact jw [hr 14 (Dk hx),AA 15 (ac.ixZ hz),AA 16 (ac.ptZ aW hz),hf 23 (h.g.op x),Go.Proofs.YtlimmeehdfbheaaGreatDoor.hm 31 hw,hfm 37 [0] 1 14 3 [(0,Bt l)] [.ptr (BG al) 0,.rsl 0 0 l.length,.agg (aj x)] ((0,Bt l)::Bz (JN 3) R) hd (Agt l) (AdB hq l 3),hrr 40 (JN 3) 17 [.agg (aJ (I.o x)),.agg (aj x)] hq hm,hr 41 c2,Tn 46 ac 24 l x aa,hbb 47 (Xl (q:=k) aa)] [hc (el (l++[x])),hc (ac.imm (l++[x]))] k5
 .unfold Jt;show Gp _ _ _ _ _ _ (Amo al ((al.row.take al.row.length).foldl (Hh I al.void) []) _);rw[D5];generalize al.row.foldl (Hh I al.void) []=l;exact EI [hr 14 (Fe (s:=al.row))] (ac.imm l)
def Uw(I:Gi)(x y z:Ab):Bool:=bif decide (z=x)||I.bef z x then Hb I y z else false
def DQ(I:Gi)(row:AH)(x y:Ab):Bool:= !decide (x=y)&&row.any (Uw I x y)
section
variable {gl:CC} {al:Be} {I:Gi} (h:Sf gl al.g I)
include h
theorem Agu(x y z:Ab):ba prog gl 236 [.agg (aj z),.ptr (aj x) 0,.ptr [.ptr (BG al) 0] 0,.ptr (aj y) 0] (bG (Uw I x y z)):=by
 have hb:=h.bef z x;have hk:=Zu h y z;unfold Uw;refine Gh func236 ?_;cases c1:decide (z=x) with
 |true=>exact Ar [hV 8 (dU z x c1),hf 25 hk] []
 |false=>
  cases c2:I.bef z x with
  |true=>rw[c2] at hb;exact Ar [hV 8 (dU z x c1),hf 16 hb,hf 25 hk] []
  |false=>rw[c2] at hb;exact Ar [hV 8 (dU z x c1),hf 16 hb] []
theorem AbE(hn:al.row.length<=1000)(x y:Ab):ba prog gl 154 [.ptr (BG al) 0,.agg (aj x),.agg (aj y)] (bG (DQ I al.row x y)):=by
 have hv:R3 prog gl 236 [] [.ptr (aj x) 0,.ptr [.ptr (BG al) 0] 0,.ptr (aj y) 0] (λz:Ab=>[.agg (aj z)]) (λb:Bool=>bG b) (λz=>some (Uw I x y z)):=⟨aH,bf,eB aH,λz r e=>by cases e;exact Agu h x y z⟩;have hc:=kP gl hv (Adq (s:=al.row) (p:=Uw I x y) aa λ_ _=>rfl);unfold DQ;refine Gh func154 ?_;refine pO [1,0] (s0 18 gl [(3,.ptr [.ptr (BG al) 0] 0),(4,.ptr (aj x) 0),(5,.ptr (aj y) 0)] [] 0 0) [] [Go.Proofs.YtlimmeehdfbheaaGreatDoor.hc (eB (gs:=[.ptr (BG al) 0]) aH),Go.Proofs.YtlimmeehdfbheaaGreatDoor.hc (eB (gs:=aj x) aH),Go.Proofs.YtlimmeehdfbheaaGreatDoor.hc (eB (gs:=aj y) aH)] ?_ [] [];cases c1:decide (x=y) with
 |true=>exact Ar [hV 9 (dy x y (r:=false) (by rw[c1];rfl))] []
 |false=>exact Ar [hV 9 (dy x y (r:=true) (by rw[c1];rfl)),hf 16 hc] []
end
end
def unS(fn:Func):Func:={fn with body:=some (match ai fn with| .seq a (.scope c)=> .seq a c|c=>c)}
def AiZ:Code->Bool
 | .seq _ (.scope _)=>true
 |_=>false
theorem Afp{Q Q':Exit->St->Prop}{J:St}(hi:AiZ (ai fn)=true)(hQ:∀l s,¬Q (.goto l) s)(b:Q=Q')(h:Gp P (unS fn) Q' [] false [1] J):Gp P fn Q [] false [1] J:=by
 subst b;obtain⟨a,c,hc⟩:∃a c,ai fn= .seq a (.scope c):=by unfold AiZ at hi;grind
 have e:ai (unS fn)= .seq a c:=by grind [unS,ai]
 unfold Gp at h⊢;rw[e] at h;rw[hc];exact Pn (Tr.mono h λe s hx=>by
  cases e with
  |goto l=>obtain⟨s',_,h2⟩:Z1 P Q (.goto l) s:=hx;exact(hQ l s' h2).elim
  |_=>exact⟨rfl,hx⟩)
theorem AdZ{r:G}:tH P fn r=tH P (unS fn) r:=by funext e s;unfold tH unS;rfl
section
attribute [local irreducible] Tr dz Gp
def Akn(p:Ab->Bool)(l:AH)(j:Nat):Option (Nat⊕Bool):=match l[j]? with
 |none=>some (.inr false)
 |some y=>bif p y then some (.inr true)else some (.inl (j+1))
theorem Ako{p:Ab->Bool}{l:AH}(hn:l.length<=1000):AQ (Akn p l) 0=some (l.any p):=T.eq (T.loop (λj=>j<=l.length/\∀y∈l.take j,p y=false) (λj=>l.length-j) ⟨aa,aC⟩ aa λj ⟨hj,hI⟩=>by
 unfold Akn;cases hx:l[j]? with
 |none=>have:l.length<=j:=List.getElem?_eq_none_iff.1 hx;refine .some ?_;show false=l.any p;grind
 |some y=>
  have hlt:=(cr hx).1;dsimp only;cases hp:p y with
  |true=>exact .some (show true=l.any p from(by grind))
  |false=>refine .some ⟨⟨aa,λz hz=>?_⟩,aa⟩;grind [Hv])
def Sp(sen:FM Int Int)(d:Int):Int:=(sen.get d).getD 0
def upB(sen:FM Int Int)(l:AH)(b:Int)(k:Nat)(x:Ab):JP:=bif b<0 then some (k:Int)else(aS l b).bind λy=>bif Sp sen x.By<Sp sen y.By then some (k:Int)else some b
def X9(I:Gi)(row l:AH)(sen:FM Int Int)(s:Nat×Int):Option ((Nat×Int)⊕Int):=match l[s.1]? with
 |none=>bif Nat.beq s.1 l.length then some (.inr s.2)else none
 |some x=>bif l.any (DQ I row x)then(upB sen l s.2 s.1 x).bind λb=>some (.inl (s.1+1,b))else some (.inr (s.1:Int))
section
variable {gl:CC} {al:Be} {I:Gi} (h:Sf gl al.g I)
theorem Aav(m:FM Int Int)(k:Int):∀σ,bL prog σ 210 false (FM.g JR iG m) (iG k)=some (iG (Sp m k)):=FM.look1 (et:=3) PE aH aH m k rfl
abbrev Ai7(al:Be)(l:AH)(sen:FM Int Int)(k:Nat)(b:Int):Fr:=[(0,.ptr (BG al) 0),(1,aE aj l),(2,FM.g JR iG sen),(7,iG b),(12,aE aj l),(13,iG (ah l)),(14,iG (k:Int))]
include h
theorem Agv(hn:al.row.length<=1000){l:AH}(hl:l.length<=1000){sen:FM Int Int}{r:Int}(hr0:AQ (X9 I al.row l sen) (0,-1)=some r):ba prog gl 150 [.ptr (BG al) 0,aE aj l,FM.g JR iG sen] (iG r):=by
 refine Gh func150 ?_;refine pO [1] (s0 50 gl [(0,.ptr (BG al) 0),(1,aE aj l),(2,FM.g JR iG sen)] [] 0 0) [] [] ?_ [] [];refine Afp (Q':=tH prog (unS Tryz.f150) (iG r)) aH (λl s hx=>by unfold tH at hx;rcases hx.1 with e|e<;>cases e) AdZ ?_;refine pN (λs:Nat×Int=>(s0 50 gl (Ai7 al l sen s.1 s.2) [] 0 0)) 11110122 hr0 [] [] (λB s v hs k5 f=>?_) [] [];obtain⟨k,b⟩:=s;unfold X9 at hs;dsimp only at hs;split at hs
 .rename_i hx;cases c0:Nat.beq k l.length with
  |false=>rw[c0] at hs;cases hs
  |true=>rw[c0] at hs;obtain rfl:=Bh hs;obtain rfl:=bc c0;obtain rfl:=f _ rfl;exact Ar [hr 15 (Fe (s:=l))] []
 .rename_i x hx;have hz:=Bq hx;have hw:=λy=>AbE h hn x y;refine pN (λj:Nat=>(s0 50 gl ([(8,iG (k:Int)),(9,.ref 0 0),(19,aE aj l),(20,iG (ah l)),(21,iG (j:Int))]++Ai7 al l sen k b) [(0,Xi x)] 1 0)) 11110122110210122 (Ako (p:=DQ I al.row x) hl) [hr 15 (Dk hx),AA 17 (ac.ixZ hz),AA 18 (ac.ptZ aW hz)] [] (λn j v2 c m i=>?_) [] [(0,0)];unfold Akn at c;split at c
  .rename_i hy;obtain rfl:=Bh c;have ha:=i _ rfl;rw[<-ha] at hs;obtain rfl:=Bh hs;obtain rfl:=f _ rfl;have hle:l.length<=j:=List.getElem?_eq_none_iff.1 hy;exact Ar [hr 22 (show decide ((j:Int)<ah l)=false from C3 (by unfold ah;omega))] []
  .rename_i y hy;have a:=Bq hy;have hw:=hw y;cases c1:DQ I al.row x y with
   |false=>rw[c1] at c hw;obtain rfl:=Bh c;exact jw [hr 22 (Dk hy),AA 23 (ac.ixZ a),AA 24 (ac.ptZ aW a),hf 28 hw,hbb 46 (Xl (q:=j) (by have:=(cr hy).1;omega))] [] (m _ rfl) [] [(0,0)]
   |true=>
    rw[c1] at c hw;obtain rfl:=Bh c;have ha:=i _ rfl;rw[<-ha,ax] at hs;obtain⟨b',hb',hs⟩:=bS hs;obtain rfl:=Bh hs;have k5:=k5 _ rfl;have hkk:k<1000:=by have:=(cr hx).1;omega
    unfold upB at hb';cases c2:decide (b<0) with
    |true=>rw[c2] at hb';obtain rfl:=Bh hb';exact jw [hr 22 (Dk hy),AA 23 (ac.ixZ a),AA 24 (ac.ptZ aW a),hf 28 hw,hr 30 c2,hbb 48 (Xl (q:=k) aa)] [] k5 [] []
    |false=>
     rw[c2,A9] at hb';obtain⟨z,d,hb'⟩:=bS hb';cases c3:decide (Sp sen x.By<Sp sen z.By) with
     |true=>rw[c3] at hb';obtain rfl:=Bh hb';exact jw [hr 22 (Dk hy),AA 23 (ac.ixZ a),AA 24 (ac.ptZ aW a),hf 28 hw,hr 30 c2,hm 35 (Aav sen x.By),AA 39 (ac.ixZ d),AA 41 (ac.fdZ tZ 0 d),hm 42 (Aav sen z.By),hr 43 c3,hbb 48 (Xl (q:=k) aa)] [] k5 [] []
     |false=>rw[c3] at hb';obtain rfl:=Bh hb';exact jw [hr 22 (Dk hy),AA 23 (ac.ixZ a),AA 24 (ac.ptZ aW a),hf 28 hw,hr 30 c2,hm 35 (Aav sen x.By),AA 39 (ac.ixZ d),AA 41 (ac.fdZ tZ 0 d),hm 42 (Aav sen z.By),hr 43 c3,hbb 48 (Xl (q:=k) aa)] [] k5 [] []
end
abbrev oA(s:O0):Option Ob:=some ⟨94,FSq s,none⟩
def Q6(s t:O0):O0:=⟨gM s.a0 t.a0,gM s.a1 t.a1,gM s.a2 t.a2,gM s.a3 t.a3⟩
def wiA(s t:O0):Nat->O0
 |0=>s
 |1=>⟨gM s.a0 t.a0,s.a1,s.a2,s.a3⟩
 |2=>⟨gM s.a0 t.a0,gM s.a1 t.a1,s.a2,s.a3⟩
 |3=>⟨gM s.a0 t.a0,gM s.a1 t.a1,gM s.a2 t.a2,s.a3⟩
 |_=>Q6 s t
def Zx(k:Nat):Option (Nat⊕Unit):=if k<4 then some (.inl (k+1))else some (.inr ())
theorem Li:AQ Zx 0=some ():=T.eq (T.loop (λ_=>True) (λk=>4-k) trivial Cd λk _=>by
 unfold Zx;split
 .exact .some ⟨trivial,aa⟩
 .exact .some rfl)
theorem TX(s t:O0):jg prog gl 47 [.ref 0 0,.agg (FSq t)] [(0,oA s)] 1 (.tup []) [(0,oA (Q6 s t))] 1:=by
 refine pP func47 ?_;refine pN (λk:Nat=>(s0 20 gl [(0,.ref 0 0),(3,.ptr (FSq t) 0),(5,iG (k:Int))] [(0,oA (wiA s t k))] 1 1)) 11122 Li [] [hc (eB (gs:=FSq t) aH)] (λB k v hs k5 a=>?_) [] [(0,0)] [];rcases k with _|_|_|_|k
 .cases hs;exact jw [hV 16 (jc (P:=prog) (t:=40) s.a0 t.a0)] [] (k5 _ rfl) [] [(0,0)] []
 .cases hs;exact jw [hV 16 (jc (P:=prog) (t:=40) s.a1 t.a1)] [] (k5 _ rfl) [] [(0,0)] []
 .cases hs;exact jw [hV 16 (jc (P:=prog) (t:=40) s.a2 t.a2)] [] (k5 _ rfl) [] [(0,0)] []
 .cases hs;exact jw [hV 16 (jc (P:=prog) (t:=40) s.a3 t.a3)] [] (k5 _ rfl) [] [(0,0)] []
 .exact mt .normal (s0 20 gl [] [(0,oA (Q6 s t))] 1 1) [] [hr 6 (show decide (((k+1+1+1+1:Nat):Int)<4)=false from C3 aa)] []
abbrev OG(x:BX):Option Ob:=some ⟨96,d7 x,none⟩
theorem RE(x:BX)(t:O0):jg prog gl 47 [.ref 0 30,.agg (FSq t)] [(0,OG x)] 1 (.tup []) [(0,OG {x with past:=Q6 x.past t})] 1:=by
 refine pP func47 ?_;refine pN (λk:Nat=>(s0 20 gl [(0,.ref 0 30),(3,.ptr (FSq t) 0),(5,iG (k:Int))] [(0,OG {x with past:=wiA x.past t k})] 1 1)) 11122 Li [] [hc (eB (gs:=FSq t) aH)] (λB k v hs k5 a=>?_) [] [(0,0)] [];rcases k with _|_|_|_|k
 .cases hs;exact jw [hV 16 (jc (P:=prog) (t:=40) x.past.a0 t.a0)] [] (k5 _ rfl) [] [(0,0)] []
 .cases hs;exact jw [hV 16 (jc (P:=prog) (t:=40) x.past.a1 t.a1)] [] (k5 _ rfl) [] [(0,0)] []
 .cases hs;exact jw [hV 16 (jc (P:=prog) (t:=40) x.past.a2 t.a2)] [] (k5 _ rfl) [] [(0,0)] []
 .cases hs;exact jw [hV 16 (jc (P:=prog) (t:=40) x.past.a3 t.a3)] [] (k5 _ rfl) [] [(0,0)] []
 .exact mt .normal (s0 20 gl [] [(0,OG {x with past:=Q6 x.past t})] 1 1) [] [hr 6 (show decide (((k+1+1+1+1:Nat):Int)<4)=false from C3 aa)] []
def yt(s:O0)(n:Nat):O0:=match n/64 with
 |0=>{s with a0:=gM s.a0 (I1 1 (n%64))}
 |1=>{s with a1:=gM s.a1 (I1 1 (n%64))}
 |2=>{s with a2:=gM s.a2 (I1 1 (n%64))}
 |_=>{s with a3:=gM s.a3 (I1 1 (n%64))}
theorem W0(s:O0)(h:n<256):jg prog gl 46 [.ref 0 0,iG (n:Int)] [(0,oA s)] 1 (.tup []) [(0,oA (yt s n))] 1:=by
 have hm:u9 (n:Int) 64=some ((n%64:Nat):Int):=by grind [u9]
 have hcn:wJ ((n%64:Nat):Int)=some (n%64):=by grind [wJ]
 have hq:∀q:Nat,n/64=q->Gg (n:Int) 64=some (q:Int):=by grind [Gg,Mx]
 refine pP func46 ?_;have h4:n/64=0\/n/64=1\/n/64=2\/n/64=3:=aa;rcases h4 with e|e|e|e
 .rw[show yt s n={s with a0:=gM s.a0 (I1 1 (n%64))} by grind [yt]];exact mt .normal (s0 16 gl [] [(0,oA {s with a0:=gM s.a0 (I1 1 (n%64))})] 1 1) [] [hbb 6 (Tt (hq 0 e)),hbb 11 (KO hm),hV 12 (sM (P:=prog) (t:=40) 1 hcn),hV 13 (jc (P:=prog) (t:=40) s.a0 (I1 1 (n%64)))] []
 .rw[show yt s n={s with a1:=gM s.a1 (I1 1 (n%64))} by grind [yt]];exact mt .normal (s0 16 gl [] [(0,oA {s with a1:=gM s.a1 (I1 1 (n%64))})] 1 1) [] [hbb 6 (Tt (hq 1 e)),hbb 11 (KO hm),hV 12 (sM (P:=prog) (t:=40) 1 hcn),hV 13 (jc (P:=prog) (t:=40) s.a1 (I1 1 (n%64)))] []
 .rw[show yt s n={s with a2:=gM s.a2 (I1 1 (n%64))} by grind [yt]];exact mt .normal (s0 16 gl [] [(0,oA {s with a2:=gM s.a2 (I1 1 (n%64))})] 1 1) [] [hbb 6 (Tt (hq 2 e)),hbb 11 (KO hm),hV 12 (sM (P:=prog) (t:=40) 1 hcn),hV 13 (jc (P:=prog) (t:=40) s.a2 (I1 1 (n%64)))] []
 .rw[show yt s n={s with a3:=gM s.a3 (I1 1 (n%64))} by grind [yt]];exact mt .normal (s0 16 gl [] [(0,oA {s with a3:=gM s.a3 (I1 1 (n%64))})] 1 1) [] [hbb 6 (Tt (hq 3 e)),hbb 11 (KO hm),hV 12 (sM (P:=prog) (t:=40) 1 hcn),hV 13 (jc (P:=prog) (t:=40) s.a3 (I1 1 (n%64)))] []
theorem OH{σ ρ:Type}{step:σ->Option (σ⊕ρ)}{s:σ}{r:ρ}(h:step s=some (.inr r)):AQ step s=some r:=by grind [AQ,FU,KN]
theorem RF{st:St}{l:Bo}(h:ag st.σ j=some ⟨t,l,none⟩)(k:Nat):Le P st {st with σ:=(j,some ⟨t,l.take k,none⟩)::st.σ}:=by
 rintro cx a w ⟨β,r⟩;have hs:∀i o,ag ((j,some ⟨t,l.take k,none⟩)::st.σ) i=some o->∃c,ag st.σ i=some c/\((i=j/\o=⟨t,l.take k,none⟩/\c=⟨t,l,none⟩)\/o=c):=by grind
 have hs':∀i o,ag st.σ i=some o->∃c,ag ((j,some ⟨t,l.take k,none⟩)::st.σ) i=some c:=by grind
 have hA:Av cx.S0 β ((j,some ⟨t,l.take k,none⟩)::st.σ)=Av cx.S0 β st.σ:=by grind
 refine⟨β,{size:=r.size,defers:=r.defers,loose:=r.loose,rnd:=r.rnd,fr:=λi=>?_,ob:=λi o hi=>?_,inj:=λi d o c b C D h1 h2 h3 h4=>?_,own:=λi o b C h1 h2=>?_,sep:=λi o b C h1 h2=>?_,fresh:=r.fresh,glob:=λg m hl=>?_,keep:=r.keep,old:=r.old,pin:=r.pin}⟩
 .grind
 .show RO P β (Av cx.S0 β ((j,some ⟨t,l.take k,none⟩)::st.σ)) w i o;rw[hA];obtain⟨c,h1,⟨rfl,rfl,rfl⟩|rfl⟩:=hs i o hi
  .rcases r.ob _ _ h1 with⟨e1,e2,e3⟩|⟨b,x,o,e1,_⟩|⟨b,C,cur,e1,e2,e3,e4,e5,e6,e7⟩
   .grind
   .cases e1
   .have e6:l.length<=cur.size:=e6;have e7:∀(j:Nat) (g:G),l[j]?=some g->∃u,cur[j]?=some u/\u.oneCell'=true/\RV β (Av cx.S0 β st.σ) w g u:=e7;refine .inr (.inr ⟨b,C,cur,e1,e2,e3,e4,e5,?_,λx g hg=>e7 x g ?_⟩);all_goals grind
  .exact r.ob _ _ h1
 .obtain⟨e,h1',_⟩:=hs i o h1;obtain⟨f,h2',_⟩:=hs d c h2;grind
 .grind
 all_goals grind
def hcl(c:Nat){P:Br}{σ:aQ}{t:Bn}{g:G}{i:Nat}{ob:Ob}(h:rF P σ t g=some (i,ob)):HP:=⟨some (.e 999999998 (.tup []) i ob),rF P (Uy σ (fR g)) t g=some (i,ob),(Afm Hs).symm.trans h⟩
section
variable {P:Br} [M:Mix P] {st:St} {Q:Exit->St->Prop} {fn:Func} {Bs:List (St->Prop)} {m:Bool} {p:Bp}
theorem dSh(j:Nat){l:Bo}(k:Nat)(h:Gp P fn Q Bs m p {st with σ:=(j,some ⟨t,l.take k,none⟩)::st.σ})(hj:ag st.σ j=some ⟨t,l,none⟩:=by rfl):Gp P fn Q Bs m p st:=by
 unfold Gp LO at h⊢;cases m with
 |true=>exact pQ (RF hj k) _ _ h
 |false=>exact Tr.le h (RF hj k)
end
abbrev Lj(g:Aj):G:= .clo (.func 113) [] [.ptr [.ptr (Ag g) 0] 0]
def AjW{α:Type}(l:List α)(i:Int):Option (Int⊕Unit):=bif i<ah l then(aS l i).bind λ_=>some (.inl (wI (i+1)))else some (.inr ())
theorem W3{l:List α}(h:l.length<1000000000):AQ (AjW l) (wI (0+1))=some ():=by refine T.eq (T.loop (λi=>∃k:Nat,i=((k+1:Nat):Int)/\k<=l.length) (λi=>l.length+2-i.toNat) ⟨0,rfl,aa⟩ (by grind) ?_);rintro i ⟨k,rfl,hk⟩;unfold AjW;refine .dec (λhh=>?_) λhh=> .some rfl;unfold ah at hh;have ew:wI (((k+1:Nat):Int)+1)=((k+1+1:Nat):Int):=aq aa;refine .bind (.ix aa (x:=l[k+1]) (by grind) (.some ⟨⟨k+1,ew,aa⟩,?_⟩));grind
def zI:List Value:=[.int .i64 0,.int .i64 0,.int .u64 0]
abbrev W4(l:AH):Bo:=(l.flatMap aj).take 0++(bN zI (l.length*3)).map .lit++(l.flatMap aj).drop (0+l.length*3)
theorem clr{l:AH}(h:0<l.length):rF prog [ob 0 42 (l.flatMap aj)] 26 (.rsl 0 (0+(0:Int).toNat*3) (l.length-(0:Int).toNat))=some (0,⟨42,W4 l,none⟩):=by have e1:dp prog 26=some 42:=aH;have e2:jj prog 42=some zI:=aH;have e3:bw prog 42=some 3:=aH;have e4:ag [ob 0 42 (l.flatMap aj)] 0=some ⟨42,l.flatMap aj,none⟩:=rfl;show rF prog _ _ (.rsl 0 0 l.length)=_;unfold rF;rw[e1];simp only[e2,e3,e4];rw[Bx ⟨rfl,h,Cd,by grind [Ba.len,ac],rfl⟩]
theorem RH(l:AH):∀g∈W4 l,bB g:=by grind [Ba.imm,ac,mN]
theorem W5{g:Aj}(h:(g.at_.get x).isSome=true):ba prog gl 113 [.agg (aj x),.ptr [.ptr (Ag g) 0] 0] (bG true):=jk gl (by unfold df;rw[h])
theorem aa4(g:Aj):R3 prog gl 113 [] [.ptr [.ptr (Ag g) 0] 0] (λx:Ab=>[.agg (aj x)]) (λx:Bool=>bG x) (λx=>df x g):=⟨aH,bf,aY (aG 20 _ aH) bf,λx r h=>jk gl h⟩
theorem ixL{g:Aj}{l:AH}(h:∀x∈l,(g.at_.get x).isSome=true):Vz l (λx=>df x g)=some (if l.length=0 then-1 else 0):=by
 unfold Vz;cases l with
 |nil=>rfl
 |cons a r=>
  have e:AQ (K0 (a::r) (λx=>df x g)) 0=some (.inr 0):=by grind [OH,K0,df,ah,aS]
  rw[e];rfl
theorem TY{g:Aj}{l:AH}(h:∀x∈l,(g.at_.get x).isSome=true)(hl:l.length<1000000000):jg prog gl 112 [.rsl 0 0 l.length,Lj g] [ob 0 42 (l.flatMap aj)] 1 (.rsl 0 0 0) [ob 0 42 []] 1:=by
 refine pP func112 ?_;have hi:=gS gl (aa4 gl g) (ixL h);by_cases h0:l.length=0
 .rw[Bx h0] at hi;obtain rfl:=List.length_eq_zero_iff.1 h0;exact mt .ret (s0 42 gl [(4,.rsl 0 0 0)] [ob 0 42 []] 1 1) [.rsl 0 0 0] [hq 10 [aE aj [],Lj g] [hc (ac.al [])] hi] [hc (rfl:0=0),hc (ac.imm [])]
 .rw[BB h0] at hi;refine pN (λj:Int=>(s0 42 gl [(0,.rsl 0 0 l.length),(1,Lj g),(5,iG 0),(6,iG j)] [ob 0 42 (l.flatMap aj)] 1 1)) 11110122 (W3 (l:=l) hl) [hq 10 [aE aj l,Lj g] [hc (ac.al l)] hi] [hc (el l),hc (aG 20 (Lj g) aH),hc (ac.imm l)] (λB j w hs k5 b=>?_);unfold AjW at hs;rcases bC hs with⟨b1,hs⟩|⟨b1,hs⟩
  .obtain⟨y,a,hs⟩:=bS hs;obtain rfl:=Bh hs;exact jw [hr 19 b1,AA 24 (ac.ixrZ 0 a),AA 25 (ac.pt0Z aW a),hf 28 (W5 gl (h y (bO (GV a).2)))] [hc (el l),hc (aG 20 (Lj g) aH),hc (ac.imm l)] (k5 _ rfl)
  .obtain rfl:=Bh hs;refine pO 1111110 (J:=(s0 42 gl [(0,.rsl 0 0 l.length),(5,iG 0)] [ob 0 42 (W4 l)] 1 1)) [hr 19 b1,AA 38 (ac.sufZ 0 (l:=l) (i:=0) (y:=l) rfl),hcl 1 (clr (l:=l) (Nat.pos_of_ne_zero h0))] [hc (el l),hc (RH l)] ?_;refine dSh 0 0 ?_;exact mt .ret (s0 42 gl [(4,.rsl 0 0 0)] [ob 0 42 []] 1 1) [.rsl 0 0 0] [AA 41 (ac.preZ 0 (l:=l) (i:=0) (y:=[]) rfl)] [hc (rfl:0=0),hc (ac.imm [])]
theorem Zy(l:AH):∀g∈l.flatMap aj,∃v,g= .lit v:=by grind [aj]
theorem RI{g:Aj}{o:Bi}(h:∀x∈o.Past,(g.at_.get x).isSome=true)(hl:o.Past.length<1000000000):iV prog gl 45 [.ptr (Ag g) 0,.agg (aJ o)] 42 0 []:=by
 have hcl:cU o.Past=some o.Past:=by grind [cU,aT]
 refine OW func45 ?_;refine pO [1,0] (s0 10 gl [(2,.ptr [.ptr (Ag g) 0] 0),(3,.ptr (aJ o) 0)] [] 0 0) [] [hc (eB (gs:=[.ptr (Ag g) 0]) aH),hc (eB (gs:=aJ o) aH)] ?_;exact EI [ho 7 [aE aj o.Past] [] (jY gl hcl) (Zy _),tN 9 [0] 1 [ob 0 42 (o.Past.flatMap aj)] [.rsl 0 0 o.Past.length,Lj g] [ob 0 42 []] (TY gl h hl) ⟨⟨rfl,.inr ⟨rfl,ac.imm _⟩⟩,trivial⟩ ⟨⟨rfl,.inr ⟨rfl,ac.imm []⟩⟩,trivial⟩] (ac.imm [])
def hmu(R:Bp)(c:Nat){P:Br}{σ:aQ}{t:Bn}{gm gk g:G}{i:Nat}{ob:Ob}(h:dZ P σ t gm gk g=some (i,ob)):HP:=⟨some (.e 999999998 (.lit undef) i ob),dZ P (Uy σ (fR gm)) t gm gk g=some (i,ob),(aah Hs).symm.trans h⟩
abbrev mE(m:Hj):oE:=m.es.map λe=>(ga e.1,iG e.2.1,e.2.2)
abbrev gMp(m:Hj):G:= .mp ((mE m).map (·.1)) ((mE m).map (·.2.1)) ((mE m).map (·.2.2)) m.clk
abbrev oM(m:Hj):Option Ob:=some ⟨98,[],some (.map (mE m) m.clk)⟩
abbrev oG(cs:LP)(n:Nat)(j:Nat):Option Ob:=some ⟨101,[aE bv cs,.mref 1,.rsl j 0 n],none⟩
abbrev zQ(N:Hl):Option Ob:=some ⟨96,N.flatMap d7,none⟩
theorem RJ(m:Hj):FM.g ga iG m=gMp m:=by unfold FM.g gMp mE;simp only[IX];rfl
theorem lkP{m:Hj}{k:Ab}{b:Bool}{v:Int}(h1:(m.get k).getD 0=v)(h2:(m.get k).isSome=b):bL prog [(1,oM m)] 98 true (.mref 1) (.agg (aj k))=some (.tup [iG v,bG b]):=by
 subst h1 h2;have hm:(mE m).map (·.1)=(m.es.map (·.1)).map ga:=by rw[IX,IX];rfl
 have hz:((prog.info? 3).bind (·.zero)).map db=some (iG 0):=aH;obtain⟨z,hz,hv⟩:=DG.1 hz;unfold bL;rw[show pB prog 98=some (42,3) from by kernel_rfl,show cD (.agg (aj k))=some (ga k) from rfl];dsimp only;rw[show LD [(1,oM m)] (.mref 1)=some (1,98,mE m,m.clk) from rfl];dsimp only;rw[jt.chk,ax,hm,jt.key];grind [FM.get,fz]
theorem Zz{m:Hj}{k:Ab}{v:Int}(h1:(m.get k).getD 0=v):bL prog [(1,oM m)] 98 false (.mref 1) (.agg (aj k))=some (iG v):=by
 subst h1;have hm:(mE m).map (·.1)=(m.es.map (·.1)).map ga:=by rw[IX,IX];rfl
 have hz:((prog.info? 3).bind (·.zero)).map db=some (iG 0):=aH;obtain⟨z,hz,hv⟩:=DG.1 hz;unfold bL;rw[show pB prog 98=some (42,3) from by kernel_rfl,show cD (.agg (aj k))=some (ga k) from rfl];dsimp only;rw[show LD [(1,oM m)] (.mref 1)=some (1,98,mE m,m.clk) from rfl];dsimp only;rw[jt.chk,ax,hm,jt.key];grind [FM.get,fz]
def CW(m:Hj)(k:Ab)(n:Int):Hj:=⟨m.es++[(k,n,m.clk)],m.clk+1⟩
theorem aa6{m:Hj}{k:Ab}(h:m.get k=none)(n:Int):dZ prog [(1,oM m)] 98 (.mref 1) (.agg (aj k)) (iG n)=some (1,⟨98,[],some (.map (mE (CW m k n)) (CW m k n).clk)⟩):=by
 have hm:(mE m).map (·.1)=(m.es.map (·.1)).map ga:=by rw[IX,IX];rfl
 unfold dZ;rw[show pB prog 98=some (42,3) from by kernel_rfl,show cD (.agg (aj k))=some (ga k) from rfl,show LD [(1,oM m)] (.mref 1)=some (1,98,mE m,m.clk) from rfl];dsimp only;rw[jt.chk,ax,hm,jt.key];grind [fz,CW,FM.get]
def hlk(d:Nat){P:Br}{σ:aQ}{t:Bn}{ok:Bool}{i:Nat}{gk g:G}(h:bL P σ t ok (.mref i) gk=some g):HP:=⟨some (.m d g),bL P σ t ok (.mref i) gk=some g,h⟩
structure Ad3 (cs:LP) (m:Hj) (N:Hl) (o:Bi) (i:Ab) (c:DF) (kk:Nat):Prop where
 chk:Abk o kk
 sm:Bb o
 cl:pG o=some o
 id:Rs o=some i
 fresh:m.get i=none
 room:N.length<200
 card:hY ⟨cs,m,N⟩ o.By=some (c,true)
 by_:o.By=c.Device
 sig:lq c.Sign (qc o) o.Sig=some true
 create:o.Kind=1->N=[]
 nPast:o.Past.length<1000000000
 par:∀x∈o.Past,∃n:Nat,m.get x=some (n:Int)/\n<200
abbrev z4:O0:=⟨0,0,0,0⟩
def Z6(m:Hj)(N:Hl)(l:AH)(s:O0×O0×Int×Int×Int):Option ((O0×O0×Int×Int×Int)⊕(O0×O0×Int×Int)):=
 bif s.2.2.2.2<ah l then(aS l s.2.2.2.2).bind λx=>(aS N ((m.get x).getD 0)).bind λy=>some (.inl (yt s.1 ((m.get x).getD 0).toNat,Q6 s.2.1 y.past,Fi s.2.2.1 y.o.At,Fi s.2.2.2.1 (wI (y.level+1)),wI (s.2.2.2.2+1)))else some (.inr (s.1,s.2.1,s.2.2.1,s.2.2.2.1))
def ZA(s t:O0):Nat->O0
 |0=>s
 |1=>⟨bD s.a0 t.a0,s.a1,s.a2,s.a3⟩
 |2=>⟨bD s.a0 t.a0,bD s.a1 t.a1,s.a2,s.a3⟩
 |3=>⟨bD s.a0 t.a0,bD s.a1 t.a1,bD s.a2 t.a2,s.a3⟩
 |_=>⟨bD s.a0 t.a0,bD s.a1 t.a1,bD s.a2 t.a2,bD s.a3 t.a3⟩
def Z7(N:Hl)(o:Bi)(A:O0)(s:Int×Bool×Int):Option ((Int×Bool×Int)⊕(Int×Bool)):=
 bif s.2.2<ah N then(aS N s.2.2).bind λy=>bif y.o.By=o.By then(iX A s.2.2).bind λh=>bif h then some (.inl (Fi s.1 y.o.Seq,(bif s.2.1 then true else decide (y.o.Seq=wI (o.Seq-1))),wI (s.2.2+1)))else some (.inl (s.1,s.2.1,wI (s.2.2+1)))else some (.inl (s.1,s.2.1,wI (s.2.2+1)))else some (.inr (s.1,s.2.1))
section
variable {cs:LP} {m:Hj} {N:Hl} {o:Bi} {i:Ab} {c:DF} {kk:Nat}
abbrev Z8(cs:LP)(m:Hj)(N:Hl):G:= .ptr [aE bv cs,gMp m,aE d7 N] 0
theorem Ad3.card'(h:Ad3 cs m N o i c kk):ba prog fI 43 [Z8 cs m N,iG o.By] (.tup [.agg (bv c),bG true]):=by have:=uN fI h.card;grind [Ag,RJ]
theorem Ad3.lacks'(h:Ad3 cs m N o i c kk):iV prog fI 45 [Z8 cs m N,.agg (aJ o)] 42 0 []:=by have:=RI fI (g:=⟨cs,m,N⟩) (o:=o) (λx hx=>by obtain⟨n,hn,_⟩:=h.par x hx;show(m.get x).isSome=true;rw[hn];rfl) h.nPast;grind [Ag,RJ]
theorem cf(m:Hj):∀e∈mE m,bB e.2.1:=by grind [mN]
abbrev aa7(o:Bi)(a k:Int):Fr:=[(0,.ref 0 0),(3,.ptr (aJ o) 0),(6,.ref 3 0),(11,.ref 4 0),(12,.ref 5 0),(13,iG a),(80,aE aj o.Past),(81,iG (ah o.Past)),(82,iG k)]
abbrev Z9(cs:LP)(m:Hj)(N:Hl)(x:BX)(p b:O0):aQ:=[(0,oG cs N.length 2),(1,oM m),(2,zQ N),(3,OG x),(4,oA p),(5,oA b)]
theorem TZ(x:BX){n:Nat}(hn:n<256){r:Bool}(h:iX x.past (n:Int)=some r):ba prog fI 48 [.ptr (d7 x) 30,iG (n:Int)] (bG r):=by
 have hm:u9 (n:Int) 64=some ((n%64:Nat):Int):=by grind [u9]
 have hcn:wJ ((n%64:Nat):Int)=some (n%64):=by grind [wJ]
 have hq:∀q:Nat,n/64=q->Gg (n:Int) 64=some (q:Int):=by grind [Gg,Mx]
 have hd:wI (Int.tdiv (n:Int) 64)=((n/64:Nat):Int):=by grind [bM]
 have ht:Int.tmod (n:Int) 64=((n%64:Nat):Int):=by rw[Int.tmod_eq_emod_of_nonneg aa];rfl
 unfold iX at h;rw[hd,ht,hcn] at h;refine Gh func48 ?_;have h4:n/64=0\/n/64=1\/n/64=2\/n/64=3:=aa;rcases h4 with e|e|e|e
 .rw[e] at h;obtain rfl:=Bh h;exact Ar [hbb 7 (Tt (hq 0 e)),hbb 12 (KO hm),hV 13 (Am (P:=prog) (t:=40) x.past.a0 hcn),hV 14 (ju (P:=prog) (t:=40) (JB x.past.a0 (n%64)) 1)] []
 .rw[e] at h;obtain rfl:=Bh h;exact Ar [hbb 7 (Tt (hq 1 e)),hbb 12 (KO hm),hV 13 (Am (P:=prog) (t:=40) x.past.a1 hcn),hV 14 (ju (P:=prog) (t:=40) (JB x.past.a1 (n%64)) 1)] []
 .rw[e] at h;obtain rfl:=Bh h;exact Ar [hbb 7 (Tt (hq 2 e)),hbb 12 (KO hm),hV 13 (Am (P:=prog) (t:=40) x.past.a2 hcn),hV 14 (ju (P:=prog) (t:=40) (JB x.past.a2 (n%64)) 1)] []
 .rw[e] at h;obtain rfl:=Bh h;exact Ar [hbb 7 (Tt (hq 3 e)),hbb 12 (KO hm),hV 13 (Am (P:=prog) (t:=40) x.past.a3 hcn),hV 14 (ju (P:=prog) (t:=40) (JB x.past.a3 (n%64)) 1)] []
theorem W7(h:Ad3 cs m N o i c kk){b:O0}{top lev:Int}(h1:AQ (Z6 m N o.Past) (z4,z4,0,1,0)=some (p,b,top,lev))(h2:ZA p b 4=z4)(h3:decide (o.At<top)=false){last:Int}{fol:Bool}(h4:AQ (Z7 N o (Q6 b p)) (0,false,0)=some (last,fol))(h5:decide (o.Seq<=last)=false)(h6:1<o.Seq->fol=true):jg prog fI 15 [.ref 0 0,.agg (aJ o)] [(0,oG cs N.length 2),(1,oM m),(2,zQ N)] 3 (iG 0) [(0,oG cs (N++[(⟨o,i,Q6 b p,lev⟩:BX)]).length 3),(1,oM (CW m i N.length)),(3,zQ (N++[⟨o,i,Q6 b p,lev⟩]))] 4:=by
 have hro:=h.room;refine pP func15 ?_;refine pO 11111111100 (s0 234 fI [(0,.ref 0 0),(3,.ptr (aJ o) 0),(6,.ref 3 0)] [(0,oG cs N.length 2),(1,oM m),(2,zQ N),(3,OG ⟨o,i,z4,1⟩)] 4 3) [hf 24 (IW h.chk),hf 29 (Ds fI h.cl),hf 31 (TP fI h.sm h.id),hlk 40 (lkP (m:=m) (k:=i) (v:=0) (b:=false) (by rw[h.fresh];rfl) (by rw[h.fresh];rfl)),hr 49 (show decide (200<=(N.length:Int))=false from C3 aa),hq 54 [Z8 cs m N,iG o.By] [hc (cf m),hc (az.al N)] h.card',hf 61 (OD fI h.sm h.by_ h.sig)] [hc (eB (gs:=aJ o) aH),hc (el N),hc (cf m),hc (az.imm N)] ?_;refine Ix 1111111110 (s0 234 fI [(0,.ref 0 0),(3,.ptr (aJ o) 0),(6,.ref 3 0)] [(0,oG cs N.length 2),(1,oM m),(2,zQ N),(3,OG ⟨o,i,z4,1⟩)] 4 3) ?_ λd=>?_;rotate_left
 .by_cases hk1:o.Kind=1
  .have e0:decide (0<(N.length:Int))=false:=by rw[h.create hk1];rfl
   exact yl 1111111110 [hr 65 (CM hk1),hr 72 e0] [hc (el N),hc (cf m),hc (az.imm N)] d
  .exact yl 1111111110 [hr 65 (C3 hk1)] [hc (el N),hc (cf m),hc (az.imm N)] d
 refine Ix 111111111111101 (s0 234 fI [(0,.ref 0 0),(3,.ptr (aJ o) 0),(6,.ref 3 0),(11,.ref 4 0),(12,.ref 5 0),(13,iG top)] (Z9 cs m N ⟨o,i,z4,lev⟩ p b) 6 3) ?_ λd=>?_;rotate_left
 .refine pN (λs:O0×O0×Int×Int×Int=>(s0 234 fI (aa7 o s.2.2.1 s.2.2.2.2) (Z9 cs m N ⟨o,i,z4,s.2.2.2.1⟩ s.1 s.2.1) 6 3)) 11111111111110122 h1 [ho 76 [Z8 cs m N,.agg (aJ o)] [hc (cf m),hc (az.al N)] h.lacks' (λg hg=>by cases hg)] [hc (el N),hc (cf m),hc (az.imm N)] (λB s w hs k5 j=>?_);unfold Z6 at hs;rcases bC hs with⟨c1,hs⟩|⟨c1,hs⟩
  .obtain⟨x,l,hs⟩:=bS hs;obtain⟨n,q,hn⟩:=h.par x (bO (GV l).2);have ej:(m.get x).getD 0=(n:Int):=by rw[q];rfl
   rw[ej] at hs;obtain⟨y,a,hs⟩:=bS hs;obtain rfl:=Bh hs;exact jw [hr 83 c1,AA 84 (ac.ixZ l),AA 85 (ac.ptZ aW l),hlk 95 (Zz ej),AA 96 (az.ixrZ 2 a),hlk 102 (Zz ej),tN 103 [4] 7 [(4,oA s.1)] [.ref 4 0,iG (n:Int)] [(0,oA (yt s.1 n))] (W0 fI s.1 aa) ⟨⟨rfl,.inl rfl⟩,trivial⟩ ⟨⟨rfl,.inl rfl⟩,trivial⟩,AA 107 (az.fs0Z aap aaq 30 Cd a),tN 108 [5] 7 [(5,oA s.2.1)] [.ref 5 0,.agg (FSq y.past)] [(0,oA (Q6 s.2.1 y.past))] (TX fI s.2.1 y.past) ⟨⟨rfl,.inl rfl⟩,trivial⟩ ⟨⟨rfl,.inl rfl⟩,trivial⟩,AA 114 (az.fd0Z tZ 3 a),AA 121 (az.fd0Z tZ 34 a)] [hc (el N),hc (cf m),hc (az.imm N)] (k5 _ rfl)
  .obtain rfl:=Bh hs;have e:=j _ rfl;simp only[Gb] at e;obtain⟨rfl,rfl,rfl,rfl⟩:=e;exact yl 111111111111101 [hr 83 c1] [hc (el N),hc (cf m),hc (az.imm N)] d
 refine Ix 11111111111111101 (s0 234 fI [(0,.ref 0 0),(3,.ptr (aJ o) 0),(6,.ref 3 0),(11,.ref 4 0),(12,.ref 5 0),(13,iG top),(17,.ref 6 0)] (Z9 cs m N ⟨o,i,z4,lev⟩ p b++[(6,oA z4)]) 7 3) ?_ λd=>?_;rotate_left
 .refine pN (λk:Nat=>(s0 234 fI [(0,.ref 0 0),(3,.ptr (aJ o) 0),(6,.ref 3 0),(11,.ref 4 0),(12,.ref 5 0),(13,iG top),(17,.ref 6 0),(127,iG (k:Int))] (Z9 cs m N ⟨o,i,z4,lev⟩ p b++[(6,oA (ZA p b k))]) 7 3)) 1111111111111110122 Li [] [hc (el N),hc (cf m),hc (az.imm N)] (λB k v hs k5 j=>?_);rcases k with _|_|_|_|k
  .cases hs;exact jw [hV 136 (ju (P:=prog) (t:=40) p.a0 b.a0)] [hc (el N),hc (cf m),hc (az.imm N)] (k5 _ rfl)
  .cases hs;exact jw [hV 136 (ju (P:=prog) (t:=40) p.a1 b.a1)] [hc (el N),hc (cf m),hc (az.imm N)] (k5 _ rfl)
  .cases hs;exact jw [hV 136 (ju (P:=prog) (t:=40) p.a2 b.a2)] [hc (el N),hc (cf m),hc (az.imm N)] (k5 _ rfl)
  .cases hs;exact jw [hV 136 (ju (P:=prog) (t:=40) p.a3 b.a3)] [hc (el N),hc (cf m),hc (az.imm N)] (k5 _ rfl)
  .have e:ZA p b (k+1+1+1+1)=z4:=h2;rw[e];exact yl 11111111111111101 [hr 128 (show decide (((k+1+1+1+1:Nat):Int)<4)=false from C3 aa)] [hc (el N),hc (cf m),hc (az.imm N)] d
 refine Ix 11111111111111111111101 (s0 234 fI [(0,.ref 0 0),(3,.ptr (aJ o) 0),(6,.ref 3 0),(19,iG last),(20,bG fol)] [(0,oG cs N.length 2),(1,oM m),(2,zQ N),(3,OG ⟨o,i,Q6 b p,lev⟩)] 4 3) ?_ λd=>?_;rotate_left
 .refine pN (λs:Int×Bool×Int=>(s0 234 fI [(0,.ref 0 0),(3,.ptr (aJ o) 0),(6,.ref 3 0),(19,iG s.1),(20,bG s.2.1),(157,iG (ah N)),(158,iG s.2.2)] [(0,oG cs N.length 2),(1,oM m),(2,zQ N),(3,OG ⟨o,i,Q6 b p,lev⟩)] 4 3)) 1111111111111111111110122 h4 [hr 146 h3,tN 152 [3] 7 [(3,OG ⟨o,i,b,lev⟩)] [.ref 3 30,.agg (FSq p)] [(0,OG ⟨o,i,Q6 b p,lev⟩)] (RE fI ⟨o,i,b,lev⟩ p) ⟨⟨rfl,.inl rfl⟩,trivial⟩ ⟨⟨rfl,.inl rfl⟩,trivial⟩] [hc (el N),hc (cf m),hc (az.imm N)] (λB s w hs k5 j=>?_);obtain⟨la,r,k⟩:=s;unfold Z7 at hs;dsimp only at hs;rcases bC hs with⟨c1,hs⟩|⟨c1,hs⟩
  .obtain⟨y,a,hs⟩:=bS hs;obtain⟨n,hn⟩:∃n:Nat,k=(n:Int):=⟨k.toNat,by have:=(GV a).1;omega⟩;rcases bC hs with⟨c2,hs⟩|⟨c2,hs⟩
   .obtain⟨hh,f,hs⟩:=bS hs;rw[hn] at f;have f:=TZ ⟨o,i,Q6 b p,lev⟩ (n:=n) (by have:=(cr (GV a).2).1;omega) f;rw[<-hn] at f;cases hh
    .obtain rfl:=Bh hs;exact jw [hr 159 c1,AA 166 (az.ixrZ 2 a),AA 171 (az.fd0Z tZ 0 a),hr 174 c2,hq 178 [.ptr (d7 ⟨o,i,Q6 b p,lev⟩) 30,iG k] [] f] [hc (el N),hc (cf m),hc (az.imm N)] (k5 _ rfl)
    .obtain rfl:=Bh hs;cases r
     .exact jw [hr 159 c1,AA 166 (az.ixrZ 2 a),AA 171 (az.fd0Z tZ 0 a),hr 174 c2,hq 178 [.ptr (d7 ⟨o,i,Q6 b p,lev⟩) 30,iG k] [] f,AA 185 (az.fd0Z tZ 1 a),AA 193 (az.fd0Z tZ 1 a),hr 197 (rfl:decide (y.o.Seq=wI (o.Seq-1))=decide (y.o.Seq=wI (o.Seq-1)))] [hc (el N),hc (cf m),hc (az.imm N)] (k5 _ rfl)
     .exact jw [hr 159 c1,AA 166 (az.ixrZ 2 a),AA 171 (az.fd0Z tZ 0 a),hr 174 c2,hq 178 [.ptr (d7 ⟨o,i,Q6 b p,lev⟩) 30,iG k] [] f,AA 185 (az.fd0Z tZ 1 a)] [hc (el N),hc (cf m),hc (az.imm N)] (k5 _ rfl)
   .obtain rfl:=Bh hs;exact jw [hr 159 c1,AA 166 (az.ixrZ 2 a),AA 171 (az.fd0Z tZ 0 a),hr 174 c2] [hc (el N),hc (cf m),hc (az.imm N)] (k5 _ rfl)
  .obtain rfl:=Bh hs;have e:=j _ rfl;simp only[Gb] at e;obtain⟨rfl,rfl⟩:=e;exact yl 11111111111111111111101 [hr 159 c1] [hc (el N),hc (cf m),hc (az.imm N)] d
 refine pO 111111111111111111111100 (s0 234 fI [(0,.ref 0 0),(3,.ptr (aJ o) 0),(6,.ref 3 0),(19,iG last),(20,bG fol)] [(0,oG cs N.length 2),(1,oM m),(2,zQ N),(3,OG ⟨o,i,Q6 b p,lev⟩)] 4 3) [] [hc (el N),hc (cf m),hc (az.imm N)] ?_;refine Ix 11111111111111111111110 (s0 234 fI [(0,.ref 0 0),(3,.ptr (aJ o) 0),(6,.ref 3 0)] [(0,oG cs N.length 2),(1,oM m),(2,zQ N),(3,OG ⟨o,i,Q6 b p,lev⟩)] 4 3) ?_ λd=>?_;rotate_left
 .by_cases hs1:1<o.Seq
  .obtain rfl:=h6 hs1;exact yl 11111111111111111111110 [hr 203 h5,hr 207 (CM hs1)] [hc (el N),hc (cf m),hc (az.imm N)] d
  .exact yl 11111111111111111111110 [hr 203 h5,hr 207 (C3 hs1)] [hc (el N),hc (cf m),hc (az.imm N)] d
 exact mt .ret (s0 234 fI [(4,iG 0)] [(0,oG cs (N++[(⟨o,i,Q6 b p,lev⟩:BX)]).length 3),(1,oM (CW m i N.length)),(3,zQ (N++[⟨o,i,Q6 b p,lev⟩]))] 4 3) [iG 0] [hmu [1] 4 (aa6 h.fresh N.length),Tn 231 az 392 N ⟨o,i,Q6 b p,lev⟩ aa] [hc (el (N++[⟨o,i,Q6 b p,lev⟩])),hc (cf (CW m i N.length)),hc (az.imm (N++[⟨o,i,Q6 b p,lev⟩]))] (ρ:=rI 3++[(3,5)]) (kd:=[(3,.row)])
end
theorem ZB(l:LP):∀g∈l.flatMap bv,∃v,g= .lit v:=Gj (λx g hg=>by simp only[bv,EY,Lv,or_false] at hg;rcases hg with rfl|rfl|rfl|rfl|rfl<;>exact⟨_,rfl⟩) l
theorem W8{cs:LP}(h:xf cs):jg prog gl 64 [aE bv cs] [] 0 (.ref 0 0) [(0,oG cs 0 2),(1,oM ⟨[],0⟩),(2,zQ [])] 3:=by
 have hcl:Ef cs=some cs:=by unfold Ef aT;rw[Bx (by have:=h.1;simp;omega)];rfl
 refine pP func64 ?_;exact mt .ret (s0 15 gl [(2,.ref 0 0)] [(0,oG cs 0 2),(1,oM ⟨[],0⟩),(2,zQ [])] 3 0) [.ref 0 0] [ho 5 [aE bv cs] [] (tn gl hcl) (ZB _),hz 13 [0] (wS (i:=0) (c:=3) aH (Lh gl h) (aG 20 _ aH) (bT.imm cs) Cd (by rfl) (w5 (zr wZ)))] [hc (bT.al cs),hc (cf ⟨[],0⟩),hc (az.imm [])]
abbrev frG(r:AB):Fr:=[(1,.ptr (aI r) 0),(3,.ref 0 0)]
structure Adc (r:AB) (ms:Nat->Hj) (N:Hl):Prop where
 srt:xf r.Cards
 sml:r.L.length<=1000
 len:N.length=r.L.length
 m0:ms 0=⟨[],0⟩
 step:∀(k:Nat) (o:Bi),r.L[k]?=some o->jg prog fI 15 [.ref 0 0,.agg (aJ o)] [(0,oG r.Cards k 2),(1,oM (ms k)),(2,zQ (N.take k))] 3 (iG 0) [(0,oG r.Cards (k+1) 3),(1,oM (ms (k+1))),(3,zQ (N.take (k+1)))] 4
def AjX(n k:Nat):Option (Nat⊕Unit):=if k<n then some (.inl (k+1))else if k=n then some (.inr ())else none
theorem CX(h:n<=1000):AQ (AjX n) 0=some ():=T.eq (T.loop (λk=>k<=n) (λk=>n-k) aa aa λk hk=>by
 unfold AjX;split
 .exact .some ⟨aa,aa⟩
 .rw[Bx aa];exact .some rfl)
theorem ZC{r:AB}{ms:Nat->Hj}{N:Hl}(h:Adc r ms N):jg prog fI 23 [.agg (aI r)] [] 0 (.ref 0 0) [(0,oG r.Cards r.L.length 2),(1,oM (ms r.L.length)),(2,zQ (N.take r.L.length))] 3:=by
 have hn:=h.sml;refine pP func23 ?_;refine Ix 111101 (s0 26 fI (frG r) [(0,oG r.Cards r.L.length 2),(1,oM (ms r.L.length)),(2,zQ (N.take r.L.length))] 3 0) ?_ λa=>?_
 .exact mt .ret (s0 26 fI [(2,.ref 0 0)] [(0,oG r.Cards r.L.length 2),(1,oM (ms r.L.length)),(2,zQ (N.take r.L.length))] 3 0) [.ref 0 0] [] [hc (rfl:r.L.length=r.L.length),hc (cf (ms r.L.length)),hc (az.imm (N.take r.L.length))]
 have hw:jg prog fI 64 [aE bv r.Cards] [] 0 (.ref 0 0) [(0,oG r.Cards 0 2),(1,oM (ms 0)),(2,zQ [])] 3:=by rw[h.m0];exact W8 fI h.srt
 refine pN (λk:Nat=>(s0 26 fI [(1,.ptr (aI r) 0),(3,.ref 0 0),(4,iG (k:Int))] [(0,oG r.Cards k 2),(1,oM (ms k)),(2,zQ (N.take k))] 3 0)) 11110122 (CX hn) [tN 7 [] 1 [] [aE bv r.Cards] [ob 0 101 [aE bv r.Cards,.mref 2,.rsl 3 0 0],(1,oM (ms 0)),(2,zQ [])] hw trivial ⟨⟨rfl,.inl rfl⟩,⟨rfl,rfl,rfl,rfl,.inr ⟨rfl,cf _⟩⟩,⟨rfl,.inr ⟨rfl,az.imm []⟩⟩,trivial⟩] [hc (eB (gs:=aI r) aH),hc (rfl:0=0),hc (cf (ms 0)),hc (az.imm [])] (λB k v hs k5 b=>?_) [] [(0,1),(1,2),(2,3)] [(2,.row)];unfold AjX at hs;split at hs
 .rename_i hk;obtain rfl:=Bh hs;obtain⟨o,ho⟩:∃o,r.L[k]?=some o:=⟨_,EA hk⟩;have hz:aS r.L (k:Int)=some o:=by rw[au];exact ho
  exact jw [hr 14 (show decide ((k:Int)<(r.L.length:Int))=true from CM aa),AA 21 (eJ.ixZ hz),AA 22 (eJ.ptZ GN hz),tN 23 [0,1,2] 3 [(0,oG r.Cards k 2),(1,oM (ms k)),(2,zQ (N.take k))] [.ref 0 0,.agg (aJ o)] [(0,oG r.Cards (k+1) 3),(1,oM (ms (k+1))),(2,none),(3,zQ (N.take (k+1)))] (h.step k o ho) ⟨⟨rfl,.inl rfl⟩,⟨rfl,rfl,rfl,rfl,.inr ⟨rfl,cf _⟩⟩,⟨rfl,.inr ⟨rfl,az.imm _⟩⟩,trivial⟩ ⟨⟨rfl,.inl rfl⟩,⟨rfl,rfl,rfl,rfl,.inr ⟨rfl,cf _⟩⟩,⟨rfl,.inr ⟨rfl,az.imm _⟩⟩,trivial⟩,hbb 16 (Xl (q:=k) aa)] [hc (rfl:k+1=k+1),hc (cf (ms (k+1))),hc (az.imm (N.take (k+1)))] (k5 _ rfl) [] [(0,0),(1,1),(2,3)] [(2,.row)]
 .rename_i hk;split at hs
  .rename_i he;subst he;obtain rfl:=Bh hs;exact yl 111101 [hr 14 (show decide ((r.L.length:Int)<(r.L.length:Int))=false from C3 aa)] [hc (rfl:r.L.length=r.L.length),hc (cf (ms r.L.length)),hc (az.imm (N.take r.L.length))] a [] [(0,0),(1,1),(2,2)] [(2,.row)]
  .cases hs
end
section
variable {α β ρ:Type}
theorem cL{c:Bool}{a b:α}:(bif c then some a else some b)=some (bif c then a else b):=by cases c<;>rfl
theorem T.bindc{x:Option α}{f:α->Option β}{Q:β->Prop}(h:T x λ_=>True)(k:∀v,x= .some v->T (f v) Q):T (x.bind f) Q:=by obtain⟨v,e,_⟩:=h;exact .bind ⟨v,e,k v e⟩
theorem T.for1{step:Int->Option (Int⊕ρ)}{Q:ρ->Prop}(n:Nat)(J:Ga)(hn:n<2305843009213693952)(h0:J 1)(h:∀k,1<=k->k<n->J k->T (step (k:Int)) (Rd (λs'=>s'=((k+1:Nat):Int)/\J (k+1)) Q))(he:∀k,n<=k->k<=n+1->J k->T (step (k:Int)) (Rd (λ_=>False) Q)):T (AQ step 1) Q:=by
 refine T.loop (λs=>∃k:Nat,1<=k/\k<=n+1/\s=(k:Int)/\J k) (λs=>n+1-s.toNat) (by grind) cq ?_;rintro i ⟨k,h1,hk,hik,hj⟩;subst hik;rcases JF k n with hlt|hge
 .refine(h k h1 hlt hj).mono λr hr=>?_;cases r with
  |inl s'=>refine⟨⟨k+1,aa,aa,hr.1,hr.2⟩,?_⟩;rw[hr.1];simp;omega
  |inr r=>exact hr
 .refine(he k hge hk hj).mono λr hr=>?_;cases r with
  |inl s'=>exact hr.elim
  |inr r=>exact hr
theorem T.search{step:Int->Option (Int⊕(Unit⊕ρ))}(l:List α)(p:α->Bool)(g:Nat->α->ρ)(hn:l.length<2305843009213693952)(h:∀(k:Nat) (x:α),l[k]?= .some x->k<l.length->step (k:Int)= .some (bif p x then .inr (.inr (g k x))else .inl ((k+1:Nat):Int)))(he:step (l.length:Int)= .some (.inr (.inl ()))):T (AQ step 0) (λr=>(r= .inl ()/\∀x∈l,p x=false)\/∃k x,l[k]?= .some x/\p x=true/\r= .inr (g k x)/\∀(j:Nat) (y:α),j<k->l[j]?= .some y->p y=false):=by
 refine T.forI l.length (λk=>∀(j:Nat) (y:α),j<k->l[j]?= .some y->p y=false) hn (by grind) (λk hk hj=>?_) λhj=>?_
 .have hx:l[k]?= .some (l[k]'hk):=EA hk;rw[h k _ hx hk];refine .some ?_;cases hp:p l[k] with
  |true=>exact .inr ⟨k,_,hx,hp,rfl,hj⟩
  |false=>constructor<;>grind
 .rw[he];refine .some (.inl ⟨rfl,λx hx=>?_⟩);grind [EO]
end
theorem gT(n a b:Int):fB n a b=some (decide (a<=n/\n<=b)):=by grind [fB]
theorem Cq(n:Nat):AL n=some (decide (n<2305843009213693951)):=by unfold AL;congr 2;grind
def l7(i:Ab):Bool:=decide (1<=i.By/\i.By<=12/\1<=i.Seq/\i.Seq<=2147483647/\i.Sum<2305843009213693951)
def Cr(n:Nat):Bool:=decide (1<=n/\n<2305843009213693951)
theorem mY(i:Ab):iM i=some (l7 i):=by grind [iM,l7,gT,Cq]
theorem kS(n:Nat):Jn n=some (Cr n):=by grind [Jn,Cr]
def yZ(b:Ho):Bool:=Cr b.To&&Cr b.Eph&&decide (b.Body<2305843009213693951)&&decide (b.Tag<2305843009213693951)
theorem Cs{l:List Ho}(hn:l.length<=1000000):T (qw l) λb=>b=l.all yZ:=by
 unfold qw;refine .bind ((T.search l (λb=> !yZ b) (λ_ _=>false) aa (λk x hx hk=>?_) ?_).mono ?_)
 .unfold qv;rw[eA hk,ax,au,hx];simp only[aL,kS,Cq];grind [yZ,aq]
 .unfold qv;rw[eF,A9]
 .rintro r (⟨rfl,h⟩|⟨k,x,hx,hp,rfl,_⟩)
  .refine .some (Eq.symm (GE.2 λx hx=>?_));have:=h x hx;simpa using this
  .refine .some (Eq.symm (Bool.eq_false_iff.2 λh=>?_));have:=GE.1 h x (bO hx);rw[this] at hp;cases hp
theorem Ip{p:α->Bool}{step:Int->Option (Int⊕(Unit⊕Bool))}{next:Unit->Fw}{rest:Bool}(l:List α)(hl:l.length<=1000000)(h:∀(k:Nat) (x:α),l[k]?=some x->x∈l->k<l.length->step (k:Int)=some (bif p x then .inl ((k+1:Nat):Int)else .inr (.inr false)))(he:step (l.length:Int)=some (.inr (.inl ())))(hn:T (next ()) λb=>b=rest):T ((AQ step 0).bind λx=>ma x next (λq=>some q)) λb=>b=(l.all p&&rest):=by
 refine .bind ((T.search l (λx=> !p x) (λ_ _=>false) aa (λk x hx hk=>?_) he).mono ?_)
 .grind
 .rintro r (⟨rfl,hr⟩|⟨k,x,hx,hp,rfl,_⟩)
  .have:l.all p=true:=by grind
   rw[this,Bool.true_and];exact hn
  .have:l.all p=false:=by grind
   rw[this,Bool.false_and];exact .some rfl
theorem Mq{p:α->Bool}{step:Int->Option (Int⊕(Unit⊕Bool))}{next:Unit->Fw}{rest:Bool}(l:List α)(hl:l.length<=1000000)(h:∀(k:Nat) (x:α),l[k]?=some x->x∈l->k<l.length->step (k:Int)=some (bif p x then .inr (.inr true)else .inl ((k+1:Nat):Int)))(he:step (l.length:Int)=some (.inr (.inl ())))(hn:T (next ()) λb=>b=rest):T ((AQ step 0).bind λx=>ma x next (λq=>some q)) λb=>b=(l.any p||rest):=by
 refine .bind ((T.search l p (λ_ _=>true) aa (λk x hx hk=>?_) he).mono ?_)
 .grind
 .rintro r (⟨rfl,hr⟩|⟨k,x,hx,hp,rfl,_⟩)
  .have:l.any p=false:=by grind
   rw[this,Bool.false_or];exact hn
  .have:l.any p=true:=by grind
   rw[this,Bool.true_or];exact .some rfl
def yb(o:Bi):Bool:=o.Guards.all (λz=>decide (1<=z/\z<=12))&&(o.Refs.all (λn=>decide (n<2305843009213693951))&&(o.Past.all l7&&(o.Path.all (λn=>Cr n.Pub&&n.Boxes.all yZ)&&(o.Hist.all (λx=>l7 x.Of)&&o.Boxes.all yZ))))
theorem KA{o:Bi}(h:Bb o):T (vw o) λb=>b=yb o:=by
 have n1:=h.nPast;have n2:=h.nPath;have a:=h.nRefs;have c:=h.nGuards;have d:=h.nHist;have f:=h.nBoxes;unfold vw yb;refine Ip o.Guards aa (λk x hx hm hk=>?_) (by unfold qB;rw[eF,A9]) (Ip o.Refs aa (λk x hx hm hk=>?_) (by unfold qA;rw[eF,A9]) (Ip o.Past aa (λk x hx hm hk=>?_) (by unfold qz;rw[eF,A9]) (Ip o.Path aa (λk x hx hm hk=>?_) (by unfold qy;rw[eF,A9]) (Ip o.Hist aa (λk x hx hm hk=>?_) (by unfold qx;rw[eF,A9]) (by grind [Cs])))))
 .grind [qB,eA,au,aq,gT]
 .grind [qA,eA,au,aq,Cq]
 .grind [qz,eA,au,aq,mY]
 .have e:=(Cs (l:=x.Boxes) (by have:=(h.path x hm).n;omega)).eq;unfold qy;grind [eA,au,aq,kS]
 grind [qx,eA,au,aq,mY]
def Ct(o:Bi):Bool:=o.Path.any (λn=>decide (12<n.Boxes.length))||(o.Hist.any (λn=>decide (208<n.Body.length))||(decide (12<o.Past.length\/5<o.Path.length\/208<o.Body.length\/8<o.Refs.length\/20<o.Hist.length\/6<o.Guards.length)||(if o.Kind=7 then !decide (1<=o.Body.length/\o.Body.length<=20)else if o.Kind=9 then decide (o.Boxes.length≠o.Guards.length)else if o.Kind=10 then !decide (1<=o.Boxes.length/\o.Boxes.length<=6)else if o.Kind=11 then decide (o.Boxes.length≠1)else false)))
theorem Iq(l:List α)(n:Nat):decide ((n:Int)<ah l)=decide (n<l.length):=decide_eq_decide.2 (by unfold ah;omega)
theorem NZ{o:Bi}(h:Bb o):T (z6 o) λb=>b=Ct o:=by
 have n1:=h.nPast;have n2:=h.nPath;have a:=h.nHist;unfold z6 Ct;refine Mq o.Path aa (λk x hx hm hk=>?_) (by unfold tV;rw[eF,A9]) (Mq o.Hist aa (λk x hx hm hk=>?_) (by unfold tU;rw[eF,A9]) ?_)
 .grind [tV,au,aq,ah]
 .grind [tU,au,aq,ah]
 .have a1:decide ((12:Int)<ah o.Past)=decide (12<o.Past.length):=Iq o.Past 12;have a2:decide ((5:Int)<ah o.Path)=decide (5<o.Path.length):=Iq o.Path 5;have a3:decide ((208:Int)<ah o.Body)=decide (208<o.Body.length):=Iq o.Body 208;have a4:decide ((8:Int)<ah o.Refs)=decide (8<o.Refs.length):=Iq o.Refs 8;have a5:decide ((20:Int)<ah o.Hist)=decide (20<o.Hist.length):=Iq o.Hist 20;have a6:decide ((6:Int)<ah o.Guards)=decide (6<o.Guards.length):=Iq o.Guards 6;have b1:decide ((1:Int)<=ah o.Body/\ah o.Body<=20)=decide (1<=o.Body.length/\o.Body.length<=20):=decide_eq_decide.2 (by unfold ah;omega);have b2:decide ((1:Int)<=ah o.Boxes/\ah o.Boxes<=6)=decide (1<=o.Boxes.length/\o.Boxes.length<=6):=decide_eq_decide.2 (by unfold ah;omega);have b3:decide (ah o.Boxes≠ah o.Guards)=decide (o.Boxes.length≠o.Guards.length):=decide_eq_decide.2 (by unfold ah;omega);have b4:decide (ah o.Boxes≠1)=decide (o.Boxes.length≠1):=decide_eq_decide.2 (by unfold ah;omega);rw[a1,a2,a3,a4,a5,a6];simp only[gT,aL,b1,b2,b3,b4,cL];refine⟨_,rfl,?_⟩;grind
def Abe(o:Bi):Bool:=(mz o).getD false
theorem Cu(o:Bi):mz o=some (Abe o):=by
 have:T (mz o) λ_=>True:=by unfold mz;repeat'(first|exact T.some trivial|(refine T.bindc ?_ λv _=>?_)|(refine T.ite (λ_=>?_) λ_=>?_))
 obtain⟨b,e,_⟩:=this;unfold Abe;rw[e];rfl
def gU(o:Bi):Bool:=(Fs o).getD false
theorem jF(o:Bi):Fs o=some (gU o):=by
 have:T (Fs o) λ_=>True:=by unfold Fs;simp only[gT,mY,kS];repeat'(first|exact T.some trivial|(refine T.bindc ?_ λv _=>?_)|(refine T.ite (λ_=>?_) λ_=>?_))
 obtain⟨b,e,_⟩:=this;unfold gU;rw[e];rfl
def dt(a b:Ab):Bool:=if a.By≠b.By then decide (a.By<b.By)else if a.Seq≠b.Seq then decide (a.Seq<b.Seq)else decide (a.Sum<b.Sum)
theorem pJ(a b:Ab):oU a b=some (dt a b):=by unfold oU dt;rw[show decide ((a.Sum:Int)<(b.Sum:Int))=decide (a.Sum<b.Sum) from decide_eq_decide.2 aa];grind
structure EH (o:Bi):Prop where
 kind:1<=o.Kind/\o.Kind<=13
 bare:Abe o=true
 numbers:gU o=true
 items:yb o=true
 long:Ct o=false
 past:∀(k:Nat) (a b:Ab),o.Past[k]?=some a->o.Past[k+1]?=some b->dt a b=true
 guards:∀(k:Nat) (a b:Int),o.Guards[k]?=some a->o.Guards[k+1]?=some b->a<b
 create:o.Past=[]↔o.Kind=1
theorem F7(h:1<=k)(h2:k<2305843009213693952):wI ((k:Int)-1)=((k-1:Nat):Int):=by grind [bM]
theorem Cv{o:Bi}(h:Bb o):T (qE o) λe=>e=0->EH o:=by
 have n1:=h.nPast;have f:=h.nGuards;unfold qE;rw[cL,aL];refine .ite (by grind [T.some]) λhk=>?_;rw[Cu,aL];refine .ite (by grind [T.some]) λhb=>?_;rw[jF,aL];refine .then (v:= !(gU o)|| !(yb o)) ?_ ?_
 .cases hn:gU o with
  |false=>exact .some rfl
  |true=>exact .then (KA h) (.some aC)
 refine .ite (by grind [T.some]) λhn=>?_;refine .then (NZ h) (.ite (by grind [T.some]) λhl=>?_);refine .bind (T.for1 o.Past.length (λk=>∀(j:Nat) (a b:Ab),j+1<k->o.Past[j]?=some a->o.Past[j+1]?=some b->dt a b=true) aa (by grind) (λk h1 hk hj=>?_) λk hge _ hj=>?_)
 .obtain⟨a0,e0⟩:∃a0,o.Past[k-1]?=some a0:=⟨_,EA aa⟩;obtain⟨a1,e1⟩:∃a1,o.Past[k]?=some a1:=⟨_,EA hk⟩;unfold qD;rw[eA hk,ax,F7 h1 aa,au,au,e0,e1,aq aa];simp only[aL,pJ];refine .ite (λ_=> .some (.some (by grind))) λc=> .some ⟨rfl,λj a b d ha hb'=>?_⟩;grind
 unfold qD;rw[show decide ((k:Int)<ah o.Past)=false from C3 (by unfold ah;omega),A9];refine .some ?_;have hpast:∀(j:Nat) (a b:Ab),o.Past[j]?=some a->o.Past[j+1]?=some b->dt a b=true:=by grind
 clear hj;refine .bind (T.for1 o.Guards.length (λk=>∀(j:Nat) (a b:Int),j+1<k->o.Guards[j]?=some a->o.Guards[j+1]?=some b->a<b) aa (by grind) (λk h1 hk hj=>?_) λk hge _ hj=>?_)
 .obtain⟨a0,e0⟩:∃a0,o.Guards[k-1]?=some a0:=⟨_,EA aa⟩;obtain⟨a1,e1⟩:∃a1,o.Guards[k]?=some a1:=⟨_,EA hk⟩;unfold qC;rw[eA hk,ax,F7 h1 aa,au,au,e0,e1,aq aa];simp only[aL];refine .dec (λ_=> .some (.some (by grind))) λc=> .some ⟨rfl,λj a b d ha hb'=>?_⟩;grind
 unfold qC;rw[show decide ((k:Int)<ah o.Guards)=false from C3 (by unfold ah;omega),A9];refine .some ?_;have hguards:∀(j:Nat) (a b:Int),o.Guards[j]?=some a->o.Guards[j+1]?=some b->a<b:=λj a b ha hb'=>hj j a b (by grind) ha hb';rw[cL,cL,cL,aL];refine .ite (by grind [T.some]) λhc=> .some λ_=>⟨?_,?_,?_,?_,hl,hpast,hguards,?_⟩
 .grind
 .simpa using hb
 .grind
 .grind
 .have e:ah o.Past=0↔o.Past=[]:=by unfold ah;simp_all
  grind
theorem KB{p:Nat}{b:CO}{s:N8}(hp:fS p)(hS:fS s.S)(hb:b.length<=1073741824):T (jJ p b s) λ_=>True:=by
 unfold jJ;have e:fV=some 2305843009213693950:=rfl;simp only[e,aL];refine .bindc ?_ λj _=>?_
 .grind [T.some]
 .refine .ite (λ_=> .some trivial) λ_=>?_;refine .bind ((ka _ hS).mono (by grind [T.bind,T.mono,QE,ka,wL,T.some]))
section
variable {K:Type} [DecidableEq K]
theorem gb{k:K}:∀{l:List K} {n:Nat},bu k l=some n->l[n]?=some k/\∀j,j<n->l[j]?≠some k
 |[],n,h=>by cases h
 |x::r,n,h=>by
  unfold bu at h;split at h
  .grind
  .rename_i e;rw[DG] at h;obtain⟨a,h',rfl⟩:=h;obtain⟨h1,h2⟩:=gb h';grind
theorem jv{k:K}:∀{l:List K},bu k l=none↔k∉l
 |[]=>by simp[bu]
 |x::r=>by
  unfold bu;by_cases h:k=x
  .simp[h]
  .simp[h,jv (l:=r)]
theorem y0{k:K}{l:List K}(h:l[n]?=some k)(h2:∀j,j<n->l[j]?≠some k):bu k l=some n:=by
 cases hk:bu k l with
 |none=>grind [jv]
 |some m=>obtain⟨h3,h4⟩:=gb hk;grind
end
def gO(g:AB)(id:Ab):Int:=match bu id g.IDs with
 |none=> -1
 |some k=>(k:Int)
theorem dC(hn:g.IDs.length<=1000000)(id:Ab):fC g id=some (gO g id):=by
 unfold fC;refine T.eq (.bind ((T.search g.IDs (λx=>decide (x=id)) (λk _=>(k:Int)) aa (λk x hx hk=>?_) ?_).mono ?_))
 .grind [qF,eA,au,aq]
 .grind [qF,eF]
 .rintro r (⟨rfl,h⟩|⟨k,x,hx,hp,rfl,h⟩)
  .have:bu id g.IDs=none:=by grind [jv]
   refine .some ?_;grind [gO]
  .have hp:=DP hp;subst hp;have:bu x g.IDs=some k:=by grind [y0]
   refine .some ?_;grind [gO]
def UW:DF:=⟨0,0,0,0,0⟩
def mZ(g:AB)(d:Int):DF×Bool:=match g.Cards.find? (λc=>decide (c.Device=d)) with
 |none=>(UW,false)
 |some c=>(c,true)
theorem Cw(hn:g.Cards.length<=1000000)(d:Int):vz g d=some (mZ g d):=by
 unfold vz;refine T.eq (.bind (T.forA g.Cards.length (λk acc=>acc=UW/\∀(j:Nat) (c:DF),j<k->g.Cards[j]?=some c->c.Device≠d) aa ⟨rfl,(by grind)⟩ (λk acc hk hj=>?_) λacc hj=>?_))
 .obtain⟨c,hc⟩:∃c,g.Cards[k]?=some c:=⟨_,EA hk⟩;unfold tX;dsimp only;rw[eA hk,ax,au,hc,aL];refine .dec (λh=>?_) λh=> .some ⟨aq aa,hj.1,λj c' a b=>?_⟩
  .refine .some (.some ?_);grind [mZ,List.find?_eq_some_iff_getElem]
  grind
 .unfold tX;dsimp only;rw[eF,A9];refine .some (.some ?_);unfold mZ;have:g.Cards.find? (λc=>decide (c.Device=d))=none:=by grind [EO]
  rw[this];rfl
def QF(l:Bj)(n:Int):Bool:=l.any λx=>decide (x=n)
theorem cX{l:Bj}(hn:l.length<=1000000)(n:Int):fb l n=some (QF l n):=by unfold fb QF;refine T.eq ((Mq l hn (rest:=false) (next:=λ_=>some false) (λk x hx hm hk=>?_) ?_ (.some rfl)).mono λv hv=>by simpa using hv);all_goals grind [xq,eA,au,aq,eF]
def nA(l:AH)(n:Ab):Bool:=l.any λx=>decide (x=n)
theorem kf{l:AH}(hn:l.length<=1000000)(n:Ab):jL l n=some (nA l n):=by unfold jL nA;refine T.eq ((Mq l hn (rest:=false) (next:=λ_=>some false) (λk x hx hm hk=>?_) ?_ (.some rfl)).mono λv hv=>by simpa using hv);all_goals grind [qJ,eA,au,aq,eF]
def O9(g:AB)(i k:Nat):Bool:=((g.In[i]?).bind λr=>r[k]?).getD false
structure Fv (g:AB):Prop where
 nL:g.L.length<=200
 nI:g.IDs.length=g.L.length
 nU:g.Up.length=g.L.length
 nN:g.In.length=g.L.length
 nC:g.Cards.length<=1000
 cards:∀c∈g.Cards,Fk c.Device/\Fk c.Member/\fS c.Sign
 up:∀(i:Nat) (u:Bj),g.Up[i]?=some u->u.length<=12/\∀x∈u,0<=x/\x<(i:Int)
 rows:∀(i:Nat) (r:List Bool),g.In[i]?=some r->r.length=g.L.length
 inlt:∀i k,O9 g i k=true->k<i/\i<g.L.length
 ops:∀(i:Nat) (o:Bi),g.L[i]?=some o->Bb o/\EH o/\fS o.Sig.S
 ids:∀(i:Nat) (o:Bi) (id:Ab),g.L[i]?=some o->g.IDs[i]?=some id->pV o=some id
 nd:g.IDs.Nodup
 one:∀(i k:Nat) (u:Bj),g.Up[i]?=some u->(k:Int)∈u->O9 g i k=true
 tr:∀(i j k:Nat) (u:Bj),O9 g i j=true->g.Up[j]?=some u->(k:Int)∈u->O9 g i k=true
 la:∀(i k:Nat),O9 g i k=true->∃u,g.Up[i]?=some u/\((k:Int)∈u\/∃j v,O9 g i j=true/\g.Up[j]?=some v/\(k:Int)∈v)
def EP(g:AB)(up:Bj)(k:Nat):Prop:=(k:Int)∈up\/∃j:Nat,(j:Int)∈up/\O9 g j k=true
theorem yc(w:Fv g){up:Bj}(h1:up.length<=1000)(h2:∀x∈up,0<=x/\x<(g.L.length:Int)):T (jA g up) λr=>r.length=g.L.length/\∀k,k<g.L.length->(r[k]?=some true↔EP g up k):=by
 have nL:=w.nL;unfold jA;refine .bind (.make (by unfold ah;omega) (by unfold ah;omega) (by unfold ah;omega) ?_);have e0:wI (ah g.L-1)=(g.L.length:Int)-1:=bM (by unfold ah;omega) (by unfold ah;omega);rw[e0];have e1:(ah g.L).toNat=g.L.length:=by unfold ah;omega
 rw[e1];refine .bind (T.loop (λs=> -1<=s.2/\s.2<g.L.length/\s.1.length=g.L.length/\(∀k:Nat,k<g.L.length->s.2<k->(s.1[k]?=some true↔EP g up k))/\∀k:Nat,(k:Int)<=s.2->(s.1[k]?=some true↔∃j v,s.2<(j:Nat)/\EP g up j/\j<g.L.length/\g.Up[j]?=some v/\(k:Int)∈v)) (λs=>(s.2+1).toNat) ⟨by simp only;omega,by simp only;omega,aC,λk hk hi=>by simp only at hi;omega,λk hk=>?_⟩ (by grind) ?_)
 .simp only at hk⊢;constructor
  .intro h;rw[List.getElem?_replicate] at h;split at h<;>cases h
  .rintro⟨j,v,hj,_,hjl,_⟩;omega
 rintro⟨r,i⟩ ⟨p,i1,f,l,a⟩;simp only at p i1 f l a;unfold AJ;dsimp only;refine .dec (λhi=>?_) λhi=> .some (.some ⟨f,λk hk=>l k hk aa⟩);obtain⟨n,rfl⟩:∃n:Nat,i=(n:Int):=⟨i.toNat,aa⟩;have hn:n<g.L.length:=aa;rw[cX aa,aL];have hUp:∃u,g.Up[n]?=some u:=⟨_,EA (by rw[w.nU];exact hn)⟩;obtain⟨u,hu⟩:=hUp;obtain⟨u1,o⟩:=w.up n u hu;have hbeh:∀k,EP g up k↔((k:Int)∈up\/∃j v,EP g up j/\g.Up[j]?=some v/\(k:Int)∈v):=λk=>by
  constructor
  .rintro(h|⟨j,hj,c⟩)
   .exact .inl h
   .obtain⟨v,hv,hk|⟨m,v',h3,h4,h5⟩⟩:=w.la j k c
    .exact .inr ⟨j,v,.inl hj,hv,hk⟩
    .exact .inr ⟨m,v',.inr ⟨j,hj,h3⟩,h4,h5⟩
  .rintro(h|⟨j,v,hj|⟨m,hm,d⟩,hv,hk⟩)
   .exact .inl h
   .exact .inr ⟨j,hj,w.one j k v hv hk⟩
   .exact .inr ⟨m,hm,w.tr m j k v d hv hk⟩
 have hlt:∀(j:Nat) (v:Bj) (k:Nat),g.Up[j]?=some v->(k:Int)∈v->k<j:=λj v k hv hk=>by have:=(w.up j v hv).2 _ hk;omega
 refine .bind (T.mono (Q:=λs=>s.length=g.L.length/\(∀k:Nat,k≠n->s[k]?=r[k]?)/\(s[n]?=some true↔EP g up n)) ?_ ?_)
 .have key:(r[n]?=some true\/(n:Int)∈up)↔EP g up n:=by grind [Fv.nU]
  refine .ite (λhh=>?_) λhh=>?_
  .have hm:(n:Int)∈up:=by obtain⟨x,hx,hb⟩:=List.any_eq_true.1 hh;grind
   grind [T.set,Fm]
  grind [QF,T.some]
 .rintro s ⟨s1,s2,s3⟩;obtain⟨b,hb⟩:∃b,s[n]?=some b:=⟨_,EA aa⟩;rw[au,hb,aL];have ew:wI ((n:Int)-1)=(n:Int)-1:=bM aa aa;refine .ite (λhbt=>?_) λhbf=>?_
  .have hbt:b=true:=hbt;subst hbt;have hbn:=s3.1 hb;refine .bind (T.mono (Q:=λt=>t.length=g.L.length/\∀k:Nat,t[k]?=some true↔(s[k]?=some true\/(k:Int)∈u)) (T.forA u.length (λm t=>t.length=g.L.length/\∀k:Nat,t[k]?=some true↔(s[k]?=some true\/∃j,j<m/\u[j]?=some (k:Int))) aa ⟨s1,λk=>aC⟩ (λm t hm hj=>?_) λt hj=>?_) ?_)
   .obtain⟨x,hx⟩:∃x,u[m]?=some x:=⟨_,EA hm⟩;have e:=o x (bO hx);unfold tT;dsimp only;rw[au,hu,aL,eA hm,ax,aL,au,hx,aL];refine .bind (.set e.1 (by grind) (.some ⟨aq aa,by grind,λk=>?_⟩));obtain⟨y,rfl⟩:∃y:Nat,x=(y:Int):=⟨x.toNat,aa⟩;simp only[Fm];by_cases hk:k=y
    .grind
    .rw[List.getElem?_set_ne (Ne.symm hk),hj.2 k];grind
   .unfold tT;dsimp only;rw[au,hu,aL,eF,A9];refine .some ⟨hj.1,λk=>?_⟩;rw[hj.2 k];constructor
    .grind
    .rintro(h|h)
     .exact .inl h
     .obtain⟨j,hj'⟩:=EO h;grind
   .rintro t ⟨q,t2⟩;refine .some ⟨⟨?_,?_,q,λk hk hik=>?_,λk hk=>?_⟩,?_⟩
    .grind
    .grind
    .replace hik:wI ((n:Int)-1)<k:=hik;rw[ew] at hik;show t[k]?=some true↔_;rw[t2 k];have hku:(k:Int)∉u:=λh=>by have:=o _ h;omega
     rcases Nat.lt_trichotomy k n with h|rfl|h
     all_goals grind
    .replace hk:(k:Int)<=wI ((n:Int)-1):=hk;rw[ew] at hk;show t[k]?=some true↔∃j v,wI ((n:Int)-1)<(j:Nat)/\_;rw[ew,t2 k,s2 k aa,a k aa];grind
    .show(wI ((n:Int)-1)+1).toNat<_;rw[ew];omega
  .have hbf:b=false:=hbf;subst hbf;have hbn:¬EP g up n:=λh=>by have:=s3.2 h;rw[hb] at this;cases this
   refine .some ⟨⟨?_,?_,s1,λk hk hik=>?_,λk hk=>?_⟩,?_⟩
   .grind
   .grind
   .grind
   .replace hk:(k:Int)<=wI ((n:Int)-1):=hk;rw[ew] at hk;show s[k]?=some true↔∃j v,wI ((n:Int)-1)<(j:Nat)/\_;rw[ew,s2 k aa,a k aa];grind
   .show(wI ((n:Int)-1)+1).toNat<_;rw[ew];omega
theorem Fv.op{g:AB}(w:Fv g){i:Nat}(h:i<g.L.length):∃o,g.L[i]?=some o/\Bb o/\EH o:=by obtain⟨o,ho⟩:∃o,g.L[i]?=some o:=⟨_,EA h⟩;grind [ops]
theorem KC(w:Fv g){o:Bi}(hr:r.length=g.L.length):T (lA g o r) λ_=>True:=by
 have nL:=w.nL;unfold lA;refine .bind (T.forA g.L.length (λ_ _=>True) aa trivial (λk b hk _=>?_) λb _=>?_)
 .obtain⟨p,hp,_⟩:=w.op hk;obtain⟨x,hx⟩:∃x,r[k]?=some x:=⟨_,EA aa⟩;unfold jK;dsimp only;rw[eA hk,ax,au,au,hx,hp];simp only[aL];refine .bindc ?_ λj _=> .ite (λ_=> .some ⟨aq aa,trivial⟩) λ_=>?_
  .grind [T.some]
  .refine .ite (λ_=> .some (.some trivial)) λ_=> .bindc ?_ λj _=> .some ⟨aq aa,trivial⟩;grind [T.some]
 .unfold jK;dsimp only;rw[eF,A9];refine .some (.bindc ?_ λj _=> .some trivial);grind [T.some]
structure Mj (g:AB) (o:Bi) (up:Bj):Prop where
 check:EH o
 id:∃i,pV o=some i/\bu i g.IDs=none
 room:g.L.length<200
 card:∃c,mZ g o.By=(c,true)/\jJ c.Sign (qc o) o.Sig=some true
 create:o.Kind=1->g.L=[]
 upl:up.length=o.Past.length
 par:∀(k:Nat) (i:Ab),o.Past[k]?=some i->∃n:Nat,bu i g.IDs=some n/\up[k]?=some (n:Int)
 upb:∀x∈up,0<=x/\x<(g.L.length:Int)
 apart:∀i k:Nat,(i:Int)∈up->(k:Int)∈up->O9 g i k=false
 late:∀(i:Nat) (p:Bi),(i:Int)∈up->g.L[i]?=some p->p.At<=o.At
 right:∃r,jA g up=some r/\lA g o r=some true
theorem pK{o:Bi}(h:Ct o=false):o.Past.length<=12:=by grind [Ct]
theorem yd{d:Int}{c:DF}(h:mZ g d=(c,true)):c∈g.Cards/\c.Device=d:=by grind [mZ]
theorem wO(h:g.In[i]?=some r):O9 g i k=(r[k]?).getD false:=by unfold O9;rw[h];rfl
theorem KD(w:Fv g){o:Bi}(ho:Bb o)(hs:fS o.Sig.S):T (vA g o) λr=>r.1=0->Mj g o r.2:=by
 have nL:=w.nL;have nI:=w.nI;have nC:=w.nC;have nP:=ho.nPast;unfold vA;refine .bind ((Cv ho).mono λe he=> .dec (by grind [T.some]) λh=>?_);have hc:EH o:=he (by simpa using h);obtain⟨i,ei,i1,B,C,D⟩:=wN ho;rw[ei,aL,dC aa,aL];refine .dec (by grind [T.some]) λhpl=>?_;have hk:bu i g.IDs=none:=by grind [gO]
 refine .dec (by grind [T.some]) λhroom=>?_;have hroom:g.L.length<200:=by unfold ah at hroom;omega
 rw[Cw aa,aL];refine .ite (by grind [T.some]) λf=>?_;obtain⟨c,hcd⟩:∃c,mZ g o.By=(c,true):=by grind
 rw[hcd];refine .then (uV ho) ?_;refine .bindc (by grind [Fv,KB,yd,yY]) λsg hsg=>?_;refine .ite (by grind [T.some]) λl=>?_;have hsg:jJ c.Sign (qc o) o.Sig=some true:=by grind
 rw[cL,aL];refine .ite (by grind [T.some]) λhcr=>?_;have hcr:o.Kind=1->g.L=[]:=λh1=>by rw[CM h1,ax] at hcr;have:=Np hcr;unfold ah at this;exact List.eq_nil_of_length_eq_zero aa
 refine .bind (T.forA o.Past.length (λk acc=>acc.length=k/\(∀(j:Nat) (x:Ab),j<k->o.Past[j]?=some x->∃n:Nat,bu x g.IDs=some n/\acc[j]?=some (n:Int))/\∀x∈acc,0<=x/\x<(g.L.length:Int)) aa (by grind) (λk acc hk hj=>?_) λacc hj=>?_)
 .obtain⟨x,hx⟩:∃x,o.Past[k]?=some x:=⟨_,EA hk⟩;unfold qI;dsimp only;rw[eA hk,ax,au,hx,aL,dC aa,aL];refine .dec (λ_=> .some (.some (by grind))) λhp=>?_;have hkx:∃n,bu x g.IDs=some n:=by grind [gO]
  obtain⟨n,hn⟩:=hkx;have ep:gO g x=(n:Int):=by unfold gO;rw[hn]
  have hnl:n<g.L.length:=by have:=(cr (gb hn).1).1;omega
  rw[ep];refine .bind (.app cq (.some (by constructor<;>grind [aq])));all_goals grind
 unfold qI;dsimp only;rw[eF,A9];refine .some ?_;obtain⟨a1,a2,a3⟩:=hj;have hup:∀(k:Nat) (x:Ab),o.Past[k]?=some x->∃n:Nat,bu x g.IDs=some n/\acc[k]?=some (n:Int):=by grind
 clear a2;refine .bind (T.forI acc.length (λk=>(∀(j:Nat) (x y:Nat),j<k->acc[j]?=some (x:Int)->(y:Int)∈acc->O9 g x y=false)/\∀(j:Nat) (x:Nat) (p:Bi),j<k->acc[j]?=some (x:Int)->g.L[x]?=some p->p.At<=o.At) aa (by grind) (λk hk hj=>?_) λhj=>?_)
 .obtain⟨x,hx⟩:∃x,acc[k]?=some x:=⟨_,EA hk⟩;have s:=a3 x (bO hx);obtain⟨n,rfl⟩:∃n:Nat,x=(n:Int):=⟨x.toNat,aa⟩;have hnl:n<g.L.length:=aa;obtain⟨r,hr⟩:∃r,g.In[n]?=some r:=⟨_,EA (by rw[w.nN];exact hnl)⟩;obtain⟨p,hp,_⟩:=w.op hnl;unfold qH;rw[eA hk,ax];refine .bind (T.forI acc.length (λm=>∀(j:Nat) (y:Nat),j<m->acc[j]?=some (y:Int)->O9 g n y=false) aa (by grind) (λm hm hjm=>?_) λhjm=>?_)
  .obtain⟨y,hy⟩:∃y,acc[m]?=some y:=⟨_,EA hm⟩;have t:=a3 y (bO hy);obtain⟨q,rfl⟩:∃q:Nat,y=(q:Int):=⟨y.toNat,aa⟩;obtain⟨b,hb⟩:∃b,r[q]?=some b:=by grind [Fv.rows]
   unfold qG;rw[eA hm,ax,au,hx,aL,au,hr,aL,au,hy,aL,au,hb,aL];refine .ite (λ_=> .some (.some (.some (by grind)))) λhbf=> .some ⟨aq aa,λj z u hz=>?_⟩;rcases JF j m with hlt|hge
   .exact hjm j z hlt hz
   .obtain rfl:j=m:=aa;rw[hy] at hz;obtain rfl:q=z:=by grind
    grind [wO]
  .unfold qG;rw[eF,A9];refine .some ?_;show T (ma _ _ _) _;dsimp only[ma];rw[au,hx,aL,au,hp,aL];refine .dec (λ_=> .some (.some (by grind))) λhat=> .some ⟨aq aa,λj a y d hx' hy=>?_,λj a A d hx' hp'=>?_⟩
   .rcases JF j k with hlt|hge
    .exact hj.1 j a y hlt hx' hy
    .obtain rfl:j=k:=aa;rw[hx] at hx';obtain rfl:n=a:=by grind
     obtain⟨m,hm⟩:=EO hy;grind
   .rcases JF j k with hlt|hge
    .exact hj.2 j a A hlt hx' hp'
    .obtain rfl:j=k:=aa;rw[hx] at hx';obtain rfl:n=a:=by grind
     rw[hp] at hp';cases hp';omega
 unfold qH;rw[eF,A9];refine .some ?_;obtain⟨b1,b2⟩:=hj;obtain⟨r,hr,v,E⟩:=yc w (up:=acc) aa a3;obtain⟨b,hb,_⟩:=KC w (o:=o) v;show T (ma _ _ _) _;dsimp only[ma];rw[hr,aL,hb,aL];refine .ite (by grind [T.some]) λhbt=> .some λ_=>⟨hc,⟨i,ei,hk⟩,hroom,⟨c,hcd,hsg⟩,hcr,a1,hup,a3,λx y hx hy=>?_,λx p hx hp=>?_,⟨r,hr,?_⟩⟩
 .obtain⟨j,hj⟩:=EO hx;grind
 .obtain⟨j,hj⟩:=EO hx;grind
 grind
def pL(g:AB)(o:Bi)(i:Ab)(up:Bj)(r:List Bool):AB:=⟨g.Cards,g.L++[o],g.IDs++[i],g.Up++[up],g.In.map (·++[false])++[r++[false]]⟩
theorem je{l:List α}{x y:α}(h:(l++[x])[i]?=some y):(i<l.length/\l[i]?=some y)\/(i=l.length/\y=x):=by grind
theorem Ms{x y:α}{i:Nat}(h:l[i]?=some y):(l++[x])[i]?=some y:=by grind
theorem F8{x:α}:(l++[x])[l.length]?=some x:=aC
theorem kU(w:Fv g){o:Bi}{id:Ab}{up:Bj}(hr:r.length=g.L.length)(i k:Nat):O9 (pL g o id up r) i k=true↔(i<g.L.length/\O9 g i k=true)\/(i=g.L.length/\r[k]?=some true):=by
 have nN:=w.nN;have e:(pL g o id up r).In=g.In.map (·++[false])++[r++[false]]:=rfl;have lm:(g.In.map (·++[false])).length=g.L.length:=by rw[Hm,nN]
 have snoc:∀(l:List Bool),((l++[false])[k]?).getD false=true↔l[k]?=some true:=by grind
 rcases Nat.lt_trichotomy i g.L.length with h|h|h
 .obtain⟨row,hrow⟩:∃row,g.In[i]?=some row:=⟨_,EA aa⟩;have h1:(pL g o id up r).In[i]?=some (row++[false]):=by grind
  rw[wO h1,snoc,wO hrow];constructor
  .grind
  .rintro(⟨_,h2⟩|⟨h2,_⟩);all_goals grind
 .grind [wO]
 .have h1:(pL g o id up r).In[i]?=none:=by grind
  grind [O9]
theorem Wc(w:Fv g){o:Bi}{up:Bj}(ho:Bb o)(hs:fS o.Sig.S)(a:Mj g o up)(hid:pV o=some id)(hr:r.length=g.L.length)(hb:∀k,k<g.L.length->(r[k]?=some true↔EP g up k)):Fv (pL g o id up r):=by
 have nL:=w.nL;have nI:=w.nI;have nU:=w.nU;have nN:=w.nN;have inr:∀k,r[k]?=some true↔EP g up k:=λk=>by
  rcases JF k g.L.length with h|h
  .exact hb k h
  .constructor
   .grind
   .rintro(h2|⟨j,h2,h3⟩)
    .have:=(a.upb _ h2).2;omega
    .have:=w.inlt j k h3;omega
 have upAt:∀(j:Nat) (v:Bj),j<g.L.length->((pL g o id up r).Up[j]?=some v↔g.Up[j]?=some v):=λj v hj=>by show(g.Up++[up])[j]?=some v↔_;rw[List.getElem?_append_left aa]
 obtain⟨c,e1,e2⟩:=a.id;rw[hid] at e1;cases e1;exact{
  nL:=by show(g.L++[o]).length<=200;have:=a.room;simp;omega
  nI:=by show(g.IDs++[id]).length=(g.L++[o]).length;simp;omega
  nU:=by show(g.Up++[up]).length=(g.L++[o]).length;simp;omega
  nN:=by show(g.In.map _++[_]).length=(g.L++[o]).length;simp;omega
  nC:=w.nC
  cards:=w.cards
  up:=λi u hu=>by
   rcases je hu with⟨_,h⟩|⟨h,rfl⟩
   .exact w.up i u h
   grind [Mj,pK,EH.long]
  rows:=λi row hrow=>by
   show row.length=(g.L++[o]).length;rcases je hrow with⟨_,h⟩|⟨h,rfl⟩
   all_goals grind [Fv.rows]
  inlt:=λi k h=>by
   show k<i/\i<(g.L++[o]).length;rcases(kU w hr i k).1 h with⟨h1,h2⟩|⟨h1,h2⟩
   .have:=w.inlt i k h2;simp;omega
   grind
  ops:=λi p hp=>by
   rcases je hp with⟨_,h⟩|⟨h,rfl⟩
   all_goals grind [Fv.ops,Mj.check]
  ids:=λi p q hp hq=>by
   rcases je hp with⟨h0,h⟩|⟨h,rfl⟩
   .rcases je hq with⟨_,h'⟩|⟨h',_⟩
    all_goals grind [Fv.ids]
   .rcases je hq with⟨h',_⟩|⟨_,rfl⟩
    .omega
    .exact hid
  nd:=by show(g.IDs++[id]).Nodup;grind [Fv.nd,jv]
  one:=λi k u hu hk=>by
   rw[kU w hr];rcases je hu with⟨h0,h⟩|⟨h,rfl⟩
   .grind [Fv.one]
   .exact .inr ⟨aa,(inr k).2 (.inl hk)⟩
  tr:=λi j k v hij hv hk=>by
   rw[kU w hr];rcases(kU w hr i j).1 hij with⟨h1,h2⟩|⟨h1,h2⟩
   .have:=w.inlt i j h2;grind [Fv.tr]
   .have hj:=(cr h2).1;have b:=(upAt j v aa).1 hv;refine .inr ⟨h1,(inr k).2 ?_⟩;rcases(inr j).1 h2 with h3|⟨m,h3,h4⟩
    .exact .inr ⟨j,h3,w.one j k v b hk⟩
    .exact .inr (by grind [Fv.tr])
  la:=λi k hik=>by
   rcases(kU w hr i k).1 hik with⟨h1,h2⟩|⟨h1,h2⟩
   .grind [Fv.la,kU]
   .refine⟨up,by show(g.Up++[up])[i]?=some up;rw[h1,<-nU];exact F8,?_⟩;rcases(inr k).1 h2 with h3|⟨j,h3,h4⟩
    .exact .inl h3
    .obtain⟨v,hv,h5⟩:=w.la j k h4;have hj:=w.inlt j k h4;rcases h5 with h5|⟨m,v',h6,h7,h8⟩
     .exact .inr ⟨j,v,(kU w hr i j).2 (.inr ⟨h1,(inr j).2 (.inl h3)⟩),(upAt j v hj.2).2 hv,h5⟩
     .have hm:=w.inlt j m h6;exact .inr ⟨m,v',(kU w hr i m).2 (.inr ⟨h1,(inr m).2 (.inr ⟨j,h3,h6⟩)⟩),(upAt m v' aa).2 h7,h8⟩}
def Yr(g:AB)(o:Bi)(r:AB×Int):Prop:=(r.2≠0/\r.1=g)\/∃id up row,r.2=0/\Mj g o up/\pV o=some id/\jA g up=some row/\r.1=pL g o id up row
theorem QG(w:Fv g){o:Bi}(ho:Bb o)(hs:fS o.Sig.S):T (AO g o) λr=>Fv r.1/\Yr g o r:=by
 have nL:=w.nL;have nI:=w.nI;have nU:=w.nU;have nN:=w.nN;unfold AO;refine .bind ((KD w ho hs).mono λv hv=> .dec (λh=> .some ⟨w,.inl ⟨h,rfl⟩⟩) λh=>?_);have a:=hv (by simpa using h);have ul:v.2.length<=12:=by rw[a.upl];exact pK a.check.long
 obtain⟨row,hrow,b,c⟩:=yc w (up:=v.2) aa a.upb;obtain⟨id,hid,_⟩:=a.id;rw[hrow,aL];refine .bind (.app cq (.bind (.app cq (.bind (.app cq ?_)))));rw[hid,aL];refine .bind (.app cq (.bind (.app cq (.bind (.app cq ?_)))));refine .then (T.forE g.In [] (λx=>[x++[false]]) 1 aa (λx _=>aC) (λk acc x hx hm hk hl=>?_) λacc=>?_) ?_
 .have:=w.rows k x hx;unfold xr;dsimp only;rw[eA hk,ax,au,hx,aL];refine .bind (.app cq (.bind (.bind (.app cq (.bind (.app (by simp at hl⊢;omega) (.some (.some ⟨aq aa,?_⟩))))))));simp
 .grind [xr,eF]
 .have el:([]:List (List Bool))++g.In.flatMap (λx=>[x++[false]])=g.In.map (·++[false]):=by rw[Pu];induction g.In<;>grind
  rw[el];refine .bind (.bind (.app cq (.bind (.app cq (.some (.some ?_))))));have e:(⟨g.Cards,[]++g.L++[o],[]++g.IDs++[id],[]++g.Up++[v.2],g.In.map (·++[false])++[row++[false]]⟩:AB)=pL g o id v.2 row:=rfl;exact⟨e▸Wc w ho hs a hid b c,.inr (by grind)⟩
theorem oL{f:α->Fw}(hn:l.length<=1000000)(h:∀x∈l,f x=some false):AQ (λs1:Int=>(bif s1<ah l then((aS l s1).bind λa=>(f a).bind λb=>bif b then(some (.inr (.inr s1)))else(some (.inl (wI (s1+1)))))else(some (.inr (.inl ()))):Option (Int⊕(Unit⊕Int)))) 0=some (.inl ()):=by
 refine T.eq (T.forI (Q:=λv:Unit⊕Int=>v= .inl ()) l.length (λ_=>True) aa trivial (λk hk _=>?_) λ_=>?_)
 .rw[eA hk,ax,au,EA hk,aL,h _ (List.getElem_mem hk),aL,A9];exact .some ⟨aq aa,trivial⟩
 .rw[eF,A9];exact .some rfl
theorem SK{may:α->Fw}(hn:l.length<=1000000)(h:∀x∈l,may x=some true):Ot l may=some true:=by unfold Ot Abc Vz;rw[show AQ (K0 l (λz=>SF z may)) 0=some (.inl ()) from oL hn (by grind [SF])];rfl
structure JT (o:Bi):Prop where
 dev:o.Device≠0->o.Kind=2\/o.Kind=3\/o.Kind=11\/o.Kind=13
 old:o.Old≠0->o.Kind=13
 mem:o.Member≠0->o.Kind=3\/o.Kind=5
 role:o.Role≠0->o.Kind=2\/o.Kind=5
 path:0<ah o.Path->E0 o.Kind=some true
 ep:o.Epoch≠⟨0,0,0⟩->o.Kind=6
 n:o.N≠0->o.Kind=6
 refs:0<ah o.Refs->o.Kind=6
 body:0<ah o.Body->o.Kind=6\/o.Kind=7
 of_:o.Of≠⟨0,0,0⟩->o.Kind=7\/o.Kind=8\/o.Kind=12\/o.Kind=10\/o.Kind=11\/o.Kind=13
 gu:0<ah o.Guards->o.Kind=9
 wait:o.Wait≠0->o.Kind=9
 pub:o.Pub≠0->o.Kind=9
 need:o.Need≠0->o.Kind=9\/o.Kind=1
 box:0<ah o.Boxes->o.Kind=9\/o.Kind=10\/o.Kind=11
 hist:ah o.Hist≠0->o.Kind=2\/o.Kind=13
theorem ZD{o:Bi}(h:Abe o=true):JT o:=by
 have h:mz o=some true:=by rw[Cu,h]
 unfold mz at h;obtain⟨s,e1,h⟩:=bS h;obtain⟨t,e3,h⟩:=bS h;rcases bC h with⟨b3,h⟩|⟨b3,h⟩;· cases h
 obtain⟨u,e6,h⟩:=bS h;rcases bC h with⟨f,h⟩|⟨f,h⟩;· cases h
 obtain⟨w,e,h⟩:=bS h;rcases bC h with⟨g,h⟩|⟨g,h⟩;· cases h
 obtain⟨j12,i,h⟩:=bS h;rcases bC h with⟨a,h⟩|⟨a,h⟩;· cases h
 obtain⟨j,k,h⟩:=bS h;rcases bC h with⟨b,h⟩|⟨b,h⟩;· cases h
 obtain⟨l,m,h⟩:=bS h;rcases bC h with⟨c,h⟩|⟨c,h⟩;· cases h
 obtain⟨n,p,h⟩:=bS h;rcases bC h with⟨d,h⟩|⟨d,h⟩;· cases h
 obtain⟨q,r,h⟩:=bS h;obtain rfl:=Bh h;subst b3 f g a b c d;refine⟨λhd=>?_,λhd=>?_,λhd=>?_,λhd=>?_,λhd=>?_,λhd=>?_,λhd=>?_,λhd=>?_,λhd=>?_,λhd=>?_,λhd=>?_,λhd=>?_,λhd=>?_,λhd=>?_,λhd=>?_,λhd=>?_⟩
 .grind
 .grind
 .refine Classical.byContradiction λhc=>?_;try simp only[not_or] at hc
  simp[hd,hc] at e6
 .refine Classical.byContradiction λhc=>?_;try simp only[not_or] at hc
  simp[hd,hc] at e6
 .rw[CM hd,ax] at e;obtain⟨v,ev,e⟩:=bS e;grind
 .grind
 .grind
 .grind
 .grind
 .grind
 .grind
 .grind
 .grind
 .grind
 all_goals grind
theorem MU{kk:Nat}:∀{l:List (Nat×Bool)},(∀q∈l,q.2=true->q.1&&&kk=q.1)->La l&&&kk=La l
 |[],_=>by simp[La]
 |q::r,h=>by unfold La;rw[Nat.and_or_distrib_right,MU (l:=r) (by grind)];grind
theorem IY(ha:a<1048576)(hb:b<1048576)(h:a&&&b=a):wH (a:Int) (b:Int)=0:=by
 unfold wH;have e:BitVec.ofInt IntKind.i64.bits (a:Int)&&&BitVec.ofInt IntKind.i64.bits (b:Int)=BitVec.ofInt IntKind.i64.bits (a:Int):=by grind
 have e2:BitVec.ofInt IntKind.i64.bits (a:Int)&&& ~~~BitVec.ofInt IntKind.i64.bits (b:Int)=0:=by grind
 rw[e2];rfl
theorem Hq{n a b:Int}(h:a<=n/\n<=b):xj n a b=true:=by grind [xj]
theorem kW{i:Ab}(h:l7 i=true):Rz i=true:=by have h:=DP h;unfold Rz WV;grind [Hq]
theorem GC(h:Cr n=true):Z5 n=true:=by have h:=DP h;grind [Z5]
theorem Vl{a:Bool}{x:Fw}:((bif a then x else some false)=some true)↔(a=true/\x=some true):=by cases a<;>simp
structure OJ (o:Bi):Prop where
 by_:1<=o.By/\o.By<=12
 seq:1<=o.Seq/\o.Seq<=2147483647
 at_:0<=o.At/\o.At<=2147483647
 k1:o.Kind=1->0<=o.Need/\o.Need<=20
 k2:o.Kind=2->(1<=o.Device/\o.Device<=12)/\1<=o.Role/\o.Role<=3
 k3:o.Kind=3->((1<=o.Device/\o.Device<=12)/\o.Member=0)\/(o.Device=0/\1<=o.Member/\o.Member<=8)
 k5:o.Kind=5->(1<=o.Member/\o.Member<=8)/\1<=o.Role/\o.Role<=3
 k6:o.Kind=6->l7 o.Epoch=true/\0<=o.N/\o.N<=2147483647
 k9:o.Kind=9->(1<=o.Need/\o.Need<=ah o.Guards)/\(0<=o.Wait/\o.Wait<=2147483647)/\Cr o.Pub=true
 k11:o.Kind=11->l7 o.Of=true/\1<=o.Device/\o.Device<=12
 k13:o.Kind=13->l7 o.Of=true/\(1<=o.Device/\o.Device<=12)/\1<=o.Old/\o.Old<=12
 kr:o.Kind=7\/o.Kind=8\/o.Kind=10\/o.Kind=12->l7 o.Of=true
theorem T1{o:Bi}(h:gU o=true):OJ o:=by
 have h:Fs o=some true:=by rw[jF,h]
 unfold Fs at h;obtain⟨a,e3,h⟩:=bS h;rcases bC h with⟨b3,h⟩|⟨b3,h⟩;· cases h
 subst b3;rw[gT,gT,gT,aL,aL,aL] at e3;simp only[gT,mY,show Jn o.Pub=some (Cr o.Pub) from kS o.Pub,aL] at h;have e1:1<=o.By/\o.By<=12:=by grind
 have e2:1<=o.Seq/\o.Seq<=2147483647:=by grind
 have e4:0<=o.At/\o.At<=2147483647:=by grind
 refine⟨e1,e2,e4,λhk=>?_,λhk=>?_,λhk=>?_,λhk=>?_,λhk=>?_,λhk=>?_,λhk=>?_,λhk=>?_,λhk=>?_⟩
 .simpa[hk,Vl] using h
 .simpa[hk,Vl] using h
 .grind
 .simpa[hk,Vl] using h
 .simpa[hk,Vl] using h
 .simpa[hk,Vl] using h
 .simpa[hk,Vl] using h
 .simpa[hk,Vl] using h
 .rcases hk with hk|hk|hk|hk<;>simpa[hk,Vl] using h
def pT(K:Int):Nat:=(nG.getD K.toNat 0).toNat
theorem vj:pT 1=2064:=Cd
theorem kk2:pT 2=32793:=Cd
theorem zS:pT 3=21:=Cd
theorem yu:pT 4=16:=Cd
theorem zT:pT 5=12:=Cd
theorem zU:pT 6=480:=Cd
theorem zt:pT 7=640:=Cd
theorem zu:pT 8=512:=Cd
theorem Aw:pT 9=31744:=Cd
theorem ki:pT 10=8704:=Cd
theorem kC:pT 11=8705:=Cd
theorem km:pT 12=512:=Cd
theorem kX:pT 13=33299:=Cd
theorem ic{K:Int}(h:1<=K/\K<=13):K=1\/K=2\/K=3\/K=4\/K=5\/K=6\/K=7\/K=8\/K=9\/K=10\/K=11\/K=12\/K=13:=aa
theorem RK{K:Int}(h:E0 K=some true):K=1\/K=2\/K=3\/K=4\/K=13:=by grind [E0]
theorem W9{o:Bi}(b:JT o):∀q∈rU o,q.2=true->q.1&&&pT o.Kind=q.1:=by
 intro q hq hb;simp only[rU,EY,Lv,or_false] at hq;rcases hq with rfl|rfl|rfl|rfl|rfl|rfl|rfl|rfl|rfl|rfl|rfl|rfl|rfl|rfl|rfl|rfl
 .grind [JT.dev,kk2,zS,kC,kX]
 .grind [JT.old,kX]
 .grind [JT.mem,zS,zT]
 .grind [JT.role,kk2,zT]
 .grind [RK,JT.path,vj,kk2,zS,yu,kX]
 .grind [JT.ep,zU]
 .grind [JT.n,zU]
 .grind [JT.body,zU,zt]
 .grind [JT.refs,zU]
 .grind [JT.of_,zt,zu,ki,kC,km,kX]
 .grind [JT.gu,Aw]
 .grind [JT.need,vj,Aw]
 .grind [JT.wait,Aw]
 .grind [JT.box,Aw,ki,kC]
 all_goals grind [JT.pub,kk2,Aw,kX,JT.hist]
theorem ZE{o:Bi}(f:OJ o)(a:1<=o.Kind/\o.Kind<=13):∀q∈OC o,pT o.Kind&&&q.1≠0->q.2=true:=by
 intro q hq hne;simp only[OC,EY,Lv,or_false] at hq;rcases hq with rfl|rfl|rfl|rfl|rfl|rfl|rfl|rfl|rfl|rfl
 .rcases ic a with hk|hk|hk|hk|hk|hk|hk|hk|hk|hk|hk|hk|hk
  .simp[hk,vj] at hne
  .grind [GH,Hq,OJ.k2]
  .grind [OJ,GH,Hq]
  .simp[hk,yu] at hne
  .simp[hk,zT] at hne
  .simp[hk,zU] at hne
  .simp[hk,zt] at hne
  .simp[hk,zu] at hne
  .simp[hk,Aw] at hne
  .simp[hk,ki] at hne
  all_goals grind [OJ,GH,Hq,km]
 .rcases ic a with hk|hk|hk|hk|hk|hk|hk|hk|hk|hk|hk|hk|hk
  .simp[hk,vj] at hne
  .simp[hk,kk2] at hne
  .simp[hk,zS] at hne
  .simp[hk,yu] at hne
  .simp[hk,zT] at hne
  .simp[hk,zU] at hne
  .simp[hk,zt] at hne
  .simp[hk,zu] at hne
  .simp[hk,Aw] at hne
  .simp[hk,ki] at hne
  all_goals grind [OJ,kC,km,Hq]
 .rcases ic a with hk|hk|hk|hk|hk|hk|hk|hk|hk|hk|hk|hk|hk
  .simp[hk,vj] at hne
  .simp[hk,kk2] at hne
  .grind [OJ,GB,Hq]
  .simp[hk,yu] at hne
  .grind [GB,Hq,OJ.k5]
  .simp[hk,zU] at hne
  .simp[hk,zt] at hne
  all_goals grind [zu,Aw,ki,kC,km,kX]
 .rcases ic a with hk|hk|hk|hk|hk|hk|hk|hk|hk|hk|hk|hk|hk
  .simp[hk,vj] at hne
  .exact Hq (f.k2 hk).2
  .simp[hk,zS] at hne
  .simp[hk,yu] at hne
  .exact Hq (f.k5 hk).2
  .simp[hk,zU] at hne
  .simp[hk,zt] at hne
  all_goals grind [zu,Aw,ki,kC,km,kX]
 .rcases ic a with hk|hk|hk|hk|hk|hk|hk|hk|hk|hk|hk|hk|hk
  .simp[hk,vj] at hne
  .simp[hk,kk2] at hne
  .simp[hk,zS] at hne
  .simp[hk,yu] at hne
  .simp[hk,zT] at hne
  .exact Hq (f.k6 hk).2
  .simp[hk,zt] at hne
  all_goals grind [zu,Aw,ki,kC,km,kX]
 .rcases ic a with hk|hk|hk|hk|hk|hk|hk|hk|hk|hk|hk|hk|hk
  .simp[hk,vj] at hne
  .simp[hk,kk2] at hne
  .simp[hk,zS] at hne
  .simp[hk,yu] at hne
  .simp[hk,zT] at hne
  .simp[hk,zU] at hne
  .simp[hk,zt] at hne
  .simp[hk,zu] at hne
  .exact Hq (f.k9 hk).2.1
  all_goals grind [ki,kC,km,kX]
 .rcases ic a with hk|hk|hk|hk|hk|hk|hk|hk|hk|hk|hk|hk|hk
  .grind [OJ,Sk,Sl,Hq]
  .simp[hk,kk2] at hne
  .simp[hk,zS] at hne
  .simp[hk,yu] at hne
  .simp[hk,zT] at hne
  .simp[hk,zU] at hne
  .simp[hk,zt] at hne
  .simp[hk,zu] at hne
  .grind [Sk,Sl,Hq,OJ.k9]
  all_goals grind [ki,kC,km,kX]
 .grind [OJ,vj,kk2,zS,yu,zT,kW,zt,zu,Aw,ki,kC,km,kX]
 .grind [vj,kk2,zS,yu,zT,zU,kW,OJ.kr,Aw,OJ.k11,OJ.k13]
 grind [OJ,vj,kk2,zS,yu,zT,zU,zt,zu,GC,ki,kC,km,kX]
theorem IZ{b:Ho}(h:yZ b=true):wB b=some true:=by unfold yZ at h;simp only[bA] at h;obtain⟨⟨⟨h1,h2⟩,h3⟩,h4⟩:=h;have e3:WV b.Body=true:=CM (by have:=DP h3;omega);have e4:WV b.Tag=true:=CM (by have:=DP h4;omega);grind [wB,rV,GA,GC]
theorem T2{o:Bi}(sm:Bb o)(h:Ct o=false):FX o=some false:=by
 have n2:=sm.nPath;have a:=sm.nHist;unfold Ct at h;simp only[Bool.or_eq_false_iff] at h;obtain⟨h1,h2,h3,h4⟩:=h;have h3:=Np h3;have a1:Ot o.Path (λz=>wE z)=some true:=by grind [SK,wE,ah]
 have a2:Ot o.Hist (λz=>wF z)=some true:=by grind [SK,wF,ah]
 grind [Bb,ah,FX,ib,Hq]
theorem Ax(x y:Int):f8 x y=some (if x<y then-1 else if y<x then 1 else 0):=by grind [f8,Gd]
theorem MV(x y:Nat):fQ x y=some (if x<y then-1 else if y<x then 1 else 0):=by grind [fQ,g9]
theorem CZ{l:Bj}{k:Nat}(hl:l.length<=3)(hk:l[k]?=some (-1))(h:∀j,j<k->l[j]?=some 0):iy l=some (-1):=by
 unfold iy;refine T.eq (.bind ((T.search l (λy=>decide (y≠0)) (λ_ y=>y) aa (λk x hx hk=>?_) ?_).mono ?_))
 .grind [fm,eA,au,aq]
 .unfold fm;rw[eF,A9]
 .rintro r (⟨rfl,h0⟩|⟨k',x,hx,hp,rfl,h0⟩)
  .have:=h0 (-1) (bO hk);simp at this
  .refine .some ?_;grind
theorem MW{a b:Ab}(h:dt a b=true):pE a b=some true:=by
 unfold pE;rw[Ax,Ax,MV];simp only[aL];unfold dt at h;by_cases h1:a.By=b.By
 .rw[BB (by simp[h1])] at h;by_cases h2:a.Seq=b.Seq
  .rw[BB (by simp[h2])] at h;have h3:=DP h;rw[CZ (k:=2) aC (by simp[h3]) (by grind)];rfl
  .rw[Bx h2] at h;have h3:=DP h;rw[CZ (k:=1) aC (by simp[h3]) (by grind)];rfl
 .rw[Bx h1] at h;have h3:=DP h;rw[CZ (k:=0) aC (by simp[h3]) (by grind)];rfl
theorem RL{o:Bi}(h:EH o)(sm:Bb o):Abk o (pT o.Kind):=by
 have n1:=sm.nPast;have n2:=sm.nPath;have d:=sm.nRefs;have e:=sm.nGuards;have g:=sm.nHist;have i:=sm.nBoxes;have a:=h.kind;have kb:pT o.Kind<1048576:=by rcases ic a with hk|hk|hk|hk|hk|hk|hk|hk|hk|hk|hk|hk|hk<;>simp[hk,vj,kk2,zS,yu,zT,zU,zt,zu,Aw,ki,kC,km,kX]
 have b:=ZD h.bare;have f:=T1 h.numbers;have it:=h.items;unfold yb at it;simp only[bA,GE] at it;obtain⟨j,t2,k,l,m,p⟩:=it;have c:=MU (W9 b);exact{
  lo:=C3 aa
  hi:=C3 aa
  kind:=by rcases ic a with hk|hk|hk|hk|hk|hk|hk|hk|hk|hk|hk|hk|hk<;>(rw[hk];decide)
  kb:=kb
  bits:=by grind [IY,Nat.and_le_right]
  rg:={
   by_:=Hq f.by_
   seq:=Hq f.seq
   at_:=Hq f.at_
   ents:=ZE f a
   guards:=by grind [SK,uR,ib,Hq]
   refs:=SK aa λx hx=>by rw[GA];exact congrArg some (CM (by have:=DP (t2 x hx);omega))
   past:=by grind [SK,pS,kW]
   path:=by grind [SK,Hz.n,Bb.path,uP,rV,GC,SK,IZ]
   boxes:=by grind [SK,IZ]
   hist:=by grind [SK,uQ,pS,kW]}
  long:=T2 sm h.long
  nPast:=aa
  nGuards:=aa
  past:=by grind [MW,EH.past]
  guards:=h.guards
  create:=decide_eq_decide.2 (by have:=h.create;unfold ah;simp_all)}
theorem kY(h:l.length*b<=140737488355328):aT b [] l=some l:=by grind [aT]
theorem I0{x:α}(h:l[k]?=some x):ji l (k:Int) x=some l:=by have hk:=(cr h).1;unfold ji;rw[Bx ⟨aa,aa⟩,Fm];congr 1;apply List.ext_getElem?;grind
theorem RM{o:Bi}(sm:Bb o):pG o=some o:=by
 have n1:=sm.nPast;have n2:=sm.nPath;have b:=sm.nRefs;have c:=sm.nGuards;have d:=sm.nHist;have e:=sm.nBoxes;have f:=sm.nBody;unfold pG cU Fq dK fF dx gt fu;rw[kY aa,kY aa,kY aa,kY aa,kY aa,kY aa,kY aa];simp only[aL];have l0:AQ (jD o.Path) (o.Path,0)=some o.Path:=by
  refine T.eq (T.forA o.Path.length (λ_ a=>a=o.Path) aa rfl (λk a hk ha=>?_) λa ha=>?_)
  .subst ha;unfold jD;dsimp only;have hx:=EA hk;have hb:=(sm.path _ (List.getElem_mem hk)).n;rw[eA hk,ax,au,hx,aL];unfold dx;rw[kY aa,aL,aL,I0 hx];exact .some ⟨aq aa,rfl⟩
  .subst ha;unfold jD;dsimp only;rw[eF,A9];exact .some rfl
 have l1:AQ (jC o.Hist) (o.Hist,0)=some o.Hist:=by
  refine T.eq (T.forA o.Hist.length (λ_ a=>a=o.Hist) aa rfl (λk a hk ha=>?_) λa ha=>?_)
  .subst ha;unfold jC;dsimp only;have hx:=EA hk;have hb:=(sm.hist _ (List.getElem_mem hk)).n;rw[eA hk,ax,au,hx,aL];unfold Fq;rw[kY aa,aL,aL,I0 hx];exact .some ⟨aq aa,rfl⟩
  .subst ha;unfold jC;dsimp only;rw[eF,A9];exact .some rfl
 rw[l0,l1];rfl
def gW(s:O0)(j:Nat):Bool:=match j/64 with
 |0=>s.a0.testBit (j%64)
 |1=>s.a1.testBit (j%64)
 |2=>s.a2.testBit (j%64)
 |3=>s.a3.testBit (j%64)
 |_=>false
theorem xg(h:i<64):(gM a b).testBit i=(a.testBit i||b.testBit i):=by unfold gM;rw[Nat.testBit_or,show(18446744073709551616:Nat)=2^64 from rfl,Nat.testBit_mod_two_pow,Nat.testBit_mod_two_pow];simp[h]
theorem RN(h:i<64):(bD a b).testBit i=(a.testBit i&&b.testBit i):=by unfold bD;rw[Nat.testBit_and,show(18446744073709551616:Nat)=2^64 from rfl,Nat.testBit_mod_two_pow,Nat.testBit_mod_two_pow];simp[h]
theorem Ay(hk:k<64)(h:i<64):(I1 1 k).testBit i=decide (k=i):=by unfold I1;rw[Nat.min_eq_left aa,Nat.one_mul,show(18446744073709551616:Nat)=2^64 from rfl,Nat.testBit_mod_two_pow,Nat.testBit_two_pow];simp[h]
theorem RP(s t:O0)(j:Nat):gW (Q6 s t) j=(gW s j||gW t j):=by have h:=Nat.mod_lt j (show 64>0 by decide);unfold gW Q6;split<;>first|exact xg h|rfl
theorem T3{s:O0}(hn:n<256)(hj:j<256):gW (yt s n) j=(gW s j||decide (j=n)):=by
 have h:=Nat.mod_lt j (show 64>0 by decide);have h':=Nat.mod_lt n (show 64>0 by decide);have e:∀q:Nat,n/64=q->j/64=q->decide (n%64=j%64)=decide (j=n):=by grind
 have e':n/64≠j/64->decide (j=n)=false:=by grind
 have h4:n/64=0\/n/64=1\/n/64=2\/n/64=3:=aa;have h5:j/64=0\/j/64=1\/j/64=2\/j/64=3:=aa;unfold gW yt;rcases h4 with e1|e1|e1|e1
 .rcases h5 with e2|e2|e2|e2
  .grind [xg,Ay]
  .grind
  all_goals grind
 .rcases h5 with e2|e2|e2|e2
  .grind
  .grind [xg,Ay]
  all_goals grind
 .rcases h5 with e2|e2|e2|e2
  .grind
  .grind
  .grind [xg,Ay]
  grind
 .rcases h5 with e2|e2|e2|e2
  .grind
  .grind
  .grind
  grind [xg,Ay]
theorem OK(ha:a<18446744073709551616)(h:∀i,i<64->a.testBit i=false):a=0:=by
 apply Nat.eq_of_testBit_eq;intro i;rw[Nat.zero_testBit];rcases JF i 64 with hi|hi
 .exact h i hi
 .exact Nat.testBit_lt_two_pow (Nat.lt_of_lt_of_le ha (M1 (by grind) (Nat.pow_le_pow_right Cd hi)))
theorem T4(a b:Nat):bD a b<18446744073709551616:=by grind [bD,Nat.and_le_left]
theorem RQ{b:O0}(h:∀j,j<256->¬(gW p j=true/\gW b j=true)):ZA p b 4=z4:=by
 have w:∀(q:Nat) (x y:Nat),q<4->(∀i,i<64->gW p (64*q+i)=x.testBit i/\gW b (64*q+i)=y.testBit i)->bD x y=0:=by grind [OK,T4,RN]
 have d:∀(q i:Nat),i<64->(64*q+i)/64=q/\(64*q+i)%64=i:=λq i hi=>aa;show(⟨bD p.a0 b.a0,bD p.a1 b.a1,bD p.a2 b.a2,bD p.a3 b.a3⟩:O0)=⟨0,0,0,0⟩;rw[w 0 p.a0 b.a0 Cd λi hi=>by unfold gW;rw[(d 0 i hi).1,(d 0 i hi).2];exact⟨rfl,rfl⟩];rw[w 1 p.a1 b.a1 Cd λi hi=>by unfold gW;rw[(d 1 i hi).1,(d 1 i hi).2];exact⟨rfl,rfl⟩];rw[w 2 p.a2 b.a2 Cd λi hi=>by unfold gW;rw[(d 2 i hi).1,(d 2 i hi).2];exact⟨rfl,rfl⟩];rw[w 3 p.a3 b.a3 Cd λi hi=>by unfold gW;rw[(d 3 i hi).1,(d 3 i hi).2];exact⟨rfl,rfl⟩]
theorem Xa{s:O0}(hn:n<256):iX s (n:Int)=some (gW s n):=by
 have hd:wI (Int.tdiv (n:Int) 64)=((n/64:Nat):Int):=by grind [bM]
 have ht:Int.tmod (n:Int) 64=((n%64:Nat):Int):=by rw[Int.tmod_eq_emod_of_nonneg aa];rfl
 have hcn:wJ ((n%64:Nat):Int)=some (n%64):=by grind [wJ]
 have h:=Nat.mod_lt n (show 64>0 by decide);have key:∀y:Nat,decide (((bD (JB y (n%64)) 1:Nat):Int)=((1:Nat):Int))=y.testBit (n%64):=by grind [bD,JB]
 unfold iX;rw[hd,ht,hcn,au];have h4:n/64=0\/n/64=1\/n/64=2\/n/64=3:=aa;unfold gW;grind
end Go.Proofs.YtlimmeehdfbheaaGreatDoor
