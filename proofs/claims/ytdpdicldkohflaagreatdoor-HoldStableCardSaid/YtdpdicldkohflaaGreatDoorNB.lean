/- Texts. -/
import Derived.Test.YtdpdicldkohflaaGreatDoorSM
namespace Go.Proofs.YtdpdicldkohflaaGreatDoor
set_option linter.unusedSectionVars false
set_option linter.unusedVariables false
set_option linter.unusedSimpArgs false
open Go.RowKit Tryz
attribute [local irreducible] Tr dz Gp
variable (gl:CB)
variable {α:Type}{j k n s:Nat}{P:Bu}{x x':AB}{y:DC}{t:Bk}{a z:Int}{b label r:CY}{R:Ad}{o:Bq}{i:Ab}{fi_a1 fi_may:FuncId}{fa_a1 fa_may fc_a1 fc_may:Bn}{l:List Ha}
abbrev gU'(n:Nat):G:= .lit (.int .u64 (n:Int))
def nb(k:Nat):CY:=if h:k<128 then[UInt8.ofNat k]else UInt8.ofNat (k%128+128)::nb (k/128)
 termination_by k
 decreasing_by omega
theorem H6(h:k<128):nb k=[UInt8.ofNat k]:=by rw[nb,dif_pos h]
theorem Er(h:¬k<128):nb k=UInt8.ofNat (k%128+128)::nb (k/128):=by rw[nb,dif_neg h]
theorem Qu:∀(f k:Nat),k<128^(f+1)->(nb k).length<=f+1
 |0,k,h=>by grind [H6]
 |f+1,k,h=>by
  by_cases h1:k<128
  .rw[H6 h1];simp
  .rw[Er h1];have:=Qu f (k/128) (by grind);simp;omega
theorem ow(h:k<18446744073709551616):(nb k).length<=10:=Qu 9 k (by grind)
theorem Yj(k:Nat):nb k≠[]:=by grind [H6,Er]
theorem Yk(h:n<256):gY (UInt8.ofNat n)= .lit (.int .u8 (n:Int)):=by
 have:(UInt8.ofNat n).toNat=n:=by simp;omega
 grind
set_option maxRecDepth 100000 in
theorem V4:∀a:Fin 256,a.1|||128=a.1%128+128:=Cd
theorem Yl{x:DC}{k:IntKind}{b:Int}:b8 P .or t x y (.lit (.int k a)) (.lit (.int k b))=some (.lit (.int k (k.wrap ((BitVec.ofInt k.bits a|||BitVec.ofInt k.bits b).toNat:Nat)))):=by simp[b8,cD,eqGuard,binOp,Op.intBits,bz,db]
theorem V5{x:DC}{k:IntKind}{b:Int}:b8 P .xor t x y (.lit (.int k a)) (.lit (.int k b))=some (.lit (.int k (k.wrap ((BitVec.ofInt k.bits a^^^BitVec.ofInt k.bits b).toNat:Nat)))):=by simp[b8,cD,eqGuard,binOp,Op.intBits,bz,db]
theorem V6{x:DC}:b8 P .or t x y (.lit (.int .u8 (n:Int))) (.lit (.int .u8 128))=some (.lit (.int .u8 ((n%128+128:Nat):Int))):=by
 rw[Yl];have h:(BitVec.ofInt IntKind.u8.bits (n:Int)|||BitVec.ofInt IntKind.u8.bits 128).toNat=n%128+128:=by show(BitVec.ofInt 8 (n:Int)|||BitVec.ofInt 8 ((128:Nat):Int)).toNat=_;rw[BitVec.ofInt_natCast,BitVec.ofInt_natCast,BitVec.toNat_or,BitVec.toNat_ofNat,BitVec.toNat_ofNat];have:=V4 ⟨n%256,aa⟩;grind
 grind [wu8]
def Mk(n:Int):Nat:=if n<0 then(-(n+1)).toNat*2+1 else n.toNat*2
theorem FQ{n:Int}(h: -9223372036854775808<=n/\n<=9223372036854775807):Mk n<18446744073709551616:=by grind [Mk]
theorem Ym{x:DC}{n:Int}(h: -9223372036854775808<=n/\n<=9223372036854775807):b8 P .xor t x y (.lit (.int .u64 (IntKind.u64.wrap (IntKind.u64.wrap n*2^1)))) (.lit (.int .u64 (IntKind.u64.wrap (n.fdiv (2^63)))))=some (gU' (Mk n)):=by
 rw[V5];have h64:∀z:Int,IntKind.u64.wrap z=z%18446744073709551616:=λz=>IntKind.wrap_u64 z;congr 3;by_cases hn:n<0
 .have e1:n.fdiv (2^63)= -1:=by grind
  have e2:IntKind.u64.wrap (IntKind.u64.wrap n*2^1)=(((18446744073709551616+2*n)%18446744073709551616).toNat:Int):=by grind
  rw[e1,e2,h64 (-1)];show IntKind.u64.wrap ((BitVec.ofInt 64 _^^^BitVec.ofInt 64 ((18446744073709551615:Nat):Int)).toNat:Nat)=_;rw[BitVec.ofInt_natCast,BitVec.ofInt_natCast];have e3:BitVec.ofNat 64 18446744073709551615=BitVec.allOnes 64:=Cd;rw[e3,BitVec.xor_allOnes,BitVec.toNat_not,BitVec.toNat_ofNat,h64];grind [Mk]
 .have e1:n.fdiv (2^63)=0:=by grind
  have e2:IntKind.u64.wrap (IntKind.u64.wrap n*2^1)=((n.toNat*2:Nat):Int):=by grind
  rw[e1,e2,h64 0];show IntKind.u64.wrap ((BitVec.ofInt 64 _^^^BitVec.ofInt 64 ((0:Nat):Int)).toNat:Nat)=_;rw[BitVec.ofInt_natCast,BitVec.ofInt_natCast];grind [Mk]
theorem AjM(h:k<4611686018427387904):wI ((k:Int)+1)=((k+1:Nat):Int):=by unfold wI;rw[IntKind.wrap_i64];omega
theorem AjN{s:List α}(p:α->Bool)(hn:s.length<2305843009213693952){step:Int->Option (Int⊕(Unit⊕Int))}(hs:∀(k:Nat) (x:α),s[k]?=some x->step (k:Int)=some (if p x=true then .inr (.inr (k:Int))else .inl (wI ((k:Int)+1))))(he:step (s.length:Int)=some (.inr (.inl ()))):∃r:Unit⊕Int,AQ step 0=some r/\((r= .inl ()/\s.any p=false)\/∃j:Nat,r= .inr (j:Int)/\s.any p=true/\s.findIdx? p=some j):=by
 obtain⟨r,h1,h2⟩:T (AQ step 0) λr=>(r= .inl ()/\s.any p=false)\/∃j:Nat,r= .inr (j:Int)/\s.any p=true/\s.findIdx? p=some j:=by
  refine T.forI s.length (λk=>∀j,j<k->∀x,s[j]?=some x->p x=false) hn (λj h=>aa) (λk hk a=>?_) λa=>?_
  .obtain⟨x,hx⟩:∃x,s[k]?=some x:=⟨_,EA hk⟩;rw[hs k x hx];cases hp:p x with
   |true=>refine⟨_,rfl,.inr ⟨k,rfl,(by grind),?_⟩⟩;grind [List.findIdx?_eq_some_iff_getElem]
   |false=>refine⟨_,rfl,?_⟩;rw[BU Cd];constructor<;>grind [AjM]
  .rw[he];refine⟨_,rfl,.inl ⟨rfl,?_⟩⟩;grind [GL]
 exact⟨r,h1,h2⟩
theorem Bt{s:List α}{x:α}(h:s[k]?=some x):aS s (k:Int)=some x:=by grind [aS]
theorem C7{s:List α}{k:Nat}{x:α}(h:s[k]?=some x):decide ((k:Int)<ah s)=true:=by grind [ah]
theorem DZ{s:List α}:decide ((s.length:Int)<ah s)=false:=Dk (by unfold ah;omega)
theorem SP[DecidableEq α]{s:List α}(hn:s.length<2305843009213693952)(v:α):Aca s v=some (s.any λy=>decide (v=y)):=by
 obtain⟨r,h1,h2⟩:=AjN (s:=s) (λy=>decide (v=y)) hn (step:=aa8 s v) (by grind [aa8,C7,Bt]) (by unfold aa8;rw[DZ];rfl);unfold Aca ixT;rw[h1];rcases h2 with⟨rfl,h2⟩|⟨j,rfl,h2,_⟩<;>rw[h2]
 .rfl
 .show some (decide (0<=(j:Int)))=_;rw[C5 aa]
theorem Abu{s:List α}{f:α->Fl}{p:α->Bool}(hn:s.length<2305843009213693952)(hf:∀x∈s,f x=some (p x)):Aa6 s f=some (s.any p):=by
 obtain⟨r,h1,h2⟩:=AjN (s:=s) p hn (step:=JX s f) (by grind [JX,C7,Bt]) (by unfold JX;rw[DZ];rfl);unfold Aa6 Y0;rw[h1];rcases h2 with⟨rfl,h2⟩|⟨j,rfl,h2,_⟩<;>rw[h2]
 .rfl
 .show some (decide (0<=(j:Int)))=_;rw[C5 aa]
def AfE(m:FM Int AB):FM Int (Option AB):=⟨m.es.map λe=>(e.1,some e.2.1,e.2.2),m.clk⟩
theorem AfF(m:FM Int AB)(k:Int):(AfE m).get k=(m.get k).map some:=by unfold FM.get AfE;dsimp only;induction m.es<;>grind
theorem AhA(R:Ad)(m:Int):∀σ,bL prog σ Xh false (FM.g Jo (λx=> .ptr (Fv x) 0) R.members) (iG m)=some (npG Fv (R.members.get m)):=λσ=>by
 have h:=FM.look1 (et:=256) OY (t:=Xh) (vg:=npG Fv) (v0:=none) aH aH (AfE R.members) m (gk:=iG m) rfl σ;have e:(AfE R.members).g Jo (npG Fv)=FM.g Jo (λx=> .ptr (Fv x) 0) R.members:=by unfold FM.g AfE;simp only[Hi];rfl
 rw[e,AfF] at h;rw[h];cases R.members.get m<;>rfl
abbrev frI(a:Nat){R:Ad}{k:Int}{x:AB}(_:R.members.get k=some x):Fr:=[(a,iG k)]
theorem Vr(R:Ad)(m:Int):ba prog gl 184 [.ptr (CM R) 0,iG m] (iG (M2 R m)):=by
 have h:=AhA R m;unfold M2;cases hx:R.members.get m with
 |none=>rw[hx] at h;exact Gh func184 (Ar [hm 11 h] [])
 |some x=>rw[hx] at h;exact Gh func184 (Ar [hm 11 h] [])
def Dq(R:Ad)(o:Bq):Int×Int:=match R.members.es.find? λe=>K4 e.2.1 o.Of with
 |none=>(0,25)
 |some e=>match e.2.1.guard with
  |none=>(0,25)
  |some g=>bif g.guards.any λy=>decide (o.By=y)then(e.1,0)else(0,14)
theorem Ul(hR:Bj R)(o:Bq):TG prog gl 182 [.ref 0 0,.agg (aJ o)] (BW f0 R) 14 14 (.tup [iG (Dq R o).1,iG (Dq R o).2]) (BW f0 R):=by
 refine dFP func182 ?_;have hr2:∀a b:Int,bB (.tup [iG a,iG b]):=by grind [L7,mN]
 have hw:=Abs gl hR o.Of;unfold Dq;cases hfi:R.members.es.find? λe=>K4 e.2.1 o.Of with
 |none=>rw[show Hp R o.Of=0 by unfold Hp;rw[hfi]] at hw;have hr:=hr2 0 25;exact Hh f0 _ hR [hrr 10 f0 15 [.agg (aj o.Of)] hR hw] (Ht R hr)
 |some e=>
  have he:=List.mem_of_find?_eq_some hfi;have hg:K4 e.2.1 o.Of=true:=by have:=List.find?_some hfi;exact this
  obtain⟨hx,h3⟩:=hR.mem he;rw[show Hp R o.Of=e.1 by unfold Hp;rw[hfi]] at hw;obtain⟨k,x,n⟩:=e;dsimp only at hx h3 hw hg⊢;obtain⟨j,rfl,d⟩:∃j:Nat,k=(j:Int)/\(j=1\/j=2\/j=3):=by grind
  obtain⟨role,gd⟩:=x;cases gd with
  |none=>cases hg
  |some g=>
   have e1:=Adl d hx;have e2:=AfC d hx rfl;have hl:∀q∈[eM j ⟨role,some g⟩,eG j g],Bw f0 R q.1=some q.2:=by grind
   have hlk:=Sh hx;have c:=DD gl (SP (Nat.lt_of_le_of_lt (hR.gn _ _ _ hx rfl) Cd) o.By);dsimp only;cases hb:g.guards.any λy=>decide (o.By=y) with
   |false=>
    rw[hb] at c;have hr:=hr2 0 14;rcases d with rfl|rfl|rfl
    all_goals
     refine pO 11102140 (s0 32 gl (frI 6 hx++[(0,.ref 0 0),(3,.ref 14 0)]) (stT hl++[(14,oOp o)]) 15 14) [hrr 10 f0 15 [.agg (aj o.Of)] hR hw] (rlT (Gc f0++[(14,14)]) f0 hR hl) ?_ (ρ:=Gc f0++[(14,14)]) (kd:=N3)
     exact Hh f0 _ hR [KJ 20 hlk,hf 29 c] (XK hl hr)
   |true=>
    rw[hb] at c;have hr:=hr2 (j:Int) 0;rcases d with rfl|rfl|rfl
    all_goals
     refine pO 11102140 (s0 32 gl (frI 6 hx++[(0,.ref 0 0),(3,.ref 14 0)]) (stT hl++[(14,oOp o)]) 15 14) [hrr 10 f0 15 [.agg (aj o.Of)] hR hw] (rlT (Gc f0++[(14,14)]) f0 hR hl) ?_ (ρ:=Gc f0++[(14,14)]) (kd:=N3)
     exact Hh f0 _ hR [KJ 20 hlk,hf 29 c] (XK hl hr)
abbrev Hz(R:Ad)(k:Int)(x:AB):Ad:={R with members:=CA R.members k x}
theorem JD{R:Ad}{k:Int}{x:AB}(j:Int):(Hz R k x).members.get j=if j=k then some x else R.members.get j:=Bz _ _
theorem AjJ{k:Int}(h:R.members.get k=some x):(Hz R k x').members.es.map (·.1)=R.members.es.map (·.1):=by grind [Q4,Gq]
theorem AhB{k:Int}(h:R.members.get k=some x)(f:Nat->Nat):Sg f (Hz R k x')=Sg f R:=by
 show(⟨_,_,some (.map _ _)⟩:Ob)=⟨_,_,some (.map _ _)⟩;have key:Xi f (CA R.members k x')=Xi f R.members/\(CA R.members k x').clk=R.members.clk:=by
  unfold CA Xi;cases hk:bu k (R.members.es.map (·.1)) with
  |none=>rw[S7 hk] at h;cases h
  |some j=>obtain⟨e,he,rfl,_⟩:=M4 hk;refine⟨?_,rfl⟩;dsimp only;rw[he,List.map_set];apply List.ext_getElem?;grind
 grind
theorem Aao(hR:Bj R){k:Int}(h:R.members.get k=some x)(hv:∀g,x'.guard=some g->QN g.vouches/\(DV (R.cards.get g.id.By)).Member=k/\g.guards.length<=1000000/\(1<=g.need/\g.need<=1000000)/\∀e∈g.vouches.es,1<=e.1.by_/\e.1.by_<=6):Bj (Hz R k x'):=by
 have cas:∀(j:Int) (y:AB) (g:CD),(Hz R k x').members.get j=some y->y.guard=some g->(j=k/\x'.guard=some g)\/(R.members.get j=some y):=by grind [JD]
 refine⟨hR.ci,hR.cw,It hR.cm _,λe he=>?_,hR.c3,λj y g h1 h2=>?_,λj y g h1 h2=>?_,λj y g h1 h2=>?_,λj y g h1 h2=>?_,hR.i6,hR.c6,λj y g h1 h2=>?_⟩
 .have hk:e.1∈(Hz R k x').members.es.map (·.1):=EH.2 ⟨e,he,rfl⟩;rw[AjJ h] at hk;grind [Bj]
 .grind [Bj.cv]
 .grind [Bj.gm]
 .grind [Bj.gN]
 .rcases cas j y g h1 h2 with⟨rfl,h3⟩|h3
  .exact(hv g h3).2.2.2.2
  .exact hR.vb j y g h3 h2
 grind [Bj.gn]
theorem AfG(hx:R.members.get (k:Int)=some x)(q:Nat)(h4:q≠4+k)(h7:q≠7+k\/x'.guard=none)(h10:q≠10+k\/x'.guard=none):∀ob,Bw f0 (Hz R (k:Int) x') q=some ob->Bw f0 R q=some ob:=λob h=>by
 have hM:∀j:Nat,j≠k->roM f0 (Hz R (k:Int) x') j=roM f0 R j:=by grind [roM,JD]
 have hB:∀j:Nat,j≠k\/x'.guard=none->∀y,((Hz R (k:Int) x').members.get (j:Int)).bind (·.guard)=some y->(R.members.get (j:Int)).bind (·.guard)=some y:=by grind [JD]
 have hG:∀j:Nat,j≠k\/x'.guard=none->∀ob,roG f0 (Hz R (k:Int) x') j=some ob->roG f0 R j=some ob:=by grind [roG,DP]
 have hV:∀j:Nat,j≠k\/x'.guard=none->∀ob,roV (Hz R (k:Int) x') j=some ob->roV R j=some ob:=by grind [roV,DP]
 match q,D3 h with
 |0,_=>exact h
 |1,_=>exact h
 |2,_=>exact h
 |3,_=>exact h
 |4,_=>rw[<-h];exact congrArg some (AhB hx f0).symm
 |5,_=>rw[<-h];exact(hM 1 aa).symm
 |6,_=>rw[<-h];exact(hM 2 aa).symm
 |7,_=>rw[<-h];exact(hM 3 aa).symm
 |8,_=>exact hG 1 (h7.imp (λh=>aa) id) ob h
 |9,_=>exact hG 2 (h7.imp (λh=>aa) id) ob h
 |10,_=>exact hG 3 (h7.imp (λh=>aa) id) ob h
 |11,_=>exact hV 1 (h10.imp (λh=>aa) id) ob h
 |12,_=>exact hV 2 (h10.imp (λh=>aa) id) ob h
 |13,_=>exact hV 3 (h10.imp (λh=>aa) id) ob h
def tgU(R:Ad)(l a:List (Nat×Ob))(k:Nat):Option Ob:=match a.find? λq=>Nat.beq q.1 k with
 |some q=>some q.2
 |none=>tg R l k
theorem AjK{R':Ad}{l l':List (Nat×Ob)}(hl:∀q∈l,Bw f0 R q.1=some q.2)(a:∀q∈l',Bw f0 R' q.1=some q.2)(hs:∀q,(∀e∈l',e.1≠q)->∀ob,Bw f0 R' q=some ob->Bw f0 R q=some ob)(k:Nat):∀ob,Bw f0 R' k=some ob->tgU R l l' k=some ob:=by grind [tgU,bc,aae,Nat.beq_refl]
abbrev rlU{R R':Ad}{l l':List (Nat×Ob)}(hl:∀q∈l,Bw f0 R q.1=some q.2)(a:∀q∈l',Bw f0 R' q.1=some q.2)(hs:∀q,(∀e∈l',e.1≠q)->∀ob,Bw f0 R' q=some ob->Bw f0 R q=some ob):List HP:=hc (⟨rfl,L7 aC⟩:iU []=iU []/\bB (iU []))::L0.map λk=>hc (AjK hl a hs k)
theorem hl1{x:AB}(h3:k=1\/k=2\/k=3)(h:R.members.get (k:Int)=some x):∀q∈[eM k x],Bw f0 R q.1=some q.2:=by grind [Adl]
theorem hl3{R:Ad}{role:Int}{g:CD}(h3:k=1\/k=2\/k=3)(h:R.members.get (k:Int)=some ⟨role,some g⟩):∀q∈[eM k ⟨role,some g⟩,eG k g,eV k g],Bw f0 R q.1=some q.2:=λq hq=>by
 simp only[EY,LD,or_false] at hq;rcases hq with rfl|rfl|rfl
 .exact Adl h3 h
 all_goals grind [AfC,Al2]
theorem hs1{k:Nat}{role:Int}(hx:R.members.get (k:Int)=some x):∀q,(∀e∈[eM k (⟨role,none⟩:AB)],e.1≠q)->∀ob,Bw f0 (Hz R (k:Int) ⟨role,none⟩) q=some ob->Bw f0 R q=some ob:=λq hq=>AfG hx q (λe=>hq _ (List.mem_singleton.2 rfl) e.symm) (.inr rfl) (.inr rfl)
theorem hs3{R:Ad}{role:Int}{g:CD}(hx:R.members.get (k:Int)=some x):∀q,(∀e∈[eM k (⟨role,some g⟩:AB),eG k g,eV k g],e.1≠q)->∀ob,Bw f0 (Hz R (k:Int) ⟨role,some g⟩) q=some ob->Bw f0 R q=some ob:=λq hq=>AfG hx q (λe=>(by simp_all)) (.inl λe=>hq (eG k g) aC e.symm) (.inl λe=>hq (eV k g) aC e.symm)
def UE(R:Ad)(o:Bq):Ad:=match R.members.get o.Member with
 |none=>R
 |some x=>Hz R o.Member ⟨o.Role,x.guard⟩
theorem Adm(hR:Bj R)(o:Bq):Bj (UE R o):=by
 unfold UE;split
 .exact hR
 .rename_i x hx;exact Aao hR hx (by grind [Bj])
abbrev frP(a:Nat){R:Ad}{k:Int}{x:AB}(_:R.members.get k=some x):Fr:=[(a,.ref (nM k) 0)]
abbrev ρD:DF:=Gc f0++[(14,14),(15,15)]
theorem Acq(hR:Bj R)(hk:o.Kind=5):UR gl R o i (UE R o):=by
 have hok:=Adm hR o;refine PM gl hR ?_;have a1:decide (o.Kind=1)=false:=by rw[hk];rfl
 have a2:decide (o.Kind=2)=false:=by rw[hk];rfl
 have a3:decide (o.Kind=3)=false:=by rw[hk];rfl
 have a5:decide (o.Kind=5)=true:=by rw[hk];rfl
 unfold UE at hok⊢;cases hx:R.members.get o.Member with
 |none=>exact Hh f0 _ hR [hr 29 a1,hr 52 a2,hr 60 a3,hr 86 a5,KJ 93 (Xj hx)] (rlX (f:=f0) (R:=R))
 |some x=>
  rw[hx] at hok;have hlk:=Sh hx;obtain⟨j,hj,b⟩:∃j:Nat,o.Member=(j:Int)/\(j=1\/j=2\/j=3):=by have:=Ahv hR hx;exact⟨o.Member.toNat,aa,aa⟩
  dsimp only at hok⊢;rw[hj] at hx hok⊢;rw[show(.ref (nM o.Member) 0:G)= .ref (nM (j:Int)) 0 by rw[hj]] at hlk;obtain⟨role,gd⟩:=x;have hg':(Hz R (j:Int) ⟨o.Role,gd⟩).members.get (j:Int)=some ⟨o.Role,gd⟩:=by rw[JD,BB rfl]
  cases gd with
  |none=>
   have hl:=hl1 b hx;have a:=hl1 b hg';have hs:=hs1 (role:=o.Role) hx;rcases b with rfl|rfl|rfl
   all_goals
    refine pO 1111214141413113 (s0 259 gl (frP 9 hx++[(4,.ref 14 0)]) (stT hl++[(14,oOp o),(15,O7 i)]) 16 5) [hr 29 a1,hr 52 a2,hr 60 a3,hr 86 a5,KJ 93 hlk] (rlT ρD f0 hR hl) ?_ (ρ:=ρD) (kd:=N3)
    exact Hh f0 _ hok [] (rlU hl a hs)
  |some g=>
   have hl:=hl3 b hx;have a:=hl3 b hg';have hs:=hs3 (role:=o.Role) (g:=g) hx;rcases b with rfl|rfl|rfl
   all_goals
    refine pO 1111214141413113 (s0 259 gl (frP 9 hx++[(4,.ref 14 0)]) (stT hl++[(14,oOp o),(15,O7 i)]) 16 5) [hr 29 a1,hr 52 a2,hr 60 a3,hr 86 a5,KJ 93 hlk] (rlT ρD f0 hR hl) ?_ (ρ:=ρD) (kd:=N3)
    exact Hh f0 _ hok [] (rlU hl a hs)
def US(R:Ad)(o:Bq):Ad:=match R.members.get (DE R o.By) with
 |some ⟨role,some g⟩=>bif g.id=o.Of then Hz R (DE R o.By) ⟨role,some {g with objected:=true,last:=Ft g.last o.At}⟩else R
 |_=>R
theorem AfI(hR:Bj R)(o:Bq):Bj (US R o):=by
 unfold US;split
 .rename_i role g hx;cases decide (g.id=o.Of) with
  |false=>exact hR
  |true=>refine Aao hR hx λa hg=>?_;grind [Bj]
 .exact hR
theorem Ad8(hR:Bj R)(hk:o.Kind=12):UR gl R o i (US R o):=by
 have hok:=AfI hR o;have hrt:bB (iU []):=L7 aC;have a1:decide (o.Kind=1)=false:=by rw[hk];rfl
 have a2:decide (o.Kind=2)=false:=by rw[hk];rfl
 have a3:decide (o.Kind=3)=false:=by rw[hk];rfl
 have a5:decide (o.Kind=5)=false:=by rw[hk];rfl
 have a9:decide (o.Kind=9)=false:=by rw[hk];rfl
 have a11:decide (o.Kind=11)=false:=by rw[hk];rfl
 have a12:decide (o.Kind=12)=true:=by rw[hk];rfl
 refine dFP func107 ?_;unfold US at hok⊢;cases hx:R.members.get (DE R o.By) with
 |none=>exact Hh f0 _ hR [hof gl 24 hR o.By 16,KJ 25 (Xj hx),hr 29 a1,hr 52 a2,hr 60 a3,hr 86 a5,hr 102 a9,hr 120 a11,hr 168 a12] (rlX (f:=f0) (R:=R))
 |some x=>
  rw[hx] at hok;have hlk:=Sh hx;obtain⟨j,hj,a⟩:∃j:Nat,DE R o.By=(j:Int)/\(j=1\/j=2\/j=3):=by grind [Ahv]
  rw[hj] at hx hok hlk⊢;obtain⟨role,gd⟩:=x;cases gd with
  |none=>
   have hl:=hl1 a hx;rcases a with rfl|rfl|rfl
   all_goals
    refine pO 11112141414141414130 (s0 259 gl (frP 6 hx++[(4,.ref 14 0)]) (stT hl++[(14,oOp o),(15,O7 i)]) 16 5) [Afx gl 24 hR hj 16,KJ 25 hlk,hr 29 a1,hr 52 a2,hr 60 a3,hr 86 a5,hr 102 a9,hr 120 a11,hr 168 a12] (rlT ρD f0 hR hl) ?_ (ρ:=ρD) (kd:=N3)
    exact Hh f0 _ hR [] (XK hl hrt)
  |some g=>
   have hl:=hl3 a hx;dsimp only at hok⊢;cases hd:decide (g.id=o.Of) with
   |false=>
    rcases a with rfl|rfl|rfl
    all_goals
     refine pO 11112141414141414130 (s0 259 gl (frP 6 hx++[(4,.ref 14 0)]) (stT hl++[(14,oOp o),(15,O7 i)]) 16 5) [Afx gl 24 hR hj 16,KJ 25 hlk,hr 29 a1,hr 52 a2,hr 60 a3,hr 86 a5,hr 102 a9,hr 120 a11,hr 168 a12] (rlT ρD f0 hR hl) ?_ (ρ:=ρD) (kd:=N3)
     exact Hh f0 _ hR [hV 188 (dU g.id o.Of hd)] (XK hl hrt)
   |true=>
    rw[hd] at hok;rw[ax] at hok⊢;have b:=hl3 (R:=Hz R (j:Int) ⟨role,some {g with objected:=true,last:=Ft g.last o.At}⟩) a (by rw[JD,BB rfl]);have hs:=hs3 (role:=role) (g:={g with objected:=true,last:=Ft g.last o.At}) hx;rcases a with rfl|rfl|rfl
    all_goals
     refine pO 11112141414141414130 (s0 259 gl (frP 6 hx++[(4,.ref 14 0)]) (stT hl++[(14,oOp o),(15,O7 i)]) 16 5) [Afx gl 24 hR hj 16,KJ 25 hlk,hr 29 a1,hr 52 a2,hr 60 a3,hr 86 a5,hr 102 a9,hr 120 a11,hr 168 a12] (rlT ρD f0 hR hl) ?_ (ρ:=ρD) (kd:=N3)
     exact Hh f0 _ hok [hV 188 (dU g.id o.Of hd)] (rlU hl b hs)
theorem Al6(k:C6):Instr.sameBits 10000 (B5 k) (B5 k)=true:=by unfold B5 Hk;simp[Instr.sameBits]
abbrev XL(o:Bq):C6:=⟨o.By,o.Device⟩
def Aap(g:CD)(o:Bq):Bool:=match g.vouches.get (XL o) with
 |none=>true
 |some a=>decide (o.At<a)
abbrev Acr(g:CD)(o:Bq):CD:={g with vouches:=CA g.vouches (XL o) o.At}
def Za(R:Ad)(o:Bq):Ad:=match R.members.es.find? λe=>K4 e.2.1 o.Of with
 |some (k,⟨role,some g⟩,_)=>bif(g.guards.any λy=>decide (o.By=y))&&Aap g o then Hz R k ⟨role,some (Acr g o)⟩else R
 |_=>R
theorem AfJ(hR:Bj R)(hb:1<=o.By/\o.By<=6):Bj (Za R o):=by
 unfold Za;split
 .rename_i k role g n hf;have hx:=(hR.mem (List.mem_of_find?_eq_some hf)).1;dsimp only at hx;cases(g.guards.any λy=>decide (o.By=y))&&Aap g o with
  |false=>exact hR
  |true=>
   refine Aao hR hx λa hg=>?_;cases hg;exact⟨It (hR.cv _ _ g hx rfl) _,hR.gm _ _ g hx rfl,hR.gn _ _ g hx rfl,hR.gN _ _ g hx rfl,λe he=>by
    have hk:e.1∈(CA g.vouches (XL o) o.At).es.map (·.1):=EH.2 ⟨e,he,rfl⟩;rw[Q4] at hk;split at hk
    .grind [Bj]
    .rcases Jn.1 hk with hk|hk
     .obtain⟨y,hy,h⟩:=EH.1 hk;grind [Bj]
     grind⟩
 .exact hR
theorem lkV(g:CD)(k:C6)(q:Nat):bL prog [(10+q,some (M3 tMv B5 iG g.vouches))] tMv true (.mref (10+q)) (.agg (Nh k))=some (.tup [iG (LW (g.vouches.get k)),bG (g.vouches.get k).isSome]):=(Q2 (et:=3) KY aH (k:=k) rfl (by rw[Nw])).trans (SB g.vouches k _)
def hmr(c:Nat){P:Bu}{σ:aQ}{t:Bk}{gm gk g:G}{i:Nat}{ob:Ob}(h:dZ P σ t gm gk g=some (i,ob)):HP:=⟨some (.e 999999998 (.lit undef) i ob),dZ P (UK σ (fR gm)) t gm gk g=some (i,ob),(aba Hg).symm.trans h⟩
theorem An1(g:CD)(k:C6)(a:Int)(q:Nat):dZ prog [(10+q,some (M3 tMv B5 iG g.vouches))] tMv (.mref (10+q)) (.agg (Nh k)) (iG a)=some (10+q,M3 tMv B5 iG (CA g.vouches k a)):=Acx (et:=3) KY Al6 aH rfl (by rw[Nw]) a
theorem AfK(hR:Bj R)(hk:o.Kind=11)(l:1<=o.By/\o.By<=6):UR gl R o i (Za R o):=by
 have hok:=AfJ hR l;have hrt:bB (iU []):=L7 aC;have a1:decide (o.Kind=1)=false:=by rw[hk];rfl
 have a2:decide (o.Kind=2)=false:=by rw[hk];rfl
 have a3:decide (o.Kind=3)=false:=by rw[hk];rfl
 have a5:decide (o.Kind=5)=false:=by rw[hk];rfl
 have a9:decide (o.Kind=9)=false:=by rw[hk];rfl
 have a11:decide (o.Kind=11)=true:=by rw[hk];rfl
 refine PM gl hR ?_;have hg:=Ul gl hR o;unfold Za at hok⊢;unfold Dq at hg;cases hf:R.members.es.find? λe=>K4 e.2.1 o.Of with
 |none=>rw[hf] at hg;exact Hh f0 _ hR [hr 29 a1,hr 52 a2,hr 60 a3,hr 86 a5,hr 102 a9,hr 120 a11,hrr 124 f0 16 [.agg (aJ o)] hR hg] (rlX (f:=f0) (R:=R))
 |some e=>
  have he:=List.mem_of_find?_eq_some hf;have hh:K4 e.2.1 o.Of=true:=by have:=List.find?_some hf;exact this
  obtain⟨hx,h3⟩:=hR.mem he;rw[hf] at hg hok;obtain⟨k,x,n⟩:=e;dsimp only at hx h3 hg hh hok⊢;obtain⟨j,rfl,c⟩:∃j:Nat,k=(j:Int)/\(j=1\/j=2\/j=3):=by grind
  obtain⟨role,gd⟩:=x;cases gd with
  |none=>cases hh
  |some g=>
   dsimp only at hg hok⊢;cases hb:g.guards.any λy=>decide (o.By=y) with
   |false=>rw[hb] at hg;exact Hh f0 _ hR [hr 29 a1,hr 52 a2,hr 60 a3,hr 86 a5,hr 102 a9,hr 120 a11,hrr 124 f0 16 [.agg (aJ o)] hR hg] (rlX (f:=f0) (R:=R))
   |true=>
    rw[hb] at hg hok;rw[Bool.true_and] at hok⊢;have hl:=hl3 c hx;have hlk:=Sh hx;have b:=lkV g (XL o) j;have d:=An1 g (XL o) o.At j;have h:=hl3 (R:=Hz R (j:Int) ⟨role,some (Acr g o)⟩) c (by rw[JD,BB rfl]);have hs:=hs3 (role:=role) (g:=Acr g o) hx;unfold Aap at hok⊢;cases hv:g.vouches.get (XL o) with
    |none=>
     rw[hv] at hok b;rcases c with rfl|rfl|rfl
     all_goals
      refine pO 111121414141414131130 (s0 259 gl (frI 10 hx++[(0,.ref 0 0),(4,.ref 14 0)]) (stT hl++[(14,oOp o),(15,O7 i)]) 16 5) [hr 29 a1,hr 52 a2,hr 60 a3,hr 86 a5,hr 102 a9,hr 120 a11,hrr 124 f0 16 [.agg (aJ o)] hR hg] (rlT ρD f0 hR hl) ?_ (kd:=N3)
      exact Hh f0 _ hok [KJ 134 hlk,KJ 149 b,hmr 17 d] (rlU hl h hs)
    |some a=>
     rw[hv] at hok b;dsimp only at hok⊢;cases hat:decide (o.At<a) with
     |true=>
      rw[hat] at hok;rcases c with rfl|rfl|rfl
      all_goals
       refine pO 111121414141414131130 (s0 259 gl (frI 10 hx++[(0,.ref 0 0),(4,.ref 14 0)]) (stT hl++[(14,oOp o),(15,O7 i)]) 16 5) [hr 29 a1,hr 52 a2,hr 60 a3,hr 86 a5,hr 102 a9,hr 120 a11,hrr 124 f0 16 [.agg (aJ o)] hR hg] (rlT ρD f0 hR hl) ?_ (kd:=N3)
       exact Hh f0 _ hok [KJ 134 hlk,KJ 149 b,hr 158 hat,hmr 17 d] (rlU hl h hs)
     |false=>
      rcases c with rfl|rfl|rfl
      all_goals
       refine pO 111121414141414131130 (s0 259 gl (frI 10 hx++[(0,.ref 0 0),(4,.ref 14 0)]) (stT hl++[(14,oOp o),(15,O7 i)]) 16 5) [hr 29 a1,hr 52 a2,hr 60 a3,hr 86 a5,hr 102 a9,hr 120 a11,hrr 124 f0 16 [.agg (aJ o)] hR hg] (rlT ρD f0 hR hl) ?_ (kd:=N3)
       exact Hh f0 _ hR [KJ 134 hlk,KJ 149 b,hr 158 hat] (XK hl hrt)
abbrev An2(o:Bq)(i:Ab):CD:=⟨i,o.Guards,o.Need,o.Wait,⟨[],0⟩,false,0⟩
def Aaq(R:Ad)(o:Bq)(i:Ab):Ad:=match R.members.get (DE R o.By) with
 |none=>R
 |some x=>Hz R (DE R o.By) ⟨x.role,some (An2 o i)⟩
theorem AfL(hR:Bj R){o:Bq}(hi:i.By=o.By)(hg:o.Guards.length<=1000000)(hn:1<=o.Need/\o.Need<=1000000):Bj (Aaq R o i):=by
 unfold Aaq;split
 .exact hR
 .rename_i x hx;refine Aao hR hx λa h=>?_;cases h;exact⟨(by grind [QN,FxOk]),by show(DV (R.cards.get i.By)).Member=_;rw[hi];rfl,hg,hn,λe he=>by cases he⟩
def fGu(j q:Nat):Nat:=bif Nat.beq q (7+j)then 16 else bif Nat.beq q (10+j)then 17 else q
theorem AjL{q:Nat}(h1:q≠7+j)(h2:q≠10+j):fGu j q=q:=by grind [fGu,bc]
theorem Al7(a:∀e∈R.members.es,1<=e.1/\e.1<=3)(h3:j=1\/j=2\/j=3)(q:Nat)(h4:q≠4+j)(h7:q≠7+j)(h10:q≠10+j):Bw (fGu j) R q=Bw f0 R q:=by
 rcases Je q 14 with hlt|hge
 rotate_left
 .obtain⟨k,rfl⟩:∃k,q=k+14:=⟨q-14,aa⟩;rfl
 match q,hlt with
 |0,_=>rcases h3 with rfl|rfl|rfl<;>rfl
 |1,_=>rfl
 |2,_=>rfl
 |3,_=>rfl
 |4,_=>show some (⟨_,_,some (.map _ _)⟩:Ob)=some ⟨_,_,some (.map _ _)⟩;grind [List.map_congr_left,nM,AjL]
 |5,_=>rcases h3 with rfl|rfl|rfl<;>first|exact absurd rfl h4|rfl
 |6,_=>rcases h3 with rfl|rfl|rfl<;>first|exact absurd rfl h4|rfl
 |7,_=>rcases h3 with rfl|rfl|rfl<;>first|exact absurd rfl h4|rfl
 |8,_=>rcases h3 with rfl|rfl|rfl<;>first|exact absurd rfl h7|rfl
 |9,_=>rcases h3 with rfl|rfl|rfl<;>first|exact absurd rfl h7|rfl
 |10,_=>rcases h3 with rfl|rfl|rfl<;>first|exact absurd rfl h7|rfl
 |11,_=>rfl
 |12,_=>rfl
 |13,_=>rfl
abbrev fH{R:Ad}{k:Int}{x:AB}(_:R.members.get k=some x):Nat->Nat:=fGu k.toNat
abbrev rlG{R:Ad}{j:Nat}{x:AB}{g:CD}(h3:j=1\/j=2\/j=3)(hx:R.members.get (j:Int)=some x)(hok:Bj (Hz R (j:Int) ⟨x.role,some g⟩))(hl:∀q∈[eM j x],Bw f0 R q.1=some q.2):List HP:=hc (⟨rfl,L7 aC⟩:iU []=iU []/\bB (iU []))::L0.map λq=>
 if h4:q=4+j then hc (λob h=>(by
  have:=JD (R:=R) (k:=(j:Int)) (x:=⟨x.role,some g⟩) j;rw[BB rfl] at this;have e:Bw (fGu j) (Hz R (j:Int) ⟨x.role,some g⟩) (4+j)=some ⟨tMe,[iG x.role,.ref 16 0],none⟩:=by rcases h3 with rfl|rfl|rfl<;>exact(by show Option.map _ _=_;rw[this];rfl)
  exact e.symm.trans h):∀ob,Bw (fGu j) (Hz R (j:Int) ⟨x.role,some g⟩) (4+j)=some ob->some ⟨tMe,[iG x.role,.ref 16 0],none⟩=some ob)
 else if h7:q=7+j then hc (λob h=>(by
  have:=JD (R:=R) (k:=(j:Int)) (x:=⟨x.role,some g⟩) j;rw[BB rfl] at this;have e:Bw (fGu j) (Hz R (j:Int) ⟨x.role,some g⟩) (7+j)=some ⟨tGu,guC (fGu j) j g,none⟩:=by rcases h3 with rfl|rfl|rfl<;>exact(by show Option.map _ (Option.bind _ _)=_;rw[this];rfl)
  exact e.symm.trans h):∀ob,Bw (fGu j) (Hz R (j:Int) ⟨x.role,some g⟩) (7+j)=some ob->some ⟨tGu,guC (fGu j) j g,none⟩=some ob)
 else if h10:q=10+j then hc (λob h=>(by
  have:=JD (R:=R) (k:=(j:Int)) (x:=⟨x.role,some g⟩) j;rw[BB rfl] at this;have e:Bw (fGu j) (Hz R (j:Int) ⟨x.role,some g⟩) (10+j)=some (M3 tMv B5 iG g.vouches):=by rcases h3 with rfl|rfl|rfl<;>exact(by show Option.map _ (Option.bind _ _)=_;rw[this];rfl)
  exact e.symm.trans h):∀ob,Bw (fGu j) (Hz R (j:Int) ⟨x.role,some g⟩) (10+j)=some ob->some (M3 tMv B5 iG g.vouches)=some ob)
 else hc (λob h=>(by rw[Al7 (λe he=>hok.m3 e he) h3 q h4 h7 h10] at h;exact(aae hl q).trans (AfG hx q h4 (.inl h7) (.inl h10) ob h)):∀ob,Bw (fGu j) (Hz R (j:Int) ⟨x.role,some g⟩) q=some ob->tg R [eM j x] q=some ob)
theorem AfM(hR:Bj R)(hk:o.Kind=9)(hi:i.By=o.By)(hgl:o.Guards.length<=1000000)(hn:1<=o.Need/\o.Need<=1000000):UR gl R o i (Aaq R o i):=by
 have hok:=AfL hR (o:=o) hi hgl hn;have a1:decide (o.Kind=1)=false:=by rw[hk];rfl
 have a2:decide (o.Kind=2)=false:=by rw[hk];rfl
 have a3:decide (o.Kind=3)=false:=by rw[hk];rfl
 have a5:decide (o.Kind=5)=false:=by rw[hk];rfl
 have a9:decide (o.Kind=9)=true:=by rw[hk];rfl
 have hcl:=rZ.fo (uK gl (s:=o.Guards) (r:=o.Guards) (by unfold fF aT;rw[BB (by rw[List.length_nil];omega)];rfl));refine dFP func107 ?_;unfold Aaq at hok⊢;cases hx:R.members.get (DE R o.By) with
 |none=>exact Hh f0 _ hR [hof gl 24 hR o.By 16,KJ 25 (Xj hx),hr 29 a1,hr 52 a2,hr 60 a3,hr 86 a5,hr 102 a9] (rlX (f:=f0) (R:=R))
 |some x=>
  rw[hx] at hok;have hlk:=Sh hx;obtain⟨j,hj,a⟩:∃j:Nat,DE R o.By=(j:Int)/\(j=1\/j=2\/j=3):=by have:=Ahv hR hx;exact⟨(DE R o.By).toNat,aa,aa⟩
  rw[hj] at hx hok hlk⊢;have hl:=hl1 a hx;rcases a with rfl|rfl|rfl
  all_goals
   refine pO 11112141414141313 (s0 259 gl (frP 6 hx++[(4,.ref 14 0),(5,.ref 15 0)]) (stT hl++[(14,oOp o),(15,O7 i)]) 16 5) [Afx gl 24 hR hj 16,KJ 25 hlk,hr 29 a1,hr 52 a2,hr 60 a3,hr 86 a5,hr 102 a9] (rlT ρD f0 hR hl) ?_ (ρ:=ρD) (kd:=N3)
   exact Hh (fH hx) _ hok [hf 109 hcl] (rlG Cd hx hok hl)
abbrev AfN(R:Ad)(n:Int):Ad:={R with back:=n}
def Abt(R:Ad)(o:Bq):Ad:=bif decide ((R.was.es.length:Int)=0)&&DY R o.By then AfN (I5 R o.By 3) o.Need else R
theorem AhC(hR:Bj R)(n:Int):Bj (AfN R n):=by grind [Bj]
theorem AfO(hR:Bj R)(o:Bq):Bj (Abt R o):=by grind [Abt,AhC,Ho]
def Acs(R:Ad)(o:Bq):Bool:=bif Hp R o.Of>0 then(bif PL R o.Old then(bif DE R o.Old=Hp R o.Of then decide (DE R o.Device=Hp R o.Of)else false)else false)else false
def Zb(R:Ad)(o:Bq):Ad:=bif Acs R o then G8 (I5 R o.Device (M2 R (DE R o.Device))) o.Old else R
theorem AfP(hR:Bj R)(o:Bq):Bj (Zb R o):=by grind [Zb,Ke,Ho]
abbrev hro(d:Nat){R:Ad}(hR:Bj R)(x:Int)(c:Nat:=14):HP:=hrl d f0 c hR (Vr gl R x) Ahu (lR _)
theorem Aea(hR:Bj R)(hk:o.Kind=1):UR gl R o i (Abt R o):=by
 have hok:=AfO hR o;have a1:decide (o.Kind=1)=true:=by rw[hk];rfl
 refine PM gl hR ?_;unfold Abt at hok⊢;have hle:decide (((UF Jo bG R.was).length:Int)=0)=decide ((R.was.es.length:Int)=0):=by rw[GJ]
 cases hw:decide ((R.was.es.length:Int)=0) with
 |false=>exact Hh f0 _ hR [hr 29 a1,hr 35 (hle.trans hw)] (rlX (f:=f0) (R:=R))
 |true=>
  rw[hw] at hok;rw[Bool.true_and] at hok⊢;cases hf:DY R o.By with
  |false=>exact Hh f0 _ hR [hr 29 a1,hr 35 (hle.trans hw),hfr gl 40 hR hf 16] (rlX (f:=f0) (R:=R))
  |true=>rw[hf] at hok;exact Hh f16 _ hok [hr 29 a1,hr 35 (hle.trans hw),hfr gl 40 hR hf 16,hrw 45 f0 16 [iG o.By,iG 3] hR (Ho hR _ _) (XJ gl hR o.By 3)] (rlX (f:=f16) (R:=AfN (I5 R o.By 3) o.Need))
theorem Acu(hR:Bj R)(hk:o.Kind=13):UR gl R o i (Zb R o):=by
 have hok:=AfP hR o;have a1:decide (o.Kind=1)=false:=by rw[hk];rfl
 have a2:decide (o.Kind=2)=false:=by rw[hk];rfl
 have a3:decide (o.Kind=3)=false:=by rw[hk];rfl
 have a5:decide (o.Kind=5)=false:=by rw[hk];rfl
 have a9:decide (o.Kind=9)=false:=by rw[hk];rfl
 have a11:decide (o.Kind=11)=false:=by rw[hk];rfl
 have a12:decide (o.Kind=12)=false:=by rw[hk];rfl
 have a13:decide (o.Kind=13)=true:=by rw[hk];rfl
 refine PM gl hR ?_;have hw:=Abs gl hR o.Of;have hin:=Ahx R o.Old;unfold Zb Acs at hok⊢;generalize Hp R o.Of=w at hw hok⊢;cases b1:decide (w>0) with
 |false=>exact Hh f0 _ hR [hr 29 a1,hr 52 a2,hr 60 a3,hr 86 a5,hr 102 a9,hr 120 a11,hr 168 a12,hr 213 a13,hrr 217 f0 16 [.agg (aj o.Of)] hR hw,hr 219 b1] (rlX (f:=f0) (R:=R))
 |true=>
  rw[b1] at hok;cases b2:PL R o.Old with
  |false=>rw[b2] at hin;exact Hh f0 _ hR [hr 29 a1,hr 52 a2,hr 60 a3,hr 86 a5,hr 102 a9,hr 120 a11,hr 168 a12,hr 213 a13,hrr 217 f0 16 [.agg (aj o.Of)] hR hw,hr 219 b1,KJ 227 hin] (rlX (f:=f0) (R:=R))
  |true=>
   rw[b2] at hin hok;cases b3:decide (DE R o.Old=w) with
   |false=>exact Hh f0 _ hR [hr 29 a1,hr 52 a2,hr 60 a3,hr 86 a5,hr 102 a9,hr 120 a11,hr 168 a12,hr 213 a13,hrr 217 f0 16 [.agg (aj o.Of)] hR hw,hr 219 b1,KJ 227 hin,hof gl 233 hR o.Old 16,hr 235 b3] (rlX (f:=f0) (R:=R))
   |true=>
    rw[b3] at hok;cases b4:decide (DE R o.Device=w) with
    |false=>exact Hh f0 _ hR [hr 29 a1,hr 52 a2,hr 60 a3,hr 86 a5,hr 102 a9,hr 120 a11,hr 168 a12,hr 213 a13,hrr 217 f0 16 [.agg (aj o.Of)] hR hw,hr 219 b1,KJ 227 hin,hof gl 233 hR o.Old 16,hr 235 b3,hof gl 241 hR o.Device 16,hr 243 b4] (rlX (f:=f0) (R:=R))
    |true=>rw[b4] at hok;have h1:=Ho hR o.Device (M2 R (DE R o.Device));exact Hh (fW f16 25) _ hok [hr 29 a1,hr 52 a2,hr 60 a3,hr 86 a5,hr 102 a9,hr 120 a11,hr 168 a12,hr 213 a13,hrr 217 f0 16 [.agg (aj o.Of)] hR hw,hr 219 b1,KJ 227 hin,hof gl 233 hR o.Old 16,hr 235 b3,hof gl 241 hR o.Device 16,hr 243 b4,hof gl 252 hR o.Device 16,hro gl 253 hR (DE R o.Device) 16,hrw 254 f0 16 [iG o.Device,iG (M2 R (DE R o.Device))] hR h1 (XJ gl hR o.Device (M2 R (DE R o.Device))),hrw 258 f16 25 [iG o.Old] h1 (Ke h1 _) (Aan gl h1 o.Old)] (rlX (f:=fW f16 25) (R:=G8 (I5 R o.Device (M2 R (DE R o.Device))) o.Old))
section
set_option maxHeartbeats 2000000
def SF{α:Type}(a:α)(a1:α->Fl):Fl:=
 (a1 a).bind λv1=>some (!v1)
theorem Ce{x_:Ha}{a1:Ha->Fl}(a:Ud prog gl fi_a1 fa_a1 fc_a1 (λx:Ha=>[.agg (cz x)]) (λx:Bool=>bG x) a1):DG prog gl (SF x_ a1) 324 [.agg (cz x_),.ptr [.clo (.func fi_a1) fa_a1 fc_a1] 0] bG:=
 cy func324 λK=>ak λv1 e2=>aw [hz 6 [] (a.cs (c:=1) e2 (aY (aG 20 (.agg (cz x_)) aH) (bf)))]<|rv K
def N9{α:Type}(l:List α)(a:α->Fl):Fl:=
 (Aa6 l (λz=>SF z a)).bind λv1=>some (!v1)
theorem wA{may:Ha->Fl}(a:Ud prog gl fi_may fa_may fc_may (λx:Ha=>[.agg (cz x)]) (λx:Bool=>bG x) may):DG prog gl (N9 l may) 241 [aE cz l,.clo (.func fi_may) fa_may fc_may] bG:=
 cy func241 λK=>cN [1,0] (sf [1] [(3,.ptr [.clo (.func fi_may) fa_may fc_may] 0)]) [hc (a.im),hc (aY (a.im) (bf))]<|ak λv1 e2=>aw [hz 7 [] (jf (c:=0) aH (MI gl (⟨aH,bf,eB aH,λ_ _ e=>Ce gl a e⟩) e2) (aY (aG 20 (aE cz l) aH) (aY (aG 20 (.clo (.func 324) [] [.ptr [.clo (.func fi_may) fa_may fc_may] 0]) aH) (bf))))]<|rv K
def wB(b:Ha):Fl:=
 ((rJ b.To).bind λe=>bif e then((rJ b.Eph).bind λa=>bif a then((Kq b.Body).bind λc=>bif c then((Kq b.Tag).bind λd=>some d)else(some false))else(some false))else(some false)).bind λf=>some f
theorem Cf{b}:DG prog gl (wB b) 242 [.agg (cz b)] bG:=
 cy func242 λK=>cN [1,0] (sp [] [(1,.ref 0 0)] [ob 0 235 (cz b)] 1) []<|cC [1,0] (λa=>sk [] [(2,bG a)] [] 0) (λa=>rv K) λa k5=>ak λg e8=>kV (λc=>BG 9 (iz gl) λd=>aw [hf 5 (cF (iz gl e8) c)]<|aF 10 (BG 14 (Ak gl) λe=>aF 15 (BG 19 (Ak gl) λf=>rx k5)<|rx k5)<|rx k5) λc=>aw [hf 5 (cF (iz gl e8) c)]<|rx k5
def uP(n:Fm):Fl:=
 ((rJ n.Pub).bind λb=>bif b then((N9 n.Boxes (λz=>wB z)).bind λa=>some a)else(some false)).bind λc=>some c
theorem Du{n}:DG prog gl (uP n) 240 [.agg (bY n)] bG:=
 cy func240 λK=>cN [1,0] (sp [] [(1,.ref 0 0)] [ob 0 109 (bY n)] 1) []<|cC [1,0] (λa=>sk [] [(2,bG a)] [] 0) (λa=>rv K) λa k5=>ak λd e8=>kV (λb=>BG 9 (wA gl (⟨aH,bf,eB aH,λ_ _ e=>Cf gl e⟩)) λc=>aw [hf 5 (cF (iz gl e8) b)]<|rx k5) λb=>aw [hf 5 (cF (iz gl e8) b)]<|rx k5
def uQ(s:DR):Fl:=
 (Al s.Of).bind λv1=>some v1
theorem Dv{s}:DG prog gl (uQ s) 243 [.agg (bp s)] bG:=
 cy func243 λK=>BG 5 (pH gl) λv1=>rv K
def uR(n:Int):Fl:=
 (FV n 1 12).bind λv1=>some v1
theorem Dw{n}:DG prog gl (uR n) 244 [iG n] bG:=
 cy func244 λK=>BG 4 (eE gl) λv1=>rv K
theorem Cg{x_:Int}{a1:Int->Fl}(a:Ud prog gl fi_a1 fa_a1 fc_a1 (λx:Int=>[iG x]) (λx:Bool=>bG x) a1):DG prog gl (SF x_ a1) 325 [iG x_,.ptr [.clo (.func fi_a1) fa_a1 fc_a1] 0] bG:=
 cy func325 λK=>ak λv1 e2=>aw [hz 6 [] (a.cs (c:=0) e2 (aY (aG 20 (iG x_) aH) (bf)))]<|rv K
theorem FW{l:Bp}{may:Int->Fl}(a:Ud prog gl fi_may fa_may fc_may (λx:Int=>[iG x]) (λx:Bool=>bG x) may):DG prog gl (N9 l may) 245 [aE cZ l,.clo (.func fi_may) fa_may fc_may] bG:=
 cy func245 λK=>cN [1,0] (sf [1] [(3,.ptr [.clo (.func fi_may) fa_may fc_may] 0)]) [hc (a.im),hc (aY (a.im) (bf))]<|ak λv1 e2=>aw [hz 7 [] (jf (c:=0) aH (ml gl (⟨aH,bf,eB aH,λ_ _ e=>Cg gl a e⟩) e2) (aY (aG 20 (aE cZ l) aH) (aY (aG 20 (.clo (.func 325) [] [.ptr [.clo (.func fi_may) fa_may fc_may] 0]) aH) (bf))))]<|rv K
theorem mo:Ab8 prog gl cW (λx=>[uG x]) 384:=λs f fi_f fa_f fc_f a=>
 cy func384 λK=>O0 1101 (λg=>sg [] []) (λs1=>sf [] [(7,iG (ah s)),(8,iG s1)]) [hc (a.im)] K (λg=>rv K) λs1 k5 h k6=>aF 9 (CC 14 rW.ixZ 15 (rW.p1Y tW) λd=>ak λi e=>kV (λb=>aw [hz 16 [] (cS (a.cs (c:=0) e (aY (aG 20 (uG d) aH) (bf))) b)]<|aP c3 k6 []) λb=>aw [hz 16 [] (cS (a.cs (c:=0) e (aY (aG 20 (uG d) aH) (bf))) b)]<|cj k5 [hc (a.im)])<|aA c2 h []
theorem ku:Ab9 prog gl cW (λx=>[uG x]) 326:=λs f fi_f fa_f fc_f a=>
 cy func326 λK=>ak λv1 e2=>aw [hz 7 [] (jf (c:=0) aH (mo gl (a) e2) (aY (aG 20 (aE cW s) aH) (aY (a.im) (bf))))]<|rv K
theorem wC{x_:Nat}{a1:Nat->Fl}(a:Ud prog gl fi_a1 fa_a1 fc_a1 (λx:Nat=>[uG x]) (λx:Bool=>bG x) a1):DG prog gl (SF x_ a1) 327 [uG x_,.ptr [.clo (.func fi_a1) fa_a1 fc_a1] 0] bG:=
 cy func327 λK=>ak λv1 e2=>aw [hz 6 [] (a.cs (c:=0) e2 (aY (aG 20 (uG x_) aH) (bf)))]<|rv K
theorem zL{l:Br}{may:Nat->Fl}(a:Ud prog gl fi_may fa_may fc_may (λx:Nat=>[uG x]) (λx:Bool=>bG x) may):DG prog gl (N9 l may) 246 [aE cW l,.clo (.func fi_may) fa_may fc_may] bG:=
 cy func246 λK=>cN [1,0] (sf [1] [(3,.ptr [.clo (.func fi_may) fa_may fc_may] 0)]) [hc (a.im),hc (aY (a.im) (bf))]<|ak λv1 e2=>aw [hz 7 [] (jf (c:=0) aH (ku gl (⟨aH,bf,eB aH,λ_ _ e=>wC gl a e⟩) e2) (aY (aG 20 (aE cW l) aH) (aY (aG 20 (.clo (.func 327) [] [.ptr [.clo (.func fi_may) fa_may fc_may] 0]) aH) (bf))))]<|rv K
theorem xY{x_:Ab}{a1:Ab->Fl}(a:Ud prog gl fi_a1 fa_a1 fc_a1 (λx:Ab=>[.agg (aj x)]) (λx:Bool=>bG x) a1):DG prog gl (SF x_ a1) 328 [.agg (aj x_),.ptr [.clo (.func fi_a1) fa_a1 fc_a1] 0] bG:=
 cy func328 λK=>ak λv1 e2=>aw [hz 6 [] (a.cs (c:=1) e2 (aY (aG 20 (.agg (aj x_)) aH) (bf)))]<|rv K
theorem Ch{l:Bb}{may:Ab->Fl}(a:Ud prog gl fi_may fa_may fc_may (λx:Ab=>[.agg (aj x)]) (λx:Bool=>bG x) may):DG prog gl (N9 l may) 248 [aE aj l,.clo (.func fi_may) fa_may fc_may] bG:=
 cy func248 λK=>cN [1,0] (sf [1] [(3,.ptr [.clo (.func fi_may) fa_may fc_may] 0)]) [hc (a.im),hc (aY (a.im) (bf))]<|ak λv1 e2=>aw [hz 7 [] (jf (c:=0) aH (kP gl (⟨aH,bf,eB aH,λ_ _ e=>xY gl a e⟩) e2) (aY (aG 20 (aE aj l) aH) (aY (aG 20 (.clo (.func 328) [] [.ptr [.clo (.func fi_may) fa_may fc_may] 0]) aH) (bf))))]<|rv K
theorem oB:Ab8 prog gl bY (λx=>[.agg (bY x)]) 385:=λs f fi_f fa_f fc_f a=>
 cy func385 λK=>O0 1101 (λg=>sg [] []) (λs1=>sf [] [(7,iG (ah s)),(8,iG s1)]) [hc (a.im)] K (λg=>rv K) λs1 k5 h k6=>aF 9 (CC 14 bZ.ixZ 15 (bZ.ptZ Pc) λd=>ak λi e=>kV (λb=>aw [hz 16 [] (cS (a.cs (c:=0) e (aY (aG 20 (.agg (bY d)) aH) (bf))) b)]<|aP c3 k6 []) λb=>aw [hz 16 [] (cS (a.cs (c:=0) e (aY (aG 20 (.agg (bY d)) aH) (bf))) b)]<|cj k5 [hc (a.im)])<|aA c2 h []
theorem lV:Ab9 prog gl bY (λx=>[.agg (bY x)]) 329:=λs f fi_f fa_f fc_f a=>
 cy func329 λK=>ak λv1 e2=>aw [hz 7 [] (jf (c:=0) aH (oB gl (a) e2) (aY (aG 20 (aE bY s) aH) (aY (a.im) (bf))))]<|rv K
theorem zM{x_:Fm}{a1:Fm->Fl}(a:Ud prog gl fi_a1 fa_a1 fc_a1 (λx:Fm=>[.agg (bY x)]) (λx:Bool=>bG x) a1):DG prog gl (SF x_ a1) 330 [.agg (bY x_),.ptr [.clo (.func fi_a1) fa_a1 fc_a1] 0] bG:=
 cy func330 λK=>ak λv1 e2=>aw [hz 6 [] (a.cs (c:=1) e2 (aY (aG 20 (.agg (bY x_)) aH) (bf)))]<|rv K
theorem tK{l:List Fm}{may:Fm->Fl}(a:Ud prog gl fi_may fa_may fc_may (λx:Fm=>[.agg (bY x)]) (λx:Bool=>bG x) may):DG prog gl (N9 l may) 249 [aE bY l,.clo (.func fi_may) fa_may fc_may] bG:=
 cy func249 λK=>cN [1,0] (sf [1] [(3,.ptr [.clo (.func fi_may) fa_may fc_may] 0)]) [hc (a.im),hc (aY (a.im) (bf))]<|ak λv1 e2=>aw [hz 7 [] (jf (c:=0) aH (lV gl (⟨aH,bf,eB aH,λ_ _ e=>zM gl a e⟩) e2) (aY (aG 20 (aE bY l) aH) (aY (aG 20 (.clo (.func 330) [] [.ptr [.clo (.func fi_may) fa_may fc_may] 0]) aH) (bf))))]<|rv K
theorem mq:Ab8 prog gl bp (λx=>[.agg (bp x)]) 386:=λs f fi_f fa_f fc_f a=>
 cy func386 λK=>O0 1101 (λg=>sg [] []) (λs1=>sf [] [(7,iG (ah s)),(8,iG s1)]) [hc (a.im)] K (λg=>rv K) λs1 k5 h k6=>aF 9 (CC 14 bH.ixZ 15 (bH.ptZ GM) λd=>ak λi e=>kV (λb=>aw [hz 16 [] (cS (a.cs (c:=0) e (aY (aG 20 (.agg (bp d)) aH) (bf))) b)]<|aP c3 k6 []) λb=>aw [hz 16 [] (cS (a.cs (c:=0) e (aY (aG 20 (.agg (bp d)) aH) (bf))) b)]<|cj k5 [hc (a.im)])<|aA c2 h []
theorem kw:Ab9 prog gl bp (λx=>[.agg (bp x)]) 331:=λs f fi_f fa_f fc_f a=>
 cy func331 λK=>ak λv1 e2=>aw [hz 7 [] (jf (c:=0) aH (mq gl (a) e2) (aY (aG 20 (aE bp s) aH) (aY (a.im) (bf))))]<|rv K
theorem wD{x_:DR}{a1:DR->Fl}(a:Ud prog gl fi_a1 fa_a1 fc_a1 (λx:DR=>[.agg (bp x)]) (λx:Bool=>bG x) a1):DG prog gl (SF x_ a1) 332 [.agg (bp x_),.ptr [.clo (.func fi_a1) fa_a1 fc_a1] 0] bG:=
 cy func332 λK=>ak λv1 e2=>aw [hz 6 [] (a.cs (c:=1) e2 (aY (aG 20 (.agg (bp x_)) aH) (bf)))]<|rv K
theorem pY{l:List DR}{may:DR->Fl}(a:Ud prog gl fi_may fa_may fc_may (λx:DR=>[.agg (bp x)]) (λx:Bool=>bG x) may):DG prog gl (N9 l may) 250 [aE bp l,.clo (.func fi_may) fa_may fc_may] bG:=
 cy func250 λK=>cN [1,0] (sf [1] [(3,.ptr [.clo (.func fi_may) fa_may fc_may] 0)]) [hc (a.im),hc (aY (a.im) (bf))]<|ak λv1 e2=>aw [hz 7 [] (jf (c:=0) aH (kw gl (⟨aH,bf,eB aH,λ_ _ e=>wD gl a e⟩) e2) (aY (aG 20 (aE bp l) aH) (aY (aG 20 (.clo (.func 332) [] [.ptr [.clo (.func fi_may) fa_may fc_may] 0]) aH) (bf))))]<|rv K
def wE(n:Fm):Fl:=
 some (decide (ah n.Boxes<=12))
theorem H8{n}:DG prog gl (wE n) 251 [.agg (bY n)] bG:=
 cy func251 λK=>rv K
def wF(s:DR):Fl:=
 some (decide (ah s.Body<=208))
theorem H9{s}:DG prog gl (wF s) 252 [.agg (bp s)] bG:=
 cy func252 λK=>rv K
def FX(o:Bq):Fl:=
 (bif 12<ah o.Past then(some true)else(bif 5<ah o.Path then(some true)else((N9 o.Path (λz=>wE z)).bind λa=>bif(!a)then(some true)else(bif 208<ah o.Body then(some true)else(bif 8<ah o.Refs then(some true)else(bif 20<ah o.Hist then(some true)else((N9 o.Hist (λz=>wF z)).bind λb=>bif(!b)then(some true)else(some (decide (6<ah o.Guards)))))))))).bind λc=>bif c then(some true)else(bif o.Kind=7 then((FV (ah o.Body) 1 20).bind λd=>some (!d))else(bif o.Kind=9 then(some (decide (ah o.Boxes≠ah o.Guards)))else(bif o.Kind=10 then((FV (ah o.Boxes) 1 6).bind λe=>some (!e))else(bif o.Kind=11 then(some (decide (ah o.Boxes≠1)))else(some false)))))
theorem Es{o}:DG prog gl (FX o) 150 [.agg (aJ o)] bG:=
 cy func150 λK=>cN 111100 (sp [] [(1,.ref 0 0),(3,.clo (.func 251) [] []),(4,.clo (.func 252) [] [])] [ob 0 65 (aJ o)] 1) [hc (aG 20 (.clo (.func 251) [] []) aH),hc (aG 20 (.clo (.func 252) [] []) aH)]<|cC 111100 (λa=>sg [1] [(52,bG a)]) (λa=>eH [52] (rv K)<|aF 56 (BG 60 (eE gl) λd=>rv K)<|aF 63 (rv K)<|aF 72 (BG 76 (eE gl) λf=>rv K)<|aF 79 (rv K)<|rv K) λa k12=>aF 8 (rx k12)<|aF 14 (rx k12)<|BG 19 (tK gl (⟨aH,bf,eB aH,λ_ _ e=>H8 gl e⟩)) λb=>aF 21 (rx k12)<|aF 27 (rx k12)<|aF 33 (rx k12)<|aF 39 (rx k12)<|BG 44 (pY gl (⟨aH,bf,eB aH,λ_ _ e=>H9 gl e⟩)) λc=>aF 46 (rx k12)<|rx k12
def eR(n:Nat):Fo:=
 bif ((2305843009213693951:Nat):Int)<=((wU (((bD n 2305843009213693951:Nat):Int)+((Jq n 61:Nat):Int)):Nat):Int)then(some (wU (((wU (((bD n 2305843009213693951:Nat):Int)+((Jq n 61:Nat):Int)):Nat):Int)-((2305843009213693951:Nat):Int))))else(some (wU (((bD n 2305843009213693951:Nat):Int)+((Jq n 61:Nat):Int))))
theorem dr{n}:DG prog gl (eR n) 299 [uG n] (λr:Nat=>uG r):=
 cy func299 λK=>aw [hV 4 (ju (P:=prog) (t:=23) n 2305843009213693951),hV 6 (Uc (P:=prog) (t:=23) (k':= .u64) n 61),hbb 7 (gV ((bD n 2305843009213693951:Nat):Int) ((Jq n 61:Nat):Int))]<|aF 9 (aw [hbb 11 (YH ((wU (((bD n 2305843009213693951:Nat):Int)+((Jq n 61:Nat):Int)):Nat):Int) ((2305843009213693951:Nat):Int))]<|rv K)<|rv K
def jZ(a:Nat)(b:Nat):Fo:=
 (eR a).bind λv1=>(eR b).bind λd=>(sL v1 d).bind λc=>(eR c.2).bind λe=>(eR (wU ((e:Int)+((HB c.1 3:Nat):Int)))).bind λf=>some f
theorem j0{a b}:DG prog gl (jZ a b) 214 [uG a,uG b] (λr:Nat=>uG r):=
 cy func214 λK=>BG 9 (dr gl) λv1=>BG 11 (dr gl) λe=>BG 12 (FY gl) λc=>BG 16 (dr gl) λd=>BG 20 (dr gl) λf=>aw [hV 18 (Ks (P:=prog) (t:=23) (k':= .u64) c.1 3),hbb 19 (gV (d:Int) ((HB c.1 3:Nat):Int))]<|rv K
def iB(n:Nat)(low:Nat)(a:Nat):Fl:=
 (bif (low:Int)<=(n:Int)then(some (decide ((n:Int)<=(a:Int))))else(some false)).bind λb=>some b
theorem Gf{n low a}:DG prog gl (iB n low a) 267 [uG n,uG low,uG a] bG:=
 cy func267 λK=>cN [1,0] (sf [] []) []<|cC [1,0] (λb=>sg [] [(6,bG b)]) (λb=>rv K) λb k3=>aF 9 (rx k3)<|rx k3
def df(a:Ab)(a1:Az):Fl:=
 some ((a1.at_.get a).isSome)
theorem jk{id_ a1}:DG prog gl (df id_ a1) 161 [.agg (aj id_),.ptr [.ptr (Ag a1) 0] 0] bG:=
 cy func161 λK=>aw [hm 12 (H7 a1.at_ id_)]<|rv K
def wG(a:Nat)(b:Nat):Fo:=
 (eR a).bind λv1=>(eR b).bind λc=>(eR (wU ((v1:Int)+(c:Int)))).bind λd=>some d
theorem Ia{a b}:DG prog gl (wG a b) 387 [uG a,uG b] (λr:Nat=>uG r):=
 cy func387 λK=>BG 6 (dr gl) λv1=>BG 8 (dr gl) λc=>BG 10 (dr gl) λd=>aw [hbb 9 (gV (v1:Int) (c:Int))]<|rv K
def Oa(d:Int)(a1:Ad):Fl:=
 some (!(EQ (a1.in_.get d)))
theorem OO{d a1}:DG prog gl (Oa d a1) 441 [iG d,.ptr [.ptr (CM a1) 0] 0] bG:=
 cy func441 λK=>aw [hm 9 (QK a1.in_ d)]<|rv K
def WF(a:Ad)(o:Bq)(m:Int):JJ:=
 (Aa6 o.Guards (λz=>Oa z a)).bind λv1=>bif v1 then(some 17)else(some 0)
theorem Y2{r_ o m}:DG prog gl (WF r_ o m) 440 [.ptr (CM r_) 0,.agg (aJ o),iG m] iG:=
 cy func440 λK=>cN 1100 (sp [] [(3,.ptr [.ptr (CM r_) 0] 0),(4,.ref 0 0)] [ob 0 65 (aJ o)] 1) [hc (aY (Ah (CM r_) 0) (bf))]<|ak λv1 e2=>kV (λb3=>aw [hf 10 (cF (ml gl (⟨aH,bf,eB aH,λ_ _ e=>OO gl e⟩) e2) b3)]<|rv K) λb3=>aw [hf 10 (cF (ml gl (⟨aH,bf,eB aH,λ_ _ e=>OO gl e⟩) e2) b3)]<|rv K
end
abbrev u1(n:Nat):Option Ob:=some ⟨23,[uG n],none⟩
theorem Kt(a n:Nat):jg prog gl 213 [uG a,uG n] [] 0 (.clo (.func 298) [] [.ref 0 0,.ref 1 0]) [(0,u1 a),(1,u1 n)] 2:=by refine pP func213 ?_;exact dEf .ret (s0 6 gl [(4,.clo (.func 298) [] [.ref 0 0,.ref 1 0])] [(1,u1 n),(0,u1 a)] 2 0) [.clo (.func 298) [] [.ref 0 0,.ref 1 0]] [] (λk o hk=>by rcases k with _|_|k<;>exact hk)
def mW(s:Nat×Nat×Nat):Option ((Nat×Nat×Nat)⊕Nat):=
 bif ((0:Nat):Int)<(s.2.1:Int)then((bif ((bD s.2.1 1:Nat):Int)=((1:Nat):Int)then(jZ s.2.2 s.1)else some s.2.2).bind λo=>(jZ s.1 s.1).bind λb=>some (.inl (b,Jq s.2.1 1,o)))else some (.inr s.2.2)
def j7(a n:Nat):Fo:=(eR a).bind λv=>AQ mW (v,n,1)
noncomputable abbrev FZ:Code:=bq 111012 (ai Tryz.f123)
noncomputable abbrev tL(st:LoopState)(fr:Fr):Option Ob:=some ⟨0,[],some (.loop st none 18 fr (Dy FZ) (Dz FZ) (DA FZ))⟩
noncomputable abbrev Yo:Fr:=[(5,.ref 0 0),(10,.clo (.func 298) [] [.ref 1 0,.ref 2 0])]
abbrev r4:DF:=[(0,0),(1,1),(2,2),(3,3)]
theorem mX{a r:Nat}(h:j7 a n=some r):ba prog gl 123 [uG a,uG n] (uG r):=by
 unfold j7 at h;obtain⟨v,ev,h⟩:=bS h;refine Gh func123 ?_;refine YR [1,1,0,1,2] (s0 18 gl Yo [(1,u1 a),(2,u1 n),(0,u1 1)] 3 0) [hmc 10 [] 1 [] [uG a,uG n] [(0,⟨23,[uG a],none⟩),(1,⟨23,[uG n],none⟩)] (Kt gl a n) trivial ⟨⟨rfl,.inl rfl⟩,⟨rfl,.inl rfl⟩,trivial⟩] ?_;refine Xt (fst:=[]) (cap:=[.ref 1 0,.ref 2 0]) Tryz.f298 func298 ?_;refine pN (λs:Nat×Nat×Nat=>(s0 22 gl [(0,.yld 3),(1,.ref 1 0),(2,.ref 2 0),(4,uG s.1)] [(0,u1 s.2.2),(2,u1 s.2.1),(3,tL .ready [(5,.ref 0 0)])] 4 4)) 1122 h [hf 6 (dr gl ev)] [] (λB s w hs k5 d=>?_) [] r4;unfold mW at hs;rcases bC hs with⟨b1,hs⟩|⟨b1,hs⟩
 .obtain⟨o,c,hs⟩:=bS hs;obtain⟨b,eb,hs⟩:=bS hs;obtain rfl:=Bo hs;refine pO 112200 (s0 22 gl [(0,.yld 3),(1,.ref 1 0),(2,.ref 2 0),(4,uG s.1)] [(0,u1 s.2.2),(2,u1 s.2.1),(3,tL .ready [(5,.ref 0 0)])] 4 4) [] [] ?_ [] r4;refine Xw (i:=3) (j:=8) (n:=18) (t:=0) (t2:=0) (pe:=none) (fr:=[(5,.ref 0 0)]) (ps:=Dy FZ) (a:=Dz FZ) (b:=DA FZ) (s1:=(s0 22 gl [(14,bG (decide (((bD s.2.1 1:Nat):Int)=((1:Nat):Int)))),(13,uG (bD s.2.1 1)),(12,uG s.2.1),(11,uG s.1),(10,.yld 3),(9,bG true),(8,bG true),(7,uG s.2.1),(0,.yld 3),(1,.ref 1 0),(2,.ref 2 0),(4,uG s.1)] [(0,u1 s.2.2),(2,u1 s.2.1),(3,tL .ready [(5,.ref 0 0)])] 4 4))
   (s3:=(s0 22 gl [(16,bG true),(15,bG true),(14,bG (decide (((bD s.2.1 1:Nat):Int)=((1:Nat):Int)))),(13,uG (bD s.2.1 1)),(12,uG s.2.1),(11,uG s.1),(10,.yld 3),(9,bG true),(8,bG true),(7,uG s.2.1),(0,.yld 3),(1,.ref 1 0),(2,.ref 2 0),(4,uG s.1)] ((3,tL .ready [(5,.ref 0 0)])::[(0,u1 o),(2,u1 s.2.1),(3,tL .busy [(5,.ref 0 0)])]) 4 4))
   [(0,u1 o),(2,u1 s.2.1),(3,tL .busy [(5,.ref 0 0)])] 4 (.loop .ready none 18 [(5,.ref 0 0)] (Dy FZ) (Dz FZ) (DA FZ)) [hr 8 b1,hV 13 (ju (P:=prog) (t:=23) s.2.1 1)] [] ?_ ?_
  .refine C9 .normal ⟨18,gl,[(5,.ref 0 0),(6,uG s.1),(7,bG (decide (((bD s.2.1 1:Nat):Int)=((1:Nat):Int))))],[(0,u1 s.2.2),(2,u1 s.2.1),(3,tL .ready [(5,.ref 0 0)])],4,4,true⟩ [] [] (Xv Tryz.f123 ?_ rfl) [] r4;rcases bC c with⟨b2,c⟩|⟨b2,c⟩
   .rw[b2];exact C9 .normal ⟨18,gl,[],[(0,u1 o),(2,u1 s.2.1),(3,tL .busy [(5,.ref 0 0)])],4,4,true⟩ [hf 16 (j0 gl c)] [] (jy rfl rfl rfl rfl rfl rfl) [] r4
   .rw[b2];obtain rfl:=Bo c;exact C9 .normal ⟨18,gl,[],[(0,u1 s.2.2),(2,u1 s.2.1),(3,tL .busy [(5,.ref 0 0)])],4,4,true⟩ [] [] (jy rfl rfl rfl rfl rfl rfl) [] r4
  .exact jw [hf 21 (j0 gl eb),hV 18 (Uc (P:=prog) (t:=23) (k':= .u64) s.2.1 1)] [] (k5 _ rfl) [] r4
 .obtain rfl:=Bo hs;obtain rfl:=d _ rfl;refine C9 .normal (s0 22 gl [] [(0,u1 s.2.2),(3,tL .ready [(5,.ref 0 0)])] 4 4) [hr 8 b1] [] (Xu ?_ rfl) [] r4;exact Ar [] []
def kE(s k w:Nat):Fo:=(jZ 37 s).bind λa=>(eR (wU ((w:Int)+((wU ((k:Int)+((1:Nat):Int)):Nat):Int)))).bind λb=>(wG a b).bind λc=>j7 c 17
def rK(l:Br)(x:Nat×Nat×Int):Option ((Nat×Nat×Int)⊕(Nat×Nat)):=bif x.2.2<ah l then(aS l x.2.2).bind λw=>(kE x.1 x.2.1 w).bind λs=>some (.inl (s,wU ((x.2.1:Int)+((1:Nat):Int)),wI (x.2.2+1)))else some (.inr (x.1,x.2.1))
abbrev Ku(s k:Nat):Option Ob:=some ⟨387,[uG s,uG k],none⟩
abbrev Ci(l:Br):Option Ob:=some ⟨23,l.flatMap cW,none⟩
theorem Th{l:Br}{r:Nat×Nat}(h:AQ (rK l) (s,k,0)=some r):jg prog gl 333 [.ref 0 0,.rsl 1 0 l.length] [(0,Ku s k),(1,Ci l)] 2 (.tup []) [(0,Ku r.1 r.2),(1,Ci l)] 2:=by
 refine pP func333 ?_;refine pN (λx:Nat×Nat×Int=>(s0 37 gl [(0,.ref 0 0),(6,.rsl 1 0 l.length),(7,iG (ah l)),(8,iG x.2.2)] [(0,Ku x.1 x.2.1),(1,Ci l)] 2 2)) 1122 h [] [hc (rfl:l.length=l.length),hc (rW.imm l)] (λB x w hs k5 e=>?_) (kd:=[(1,.row)]);unfold rK at hs;rcases bC hs with⟨b1,hs⟩|⟨b1,hs⟩
 .obtain⟨y,d,hs⟩:=bS hs;obtain⟨s',es,hs⟩:=bS hs;obtain rfl:=Bo hs;unfold kE at es;obtain⟨a,f,es⟩:=bS es;obtain⟨b,eb,es⟩:=bS es;obtain⟨c,g,es⟩:=bS es;exact jw [hr 9 b1,AH 10 (rW.ixrZ 1 d),AH 11 (rW.p10Z tW d),hbb 16 (gV (x.2.1:Int) ((1:Nat):Int)),hf 24 (j0 gl f),hbb 30 (gV (y:Int) ((wU ((x.2.1:Int)+((1:Nat):Int)):Nat):Int)),hf 31 (dr gl eb),hf 32 (Ia gl g),hf 33 (mX gl es)] [hc (rfl:l.length=l.length),hc (rW.imm l)] (k5 _ rfl) (kd:=[(1,.row)])
 .obtain rfl:=Bo hs;obtain rfl:=e _ rfl;exact Hf .normal (s0 37 gl [] [(0,Ku x.1 x.2.1),(1,Ci l)] 2 2) [] [hr 9 b1] [hc (rW.imm l)] (kd:=[(1,.row)])
abbrev ny(b:CY):G:= .clo (.func 335) [] [.ptr [aE cY b] 0]
abbrev Kv(b:CY):G:= .clo (.func 388) [] [.ptr [aE cY b] 0,.ptr [iG 7] 0]
theorem Ic(b:CY):ba prog gl 255 [aE cY b] (ny b):=by refine Gh func255 ?_;refine pO [1,0] (s0 4 gl [(1,.ptr [aE cY b] 0)] [] 0 0) [] [hc (aY (aG 20 (aE cY b) aH) bf)] ?_;exact Ar [] []
theorem Ie(b:CY):ba prog gl 336 [aE cY b,iG 7] (Kv b):=by refine Gh func336 ?_;refine pO 1100 (s0 9 gl [(2,.ptr [aE cY b] 0),(3,.ptr [iG 7] 0)] [] 0 0) [] [hc (aY (aG 20 (aE cY b) aH) bf),hc (aY (aG 20 (iG 7) aH) bf)] ?_;exact Ar [] []
def hcv(d:Nat){g:G}{p:Prop}(t:p):HP:=⟨some (.c d g),p,t⟩
theorem Yp{ts te:Bk}{f:α->Bn}(R:A3 P ts te k f){l y z:List α}{i j:Int}(h1:tq l j=some y)(h2:mc y i=some z):sJ P ts (aE f l) (iG i) (iG j) (iG j)=some (aE f z):=by obtain⟨a1,a2,rfl⟩:=ym h1;obtain⟨b1,b2,rfl⟩:=yn h2;rw[MG] at b2;simp only[sJ,R.el,R.sz,aE,iG,UG];grind [A3,yk,sQ]
def oD(q:CY)(x:Nat×Int):Option ((Nat×Int)⊕Nat):=bif x.2<ah q then(aS q x.2).bind λy=>(wJ (wI (8*x.2))).bind λn=>some (.inl (gM x.1 (HB (wU (y.toNat:Int)) n),wI (x.2+1)))else some (.inr x.1)
def xZ(b:CY)(x:Br×Int):Option ((Br×Int)⊕Br):=bif x.2<ah b then(mc b x.2).bind λq0=>(tq b (wI (x.2+iI 7 (ah q0)))).bind λy=>(mc y x.2).bind λq=>(AQ (oD q) (0,0)).bind λw=>(aT 8 x.1 [w]).bind λa=>some (.inl (a,wI (x.2+7)))else some (.inr x.1)
def Cj(b:CY):Option Br:=AQ (xZ b) ([],0)
noncomputable abbrev OV:Code:=bq 11012 (ai Tryz.f334)
noncomputable abbrev Kw:Code:=bq 1112 (ai Tryz.f335)
noncomputable abbrev uS(st:LoopState):Option Ob:=some ⟨0,[],some (.loop st none 13 [(2,.ref 0 0)] (Dy OV) (Dz OV) (DA OV))⟩
noncomputable abbrev PB(st:LoopState):Option Ob:=some ⟨0,[],some (.loop st none 29 [(2,.ref 2 0)] (Dy Kw) (Dz Kw) (DA Kw))⟩
abbrev I8(g:G):Option Ob:=some ⟨59,[g],none⟩
abbrev Kx(i:Nat):Option Ob:=some ⟨314,[.yld i],none⟩
abbrev aar(b:CY)(i m:Int):Fr:=[(0,.yld 3),(1,.ptr [aE cY b] 0),(2,.ptr [iG 7] 0),(4,iG i),(5,iG m)]
noncomputable abbrev σCh(acc:Br):aQ:=[(0,I8 (.rsl 4 0 acc.length)),(1,uS .ready),(2,Kx 1),(3,PB .ready),(4,Ci acc)]
abbrev Ti(b q:CY)(i m:Int):Fr:=[(28,aE cY q),(27,iG (wI (i+m))),(26,iG m),(25,iG i),(24,iG (wI (i+m))),(23,iG m),(22,iG i),(21,iG i),(20,aE cY b),(19,.yld 3)]++aar b i m
noncomputable abbrev σRd(acc:Br):aQ:=[(0,I8 (.rsl 5 0 acc.length)),(1,uS .ready),(2,Kx 1),(3,PB .busy),(5,Ci acc)]
theorem F0{r:Br}(h:Cj b=some r):iV prog gl 334 [.lit (.slice none 0 0),ny b] 23 r.length (r.flatMap cW):=by
 unfold Cj at h;refine OW func334 ?_;refine YR [1,0,1,2] (s0 13 gl [(2,.ref 0 0),(6,ny b)] [(0,I8 (.lit (.slice none 0 0)))] 1 0) [] ?_;refine Xt (fst:=[]) (cap:=[.ptr [aE cY b] 0]) Tryz.f335 func335 ?_;refine YR [1,1,2] (s0 29 gl [(2,.ref 2 0),(8,Kv b)] [(2,Kx 1),(1,some ⟨0,[],some (.loop .ready none 13 [(2,.ref 0 0),(6,ny b)] (Dy OV) (Dz OV) (DA OV))⟩),(0,I8 (.lit (.slice none 0 0)))] 3 2) [hf 8 (Ie gl b)] ?_;refine Xt (fst:=[]) (cap:=[.ptr [aE cY b] 0,.ptr [iG 7] 0]) Tryz.f388 func388 ?_;refine pN (λx:Br×Int=>(s0 31 gl [(0,.yld 3),(1,.ptr [aE cY b] 0),(2,.ptr [iG 7] 0),(4,iG x.2)] [(0,I8 (.rsl 4 0 x.1.length)),(1,uS .ready),(2,Kx 1),(3,PB .ready),(4,Ci x.1)] 5 4)) 1122 h [] [hc (rW.imm [])] (λB x w hs k5 d=>?_) (vs:=[23]) (ρ:=rI 5) (kd:=[(4,.row)]);unfold xZ at hs;rcases bC hs with⟨b1,hs⟩|⟨b1,hs⟩
 .obtain⟨q0,e0,hs⟩:=bS hs;obtain⟨y,k,hs⟩:=bS hs;obtain⟨q,l,hs⟩:=bS hs;obtain⟨w,ew,hs⟩:=bS hs;obtain⟨a,m,hs⟩:=bS hs;obtain rfl:=Bo hs;refine pO 112210210 (s0 31 gl [(0,.yld 3),(1,.ptr [aE cY b] 0),(2,.ptr [iG 7] 0),(4,iG x.2),(5,iG (iI 7 (ah q0)))] [(0,I8 (.rsl 4 0 x.1.length)),(1,uS .ready),(2,Kx 1),(3,PB .ready),(4,Ci x.1)] 5 4) [hr 9 b1,AH 16 (rY.sufZI e0)] [hc (rfl:x.1.length=x.1.length),hc (rW.imm x.1)] ?_ (ρ:=rI 5) (kd:=[(4,.row)]);refine Xw (i:=3) (j:=10) (n:=29) (t:=0) (t2:=0) (pe:=none) (fr:=[(2,.ref 2 0)]) (ps:=Dy Kw) (a:=Dz Kw) (b:=DA Kw) (s1:=(s0 31 gl (Ti b q x.2 (iI 7 (ah q0))) (σCh x.1) 5 4))
   (s3:=(s0 31 gl ([(30,bG false),(29,bG true)]++Ti b q x.2 (iI 7 (ah q0))) ((3,PB .ready)::σRd a) 6 4))
   (σRd a) 6 (.loop .ready none 29 [(2,.ref 2 0)] (Dy Kw) (Dz Kw) (DA Kw)) [hcv 28 (g:=aE cY q) (Yp rY k l)] [] ?_ ?_
  .refine C9 .normal ⟨29,gl,[(2,.ref 2 0),(3,aE cY q)],σCh x.1,5,5,true⟩ [] [hc (rfl:x.1.length=x.1.length),hc (rW.imm x.1)] (Xv Tryz.f335 ?_ rfl) (ρ:=rI 5) (kd:=[(4,.row)]);refine Ix 12101 ⟨29,gl,[(2,.ref 2 0),(4,uG w)],[(0,I8 (.rsl 4 0 x.1.length)),(1,uS .ready),(2,Kx 1),(3,PB .busy),(4,Ci x.1)],5,5,true⟩ ?_ λkk=>?_
   .refine pO 12110 ⟨29,gl,[(2,.ref 2 0),(4,uG w)],[(0,I8 (.rsl 4 0 x.1.length)),(1,uS .ready),(2,Kx 1),(3,PB .busy),(4,Ci x.1)],5,5,true⟩ [] [hc (rfl:x.1.length=x.1.length),hc (rW.imm x.1)] ?_ (ρ:=rI 5) (kd:=[(4,.row)]);refine Xw (i:=1) (j:=2) (n:=13) (t:=0) (t2:=0) (pe:=none) (fr:=[(2,.ref 0 0)]) (ps:=Dy OV) (a:=Dz OV) (b:=DA OV) (s1:=⟨29,gl,[(26,uG w),(25,.yld 1),(2,.ref 2 0),(4,uG w)],[(0,I8 (.rsl 4 0 x.1.length)),(1,uS .ready),(2,Kx 1),(3,PB .busy),(4,Ci x.1)],5,5,true⟩)
     (s3:=⟨29,gl,[(28,bG false),(27,bG true),(26,uG w),(25,.yld 1),(2,.ref 2 0),(4,uG w)],(1,uS .ready)::[(0,I8 (.rsl 5 0 a.length)),(1,uS .busy),(2,Kx 1),(3,PB .busy),(5,Ci a)],6,5,true⟩)
     [(0,I8 (.rsl 5 0 a.length)),(1,uS .busy),(2,Kx 1),(3,PB .busy),(5,Ci a)] 6 (.loop .ready none 13 [(2,.ref 0 0)] (Dy OV) (Dz OV) (DA OV)) [] [] ?_ ?_
    .refine C9 .normal ⟨13,gl,[(2,.ref 0 0),(5,uG w)],[(0,I8 (.rsl 4 0 x.1.length)),(1,uS .ready),(2,Kx 1),(3,PB .busy),(4,Ci x.1)],5,5,true⟩ [] [hc (rfl:x.1.length=x.1.length),hc (rW.imm x.1)] (Xv Tryz.f334 ?_ rfl) (ρ:=rI 5) (kd:=[(4,.row)]);exact C9 .normal ⟨13,gl,[],[(0,I8 (.rsl 5 0 a.length)),(1,uS .busy),(2,Kx 1),(3,PB .busy),(5,Ci a)],6,5,true⟩ [dg 11 rW m] [hc (el a),hc (rW.imm a)] (by grind [jy]) (ρ:=rI 5++[(5,6)]) (kd:=[(5,.row)])
    .exact C9 .normal ⟨29,gl,[],σRd a,6,5,true⟩ [] [hc (el a),hc (rW.imm a)] (by grind [jy]) (ρ:=rI 6) (kd:=[(5,.row)])
   refine pN (λz:Nat×Int=>⟨29,gl,[(2,.ref 2 0),(4,uG z.1),(10,aE cY q),(11,iG (ah q)),(12,iG z.2)],[(0,I8 (.rsl 4 0 x.1.length)),(1,uS .ready),(2,Kx 1),(3,PB .busy),(4,Ci x.1)],5,5,true⟩) [2,1,0,1,2,2] ew [] [hc (rfl:x.1.length=x.1.length),hc (rW.imm x.1)] (λo z v hz e f=>?_) (ρ:=rI 5) (kd:=[(4,.row)]);unfold oD at hz;rcases bC hz with⟨c1,hz⟩|⟨c1,hz⟩
   .obtain⟨c,e1,hz⟩:=bS hz;obtain⟨n1,e2,hz⟩:=bS hz;obtain rfl:=Bo hz;exact jw [hr 13 c1,AH 15 (rY.ixZ e1),AH 16 (rY.p1Z tY e1),AH 19 (C8 (c.toNat:Int)),hV 22 (sM (P:=prog) (t:=23) (wU (c.toNat:Int)) e2),hV 23 (jc (P:=prog) (t:=23) z.1 (HB (wU (c.toNat:Int)) n1))] [hc (rfl:x.1.length=x.1.length),hc (rW.imm x.1)] (e _ rfl) (ρ:=rI 5) (kd:=[(4,.row)])
   .obtain rfl:=Bo hz;obtain rfl:=f _ rfl;exact yl 12101 [hr 13 c1] [hc (rfl:x.1.length=x.1.length),hc (rW.imm x.1)] kk (ρ:=rI 5) (kd:=[(4,.row)])
  .exact jw [] [hc (rfl:a.length=a.length),hc (rW.imm a)] (k5 _ rfl) (ρ:=rI 4++[(4,5)]) (kd:=[(4,.row)])
 .obtain rfl:=Bo hs;obtain rfl:=d _ rfl;refine C9 .normal (s0 31 gl [] [(0,I8 (.rsl 4 0 x.1.length)),(1,uS .ready),(3,PB .ready),(4,Ci x.1)] 5 4) [hr 9 b1] [hc (rfl:x.1.length=x.1.length),hc (rW.imm x.1)] (Xu ?_ rfl) (ρ:=rI 5) (kd:=[(4,.row)]);refine C9 .normal (s0 29 gl [] [(0,I8 (.rsl 4 0 x.1.length)),(1,uS .ready),(4,Ci x.1)] 5 2) [] [hc (rfl:x.1.length=x.1.length),hc (rW.imm x.1)] (Xu ?_ rfl) (ρ:=[(0,0),(1,1),(4,4)]) (kd:=[(4,.row)]);exact EI [] (rW.imm _)
theorem Ky{r:Br}(h:Cj b=some r):iV prog gl 254 [ny b] 23 r.length (r.flatMap cW):=by refine OW func254 ?_;exact EI [ho 4 [.lit (.slice none 0 0),ny b] [] (F0 gl h) (Gj (λx g hg=>by simp only[cW,List.mem_singleton] at hg;exact⟨_,hg⟩) r)] (rW.imm _)
theorem Qx{σ ρ:Type}{step:σ->Option (σ⊕ρ)}{s s':σ}{r:ρ}(h1:step s=some (.inl s'))(h2:step s'=some (.inr r)):AQ step s=some r:=by unfold AQ FU;rw[show(4611686018427387904:Nat)=4611686018427387902+1+1 from rfl];unfold KN;rw[h1];show KN step (4611686018427387902+1) s'=some r;unfold KN;rw[h2]
def k1(k:Nat):Nat:=wU ((k:Int)+((1:Nat):Int))
theorem Qy{w s':Nat}(h:kE s k w=some s'):jg prog gl 333 [.ref 0 0,.rsl 1 0 1] [(0,Ku s k),(1,Ci [w])] 2 (.tup []) [(0,Ku s' (k1 k)),(1,Ci [w])] 2:=by
 have e:AQ (rK [w]) (s,k,0)=some (s',k1 k):=by
  refine Qx (s':=(s',k1 k,1)) ?_ ?_
  .unfold rK;rw[C5 (show((s,k,0):Nat×Nat×Int).2.2<ah [w] by simp[ah]),ax];show(some w:Fo).bind _=_;rw[aL];show(kE s k w).bind _=_;rw[h,aL];rfl
  .unfold rK;rw[Dk (show¬((s',k1 k,1):Nat×Nat×Int).2.2<ah [w] by simp[ah]),Be]
 exact Th gl e
def F1(b:CY)(x:(Nat×Nat)×Int):Option (((Nat×Nat)×Int)⊕(Nat×Nat)):=bif x.2<ah b then(mc b x.2).bind λq0=>(tq b (wI (x.2+iI 7 (ah q0)))).bind λy=>(mc y x.2).bind λq=>(AQ (oD q) (0,0)).bind λw=>(kE x.1.1 x.1.2 w).bind λs=>some (.inl ((s,k1 x.1.2),wI (x.2+7)))else some (.inr x.1)
def F3(l:Br)(x:(Nat×Nat)×Int):Option (((Nat×Nat)×Int)⊕(Nat×Nat)):=bif x.2<ah l then(aS l x.2).bind λy=>(eR y).bind λn=>(kE x.1.1 x.1.2 n).bind λs=>some (.inl ((s,k1 x.1.2),wI (x.2+1)))else some (.inr x.1)
def x6(label:CY)(l:Br):Fo:=(Gk label).bind λt=>(AQ (F1 t) ((wU (ah label),0),0)).bind λa=>(kE a.1 a.2 (wU (ah l))).bind λs1=>(AQ (F3 l) ((s1,k1 a.2),0)).bind λc=>kE c.1 c.2 0
theorem Cm:wY (n:Int)=UInt8.ofNat n:=by
 unfold wY;apply UInt8.toNat_inj.1;have e:IntKind.u8.wrap (n:Int)=((n%256:Nat):Int):=by show(n:Int)%256=_;omega
 rw[e];simp;omega
theorem ya(hk:k<18446744073709551616):jl k=some (nb k):=by
 unfold jl;refine T.eq (.bind ?_);refine T.loop (Q:=λx=>T _ _) (λs=>s.2++nb s.1=nb k/\s.1<18446744073709551616) (λs=>(nb s.1).length) ⟨rfl,hk⟩ (by grind [ow]) ?_;rintro⟨m,out⟩ ⟨h1,h2⟩;simp only at h1 h2;have hl:out.length+(nb m).length<=10:=by grind [ow]
 have hp:0<(nb m).length:=List.length_pos_iff.2 (Yj m);unfold DJ;dsimp only;refine .dec (λh=>?_) λh=>?_
 .have hm:¬m<128:=aa;refine .bind (.app cq (.some ?_));have e1:wU ((m/128:Nat):Int)=m/128:=rM aa;have e2:wY (((wY ((m%128:Nat):Int)).toNat:Int)+((128:UInt8).toNat:Int))=UInt8.ofNat (m%128+128):=by grind [Cm,UInt8.toNat_ofNat']
  constructor<;>grind [Er]
 .have hm:m<128:=aa;refine .some ?_;show T _ _;grind [T.app,Cm,H6]
theorem F4{n:Int}(h: -9223372036854775808<=n/\n<=9223372036854775807):cg n=some (nb (Mk n)):=by
 obtain⟨h1,h2⟩:=h;unfold cg;refine T.eq (.dec (λhn=>?_) λhn=>?_)
 .have e1:wI (n+1)=n+1:=by grind [bM]
  have e2:wI (0-(n+1))= -(n+1):=by grind [bM]
  have e3:wU (-(n+1))=(-(n+1)).toNat:=by grind [rM]
  have e4:wU (((wU (((-(n+1)).toNat:Int)*((2:Nat):Int)):Nat):Int)+((1:Nat):Int))=Mk n:=by unfold Mk;rw[BB hn];generalize hm:(-(n+1)).toNat=m;rw[show(m:Int)*((2:Nat):Int)=((m*2:Nat):Int) by omega,rM aa,show((m*2:Nat):Int)+((1:Nat):Int)=((m*2+1:Nat):Int) by omega,rM aa]
  grind [ya,FQ,T.some]
 grind [rM,Mk,T.eqb,ya,T.some]
def bl(n:Nat):Nat:=if h:n=0 then 0 else bl (n/2)+1
theorem Mo(h:0<n):bl (n/2)<bl n:=by grind [bl.eq_1]
theorem QB:∀(k n:Nat),n<2^k->bl n<=k
 |0,n,h=>by grind [bl.eq_1]
 |k+1,n,h=>by
  rw[bl.eq_1];by_cases h0:n=0
  .grind
  .rw[dif_neg h0];have:=QB k (n/2) (by grind);omega
theorem wL(a b:Nat):T (oQ a b) λv=>v<2305843009213693951:=⟨_,rfl,(by grind)⟩
theorem Il(a b:Nat):T (qi a b) λv=>v<2305843009213693951:=⟨_,rfl,(by grind)⟩
theorem Ac4(h:n<18446744073709551616):wU ((n/2:Nat):Int)=n/2:=rM aa
theorem ka(a:Nat){n:Nat}(hn:n<18446744073709551616):T (iK a n) λv=>v<2305843009213693951:=by unfold iK;refine .bind (T.loop (λs=>s.1<2305843009213693951/\s.2.2<18446744073709551616) (λs=>bl s.2.2) (by grind) (by have:=QB 64 n (by grind);grind) ?_);rintro⟨x,y,m⟩ ⟨hx,hm⟩;simp only at hx hm;unfold r6;dsimp only;refine .dec (λh=>?_) λh=> .some (.some hx);refine .bind (T.mono (Q:=λv=>v<2305843009213693951) (by grind [wL,T.some]) λv hv=>?_);refine .bind ((wL _ _).mono λw _=> .some ⟨⟨hv,?_⟩,?_⟩);all_goals grind [Ac4,Mo]
theorem Cn{b:CY}(hb:b.length<=1099511627776):T (LV b) λr=>r.length<=b.length:=by
 unfold LV;refine .bind (T.loop (λs=>0<=s.2/\s.2<=b.length+6/\(s.1.length:Int)<=s.2/\s.1.length<=b.length) (λs=>(b.length+7-s.2).toNat) (by grind) cq ?_);rintro⟨acc,i⟩ ⟨h0,h1,h2,h3⟩;simp only at h0 h1 h2 h3;unfold qh;dsimp only;refine .dec (λh=>?_) λh=> .some (.some h3);unfold ah at h;have e7:wI (i+7)=i+7:=by grind [bM]
 have em:0<=iI (ah b) (i+7)/\iI (ah b) (i+7)<=b.length:=by grind [iI,ah]
 refine .bind (T.mono (Q:=λ_=>True) (T.loop (λs=>s.2<b.length) (λs=>(s.2+1-i).toNat) ?_ ?_ ?_) λx _=>?_)
 .grind [bM]
 .grind [bM]
 .rintro⟨u,j⟩ hj;simp only at hj;unfold my;dsimp only;refine .dec (λh=>?_) λh=> .some trivial;refine .bind (.ixl aa hj λx _ _=> .some ⟨?_,?_⟩);all_goals grind [bM]
 .refine .bind (.app cq (.some ⟨?_,?_⟩));all_goals grind
theorem T.strB{s:CY}{Q:CY->Prop}(h:s.length<=1099511627776)(q:Q s):T (Gk s) Q:=⟨s,by grind [Gk],q⟩
theorem Mp(z:Int):wU z<18446744073709551616:=by grind [wU,IntKind.wrap_u64]
theorem F5{l:Br}(h1:label.length<=1000)(h2:l.length<=1099511627776):T (yA label l) λv=>v<18446744073709551616:=by
 unfold yA;refine .bind (.strB aa (.bind ((Cn (b:=label) aa).mono λw hw=> .bind (.app cq (.bind ?_)))));refine T.forA l.length (λk acc=>acc.length<=w.length+1+k) aa aC (λk acc hk hj=>?_) λacc hj=>?_
 .unfold qk;dsimp only;rw[eA hk,ax,au,EA hk,aL];exact .bind (.app cq (.some ⟨aq aa,by simp;omega⟩))
 .unfold qk;dsimp only;rw[eF,Be];refine .some (.bind (.app cq (.bind ?_)));have hl:(acc++[0]).length<=w.length+2+l.length:=by simp;omega
  generalize acc++[0]=v at hl;refine T.forA v.length (λ_ x=>x<18446744073709551616) aa (Mp _) (λk x hk _=>?_) λx hx=>?_
  .unfold qj;dsimp only;rw[eA hk,ax,au,EA hk];refine .bind ((wL _ _).mono λ_ _=> .bind (.some (.bind ((Il _ _).mono λ_ _=> .bind ((Il _ _).mono λ_ _=> .bind ((ka _ aa).mono λ_ h=> .some ⟨aq aa,(by grind)⟩))))))
  .unfold qj;dsimp only;rw[eF,Be];exact .some (.some hx)
theorem yX{l:Br}(h1:label.length<=1000)(h2:l.length<=1099511627776):T (Nl label l) λv=>1<=v/\v<=2305843009213693949:=by unfold Nl;refine .bind ((F5 h1 h2).mono λv _=> .some ?_);rw[show((1:Nat):Int)+((v%2305843009213693949:Nat):Int)=((1+v%2305843009213693949:Nat):Int) by omega,rM aa];omega
theorem Im{kind:CY}{d:Int}(h1:kind.length<=1000):T (lf kind d) λv=>1<=v/\v<=2305843009213693949:= .bind (by grind [T.mono,yX,T.some])
theorem QC(h:s<18446744073709551616):T (xo s) λv=>v<2305843009213693951:= .bind ((ka _ h).mono λ_ h=> .some h)
theorem Co{label b:CY}(h1:label.length<=1000)(h2:b.length<=1073741824):T (jI label b) λv=>v<18446744073709551616:= .bind (by grind [T.mono,Cn,T.bind,T.app,F5])
theorem QD(h2:b.length<=1073741824):T (Ph b) λv=>v<18446744073709551616:= .bind (by grind [T.mono,Co,T.some])
theorem QE{r p:Nat}(h2:b.length<=1073741824):T (Pi r p b) λv=>v<18446744073709551616:= .bind (by grind [T.mono,QD,F5])
theorem Kz{a b:Nat}(hb:b<18446744073709551616):T (vp a b) λv=>v<2305843009213693950:=by unfold vp;refine .bind (.some (.bind ⟨_,rfl,.bind (.some (.bind ⟨_,rfl,.bind ?_⟩))⟩));have hq:b%2305843009213693950<2^64:=aa;refine T.loop (λs=>s.2.1<18446744073709551616/\s.2.2<2305843009213693950) (λs=>bl s.2.1) (by grind) (by have:=QB 64 _ hq;grind) ?_;rintro⟨x,m,y⟩ ⟨hm,hy⟩;simp only at hm hy;unfold yC;dsimp only;refine .dec (λh=>?_) λh=> .some (.some hy);refine .bind (T.mono (Q:=λv=>v<2305843009213693950) (.ite (λ_=> .bind (.some (.bind ⟨_,rfl,(by grind [T.some])⟩))) λ_=> .some hy) λv hv=>?_);refine .bind (.some (.bind ⟨_,rfl,.some ⟨⟨?_,hv⟩,?_⟩⟩));all_goals grind [Ac4,Mo]
def c8(z:Int):Prop:= -9223372036854775808<=z/\z<=9223372036854775807
def fS(n:Nat):Prop:=n<18446744073709551616
theorem NY(hk:k<18446744073709551616)(hb:b.length<=1073741824):T (zX k b) λs=>fS s.R/\fS s.S:=by unfold zX;refine .bind ((QD hb).mono λv1 _=> .bind ((yX Cd aC).mono λc h3=> .bind ((ka _ aa).mono λd h5=> .bind ((QC hk).mono λe _=> .bind ((QE hb).mono λf _=> .bind ((Kz hk).mono λa _=> .bind (.some (.bind ⟨_,rfl,.some ⟨Nat.lt_trans h5 Cd,Nat.lt_trans (Nat.mod_lt _ Cd) Cd⟩⟩))))))))
structure JS (i:Ab):Prop where
 a:c8 i.By
 b:c8 i.Seq
 c:fS i.Sum
structure Fp (i:Ha):Prop where
 a:fS i.To
 b:fS i.Eph
 c:fS i.Body
 d:fS i.Tag
structure I4 (i:Fm):Prop where
 a:fS i.Pub
 n:i.Boxes.length<=1000
 b:∀x∈i.Boxes,Fp x
structure Hl (i:DR):Prop where
 a:JS i.Of
 n:i.Body.length<=1000
structure Bg (o:Bq):Prop where
 ints:∀z∈[o.By,o.Seq,o.Kind,o.At,o.Device,o.Old,o.Member,o.Role,o.N,o.Need,o.Wait],c8 z
 nPast:o.Past.length<=1000
 past:∀x∈o.Past,JS x
 nPath:o.Path.length<=1000
 path:∀x∈o.Path,I4 x
 epoch:JS o.Epoch
 nBody:o.Body.length<=1000
 nRefs:o.Refs.length<=1000
 refs:∀x∈o.Refs,fS x
 of_:JS o.Of
 nGuards:o.Guards.length<=1000
 guards:∀x∈o.Guards,c8 x
 nBoxes:o.Boxes.length<=1000
 boxes:∀x∈o.Boxes,Fp x
 pub:fS o.Pub
 nHist:o.Hist.length<=1000
 hist:∀x∈o.Hist,Hl x
def aV(z:Int):CY:=nb (Mk z)
def sN(i:Ab):CY:=aV i.By++aV i.Seq++nb i.Sum
def tM(s:CY):CY:=aV (s.length:Int)++s
def uT(b:Ha):CY:=[b.To,b.Eph,b.Body,b.Tag].flatMap nb
def uU(l:List Ha):CY:=aV (l.length:Int)++l.flatMap uT
def ke(n:Fm):CY:=nb n.Pub++uU n.Boxes
def lX(x:DR):CY:=sN x.Of++tM x.Body
def qc(o:Bq):CY:=[o.By,o.Seq,o.Kind,o.At,(o.Past.length:Int)].flatMap aV++o.Past.flatMap sN++[o.Device,o.Old,o.Member,o.Role,(o.Path.length:Int)].flatMap aV++o.Path.flatMap ke++sN o.Epoch++aV o.N++tM o.Body++aV (o.Refs.length:Int)++o.Refs.flatMap nb++sN o.Of++aV (o.Guards.length:Int)++o.Guards.flatMap aV++[o.Need,o.Wait].flatMap aV++uU o.Boxes++nb o.Pub++aV (o.Hist.length:Int)++o.Hist.flatMap lX
theorem gH(h:fS k):(nb k).length<=10:=ow h
theorem aR(h:c8 z):(aV z).length<=10:=ow (FQ h)
theorem K0(h:JS i):(sN i).length<=30:=by grind [aR,JS.a,JS.b,gH,JS.c,sN]
theorem dO{l:List α}(h:l.length<=1000000):c8 (l.length:Int):=by unfold c8;omega
theorem Ao{b:Ha}(h:Fp b):(uT b).length<=40:=by grind [gH,Fp.a,Fp.b,Fp.c,Fp.d,uT]
theorem wM{l:List Ha}(hn:l.length<=1000)(h:∀x∈l,Fp x):(uU l).length<=40010:=by have h1:=aR (dO (l:=l) aa);have h2:=d8 (l:=l) (enc:=uT) (c:=40) (by grind [Ao]);grind [uU]
theorem Ap{s:CY}(hn:s.length<=1000):(tM s).length<=1010:=by grind [aR,dO,tM]
theorem Aq{n:Fm}(h:I4 n):(ke n).length<=40020:=by grind [gH,I4.a,wM,I4.n,I4.b,ke]
theorem F6{n:DR}(h:Hl n):(lX n).length<=1040:=by grind [K0,Hl.a,Ap,Hl.n,lX]
theorem oF(h:fS k):T (jl k) λv=>v=nb k:= .of (ya h) rfl
theorem cK(h:c8 z):T (cg z) λv=>v=aV z:= .of (F4 h) rfl
theorem l6(h:JS i):T (iJ i) λv=>v=sN i:=by have h1:=aR h.a;have h2:=aR h.b;have h3:=gH h.c;unfold iJ;refine .bind ((cK h.a).mono ?_);rintro v rfl;refine .bind ((cK h.b).mono ?_);rintro v rfl;refine .bind (.app aa (.bind ((oF h.c).mono ?_)));rintro v rfl;exact .bind (.app (by grind) (.some rfl))
theorem Ey{s:CY}(h:s.length<=1000):T (vu s) λv=>v=tM s:=by have h1:=aR (dO (l:=s) aa);refine .bind ((cK (dO (l:=s) aa)).mono ?_);rintro v rfl;exact .bind (.app aa (.some rfl))
theorem sO{l:Bp}(hn:l.length<=1000)(h:∀x∈l,c8 x):T (Qi l) λv=>v=l.flatMap aV:=by
 refine .bind (T.mono (T.forE l [] aV 10 aa (by grind [aR]) (λk acc x hx hm hk hl=>?_) λacc=>?_) (by grind [T.some]))
 .unfold tR;dsimp only;rw[eA hk,ax,au,hx,aL];refine .bind ((cK (h x hm)).mono ?_);rintro v rfl;have:=aR (h x hm);exact .bind (.app (by grind) (.some ⟨aq aa,rfl⟩))
 grind [tR,eF]
theorem Ez{l:Br}(hn:l.length<=1000)(h:∀x∈l,fS x):T (vt l) λv=>v=l.flatMap nb:=by
 refine .bind (T.mono (T.forE l [] nb 10 aa (by grind [gH]) (λk acc x hx hm hk hl=>?_) λacc=>?_) (by grind [T.some]))
 .unfold tS;dsimp only;rw[eA hk,ax,au,hx,aL];refine .bind ((oF (h x hm)).mono ?_);rintro v rfl;have:=gH (h x hm);exact .bind (.app (by grind) (.some ⟨aq aa,rfl⟩))
 grind [tS,eF]
theorem Cp(hn:l.length<=1000)(h:∀x∈l,Fp x):T (nQ l) λv=>v=uU l:=by
 have h1:=aR (dO (l:=l) aa);unfold nQ;refine .bind ((cK (dO (l:=l) aa)).mono ?_);rintro v rfl;refine .bind (T.mono (T.forE l (aV (ah l)) uT 40 aa (by grind [Ao]) (λk acc x hx hm hk hl=>?_) λacc=>?_) λv hv=> .some (by rw[hv];rfl))
 .have hb:=h x hm;unfold qq;dsimp only;rw[eA hk,ax,au,hx];simp only[aL];refine .bind ((Ez aC (by grind [Fp.a,Fp.b,Fp.c,Fp.d])).mono ?_);rintro v rfl;have h4:=Ao hb;unfold uT at h4;unfold ah at hl;exact .bind (.app aa (.some ⟨aq aa,rfl⟩))
 grind [qq,eF]
theorem yY(h:Bg o):(qc o).length<=50000000:=by have e1:=d8 (l:=o.Past) (enc:=sN) (c:=30) λx hx=>K0 (h.past x hx);have e2:=d8 (l:=o.Path) (enc:=ke) (c:=40020) λx hx=>Aq (h.path x hx);have e3:=K0 h.epoch;have e4:=K0 h.of_;have e5:=Ap h.nBody;have e6:=d8 (l:=o.Refs) (enc:=nb) (c:=10) λx hx=>gH (h.refs x hx);have e7:=d8 (l:=o.Guards) (enc:=aV) (c:=10) λx hx=>aR (h.guards x hx);have e8:=wM h.nBoxes h.boxes;have e:=d8 (l:=o.Hist) (enc:=lX) (c:=1040) λx hx=>F6 (h.hist x hx);have a:=gH h.pub;have i1:=aR (h.ints o.By aC);have f:=aR (h.ints o.Seq aC);have g:=aR (h.ints o.Kind aC);have i:=aR (h.ints o.At aC);have j:=aR (h.ints o.Device aC);have i6:=aR (h.ints o.Old aC);have k:=aR (h.ints o.Member aC);have m:=aR (h.ints o.Role aC);have n:=aR (h.ints o.N aC);have b:=aR (h.ints o.Need aC);have d:=aR (h.ints o.Wait aC);have l1:=aR (dO (l:=o.Past) (by have:=h.nPast;omega));have l2:=aR (dO (l:=o.Path) (by have:=h.nPath;omega));have l3:=aR (dO (l:=o.Refs) (by have:=h.nRefs;omega));have l4:=aR (dO (l:=o.Guards) (by have:=h.nGuards;omega));have l5:=aR (dO (l:=o.Hist) (by have:=h.nHist;omega));have n1:=h.nPast;have n2:=h.nPath;have p:=h.nRefs;have q:=h.nGuards;have r:=h.nHist;simp only[qc,List.flatMap_cons,List.flatMap_nil,UI,List.length_nil];omega
theorem uV(h:Bg o):T (lz o) λv=>v=qc o:=by
 have e1:=d8 (l:=o.Past) (enc:=sN) (c:=30) λx hx=>K0 (h.past x hx);have e2:=d8 (l:=o.Path) (enc:=ke) (c:=40020) λx hx=>Aq (h.path x hx);have e6:=d8 (l:=o.Refs) (enc:=nb) (c:=10) λx hx=>gH (h.refs x hx);have e7:=d8 (l:=o.Guards) (enc:=aV) (c:=10) λx hx=>aR (h.guards x hx);have n1:=h.nPast;have n2:=h.nPath;have p:=h.nRefs;have q:=h.nGuards;have r:=h.nHist;have l1:c8 (ah o.Past):=dO (l:=o.Past) aa;have l2:c8 (ah o.Path):=dO (l:=o.Path) aa;have l3:c8 (ah o.Refs):=dO (l:=o.Refs) aa;have l4:c8 (ah o.Guards):=dO (l:=o.Guards) aa;have l5:c8 (ah o.Hist):=dO (l:=o.Hist) aa;have A:∀z∈[o.By,o.Seq,o.Kind,o.At,ah o.Past],c8 z:=by grind [Bg.ints]
 have B:∀z∈[o.Device,o.Old,o.Member,o.Role,ah o.Path],c8 z:=λz hz=>by simp only[EY,LD,or_false] at hz;rcases hz with rfl|rfl|rfl|rfl|rfl<;>first|exact l2|exact h.ints _ aC
 have C:∀z∈[o.Need,o.Wait],c8 z:=by grind [Bg.ints]
 have a5:([o.By,o.Seq,o.Kind,o.At,ah o.Past].flatMap aV).length<=50:=d8 λx hx=>aR (A x hx);have b5:([o.Device,o.Old,o.Member,o.Role,ah o.Path].flatMap aV).length<=50:=d8 λx hx=>aR (B x hx);have c2:([o.Need,o.Wait].flatMap aV).length<=20:=by grind [aR]
 unfold lz;refine .then (sO aC A) (.then (T.forE o.Past _ sN 30 aa (by grind [K0,Bg.past]) (λk acc x hx hm hk hl=>?_) λacc=>?_) ?_)
 .unfold qt;dsimp only;rw[eA hk,ax,au,hx,aL];have:=K0 (h.past x hm);exact .then (l6 (h.past x hm)) (.bind (.app aa (.some ⟨aq aa,rfl⟩)))
 .grind [qt,eF]
 refine .then (sO aC B) (.bind (.appL (n:=50+30000) (by grind) b5 Cd λk1=>?_));refine .then (T.forE o.Path _ ke 40020 aa (by grind [Aq,Bg.path]) (λk acc x hx hm hk hl=>?_) λacc=>?_) ?_
 .have hp:=h.path x hm;unfold qs;dsimp only;rw[eA hk,ax,au,hx];simp only[aL];have q1:=gH hp.a;have f:=wM hp.n hp.b;refine .then (oF hp.a) (.bind (.appL (n:=50000000) (m:=10) aa q1 Cd λd=> .then (Cp hp.n hp.b) (.bind (.appL d f Cd λ_=> .some ⟨aq aa,?_⟩))));simp[ke]
 .grind [qs,eF]
 have k2:∀(u:CY),u.length<=30100->(u++o.Path.flatMap ke).length<=41000000:=by grind
 refine .then (l6 h.epoch) (.bind (.appL (k2 _ k1) (K0 h.epoch) Cd λk3=>?_));refine .then (cK (h.ints o.N aC)) (.bind (.appL k3 (aR (h.ints o.N aC)) Cd λg=>?_));refine .then (Ey h.nBody) (.bind (.appL g (Ap h.nBody) Cd λk5=>?_));refine .then (cK l3) (.bind (.appL k5 (aR l3) Cd λk6=>?_));refine .then (Ez h.nRefs h.refs) (.bind (.appL (m:=10000) k6 aa Cd λi=>?_));refine .then (l6 h.of_) (.bind (.appL i (K0 h.of_) Cd λk8=>?_));refine .then (cK l4) (.bind (.appL k8 (aR l4) Cd λk9=>?_));refine .then (sO h.nGuards h.guards) (.bind (.appL (m:=10000) k9 aa Cd λe=>?_));refine .then (sO aC C) (.bind (.appL e c2 Cd λk11=>?_));refine .then (Cp h.nBoxes h.boxes) (.bind (.appL k11 (wM h.nBoxes h.boxes) Cd λk12=>?_));refine .then (oF h.pub) (.bind (.appL k12 (gH h.pub) Cd λk13=>?_));refine .then (cK l5) (.bind (.appL k13 (aR l5) Cd λj=>?_));refine .then (T.forE o.Hist _ lX 1040 aa (λx hx=>F6 (h.hist x hx)) (λk acc x hx hm hk hl=>?_) λacc=>?_) (.some rfl)
 .have hp:=h.hist x hm;unfold O8;dsimp only;rw[eA hk,ax,au,hx];simp only[aL];refine .then (l6 hp.a) (.bind (.appL (n:=50000000) aa (K0 hp.a) Cd λd=> .then (Ey hp.n) (.bind (.appL d (Ap hp.n) Cd λ_=> .some ⟨aq aa,?_⟩))));simp[lX]
 .unfold O8;dsimp only;rw[eF,Be]
theorem wN(h:Bg o):T (pV o) λi=>i.By=o.By/\i.Seq=o.Seq/\jI [111,112] (qc o)=some i.Sum/\JS i:=by refine .then (uV h) (.bind ?_);obtain⟨v,e,hv⟩:=Co (label:=[111,112]) (b:=qc o) Cd (by grind [yY]);exact⟨v,e,.some ⟨rfl,rfl,e,⟨h.ints _ aC,h.ints _ aC,hv⟩⟩⟩
theorem Bg.sig{o:Bq}(h:Bg o)(s:Ya):Bg {o with Sig:=s}:=by grind [Bg]
theorem Io(h:Bg o):T (nR o) λr=>∃s:Ya,r={o with Sig:=s}/\fS s.R/\fS s.S:=by refine .bind ((Im Cd).mono (by grind [uV,T.bind,T.mono,NY,yY,T.some]))
abbrev oO(i:Nat)(l:CY):Option Ob:=some ⟨164,[.rsl i 0 l.length],none⟩
abbrev oY(l:CY):Option Ob:=some ⟨5,l.flatMap cY,none⟩
theorem MN{P:Bu}{t:Bk}(y:UInt8):∀p q:DC,b8 P .or t p q (gY y) (gY 128)=some (gY (UInt8.ofNat (y.toNat%128+128))):=by grind [Yk,V6]
def Aad(s:Bool×CY×Nat):Option ((Bool×CY×Nat)⊕(Bool×CY×Nat)):=
 bif ((128:Nat):Int)<=(s.2.2:Int)then(aT 1 s.2.1 [UInt8.ofNat ((wY (s.2.2:Int)).toNat%128+128)]).bind λa=>some (.inl (true,a,Jq s.2.2 7))else some (.inr s)
theorem WH(l:CY)(n:Nat)(hn:n<18446744073709551616)(hl:l.length<=100000000000000):T (AQ Aad (false,l,n)) λr=>T (aT 1 r.2.1 [wY (r.2.2:Int)]) λv=>v=l++nb n:=by
 refine T.loop (λs=>s.2.1++nb s.2.2=l++nb n/\s.2.2<18446744073709551616) (λs=>(nb s.2.2).length) ⟨rfl,hn⟩ (by grind [ow]) ?_;rintro⟨a,o,m⟩ ⟨h1,h2⟩;simp only at h1 h2;have hln:o.length+(nb m).length<=l.length+10:=by grind [UI,ow]
 unfold Aad;dsimp only;refine .dec (λh=>?_) λh=>?_
 .have hm:¬m<128:=aa;refine .bind (.app cq (.some ?_));have e1:Jq m 7=m/128:=by unfold Jq;congr 1
  have e2:(wY (m:Int)).toNat%128+128=m%128+128:=by rw[Cm,UInt8.toNat_ofNat'];omega
  constructor<;>grind [Er]
 .have hm:m<128:=aa;refine .some ?_;show T _ _;grind [T.app,Cm,H6]
def MO(s:Bool×CY×Nat):St:=match s.1 with
 |true=>(s0 31 gl [(0,.ref 0 0),(1,uG s.2.2)] [(0,oO 2 s.2.1),(2,oY s.2.1)] 3 2)
 |false=>(s0 31 gl [(0,.ref 0 0),(1,uG s.2.2)] [(0,oO 1 s.2.1),(1,oY s.2.1)] 2 2)
theorem JT{l r:CY}(hn:n<18446744073709551616)(hl:l.length<=100000000000000)(d:l++nb n=r):jg prog gl 91 [.ref 0 0,uG n] [(0,oO 1 l),(1,oY l)] 2 (.tup []) [(0,oO 2 r),(2,oY r)] 3:=by
 obtain⟨⟨f,o,m⟩,hL,v,c,e⟩:=WH l n hn hl;obtain rfl:=e.trans d;refine pP func91 ?_;refine Ix [0] (MO gl (f,o,m)) ?_ λkk=>?_
 .cases f
  .exact Hf .normal (s0 31 gl [] [(0,oO 2 v),(2,oY v)] 3 2) [] [AH 26 (Iz (m:Int)),dg 28 rY c] [hc (el v),hc (rY.imm v)] (ρ:=[(0,0),(1,1),(2,3)]) (kd:=[(2,.row)])
  .exact Hf .normal (s0 31 gl [] [(0,oO 2 v),(2,oY v)] 3 2) [] [AH 26 (Iz (m:Int)),dg 28 rY c] [hc (el v),hc (rY.imm v)] (ρ:=[(0,0),(1,1),(2,4)]) (kd:=[(2,.row)])
 refine pN (MO gl) [0,2,2] hL [] [hc (el l),hc (rY.imm l)] (λB s w hs k5 i=>?_);obtain⟨g,j,b⟩:=s;unfold Aad at hs;rcases bC hs with⟨b1,hs⟩|⟨b1,hs⟩
 .obtain⟨a,h,hs⟩:=bS hs;obtain rfl:=Bo hs;have k:=k5 _ rfl;cases g
  .exact jw [hr 5 b1,AH 12 (Iz (b:Int)),hV 13 (MN (P:=prog) (t:=5) (wY (b:Int))),dg 15 rY h,hV 19 (Uc (P:=prog) (t:=23) (k':= .u64) b 7)] [hc (el a),hc (rY.imm a)] k (ρ:=[(0,0),(1,1),(2,3)])
  .exact jw [hr 5 b1,AH 12 (Iz (b:Int)),hV 13 (MN (P:=prog) (t:=5) (wY (b:Int))),dg 15 rY h,hV 19 (Uc (P:=prog) (t:=23) (k':= .u64) b 7)] [hc (el a),hc (rY.imm a)] k (ρ:=[(0,0),(1,1),(2,4)])
 .obtain rfl:=Bo hs;obtain e:=i _ rfl;cases e;cases f
  .exact yl [0] [hr 5 b1] [hc (el o),hc (rY.imm o)] kk
  .exact yl [0] [hr 5 b1] [hc (el o),hc (rY.imm o)] kk (ρ:=rI 3)
theorem WI{P:Bu}{t:Bk}{n:Int}(h:c8 n):∀p q:DC,b8 P .xor t p q (uG (HB (wU n) 1)) (uG (wU (Tf n 63)))=some (uG (Mk n)):=λp q=>by
 have e1:((HB (wU n) 1:Nat):Int)=IntKind.u64.wrap (IntKind.u64.wrap n*2^1):=by have h1:=zk n;rw[<-h1,IntKind.wrap_u64];grind [HB]
 have e2:((wU (Tf n 63):Nat):Int)=IntKind.u64.wrap (n.fdiv (2^63)):=by rw[zk];rfl
 rw[e1,e2];exact Ym h
theorem TL{n:Int}(h:c8 n):ba prog gl 164 [iG n] (uG (Mk n)):=by refine Gh func164 ?_;exact Ar [AH 4 (C8 n),hV 5 (Ks (P:=prog) (t:=23) (k':= .u64) (wU n) 1),hV 7 (V9 (P:=prog) (t:=3) (k':= .u64) n 63),AH 8 (C8 (Tf n 63)),hV 9 (WI (P:=prog) (t:=23) h)] []
theorem cA{l r:CY}{n:Int}(hn:c8 n)(hl:l.length<=100000000000000)(a:l++aV n=r):jg prog gl 89 [.ref 0 0,iG n] [(0,oO 1 l),(1,oY l)] 2 (.tup []) [(0,oO 2 r),(2,oY r)] 3:=by refine pP func89 ?_;exact Hf .normal (s0 8 gl [] [(0,oO 2 r),(2,oY r)] 3 2) [] [hf 6 (TL gl hn),tN 7 [0,1] 2 [(0,oO 1 l),(1,oY l)] [.ref 0 0,uG (Mk n)] [(0,oO 2 r),(1,none),(2,oY r)] (JT gl (FQ hn) hl a) ⟨⟨rfl,.inl rfl⟩,⟨rfl,.inr ⟨rfl,rY.imm l⟩⟩,trivial⟩ ⟨⟨rfl,.inl rfl⟩,⟨rfl,.inr ⟨rfl,rY.imm r⟩⟩,trivial⟩] [hc (el r),hc (rY.imm r)] (ρ:=rI 3) (kd:=[(2,.row)])
def gD(d i k c:Nat)(gs:Bn){gl:CB}{fid:FuncId}{gs0:Bn}{l r:CY}(h:jg prog gl fid gs0 [(0,oO 1 l),(1,oY l)] [i,k].length (.tup []) [(0,oO 2 r),(2,oY r)] 3)
  (hin:w6 (vi [i,k]) [(i,oO k l),(k,oY l)] [(0,oO 1 l),(1,oY l)] 0 [i,k]:=by exact⟨⟨rfl,.inl rfl⟩,⟨rfl,.inr ⟨rfl,rY.imm _⟩⟩,trivial⟩) (a:oI (GV [i,k] c) [(0,oO 2 r),(2,oY r)] [(0,oO c r),(1,none),(2,oY r)]:=by exact⟨⟨rfl,.inl rfl⟩,⟨rfl,.inr ⟨rfl,rY.imm _⟩⟩,trivial⟩)
  (hlt:[i,k].all (λi=>Nat.blt i c)=true:=by kernel_rfl) (hnd:decide [i,k].Nodup=true:=by kernel_rfl) (hgs:gs.map (qg (vi [i,k]) 20)=gs0:=by kernel_rfl):HP:=
 tN d [i,k] c [(i,oO k l),(k,oY l)] gs [(0,oO c r),(1,none),(2,oY r)] h hin a hlt hnd hgs (by rfl) (by rfl) (by rfl)
theorem aaT(a b c d:List α):a++b++c++d=a++(b++c++d):=by grind
theorem kh{l r:CY}(hi:JS i)(hl:l.length<=10000000000000)(d:l++sN i=r):jg prog gl 92 [.ref 0 0,.agg (aj i)] [(0,oO 1 l),(1,oY l)] 2 (.tup []) [(0,oO 2 r),(2,oY r)] 3:=by
 have h1:=aR hi.a;have h2:=aR hi.b;have e:l++aV i.By++aV i.Seq++nb i.Sum=r:=by rw[aaT];exact d
 refine pP func92 ?_;exact Hf .normal (s0 16 gl [] [(0,oO 2 r),(2,oY r)] 3 2) [] [gD 7 0 1 3 [.ref 0 0,iG i.By] (cA gl hi.a aa (r:=l++aV i.By) rfl),gD 11 0 3 4 [.ref 0 0,iG i.Seq] (cA gl hi.b cq (r:=l++aV i.By++aV i.Seq) rfl),gD 15 0 4 5 [.ref 0 0,uG i.Sum] (JT gl hi.c cq e)] [hc (el r),hc (rY.imm r)] (ρ:=[(0,0),(1,1),(2,5)]) (kd:=[(2,.row)])
theorem CR{l r s:CY}(hs:s.length<=1000000)(hl:l.length<=10000000000000)(a:l++tM s=r):jg prog gl 262 [.ref 0 0,sG s] [(0,oO 1 l),(1,oY l)] 2 (.tup []) [(0,oO 2 r),(2,oY r)] 3:=by
 have h1:=aR (dO hs);have e:aT 1 (l++aV (s.length:Int)) s=some r:=by grind [aT,tM]
 refine pP func262 ?_;exact Hf .normal (s0 17 gl [] [(0,oO 2 r),(2,oY r)] 3 2) [] [hL 6 s,gD 7 0 1 2 [.ref 0 0,iG (ah s)] (cA gl (dO hs) aa (r:=l++aV (s.length:Int)) rfl),XZ 14 e] [hc (el r),hc (rY.imm r)] (ρ:=[(0,0),(1,1),(2,3)]) (kd:=[(2,.row)])
theorem rS{l:CY}(hl:l.length<=10000000000000):jg prog gl 93 [.ref 0 0] [(0,oO 1 l),(1,oY l)] 2 (.rsl 2 0 l.length) [(0,oO 1 l),(1,oY l),(2,oY l)] 3:=by refine pP func93 ?_;exact Hf .ret (s0 8 gl [(2,.rsl 2 0 l.length)] [(0,oO 1 l),(1,oY l),(2,oY l)] 3 2) [.rsl 2 0 l.length] [YL 7 rY (show aT 1 [] l=some l by unfold aT;rw[BB cq];rfl)] [hc (el l),hc (el l),hc (rY.imm l),hc (rY.imm l)] (kd:=[(1,.row),(2,.row)])
section
def md{α:Type}(N:Nat)(enc:α->CY)(ok:α->Bool)(L:List α)(s:Bool×CY×Int):Option ((Bool×CY×Int)⊕(Bool×CY)):=
 bif s.2.2<ah L then(aS L s.2.2).bind λy=>bif ok y&&decide (s.2.1.length<=N)then some (.inl (true,s.2.1++enc y,wI (s.2.2+1)))else none else some (.inr (s.1,s.2.1))
theorem zp(N:Nat){enc:α->CY}{ok:α->Bool}{L:List α}(c:Nat)(b:Bool){l:CY}(hok:∀x∈L,ok x=true)(hc:∀x∈L,(enc x).length<=c)(hn:L.length<=1000000)(hl:l.length+L.length*c<=N):AQ (md N enc ok L) (b,l,0)=some (b||decide (0<L.length),l++L.flatMap enc):=by
 have h:T (AQ (md N enc ok L) (b,l,0)) λr=>r=(b||decide (0<L.length),l++L.flatMap enc):=by
  refine T.loop (λs=>∃k:Nat,s.2.2=(k:Int)/\k<=L.length/\s.2.1=l++(L.take k).flatMap enc/\s.1=(b||decide (0<k))) (λs=>L.length-s.2.2.toNat) (by grind) (by show L.length-_<_;omega) ?_;rintro⟨a,acc,i⟩ ⟨k,h1,h2,h3,h0⟩;simp only at h1 h2 h3 h0;subst h1;subst h3;subst h0;unfold md;refine .dec (λh=>?_) λh=>?_
  .have hk:k<L.length:=by grind [ah]
   refine .bind (.ix (by dsimp only;omega) (x:=L[k]) (by rw[Fu,EA hk]) ?_);have hm:L[k]∈L:=List.getElem_mem hk;have h4:((L.take k).flatMap enc).length<=(L.take k).length*c:=d8 (by grind);have h5:(L.take k).length*c<=L.length*c:=Nat.mul_le_mul_right c (by rw[MG];omega);rw[hok _ hm,Bool.true_and,C5 (by grind),ax];refine .some ⟨⟨k+1,aq aa,hk,?_,aC⟩,?_⟩;all_goals grind [List.take_succ_eq_append_getElem,aq]
  .have hk:k=L.length:=by grind [ah]
   refine .some ?_;show((b||decide (0<k)),l++(L.take k).flatMap enc)=_;rw[hk,EG]
 exact h.eq
instance (z:Int):Decidable (c8 z):=by unfold c8;infer_instance
instance (n:Nat):Decidable (fS n):=by unfold fS;infer_instance
def okI(z:Int):Bool:=decide (c8 z)
def okU(n:Nat):Bool:=decide (fS n)
theorem rT{c:Bool}{N:Nat}{x:Option α}{r:α}(h:(bif c&&decide (n<=N)then x else none)=some r):c=true/\n<=N/\x=some r:=by grind
variable {P:Bu}
end
abbrev bx:Option Ob:=some ⟨238,[.ref 1 0],none⟩
abbrev bb:Option Ob:=some ⟨328,[.clo (.func 257) [] [.ref 0 0]],none⟩
def oN(k:Nat):Bool->Nat:=λb=>bif b then k else 2
instance (x:Ab):Decidable (JS x):=decidable_of_iff (c8 x.By/\c8 x.Seq/\fS x.Sum) ⟨λ⟨a,b,c⟩=>⟨a,b,c⟩,λ⟨a,b,c⟩=>⟨a,b,c⟩⟩
instance (x:Ha):Decidable (Fp x):=decidable_of_iff (fS x.To/\fS x.Eph/\fS x.Body/\fS x.Tag) ⟨λ⟨a,b,c,d⟩=>⟨a,b,c,d⟩,λ⟨a,b,c,d⟩=>⟨a,b,c,d⟩⟩
instance (x:Fm):Decidable (I4 x):=decidable_of_iff (fS x.Pub/\x.Boxes.length<=1000/\∀b∈x.Boxes,Fp b) ⟨λ⟨a,b,c⟩=>⟨a,b,c⟩,λ⟨a,b,c⟩=>⟨a,b,c⟩⟩
instance (x:DR):Decidable (Hl x):=decidable_of_iff (JS x.Of/\x.Body.length<=1000) ⟨λ⟨a,b⟩=>⟨a,b⟩,λ⟨a,b⟩=>⟨a,b⟩⟩
def WJ(L:Bp)(s:Bool×CY×Int):St:=match s.1 with
 |true=>(s0 15 gl [(1,.ref 0 0),(5,.rsl 3 0 L.length),(6,iG (ah L)),(7,iG s.2.2)] [(0,bx),(1,oO 4 s.2.1),(4,oY s.2.1),ob 3 3 (L.flatMap cZ)] 5 4)
 |false=>(s0 15 gl [(1,.ref 0 0),(5,.rsl 3 0 L.length),(6,iG (ah L)),(7,iG s.2.2)] [(0,bx),(1,oO 2 s.2.1),(2,oY s.2.1),ob 3 3 (L.flatMap cZ)] 4 4)
theorem CS{l:CY}{L:Bp}(hL:∀x∈L,c8 x)(hn:L.length<=1000000)(h0:0<L.length)(hl:l.length<=900000000000)(b:l++L.flatMap aV=r):jg prog gl 256 [.rsl 3 0 L.length,.ref 0 0] [(0,bx),(1,oO 2 l),(2,oY l),ob 3 3 (L.flatMap cZ)] 4 (.tup []) [(0,bx),(1,oO 4 r),(4,oY r),ob 3 3 (L.flatMap cZ)] 5:=by
 have hs:=zp 1000000000000 (enc:=aV) (ok:=okI) (L:=L) 10 false (l:=l) (λx hx=>C5 (hL x hx)) (λx hx=>aR (hL x hx)) hn aa;rw[b,C5 h0,Bool.false_or] at hs;refine pP func256 ?_;refine pN (WJ gl L) [1,2,2] hs [] [hc (rfl:L.length=L.length),hc (el l),hc (rY.imm l),hc (rZ.imm L)] (λB s w hs k5 c=>?_) (kd:=[(2,.row),(3,.row)]) (ρ:=rI 4);obtain⟨d,acc,i⟩:=s;unfold md at hs;rcases bC hs with⟨b1,hs⟩|⟨b1,hs⟩
 .obtain⟨y,a,hs⟩:=bS hs;obtain⟨e,hacc,hs⟩:=rT hs;obtain rfl:=Bo hs;have hy:c8 y:=DS e;have hacc:acc.length<=1000000000000:=hacc;have k:=k5 _ rfl;cases d
  .exact jw [hr 8 b1,AH 9 (rZ.ixrZ 3 a),AH 10 (rZ.p10Z tZ a),gD 13 1 2 4 [.ref 1 0,iG y] (cA gl hy aa (r:=acc++aV y) rfl)] [hc (rfl:L.length=L.length),hc (el (acc++aV y)),hc (rY.imm (acc++aV y)),hc (rZ.imm L)] k (ρ:=rI 5) (kd:=[(4,.row),(3,.row)])
  .exact jw [hr 8 b1,AH 9 (rZ.ixrZ 3 a),AH 10 (rZ.p10Z tZ a),gD 13 1 4 5 [.ref 1 0,iG y] (cA gl hy aa (r:=acc++aV y) rfl)] [hc (rfl:L.length=L.length),hc (el (acc++aV y)),hc (rY.imm (acc++aV y)),hc (rZ.imm L)] k (ρ:=rI 4++[(4,5)]) (kd:=[(4,.row),(3,.row)])
 .obtain rfl:=Bo hs;cases c _ rfl;exact Hf .normal (s0 15 gl [] [(0,bx),(1,oO 4 acc),(4,oY acc),ob 3 3 (L.flatMap cZ)] 5 4) [] [hr 8 b1] [hc (el acc),hc (rY.imm acc),hc (rZ.imm L)] (ρ:=rI 5) (kd:=[(4,.row),(3,.row)])
def WK(x:Ha)(s:Bool×CY×Int):St:=match s.1 with
 |true=>(s0 23 gl [(1,.ref 0 0),(13,.rsl 3 0 4),(14,iG 4),(15,iG s.2.2)] [(0,bx),(1,oO 4 s.2.1),(4,oY s.2.1),ob 3 23 ([x.To,x.Eph,x.Body,x.Tag].flatMap cW)] 5 3)
 |false=>(s0 23 gl [(1,.ref 0 0),(13,.rsl 3 0 4),(14,iG 4),(15,iG s.2.2)] [(0,bx),(1,oO 2 s.2.1),(2,oY s.2.1),ob 3 23 ([x.To,x.Eph,x.Body,x.Tag].flatMap cW)] 4 3)
theorem Ri{l r:CY}{x:Ha}(hx:Fp x)(hl:l.length<=900000000000)(f:l++uT x=r):jg prog gl 257 [.agg (cz x),.ref 0 0] [(0,bx),(1,oO 2 l),(2,oY l)] 3 (.tup []) [(0,bx),(1,oO 3 r),(3,oY r)] 4:=by
 have hU:∀n∈[x.To,x.Eph,x.Body,x.Tag],fS n:=by grind [Fp.a,Fp.b,Fp.c,Fp.d]
 have hs:=zp 1000000000000 (enc:=nb) (ok:=okU) (L:=[x.To,x.Eph,x.Body,x.Tag]) 10 false (l:=l) (λx hx=>C5 (hU x hx)) (λx hx=>gH (hU x hx)) aC cq;rw[show l++[x.To,x.Eph,x.Body,x.Tag].flatMap nb=r from f,C5 (by grind),Bool.false_or] at hs;refine pP func257 ?_;refine pN (WK gl x) [1,1,2,2] hs [] [hc (rfl:(4:Nat)=4),hc (el l),hc (rY.imm l),hc (rW.imm [x.To,x.Eph,x.Body,x.Tag])] (λB s w hs k5 g=>?_) (kd:=[(2,.row),(3,.row)]) (ρ:=rI 3++[(3,4)]);obtain⟨h,acc,i⟩:=s;unfold md at hs;rcases bC hs with⟨b1,hs⟩|⟨b1,hs⟩
 .obtain⟨y,e,hs⟩:=bS hs;obtain⟨j,hacc,hs⟩:=rT hs;obtain rfl:=Bo hs;have hy:fS y:=DS j;have hacc:acc.length<=1000000000000:=hacc;have k:=k5 _ rfl;cases h
  .exact jw [hr 16 b1,AH 17 (rW.ixrZ 3 e),AH 18 (rW.p10Z tW e),gD 21 1 2 4 [.ref 1 0,uG y] (JT gl hy aa (r:=acc++nb y) rfl)] [hc (rfl:(4:Nat)=4),hc (el (acc++nb y)),hc (rY.imm (acc++nb y)),hc (rW.imm [x.To,x.Eph,x.Body,x.Tag])] k (ρ:=rI 5) (kd:=[(4,.row),(3,.row)])
  .exact jw [hr 16 b1,AH 17 (rW.ixrZ 3 e),AH 18 (rW.p10Z tW e),gD 21 1 4 5 [.ref 1 0,uG y] (JT gl hy aa (r:=acc++nb y) rfl)] [hc (rfl:(4:Nat)=4),hc (el (acc++nb y)),hc (rY.imm (acc++nb y)),hc (rW.imm [x.To,x.Eph,x.Body,x.Tag])] k (ρ:=rI 4++[(4,5)]) (kd:=[(4,.row),(3,.row)])
 .obtain rfl:=Bo hs;cases g _ rfl;exact Hf .normal (s0 23 gl [] [(0,bx),(1,oO 3 acc),(3,oY acc)] 4 3) [] [hr 16 b1] [hc (el acc),hc (rY.imm acc)] (ρ:=rI 3++[(3,4)]) (kd:=[(3,.row)])
abbrev sW(k:Nat)(l:CY):aQ:=[(0,bx),(1,oO k l),(k,oY l),(3,bb)]
def IN(d k c:Nat)(gs:Bn){gl:CB}{fid:FuncId}{gs0:Bn}{l r:CY}(h:jg prog gl fid gs0 (sW 2 l) [0,1,k,3].length (.tup []) (sW 4 r) 5)
  (hin:w6 (vi [0,1,k,3]) (sW k l) (sW 2 l) 0 [0,1,k,3]:=by exact⟨⟨rfl,.inl rfl⟩,⟨rfl,.inl rfl⟩,⟨rfl,.inr ⟨rfl,rY.imm _⟩⟩,⟨rfl,.inl rfl⟩,trivial⟩) (a:oI (GV [0,1,k,3] c) (sW 4 r) [(0,bx),(1,oO c r),(2,none),(3,bb),(4,oY r)]:=by exact⟨⟨rfl,.inl rfl⟩,⟨rfl,.inl rfl⟩,⟨rfl,.inl rfl⟩,⟨rfl,.inr ⟨rfl,rY.imm _⟩⟩,trivial⟩)
  (hlt:[0,1,k,3].all (λi=>Nat.blt i c)=true:=by kernel_rfl) (hnd:decide [0,1,k,3].Nodup=true:=by kernel_rfl) (hgs:gs.map (qg (vi [0,1,k,3]) 20)=gs0:=by kernel_rfl):HP:=
 tN d [0,1,k,3] c (sW k l) gs [(0,bx),(1,oO c r),(2,none),(3,bb),(4,oY r)] h hin a hlt hnd hgs (by rfl) (by rfl) (by rfl)
def Zc(d k c:Nat)(gs:Bn){gl:CB}{fid:FuncId}{gs0:Bn}{l r:CY}(h:jg prog gl fid gs0 [(0,bx),(1,oO 2 l),(2,oY l)] [0,1,k].length (.tup []) [(0,bx),(1,oO 3 r),(3,oY r)] 4)
  (hin:w6 (vi [0,1,k]) [(0,bx),(1,oO k l),(k,oY l)] [(0,bx),(1,oO 2 l),(2,oY l)] 0 [0,1,k]:=by exact⟨⟨rfl,.inl rfl⟩,⟨rfl,.inl rfl⟩,⟨rfl,.inr ⟨rfl,rY.imm _⟩⟩,trivial⟩) (a:oI (GV [0,1,k] c) [(0,bx),(1,oO 3 r),(3,oY r)] [(0,bx),(1,oO c r),(2,none),(3,oY r)]:=by exact⟨⟨rfl,.inl rfl⟩,⟨rfl,.inl rfl⟩,⟨rfl,.inr ⟨rfl,rY.imm _⟩⟩,trivial⟩)
  (hlt:[0,1,k].all (λi=>Nat.blt i c)=true:=by kernel_rfl) (hnd:decide [0,1,k].Nodup=true:=by kernel_rfl) (hgs:gs.map (qg (vi [0,1,k]) 20)=gs0:=by kernel_rfl):HP:=
 tN d [0,1,k] c [(0,bx),(1,oO k l),(k,oY l)] gs [(0,bx),(1,oO c r),(2,none),(3,oY r)] h hin a hlt hnd hgs (by rfl) (by rfl) (by rfl)
theorem Rj{l:CY}{L:Bb}(hL:∀x∈L,JS x)(hn:L.length<=1000)(hl:l.length<=900000000000)(a:l++(aV (L.length:Int)++L.flatMap sN)=r):jg prog gl 258 [.ref 1 0,aE aj L,.clo (.func 92) [.ref 1 0] []] (sW 2 l) 4 (.tup []) (sW 4 r) 5:=by
 have h1:=aR (dO (l:=L) aa);have hs:=zp 1000000000000 (enc:=sN) (ok:=λx=>decide (JS x)) (L:=L) 30 true (l:=l++aV (L.length:Int)) (λx hx=>C5 (hL x hx)) (λx hx=>K0 (hL x hx)) aa cq;rw[List.append_assoc,a,Bool.true_or] at hs;refine pP func258 ?_;refine pN (λs:Bool×CY×Int=>(s0 22 gl [(2,.clo (.func 92) [.ref 1 0] []),(12,aE aj L),(13,iG (ah L)),(14,iG s.2.2)] (sW 4 s.2.1) 5 4)) 11122 hs [gD 11 1 2 4 [.ref 1 0,iG (ah L)] (cA gl (dO (l:=L) aa) aa (r:=l++aV (L.length:Int)) rfl)] [hc (el (l++aV (L.length:Int))),hc (rY.imm (l++aV (L.length:Int)))] (λB s w hs k5 c=>?_) (kd:=[(4,.row),(999999,.clo)]) (ρ:=rI 5);obtain⟨e,acc,i⟩:=s;unfold md at hs;rcases bC hs with⟨b1,hs⟩|⟨b1,hs⟩
 .obtain⟨y,b,hs⟩:=bS hs;obtain⟨d,hacc,hs⟩:=rT hs;obtain rfl:=Bo hs;have hy:JS y:=DS d;have hacc:acc.length<=1000000000000:=hacc;exact jw [hr 15 b1,AH 16 (ac.ixZ b),AH 17 (ac.ptZ aW b),gD 20 1 4 6 [.ref 1 0,.agg (aj y)] (kh gl hy aa (r:=acc++sN y) rfl)] [hc (el (acc++sN y)),hc (rY.imm (acc++sN y))] (k5 _ rfl) (ρ:=rI 4++[(4,6)]) (kd:=[(4,.row),(999999,.clo)])
 .obtain rfl:=Bo hs;cases c _ rfl;exact Hf .normal (s0 22 gl [] (sW 4 acc) 5 4) [] [hr 15 b1] [hc (el acc),hc (rY.imm acc)] (ρ:=rI 5) (kd:=[(4,.row),(999999,.clo)])
theorem IO_q{l r:CY}{L:List Ha}(hL:∀x∈L,Fp x)(hn:L.length<=1000)(hl:l.length<=800000000000)(a:l++(aV (L.length:Int)++L.flatMap uT)=r):jg prog gl 261 [.ref 1 0,aE cz L,.clo (.func 257) [] [.ref 0 0]] (sW 2 l) 4 (.tup []) (sW 4 r) 5:=by
 have h1:=aR (dO (l:=L) aa);have hs:=zp 900000000000 (enc:=uT) (ok:=λx=>decide (Fp x)) (L:=L) 40 true (l:=l++aV (L.length:Int)) (λx hx=>C5 (hL x hx)) (λx hx=>Ao (hL x hx)) aa cq;rw[List.append_assoc,a,Bool.true_or] at hs;refine pP func261 ?_;refine pN (λs:Bool×CY×Int=>(s0 22 gl [(2,.clo (.func 257) [] [.ref 0 0]),(12,aE cz L),(13,iG (ah L)),(14,iG s.2.2)] (sW 4 s.2.1) 5 4)) 11122 hs [gD 11 1 2 4 [.ref 1 0,iG (ah L)] (cA gl (dO (l:=L) aa) aa (r:=l++aV (L.length:Int)) rfl)] [hc (el (l++aV (L.length:Int))),hc (rY.imm (l++aV (L.length:Int)))] (λB s w hs k5 c=>?_) (kd:=[(4,.row),(999999,.clo)]) (ρ:=rI 5);obtain⟨e,acc,i⟩:=s;unfold md at hs;rcases bC hs with⟨b1,hs⟩|⟨b1,hs⟩
 .obtain⟨y,b,hs⟩:=bS hs;obtain⟨d,hacc,hs⟩:=rT hs;obtain rfl:=Bo hs;have hy:Fp y:=DS d;have hacc:acc.length<=900000000000:=hacc;exact jw [hr 15 b1,AH 16 (EO.ixZ b),AH 17 (EO.ptZ UL b),Zc 20 4 6 [.agg (cz y),.ref 0 0] (Ri gl hy aa (r:=acc++uT y) rfl)] [hc (el (acc++uT y)),hc (rY.imm (acc++uT y))] (k5 _ rfl) (ρ:=rI 4++[(4,6)]) (kd:=[(4,.row),(999999,.clo)])
 .obtain rfl:=Bo hs;cases c _ rfl;exact Hf .normal (s0 22 gl [] (sW 4 acc) 5 4) [] [hr 15 b1] [hc (el acc),hc (rY.imm acc)] (ρ:=rI 5) (kd:=[(4,.row),(999999,.clo)])
theorem TM{l:CY}{L:Br}(hL:∀x∈L,fS x)(hn:L.length<=1000)(hl:l.length<=900000000000)(a:l++(aV (L.length:Int)++L.flatMap nb)=r):jg prog gl 263 [.ref 1 0,aE cW L,.clo (.func 91) [.ref 1 0] []] (sW 2 l) 4 (.tup []) (sW 4 r) 5:=by
 have h1:=aR (dO (l:=L) aa);have hs:=zp 1000000000000 (enc:=nb) (ok:=λx=>decide (fS x)) (L:=L) 10 true (l:=l++aV (L.length:Int)) (λx hx=>C5 (hL x hx)) (λx hx=>gH (hL x hx)) aa cq;rw[List.append_assoc,a,Bool.true_or] at hs;refine pP func263 ?_;refine pN (λs:Bool×CY×Int=>(s0 22 gl [(2,.clo (.func 91) [.ref 1 0] []),(12,aE cW L),(13,iG (ah L)),(14,iG s.2.2)] (sW 4 s.2.1) 5 4)) 11122 hs [gD 11 1 2 4 [.ref 1 0,iG (ah L)] (cA gl (dO (l:=L) aa) aa (r:=l++aV (L.length:Int)) rfl)] [hc (el (l++aV (L.length:Int))),hc (rY.imm (l++aV (L.length:Int)))] (λB s w hs k5 c=>?_) (kd:=[(4,.row),(999999,.clo)]) (ρ:=rI 5);obtain⟨e,acc,i⟩:=s;unfold md at hs;rcases bC hs with⟨b1,hs⟩|⟨b1,hs⟩
 .obtain⟨y,b,hs⟩:=bS hs;obtain⟨d,hacc,hs⟩:=rT hs;obtain rfl:=Bo hs;have hy:fS y:=DS d;have hacc:acc.length<=1000000000000:=hacc;exact jw [hr 15 b1,AH 16 (rW.ixZ b),AH 17 (rW.p1Z tW b),gD 20 1 4 5 [.ref 1 0,uG y] (JT gl hy aa (r:=acc++nb y) rfl)] [hc (el (acc++nb y)),hc (rY.imm (acc++nb y))] (k5 _ rfl) (ρ:=rI 4++[(4,5)]) (kd:=[(4,.row),(999999,.clo)])
 .obtain rfl:=Bo hs;cases c _ rfl;exact Hf .normal (s0 22 gl [] (sW 4 acc) 5 4) [] [hr 15 b1] [hc (el acc),hc (rY.imm acc)] (ρ:=rI 5) (kd:=[(4,.row),(999999,.clo)])
theorem TN{l:CY}{L:Bp}(hL:∀x∈L,c8 x)(hn:L.length<=1000)(hl:l.length<=900000000000)(a:l++(aV (L.length:Int)++L.flatMap aV)=r):jg prog gl 264 [.ref 1 0,aE cZ L,.clo (.func 89) [.ref 1 0] []] (sW 2 l) 4 (.tup []) (sW 4 r) 5:=by
 have h1:=aR (dO (l:=L) aa);have hs:=zp 1000000000000 (enc:=aV) (ok:=λx=>decide (c8 x)) (L:=L) 10 true (l:=l++aV (L.length:Int)) (λx hx=>C5 (hL x hx)) (λx hx=>aR (hL x hx)) aa cq;rw[List.append_assoc,a,Bool.true_or] at hs;refine pP func264 ?_;refine pN (λs:Bool×CY×Int=>(s0 22 gl [(2,.clo (.func 89) [.ref 1 0] []),(12,aE cZ L),(13,iG (ah L)),(14,iG s.2.2)] (sW 4 s.2.1) 5 4)) 11122 hs [gD 11 1 2 4 [.ref 1 0,iG (ah L)] (cA gl (dO (l:=L) aa) aa (r:=l++aV (L.length:Int)) rfl)] [hc (el (l++aV (L.length:Int))),hc (rY.imm (l++aV (L.length:Int)))] (λB s w hs k5 c=>?_) (kd:=[(4,.row),(999999,.clo)]) (ρ:=rI 5);obtain⟨e,acc,i⟩:=s;unfold md at hs;rcases bC hs with⟨b1,hs⟩|⟨b1,hs⟩
 .obtain⟨y,b,hs⟩:=bS hs;obtain⟨d,hacc,hs⟩:=rT hs;obtain rfl:=Bo hs;have hy:c8 y:=DS d;have hacc:acc.length<=1000000000000:=hacc;exact jw [hr 15 b1,AH 16 (rZ.ixZ b),AH 17 (rZ.p1Z tZ b),gD 20 1 4 5 [.ref 1 0,iG y] (cA gl hy aa (r:=acc++aV y) rfl)] [hc (el (acc++aV y)),hc (rY.imm (acc++aV y))] (k5 _ rfl) (ρ:=rI 4++[(4,5)]) (kd:=[(4,.row),(999999,.clo)])
 .obtain rfl:=Bo hs;cases c _ rfl;exact Hf .normal (s0 22 gl [] (sW 4 acc) 5 4) [] [hr 15 b1] [hc (el acc),hc (rY.imm acc)] (ρ:=rI 5) (kd:=[(4,.row),(999999,.clo)])
theorem Rl{l r:CY}{x:Fm}(hx:I4 x)(hl:l.length<=700000000000)(c:l++ke x=r):jg prog gl 260 [.agg (bY x),.ref 0 0,.ref 3 0] (sW 2 l) 4 (.tup []) (sW 4 r) 5:=by
 have h1:=gH hx.a;have e:l++nb x.Pub++(aV (x.Boxes.length:Int)++x.Boxes.flatMap uT)=r:=by grind [ke,uU]
 refine pP func260 ?_;exact Hf .normal (s0 13 gl [] (sW 4 r) 5 4) [] [gD 7 1 2 5 [.ref 1 0,uG x.Pub] (JT gl hx.a aa (r:=l++nb x.Pub) rfl),IN 12 5 6 [.ref 1 0,aE cz x.Boxes,.clo (.func 257) [] [.ref 0 0]] (IO_q gl hx.b hx.n cq e)] [hc (el r),hc (rY.imm r)] (ρ:=rI 4++[(4,6)]) (kd:=[(4,.row),(999999,.clo)])
theorem Rm{l r:CY}{x:DR}(hx:Hl x)(hl:l.length<=9000000000000)(b:l++lX x=r):jg prog gl 266 [.agg (bp x),.ref 0 0] [(0,bx),(1,oO 2 l),(2,oY l)] 3 (.tup []) [(0,bx),(1,oO 3 r),(3,oY r)] 4:=by
 have h1:=K0 hx.a;have e:l++sN x.Of++tM x.Body=r:=by grind [lX]
 refine pP func266 ?_;exact Hf .normal (s0 12 gl [] [(0,bx),(1,oO 3 r),(3,oY r)] 4 3) [] [gD 6 1 2 4 [.ref 1 0,.agg (aj x.Of)] (kh gl hx.a aa (r:=l++sN x.Of) rfl),XY 10 x.Body,gD 11 1 4 5 [.ref 1 0,sG x.Body] (CR gl (by have:=hx.n;omega) cq e)] [hc (el r),hc (rY.imm r)] (ρ:=rI 3++[(3,5)]) (kd:=[(3,.row)])
theorem Ro{l:CY}{L:List Fm}(hL:∀x∈L,I4 x)(hn:L.length<=1000)(hl:l.length<=600000000000)(a:l++(aV (L.length:Int)++L.flatMap ke)=r):jg prog gl 259 [.ref 1 0,aE bY L,.clo (.func 260) [] [.ref 0 0,.ref 3 0]] (sW 2 l) 4 (.tup []) (sW 4 r) 5:=by
 have h1:=aR (dO (l:=L) aa);have hs:=zp 700000000000 (enc:=ke) (ok:=λx=>decide (I4 x)) (L:=L) 40020 true (l:=l++aV (L.length:Int)) (λx hx=>C5 (hL x hx)) (λx hx=>Aq (hL x hx)) aa cq;rw[List.append_assoc,a,Bool.true_or] at hs;refine pP func259 ?_;refine pN (λs:Bool×CY×Int=>(s0 22 gl [(2,.clo (.func 260) [] [.ref 0 0,.ref 3 0]),(12,aE bY L),(13,iG (ah L)),(14,iG s.2.2)] (sW 4 s.2.1) 5 4)) 11122 hs [gD 11 1 2 4 [.ref 1 0,iG (ah L)] (cA gl (dO (l:=L) aa) aa (r:=l++aV (L.length:Int)) rfl)] [hc (el (l++aV (L.length:Int))),hc (rY.imm (l++aV (L.length:Int)))] (λB s w hs k5 c=>?_) (kd:=[(4,.row),(999999,.clo)]) (ρ:=rI 5);obtain⟨e,acc,i⟩:=s;unfold md at hs;rcases bC hs with⟨b1,hs⟩|⟨b1,hs⟩
 .obtain⟨y,b,hs⟩:=bS hs;obtain⟨d,hacc,hs⟩:=rT hs;obtain rfl:=Bo hs;have hy:I4 y:=DS d;have hacc:acc.length<=700000000000:=hacc;exact jw [hr 15 b1,AH 16 (bZ.ixZ b),AH 17 (bZ.ptZ Pc b),IN 20 4 6 [.agg (bY y),.ref 0 0,.ref 3 0] (Rl gl hy aa (r:=acc++ke y) rfl)] [hc (el (acc++ke y)),hc (rY.imm (acc++ke y))] (k5 _ rfl) (ρ:=rI 4++[(4,6)]) (kd:=[(4,.row),(999999,.clo)])
 .obtain rfl:=Bo hs;cases c _ rfl;exact Hf .normal (s0 22 gl [] (sW 4 acc) 5 4) [] [hr 15 b1] [hc (el acc),hc (rY.imm acc)] (ρ:=rI 5) (kd:=[(4,.row),(999999,.clo)])
theorem Rp{l:CY}{L:List DR}(hL:∀x∈L,Hl x)(hn:L.length<=1000)(hl:l.length<=900000000000)(a:l++(aV (L.length:Int)++L.flatMap lX)=r):jg prog gl 265 [.ref 1 0,aE bp L,.clo (.func 266) [] [.ref 0 0]] (sW 2 l) 4 (.tup []) (sW 4 r) 5:=by
 have h1:=aR (dO (l:=L) aa);have hs:=zp 1000000000000 (enc:=lX) (ok:=λx=>decide (Hl x)) (L:=L) 1040 true (l:=l++aV (L.length:Int)) (λx hx=>C5 (hL x hx)) (λx hx=>F6 (hL x hx)) aa cq;rw[List.append_assoc,a,Bool.true_or] at hs;refine pP func265 ?_;refine pN (λs:Bool×CY×Int=>(s0 22 gl [(2,.clo (.func 266) [] [.ref 0 0]),(12,aE bp L),(13,iG (ah L)),(14,iG s.2.2)] (sW 4 s.2.1) 5 4)) 11122 hs [gD 11 1 2 4 [.ref 1 0,iG (ah L)] (cA gl (dO (l:=L) aa) aa (r:=l++aV (L.length:Int)) rfl)] [hc (el (l++aV (L.length:Int))),hc (rY.imm (l++aV (L.length:Int)))] (λB s w hs k5 c=>?_) (kd:=[(4,.row),(999999,.clo)]) (ρ:=rI 5);obtain⟨e,acc,i⟩:=s;unfold md at hs;rcases bC hs with⟨b1,hs⟩|⟨b1,hs⟩
 .obtain⟨y,b,hs⟩:=bS hs;obtain⟨d,hacc,hs⟩:=rT hs;obtain rfl:=Bo hs;have hy:Hl y:=DS d;have hacc:acc.length<=1000000000000:=hacc;exact jw [hr 15 b1,AH 16 (bH.ixZ b),AH 17 (bH.ptZ GM b),Zc 20 4 6 [.agg (bp y),.ref 0 0] (Rm gl hy aa (r:=acc++lX y) rfl)] [hc (el (acc++lX y)),hc (rY.imm (acc++lX y))] (k5 _ rfl) (ρ:=rI 4++[(4,6)]) (kd:=[(4,.row),(999999,.clo)])
 .obtain rfl:=Bo hs;cases c _ rfl;exact Hf .normal (s0 22 gl [] (sW 4 acc) 5 4) [] [hr 15 b1] [hc (el acc),hc (rY.imm acc)] (ρ:=rI 5) (kd:=[(4,.row),(999999,.clo)])
end Go.Proofs.YtdpdicldkohflaaGreatDoor
