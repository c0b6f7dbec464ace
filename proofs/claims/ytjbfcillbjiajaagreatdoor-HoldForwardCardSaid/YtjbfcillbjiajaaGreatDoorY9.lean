/- Texts. -/
import Derived.Test.YtjbfcillbjiajaaGreatDoorVa
namespace Go.Proofs.YtjbfcillbjiajaaGreatDoor
set_option linter.unusedSectionVars false
set_option linter.unusedVariables false
set_option linter.unusedSimpArgs false
open Go.RowKit Tryz
variable (gl:CC)
variable {K V α:Type}{R:Ad}{i x:Ab}{j k n:Nat}{m:FM K V}{seen:Br}{e:K×V×Nat}{l:Ba}{P:Bu}{fn:Func}{t:Bj}{g:Az}
section
attribute [local irreducible] Tr dz Gp
theorem AmB(k:C7):Instr.sameBits 10000 (Cd k) (Cd k)=true:=by unfold Cd Hq;simp[Instr.sameBits]
abbrev XR(o:Bo):C7:=⟨o.By,o.Device⟩
def Aan(g:CM)(o:Bo):Bool:=match g.vouches.get (XR o) with
 |none=>true
 |some a=>decide (o.At<a)
abbrev Acv(g:CM)(o:Bo):CM:={g with vouches:=CA g.vouches (XR o) o.At}
def ZH(R:Ad)(o:Bo):Ad:=match R.members.es.find? λe=>LB e.2.1 o.Of with
 |some (k,⟨role,some g⟩,_)=>bif(g.guards.any λy=>decide (o.By=y))&&Aan g o then HU R k ⟨role,some (Acv g o)⟩else R
 |_=>R
theorem AfZ(hR:Bi R){o:Bo}(hb:1<=o.By/\o.By<=6):Bi (ZH R o):=by
 unfold ZH;split
 .rename_i k role g n hf;have hx:=(hR.mem (List.mem_of_find?_eq_some hf)).1;dsimp only at hx;cases(g.guards.any λy=>decide (o.By=y))&&Aan g o with
  |false=>exact hR
  |true=>
   refine Aam hR hx λa hg=>?_;cases hg;exact⟨Hj (hR.cv _ _ g hx rfl) _,hR.gm _ _ g hx rfl,hR.gn _ _ g hx rfl,hR.gN _ _ g hx rfl,λe he=>by
    have hk:e.1∈(CA g.vouches (XR o) o.At).es.map (·.1):=EO.2 ⟨e,he,rfl⟩;rw[Mh] at hk;split at hk
    .grind [Bi]
    .rcases JF.1 hk with hk|hk
     .obtain⟨y,hy,h⟩:=EO.1 hk;grind [Bi]
     grind⟩
 .exact hR
theorem lkV(g:CM)(k:C7)(q:Nat):bL prog [(10+q,some (M7 tMv Cd iG g.vouches))] tMv true (.mref (10+q)) (.agg (Nn k))=some (.tup [iG (MG (g.vouches.get k)),bG (g.vouches.get k).isSome]):=(Q9 (et:=3) Lx aH (k:=k) rfl (by rw[NP])).trans (SI g.vouches k _)
def hmr(c:Nat){P:Bu}{σ:aQ}{t:Bj}{gm gk g:G}{i:Nat}{ob:Ob}(h:dZ P σ t gm gk g=some (i,ob)):HP:=⟨some (.e 999999998 (.lit undef) i ob),dZ P (US σ (fR gm)) t gm gk g=some (i,ob),(abj Hh).symm.trans h⟩
theorem Aox(g:CM)(k:C7)(a:Int)(q:Nat):dZ prog [(10+q,some (M7 tMv Cd iG g.vouches))] tMv (.mref (10+q)) (.agg (Nn k)) (iG a)=some (10+q,M7 tMv Cd iG (CA g.vouches k a)):=AcA (et:=3) Lx AmB aH rfl (by rw[NP]) a
theorem Af0(hR:Bi R){o:Bo}(hk:o.Kind=11)(hby:1<=o.By/\o.By<=6):U2 gl R o i (ZH R o):=by
 have hok:=AfZ hR hby;have hrt:bB (iU []):=L7 aC;have a1:decide (o.Kind=1)=false:=by rw[hk];rfl
 have a2:decide (o.Kind=2)=false:=by rw[hk];rfl
 have a3:decide (o.Kind=3)=false:=by rw[hk];rfl
 have a5:decide (o.Kind=5)=false:=by rw[hk];rfl
 have a9:decide (o.Kind=9)=false:=by rw[hk];rfl
 have a11:decide (o.Kind=11)=true:=by rw[hk];rfl
 refine P2 gl hR ?_;have hg:=Ur gl hR o;unfold ZH at hok⊢;unfold Dq at hg;cases hf:R.members.es.find? λe=>LB e.2.1 o.Of with
 |none=>rw[hf] at hg;exact Hi f0 _ hR [hr 29 a1,hr 52 a2,hr 60 a3,hr 86 a5,hr 102 a9,hr 120 a11,hrr 124 f0 16 [.agg (aJ o)] hR hg] (rlX (f:=f0) (R:=R))
 |some e=>
  have he:=List.mem_of_find?_eq_some hf;have hh:LB e.2.1 o.Of=true:=by have:=List.find?_some hf;exact this
  obtain⟨hx,h3⟩:=hR.mem he;rw[hf] at hg hok;obtain⟨k,x,n⟩:=e;dsimp only at hx h3 hg hh hok⊢;obtain⟨j,rfl,c⟩:∃j:Nat,k=(j:Int)/\(j=1\/j=2\/j=3):=by grind
  obtain⟨role,gd⟩:=x;cases gd with
  |none=>cases hh
  |some g=>
   dsimp only at hg hok⊢;cases hb:g.guards.any λy=>decide (o.By=y) with
   |false=>rw[hb] at hg;exact Hi f0 _ hR [hr 29 a1,hr 52 a2,hr 60 a3,hr 86 a5,hr 102 a9,hr 120 a11,hrr 124 f0 16 [.agg (aJ o)] hR hg] (rlX (f:=f0) (R:=R))
   |true=>
    rw[hb] at hg hok;rw[Bool.true_and] at hok⊢;have hl:=hl3 c hx;have hlk:=Sr hx;have b:=lkV g (XR o) j;have d:=Aox g (XR o) o.At j;have h:=hl3 (R:=HU R (j:Int) ⟨role,some (Acv g o)⟩) c (by rw[JM,BB rfl]);have hs:=hs3 (role:=role) (g:=Acv g o) hx;unfold Aan at hok⊢;cases hv:g.vouches.get (XR o) with
    |none=>
     rw[hv] at hok b;rcases c with rfl|rfl|rfl
     all_goals
      refine pO 111121414141414131130 (s0 259 gl (frI 10 hx++[(0,.ref 0 0),(4,.ref 14 0)]) (stT hl++[(14,oOp o),(15,Po i)]) 16 5) [hr 29 a1,hr 52 a2,hr 60 a3,hr 86 a5,hr 102 a9,hr 120 a11,hrr 124 f0 16 [.agg (aJ o)] hR hg] (rlT ρD f0 hR hl) ?_ (kd:=N5)
      exact Hi f0 _ hok [Lu 134 hlk,Lu 149 b,hmr 17 d] (rlU hl h hs)
    |some a=>
     rw[hv] at hok b;dsimp only at hok⊢;cases hat:decide (o.At<a) with
     |true=>
      rw[hat] at hok;rcases c with rfl|rfl|rfl
      all_goals
       refine pO 111121414141414131130 (s0 259 gl (frI 10 hx++[(0,.ref 0 0),(4,.ref 14 0)]) (stT hl++[(14,oOp o),(15,Po i)]) 16 5) [hr 29 a1,hr 52 a2,hr 60 a3,hr 86 a5,hr 102 a9,hr 120 a11,hrr 124 f0 16 [.agg (aJ o)] hR hg] (rlT ρD f0 hR hl) ?_ (kd:=N5)
       exact Hi f0 _ hok [Lu 134 hlk,Lu 149 b,hr 158 hat,hmr 17 d] (rlU hl h hs)
     |false=>
      rcases c with rfl|rfl|rfl
      all_goals
       refine pO 111121414141414131130 (s0 259 gl (frI 10 hx++[(0,.ref 0 0),(4,.ref 14 0)]) (stT hl++[(14,oOp o),(15,Po i)]) 16 5) [hr 29 a1,hr 52 a2,hr 60 a3,hr 86 a5,hr 102 a9,hr 120 a11,hrr 124 f0 16 [.agg (aJ o)] hR hg] (rlT ρD f0 hR hl) ?_ (kd:=N5)
       exact Hi f0 _ hR [Lu 134 hlk,Lu 149 b,hr 158 hat] (XQ hl hrt)
abbrev Aoy(o:Bo)(i:Ab):CM:=⟨i,o.Guards,o.Need,o.Wait,⟨[],0⟩,false,0⟩
def Aao(R:Ad)(o:Bo)(i:Ab):Ad:=match R.members.get (DG R o.By) with
 |none=>R
 |some x=>HU R (DG R o.By) ⟨x.role,some (Aoy o i)⟩
theorem Af1(hR:Bi R){o:Bo}(hi:i.By=o.By)(hg:o.Guards.length<=1000000)(hn:1<=o.Need/\o.Need<=1000000):Bi (Aao R o i):=by
 unfold Aao;split
 .exact hR
 .rename_i x hx;refine Aam hR hx λa h=>?_;cases h;exact⟨(by grind [Nr,FxOk]),by show(DY (R.cards.get i.By)).Member=_;rw[hi];rfl,hg,hn,λe he=>by cases he⟩
def fGu(j q:Nat):Nat:=bif Nat.beq q (7+j)then 16 else bif Nat.beq q (10+j)then 17 else q
theorem Akc{q:Nat}(h1:q≠7+j)(h2:q≠10+j):fGu j q=q:=by grind [fGu,bc]
theorem AmC(a:∀e∈R.members.es,1<=e.1/\e.1<=3)(h3:j=1\/j=2\/j=3)(q:Nat)(h4:q≠4+j)(h7:q≠7+j)(h10:q≠10+j):Bw (fGu j) R q=Bw f0 R q:=by
 rcases JB q 14 with hlt|hge
 rotate_left
 .obtain⟨k,rfl⟩:∃k,q=k+14:=⟨q-14,aa⟩;rfl
 match q,hlt with
 |0,_=>rcases h3 with rfl|rfl|rfl<;>rfl
 |1,_=>rfl
 |2,_=>rfl
 |3,_=>rfl
 |4,_=>show some (⟨_,_,some (.map _ _)⟩:Ob)=some ⟨_,_,some (.map _ _)⟩;grind [List.map_congr_left,nM,Akc]
 |5,_=>rcases h3 with rfl|rfl|rfl<;>first|exact absurd rfl h4|rfl
 |6,_=>rcases h3 with rfl|rfl|rfl<;>first|exact absurd rfl h4|rfl
 |7,_=>rcases h3 with rfl|rfl|rfl<;>first|exact absurd rfl h4|rfl
 |8,_=>rcases h3 with rfl|rfl|rfl<;>first|exact absurd rfl h7|rfl
 |9,_=>rcases h3 with rfl|rfl|rfl<;>first|exact absurd rfl h7|rfl
 |10,_=>rcases h3 with rfl|rfl|rfl<;>first|exact absurd rfl h7|rfl
 |11,_=>rfl
 |12,_=>rfl
 |13,_=>rfl
abbrev fH{R:Ad}{k:Int}{x:AA}(_:R.members.get k=some x):Nat->Nat:=fGu k.toNat
abbrev rlG{R:Ad}{j:Nat}{x:AA}{g:CM}(h3:j=1\/j=2\/j=3)(hx:R.members.get (j:Int)=some x)(hok:Bi (HU R (j:Int) ⟨x.role,some g⟩))(hl:∀q∈[eM j x],Bw f0 R q.1=some q.2):List HP:=hc (⟨rfl,L7 aC⟩:iU []=iU []/\bB (iU []))::L0.map λq=>
 if h4:q=4+j then hc (λob h=>(by
  have:=JM (R:=R) (k:=(j:Int)) (x:=⟨x.role,some g⟩) j;rw[BB rfl] at this;have e:Bw (fGu j) (HU R (j:Int) ⟨x.role,some g⟩) (4+j)=some ⟨tMe,[iG x.role,.ref 16 0],none⟩:=by rcases h3 with rfl|rfl|rfl<;>exact(by show Option.map _ _=_;rw[this];rfl)
  exact e.symm.trans h):∀ob,Bw (fGu j) (HU R (j:Int) ⟨x.role,some g⟩) (4+j)=some ob->some ⟨tMe,[iG x.role,.ref 16 0],none⟩=some ob)
 else if h7:q=7+j then hc (λob h=>(by
  have:=JM (R:=R) (k:=(j:Int)) (x:=⟨x.role,some g⟩) j;rw[BB rfl] at this;have e:Bw (fGu j) (HU R (j:Int) ⟨x.role,some g⟩) (7+j)=some ⟨tGu,guC (fGu j) j g,none⟩:=by rcases h3 with rfl|rfl|rfl<;>exact(by show Option.map _ (Option.bind _ _)=_;rw[this];rfl)
  exact e.symm.trans h):∀ob,Bw (fGu j) (HU R (j:Int) ⟨x.role,some g⟩) (7+j)=some ob->some ⟨tGu,guC (fGu j) j g,none⟩=some ob)
 else if h10:q=10+j then hc (λob h=>(by
  have:=JM (R:=R) (k:=(j:Int)) (x:=⟨x.role,some g⟩) j;rw[BB rfl] at this;have e:Bw (fGu j) (HU R (j:Int) ⟨x.role,some g⟩) (10+j)=some (M7 tMv Cd iG g.vouches):=by rcases h3 with rfl|rfl|rfl<;>exact(by show Option.map _ (Option.bind _ _)=_;rw[this];rfl)
  exact e.symm.trans h):∀ob,Bw (fGu j) (HU R (j:Int) ⟨x.role,some g⟩) (10+j)=some ob->some (M7 tMv Cd iG g.vouches)=some ob)
 else hc (λob h=>(by rw[AmC (λe he=>hok.m3 e he) h3 q h4 h7 h10] at h;exact(aas hl q).trans (AfW hx q h4 (.inl h7) (.inl h10) ob h)):∀ob,Bw (fGu j) (HU R (j:Int) ⟨x.role,some g⟩) q=some ob->tg R [eM j x] q=some ob)
theorem Af2(hR:Bi R){o:Bo}(hk:o.Kind=9)(hi:i.By=o.By)(hgl:o.Guards.length<=1000000)(hn:1<=o.Need/\o.Need<=1000000):U2 gl R o i (Aao R o i):=by
 have hok:=Af1 hR (o:=o) hi hgl hn;have a1:decide (o.Kind=1)=false:=by rw[hk];rfl
 have a2:decide (o.Kind=2)=false:=by rw[hk];rfl
 have a3:decide (o.Kind=3)=false:=by rw[hk];rfl
 have a5:decide (o.Kind=5)=false:=by rw[hk];rfl
 have a9:decide (o.Kind=9)=true:=by rw[hk];rfl
 have hcl:=rZ.fo (uK gl (s:=o.Guards) (r:=o.Guards) (by unfold fF aT;rw[BB (by rw[List.length_nil];omega)];rfl));refine dFP func73 ?_;unfold Aao at hok⊢;cases hx:R.members.get (DG R o.By) with
 |none=>exact Hi f0 _ hR [hof gl 24 hR o.By 16,Lu 25 (XM hx),hr 29 a1,hr 52 a2,hr 60 a3,hr 86 a5,hr 102 a9] (rlX (f:=f0) (R:=R))
 |some x=>
  rw[hx] at hok;have hlk:=Sr hx;obtain⟨j,hj,a⟩:∃j:Nat,DG R o.By=(j:Int)/\(j=1\/j=2\/j=3):=by have:=AhJ hR hx;exact⟨(DG R o.By).toNat,aa,aa⟩
  rw[hj] at hx hok hlk⊢;have hl:=hl1 a hx;rcases a with rfl|rfl|rfl
  all_goals
   refine pO 11112141414141313 (s0 259 gl (frP 6 hx++[(4,.ref 14 0),(5,.ref 15 0)]) (stT hl++[(14,oOp o),(15,Po i)]) 16 5) [AfN gl 24 hR hj 16,Lu 25 hlk,hr 29 a1,hr 52 a2,hr 60 a3,hr 86 a5,hr 102 a9] (rlT ρD f0 hR hl) ?_ (ρ:=ρD) (kd:=N5)
   exact Hi (fH hx) _ hok [hf 109 hcl] (rlG BU hx hok hl)
abbrev Af3(R:Ad)(n:Int):Ad:={R with back:=n}
def Abs(R:Ad)(o:Bo):Ad:=bif decide ((R.was.es.length:Int)=0)&&D3 R o.By then Af3 (Je R o.By 3) o.Need else R
theorem AhQ(hR:Bi R)(n:Int):Bi (Af3 R n):=by grind [Bi]
theorem Af4(hR:Bi R)(o:Bo):Bi (Abs R o):=by grind [Abs,AhQ,Hv]
def Acw(R:Ad)(o:Bo):Bool:=bif Hw R o.Of>0 then(bif PR R o.Old then(bif DG R o.Old=Hw R o.Of then decide (DG R o.Device=Hw R o.Of)else false)else false)else false
def ZL(R:Ad)(o:Bo):Ad:=bif Acw R o then Ha (Je R o.Device (M6 R (DG R o.Device))) o.Old else R
theorem Af5(hR:Bi R)(o:Bo):Bi (ZL R o):=by grind [ZL,KX,Hv]
abbrev hro(d:Nat){R:Ad}(hR:Bi R)(x:Int)(c:Nat:=14):HP:=hrl d f0 c hR (VG gl R x) AhI (lR _)
theorem Aeh(hR:Bi R){o:Bo}(hk:o.Kind=1):U2 gl R o i (Abs R o):=by
 have hok:=Af4 hR o;have a1:decide (o.Kind=1)=true:=by rw[hk];rfl
 refine P2 gl hR ?_;unfold Abs at hok⊢;have hle:decide (((UK JG bG R.was).length:Int)=0)=decide ((R.was.es.length:Int)=0):=by rw[Gq]
 cases hw:decide ((R.was.es.length:Int)=0) with
 |false=>exact Hi f0 _ hR [hr 29 a1,hr 35 (hle.trans hw)] (rlX (f:=f0) (R:=R))
 |true=>
  rw[hw] at hok;rw[Bool.true_and] at hok⊢;cases hf:D3 R o.By with
  |false=>exact Hi f0 _ hR [hr 29 a1,hr 35 (hle.trans hw),hfr gl 40 hR hf 16] (rlX (f:=f0) (R:=R))
  |true=>rw[hf] at hok;exact Hi f16 _ hok [hr 29 a1,hr 35 (hle.trans hw),hfr gl 40 hR hf 16,hrw 45 f0 16 [iG o.By,iG 3] hR (Hv hR _ _) (XP gl hR o.By 3)] (rlX (f:=f16) (R:=Af3 (Je R o.By 3) o.Need))
theorem Acx(hR:Bi R){o:Bo}(hk:o.Kind=13):U2 gl R o i (ZL R o):=by
 have hok:=Af5 hR o;have a1:decide (o.Kind=1)=false:=by rw[hk];rfl
 have a2:decide (o.Kind=2)=false:=by rw[hk];rfl
 have a3:decide (o.Kind=3)=false:=by rw[hk];rfl
 have a5:decide (o.Kind=5)=false:=by rw[hk];rfl
 have a9:decide (o.Kind=9)=false:=by rw[hk];rfl
 have a11:decide (o.Kind=11)=false:=by rw[hk];rfl
 have a12:decide (o.Kind=12)=false:=by rw[hk];rfl
 have a13:decide (o.Kind=13)=true:=by rw[hk];rfl
 refine P2 gl hR ?_;have hw:=Abr gl hR o.Of;have hin:=AhL R o.Old;unfold ZL Acw at hok⊢;generalize Hw R o.Of=w at hw hok⊢;cases b1:decide (w>0) with
 |false=>exact Hi f0 _ hR [hr 29 a1,hr 52 a2,hr 60 a3,hr 86 a5,hr 102 a9,hr 120 a11,hr 168 a12,hr 213 a13,hrr 217 f0 16 [.agg (aj o.Of)] hR hw,hr 219 b1] (rlX (f:=f0) (R:=R))
 |true=>
  rw[b1] at hok;cases b2:PR R o.Old with
  |false=>rw[b2] at hin;exact Hi f0 _ hR [hr 29 a1,hr 52 a2,hr 60 a3,hr 86 a5,hr 102 a9,hr 120 a11,hr 168 a12,hr 213 a13,hrr 217 f0 16 [.agg (aj o.Of)] hR hw,hr 219 b1,Lu 227 hin] (rlX (f:=f0) (R:=R))
  |true=>
   rw[b2] at hin hok;cases b3:decide (DG R o.Old=w) with
   |false=>exact Hi f0 _ hR [hr 29 a1,hr 52 a2,hr 60 a3,hr 86 a5,hr 102 a9,hr 120 a11,hr 168 a12,hr 213 a13,hrr 217 f0 16 [.agg (aj o.Of)] hR hw,hr 219 b1,Lu 227 hin,hof gl 233 hR o.Old 16,hr 235 b3] (rlX (f:=f0) (R:=R))
   |true=>
    rw[b3] at hok;cases b4:decide (DG R o.Device=w) with
    |false=>exact Hi f0 _ hR [hr 29 a1,hr 52 a2,hr 60 a3,hr 86 a5,hr 102 a9,hr 120 a11,hr 168 a12,hr 213 a13,hrr 217 f0 16 [.agg (aj o.Of)] hR hw,hr 219 b1,Lu 227 hin,hof gl 233 hR o.Old 16,hr 235 b3,hof gl 241 hR o.Device 16,hr 243 b4] (rlX (f:=f0) (R:=R))
    |true=>rw[b4] at hok;have h1:=Hv hR o.Device (M6 R (DG R o.Device));exact Hi (fW f16 25) _ hok [hr 29 a1,hr 52 a2,hr 60 a3,hr 86 a5,hr 102 a9,hr 120 a11,hr 168 a12,hr 213 a13,hrr 217 f0 16 [.agg (aj o.Of)] hR hw,hr 219 b1,Lu 227 hin,hof gl 233 hR o.Old 16,hr 235 b3,hof gl 241 hR o.Device 16,hr 243 b4,hof gl 252 hR o.Device 16,hro gl 253 hR (DG R o.Device) 16,hrw 254 f0 16 [iG o.Device,iG (M6 R (DG R o.Device))] hR h1 (XP gl hR o.Device (M6 R (DG R o.Device))),hrw 258 f16 25 [iG o.Old] h1 (KX h1 _) (Aal gl h1 o.Old)] (rlX (f:=fW f16 25) (R:=Ha (Je R o.Device (M6 R (DG R o.Device))) o.Old))
def Hx(R:Ad):Bn:=(inZ (R.in_.es.map (·.1))).getD []
theorem le6{l:Bn}(hd:l.Nodup)(h:∀x∈l,1<=x/\x<=6):l.length<=6:=by
 have hs:∀x∈l.map Int.toNat,x∈List.range' 1 6:=by grind
 have hn:(l.map Int.toNat).Nodup:=by clear hs;induction l<;>grind
 have:=Rf hn hs;grind
theorem Bi.len{R:Ad}(hR:Bi R):R.in_.es.length<=6:=by
 have:=le6 hR.ci.kd λx hx=>by obtain⟨e,he,rfl⟩:=EO.1 hx;exact hR.i6 e he
 rwa [Gq] at this
theorem OJ(hR:Bi R):Qi (Hx R)/\(Hx R).Perm (R.in_.es.map (·.1))/\∀a:Bn,a.Perm (R.in_.es.map (·.1))->inZ a=some (Hx R):=by have hl:=hR.len;obtain⟨r,e,p,s⟩:=Adv (l:=R.in_.es.map (·.1)) (by rw[Gq];omega);grind [Hx,Adw,List.Perm.length_eq,Gq]
section
abbrev bx2:Option Ob:=some ⟨ZM,[.mref 2],none⟩
theorem Su(hR:Bi R):SA prog gl 37 [.ref 0 0] (BW f0 R) 14 14 (aE cZ (Hx R)) (BW f0 R):=by
 obtain⟨h1,h2,h3⟩:=OJ hR;have hl:=hR.len;have hsl:(Hx R).length=R.in_.es.length:=by rw[h2.length_eq,Gq]
 generalize Hx R=srt at h1 h2 h3 hsl⊢;refine dFP func37 ?_;exact ZT [tN 7 [2] 14 [(2,Us R.in_)] [.mref 2] [(0,Us R.in_),(1,bx2)] (Aga gl R.in_) ⟨⟨rfl,rfl,rfl,rfl,.inr ⟨rfl,Ut R.in_⟩⟩,trivial⟩ ⟨⟨rfl,rfl,rfl,rfl,.inr ⟨rfl,Ut R.in_⟩⟩,⟨rfl,.inl rfl⟩,trivial⟩,tN 8 [14,2] 15 [(14,bx2),(2,Us R.in_)] [OS 14] [(0,bx2),(1,Us R.in_),(2,KY srt)] (AcC gl hR.ci.1 aa h3 hsl) ⟨⟨rfl,.inl rfl⟩,⟨rfl,rfl,rfl,rfl,.inr ⟨rfl,Ut R.in_⟩⟩,trivial⟩ ⟨⟨rfl,.inl rfl⟩,⟨rfl,rfl,rfl,rfl,.inr ⟨rfl,Ut R.in_⟩⟩,⟨rfl,.inr ⟨rfl,rZ.imm srt⟩⟩,trivial⟩] (hc (⟨rZ.len srt,rZ.imm srt,rfl⟩:(srt.flatMap cZ).length=srt.length*1/\(∀g∈srt.flatMap cZ,bB g)/\srt.length=srt.length)::rlA hR) (Ge f0) N5
def AcD(n k:Nat):Option (Nat⊕Unit):=if k<n then some (.inl (k+1))else if k=n then some (.inr ())else none
theorem XT{n:Nat}(h:n<=1000000):AH (AcD n) 0=some ():=T.eq (T.loop (λk=>k<=n) (λk=>n-k) aa aa λk hk=>by
 unfold AcD;split
 .exact .some ⟨aa,aa⟩
 .rw[BB aa];exact .some rfl)
section
variable {P:Bu} [M:Mix P] {fn:Func} {Q:Exit->St->Prop} {Bs:List (St->Prop)} {m:Bool} {p:Br} {st:St}
theorem XU{l:List α}(hn:l.length<=1000000)(S:Nat->St)(b:Br)(A O:List HP)(h:∀(B:St->Prop) (k:Nat) (x:α),l[k]?=some x->aS l (k:Int)=some x->B (S (k+1))->Gp P fn Q (Bs++[B]) false b (S k))(he:∀B:St->Prop,Gp P fn Q (Bs++[B]) false b (S l.length))(vs:List Bj:=[])(ρ:DH:=[])(kd:List (Nat×Rk):=[])
  (hk:Ua A (Xr P (bK A) (LQ m p (ai fn)) (bE p (ai fn) Bs []) vs ρ kd (S 0) st) (pR O,S 0,bq b (ai fn),Oj fn Bs b):=by exact⟨aH,aH⟩)
  (e2:∀B,bE b (ai fn) (Bs++[B]) []= .lp B::Oj fn Bs b:=by intro B;kernel_rfl):Gp P fn Q Bs m p st:=
 pN S b (XT hn) A O (λB k w hs k5 _=>by
  unfold AcD at hs;split at hs
  .rename_i hlt;obtain rfl:=Bp hs;have hx:l[k]?=some l[k]:=EA hlt;exact h B k _ hx (Bt hx) (k5 _ rfl)
  .split at hs
   .rename_i he';exact he'▸he B
   .cases hs) vs ρ kd hk e2
end
def TB(m:Int)(Q:Ad)(d:Int):Ad:=bif DG Q d=m then Ha Q d else Q
def Agb(R:Ad)(o:Bo):Ad:=(Hx R).foldl (TB o.Member) R
theorem Adx{Q:Ad}(hQ:Bi Q)(m d:Int):Bi (TB m Q d):=by grind [TB,KX]
theorem Wg{m:Int}:∀{l:Bn} {Q:Ad},Bi Q->Bi (l.foldl (TB m) Q)
 |[],Q,h=>h
 |d::r,Q,h=>Wg (l:=r) (Adx h m d)
abbrev ρW:DH:=[(0,0),(1,1),(2,2),(3,3),(4,4),(5,16),(6,17),(7,18),(8,19),(9,20),(10,21),(11,22),(12,23),(13,24),(14,14),(15,15)]
theorem AcE(hR:Bi R){o:Bo}(hk:o.Kind=3)(hd:o.Device=0):U2 gl R o i (Agb R o):=by
 have a1:decide (o.Kind=1)=false:=by rw[hk];rfl
 have a2:decide (o.Kind=2)=false:=by rw[hk];rfl
 have a3:decide (o.Kind=3)=true:=by rw[hk];rfl
 have ad:decide (o.Device≠0)=false:=Dl (by rw[hd];simp);have hdv:=Su gl hR;have hn:(Hx R).length<=6:=by have:=(OJ hR).2.1.length_eq;rw[Gq] at this;rw[this];exact hR.len
 refine P2 gl hR ?_;unfold Agb;generalize Hx R=l at hdv hn⊢;have hQ:∀k,Bi ((l.take k).foldl (TB o.Member) R):=λk=>Wg hR;refine pN (λk:Nat=>(s0 259 gl [(0,.ref 0 0),(4,.ref 14 0),(69,aE cZ l),(70,iG (ah l)),(71,iG (k:Int))] (AfR ((l.take k).foldl (TB o.Member) R) o i) 16 5)) 111121414131122 (XT (n:=l.length) aa) [hr 29 a1,hr 52 a2,hr 60 a3,hr 63 ad,hrr 69 f0 16 [] hR hdv] (rlB ρD f0 hR) (λB k v hs k5 a=>?_) [] ρD N5;unfold AcD at hs;split at hs
 .rename_i hlt;obtain rfl:=Bp hs;obtain⟨x,hx⟩:∃x,l[k]?=some x:=⟨_,EA hlt⟩;have hz:=Bt hx;have k5:=k5 _ rfl;have hq:=hQ k;rw[JD,hx,Option.toList_some,Om,List.foldl_cons,List.foldl_nil] at k5;generalize (l.take k).foldl (TB o.Member) R=Q at hq k5⊢;unfold TB at k5;cases hm:decide (DG Q x=o.Member) with
  |false=>rw[hm] at k5;exact jw [hr 72 (CB hx),AB 73 (rZ.ixZ hz),AB 74 (rZ.p1Z tZ hz),hof gl 77 hq x 16,hr 80 hm,hbb 84 (Xl (q:=k) aa)] (rlB ρD f0 hq) k5 [] ρD N5
  |true=>rw[hm] at k5;exact jw [hr 72 (CB hx),AB 73 (rZ.ixZ hz),AB 74 (rZ.p1Z tZ hz),hof gl 77 hq x 16,hr 80 hm,hrw 83 f0 16 [iG x] hq (KX hq x) (Aal gl hq x),hbb 84 (Xl (q:=k) aa)] (rlB ρW f16 (KX hq x)) k5 [] ρW N5
 .split at hs
  .rename_i he;subst he;rw[EZ];exact Hi f0 _ (Wg hR) [hr 72 (DS (s:=l))] (rlX (f:=f0) (R:=l.foldl (TB o.Member) R))
  .cases hs
end
def Wq(R:Ad)(o:Bo)(i:Ab):Ad:=
 if o.Kind=1 then Abs R o else if o.Kind=2 then Je R o.Device o.Role else if o.Kind=3 then(if o.Device=0 then Agb R o else Ha R o.Device)else if o.Kind=5 then UJ R o else if o.Kind=9 then Aao R o i else if o.Kind=11 then ZH R o else if o.Kind=12 then Vb R o else if o.Kind=13 then ZL R o else R
structure Wv (o:Bo) (i:Ab):Prop where
 i:i.By=o.By
 g:o.Guards.length<=1000000
 n:o.Kind=9->1<=o.Need/\o.Need<=1000000
 b:1<=o.By/\o.By<=6
theorem Sb(hR:Bi R){o:Bo}(ho:Wv o i):Bi (Wq R o i):=by
 unfold Wq;split
 .exact Af4 hR o
 split
 .exact Hv hR _ _
 split
 .split
  .exact Wg hR
  .exact KX hR _
 grind [Adu,Af1,Wv.i,Wv.g,Wv.n,AfZ,Wv.b,AfY,Af5]
theorem Agc(hR:Bi R){o:Bo}(ho:Wv o i):U2 gl R o i (Wq R o i):=by
 unfold Wq;split
 .exact Aeh gl hR (by assumption)
 split
 .exact Aj9 gl hR (by assumption)
 split
 .split
  .grind [AcE]
  grind [Aed]
 split
 .exact Acu gl hR (by assumption)
 split
 .grind [Af2,Wv.i,Wv.g,Wv.n]
 split
 .exact Af0 gl hR (by assumption) ho.b
 split
 .exact Aef gl hR (by assumption)
 split
 .exact Acx gl hR (by assumption)
 grind [AhM]
def Akj(l:Mi):FM Int DR:=l.foldl (λm c=>CA m c.Device c) ⟨[],0⟩
def Hf(l:Mi):Ad:=⟨Akj l,⟨[],0⟩,⟨[],0⟩,⟨[],0⟩,0⟩
structure Aej (l:Mi):Prop where
 n:l.length<=1000
 r:∀c∈l,1<=c.Device/\c.Device<=6/\1<=c.Member/\c.Member<=3
theorem Aby{d:Int}{c:DR}:∀{l:Mi} {m:FM Int DR},(l.foldl (λm c=>CA m c.Device c) m).get d=some c->(c∈l/\c.Device=d)\/m.get d=some c
 |[],m,h=> .inr h
 |x::r,m,h=>by
  rcases Aby (l:=r) h with⟨h1,h2⟩|h
  all_goals grind [Bz]
theorem LT{l:Mi}(h:∀c∈l,1<=c.Device/\c.Device<=6/\1<=c.Member/\c.Member<=3):Bi (Hf l):=by
 have e:∀{K V:Type},Nr (⟨[],0⟩:FM K V):=by grind [Nr,FxOk]
 have hc:∀d,(DY ((Hf l).cards.get d)).Member=0\/∃c∈l,c.Device=d/\DY ((Hf l).cards.get d)=c:=λd=>by
  cases hg:(Hf l).cards.get d with
  |none=>exact .inl rfl
  |some c=>
   rcases Aby (l:=l) hg with⟨h1,h2⟩|h1
   .exact .inr ⟨c,h1,h2,rfl⟩
   .cases h1
 refine⟨e,e,e,λe he=>(by cases he),λd=>?_,λk x g h1=>(by cases h1),λk x g h1=>(by cases h1),λk x g h1=>(by cases h1),λk x g h1=>(by cases h1),λe he=>(by cases he),λd hd=>?_,λk x g h1=>(by cases h1)⟩;all_goals grind
abbrev ρN:DH:=[(0,4),(1,0),(2,1),(3,2),(4,3),(5,5),(6,6),(7,7),(8,8),(9,9),(10,10),(11,11),(12,12),(13,13)]
def fN0(k:Nat):Nat:=match k with
 |0=>4
 |1=>0
 |2=>1
 |3=>2
 |4=>3
 |k=>k
theorem Agd{l:Mi}(hl:Aej l):SA prog gl 70 [aE bv l] [] 0 0 (.ref 0 0) (BW f0 (Hf l)):=by
 have hQ:∀k,Bi (Hf (l.take k)):=λk=>LT λc hc=>hl.r c (List.mem_of_mem_take hc);refine dFP func70 ?_;refine XU (l:=l) (by have:=hl.n;omega) (λk:Nat=>(s0 27 gl [(3,.ref 0 0),(12,aE bv l),(13,iG (ah l)),(14,iG (k:Int))] (BW f0 (Hf (l.take k))) 14 0)) 1110122 [] (rlB ρN fN0 (hQ 0)) (λB k x hx hz k5=>?_) (λB=>?_) [] ρN N5
 .have hlt:=(cr hx).1;have e:Hf (l.take (k+1))={Hf (l.take k) with cards:=CA (Hf (l.take k)).cards x.Device x}:=by unfold Hf Akj;rw[JD,hx,Option.toList_some,Om];rfl
  have hq:=hQ k;have a:=hQ (k+1);rw[e] at k5 a;have hn:=hl.n;have hp:=AcA (P:=prog) (σ:=[(1,some (M7 tMc JG cdG (Hf (l.take k)).cards))]) (i:=1) (t:=tMc) (t':=tMc) (vg:=cdG) (et:=147) O6 Abm aH (k:=x.Device) (gk:=iG x.Device) rfl (m:=(Hf (l.take k)).cards) rfl x;generalize Hf (l.take k)=Q at hq a hp k5⊢;exact jw [hr 15 (CB hx),AB 16 (bT.ixZ hz),AB 17 (bT.ptZ E2 hz),hmr 15 hp,hbb 25 (Xl (q:=k) aa)] (rlB (Ge f0) f0 a) k5 [] (Ge f0) N5
 .rw[EZ];exact ZT [hr 15 (DS (s:=l))] (rlB (Ge f0) f0 (LT hl.r)) (Ge f0) N5
def Jk(R:Ad)(m:Int):Bool:=decide (M6 R m=3)
def Age(R:Ad)(o:Bo)(m:Int):Int:=bif D3 R o.Device then(bif Jk R m then 0 else bif DG R o.Device≠m then 14 else 0)else 17
def Aek(R:Ad)(o:Bo)(m:Int):Int:=bif o.Device≠0 then(bif PR R o.Device then(bif Jk R m then 0 else bif DG R o.Device≠m then 14 else 0)else 17)else match R.members.get o.Member with
 |none=>16
 |some _=>bif Jk R m then 0 else bif o.Member≠m then 14 else 0
def Agf(R:Ad)(o:Bo)(m:Int):Int:=bif Jk R m then(match R.members.get o.Member with
 |none=>16
 |some _=>0)else 14
def Agg(R:Ad)(m:Int):Int:=bif M6 R m<2 then 14 else 0
def Agh(R:Ad)(o:Bo)(m:Int):Int:=bif Jk R m then 0 else bif DG R o.Of.By≠m then 14 else 0
def Abz(R:Ad)(o:Bo)(m:Int):Int:=match R.members.get m with
 |none=>25
 |some x=>match x.guard with
  |none=>25
  |some g=>bif g.id=o.Of then 0 else 25
theorem TC(R:Ad)(m:Int):ba prog gl 412 [.ptr (CO R) 0,iG m] (bG (Jk R m)):=Gh func412 (Ar [hf 7 (VG gl R m)] [])
theorem AoC(R:Ad)(d:Int):∀σ,bL prog σ tMb false (FM.g JG bG R.in_) (iG d)=some (bG (PR R d)):=Q2 R.in_ d
theorem AhW(R:Ad)(o:Bo)(m:Int):ba prog gl 411 [.ptr (CO R) 0,.agg (aJ o),iG m] (iG (Age R o m)):=by
 have h1:=Abo gl R o.Device;have h2:=TC gl R m;have h3:=Abn gl R o.Device;unfold Age;refine Gh func411 ?_;cases b1:D3 R o.Device with
 |false=>rw[b1] at h1;exact Ar [hf 11 h1] []
 |true=>
  rw[b1] at h1;cases b2:Jk R m with
  |true=>rw[b2] at h2;exact Ar [hf 11 h1,hf 16 h2] []
  |false=>
   rw[b2] at h2;cases b3:decide (DG R o.Device≠m) with
   |true=>exact Ar [hf 11 h1,hf 16 h2,hf 22 h3,hr 24 b3] []
   |false=>exact Ar [hf 11 h1,hf 16 h2,hf 22 h3,hr 24 b3] []
theorem AhX(R:Ad)(o:Bo)(m:Int):ba prog gl 413 [.ptr (CO R) 0,.agg (aJ o),iG m] (iG (Aek R o m)):=by
 have h2:=TC gl R m;have h3:=Abn gl R o.Device;have h4:=AoC R o.Device;have h5:=AhO R o.Member;unfold Aek;refine Gh func413 ?_;cases b1:decide (o.Device≠0) with
 |true=>
  cases b4:PR R o.Device with
  |false=>rw[b4] at h4;exact Ar [hr 12 b1,hm 19 h4] []
  |true=>
   rw[b4] at h4;cases b2:Jk R m with
   |true=>rw[b2] at h2;exact Ar [hr 12 b1,hm 19 h4,hf 24 h3,hf 35 h2] []
   |false=>
    rw[b2] at h2;cases b3:decide (DG R o.Device≠m) with
    |true=>exact Ar [hr 12 b1,hm 19 h4,hf 24 h3,hf 35 h2,hr 40 b3] []
    |false=>exact Ar [hr 12 b1,hm 19 h4,hf 24 h3,hf 35 h2,hr 40 b3] []
 |false=>
  cases b5:R.members.get o.Member with
  |none=>rw[b5] at h5;exact Ar [hr 12 b1,hm 31 h5] []
  |some x=>
   rw[b5] at h5;cases b2:Jk R m with
   |true=>rw[b2] at h2;exact Ar [hr 12 b1,hm 31 h5,hf 35 h2] []
   |false=>
    rw[b2] at h2;cases b3:decide (o.Member≠m) with
    |true=>exact Ar [hr 12 b1,hm 31 h5,hf 35 h2,hr 40 b3] []
    |false=>exact Ar [hr 12 b1,hm 31 h5,hf 35 h2,hr 40 b3] []
theorem AhY(R:Ad)(o:Bo)(m:Int):ba prog gl 414 [.ptr (CO R) 0,.agg (aJ o),iG m] (iG (Agf R o m)):=by
 have h2:=TC gl R m;have h5:=AhO R o.Member;unfold Agf;refine Gh func414 ?_;cases b2:Jk R m with
 |false=>rw[b2] at h2;exact Ar [hf 10 h2] []
 |true=>
  rw[b2] at h2;cases b5:R.members.get o.Member with
  |none=>rw[b5] at h5;exact Ar [hf 10 h2,hm 19 h5] []
  |some x=>rw[b5] at h5;exact Ar [hf 10 h2,hm 19 h5] []
theorem AhZ(R:Ad)(o:Bo)(m:Int):ba prog gl 415 [.ptr (CO R) 0,.agg (aJ o),iG m] (iG (Agg R m)):=by
 unfold Agg;refine Gh func415 ?_;cases b:decide (M6 R m<2) with
 |true=>exact Ar [hf 9 (VG gl R m),hr 10 b] []
 |false=>exact Ar [hf 9 (VG gl R m),hr 10 b] []
theorem Ah0(R:Ad)(o:Bo)(m:Int):ba prog gl 416 [.ptr (CO R) 0,.agg (aJ o),iG m] (iG (Agh R o m)):=by
 have h2:=TC gl R m;have h3:=Abn gl R o.Of.By;unfold Agh;refine Gh func416 ?_;cases b2:Jk R m with
 |true=>rw[b2] at h2;exact Ar [hf 9 h2] []
 |false=>
  rw[b2] at h2;cases b3:decide (DG R o.Of.By≠m) with
  |true=>exact Ar [hf 9 h2,hf 16 h3,hr 18 b3] []
  |false=>exact Ar [hf 9 h2,hf 16 h3,hr 18 b3] []
theorem Ady(R:Ad)(o:Bo)(m:Int):ba prog gl 419 [.ptr (CO R) 0,.agg (aJ o),iG m] (iG (Abz R o m)):=by
 have h5:=AhO R m;unfold Abz;refine Gh func419 ?_;cases b5:R.members.get m with
 |none=>rw[b5] at h5;exact Ar [hm 13 h5] []
 |some x=>
  rw[b5] at h5;obtain⟨role,gd⟩:=x;cases gd with
  |none=>exact Ar [hm 13 h5] []
  |some g=>
   dsimp only;cases b:decide (g.id=o.Of) with
   |true=>exact Ar [hm 13 h5,hV 33 (dy g.id o.Of (r:=false) (by rw[b];rfl))] []
   |false=>exact Ar [hm 13 h5,hV 33 (dy g.id o.Of (r:=true) (by rw[b];rfl))] []
def eQ{K V:Type}(m:FM K V)(seen:Br):List (K×V×Nat):=seen.filterMap λn=>m.es.find? λe=>Nat.beq e.2.2 n
theorem Sv{K V:Type}:∀{es:List (K×V×Nat)} {e:K×V×Nat},(es.map (·.2.2)).Nodup->e∈es->es.find? (λx=>Nat.beq x.2.2 e.2.2)=some e
 |[],e,_,h=>by cases h
 |x::r,e,hd,h=>by
  rw[Fi,M0] at hd;rcases EG.1 h with rfl|h
  .simp
  .have hb:Nat.beq x.2.2 e.2.2=false:=by grind [bc]
   rw[List.find?_cons,hb];exact Sv hd.2 h
theorem Agi(hm:FxOk m)(he:e∈m.es):eQ m (seen++[e.2.2])=eQ m seen++[e]:=by unfold eQ;rw[List.filterMap_append];simp[Sv hm.nd he]
theorem AiZ{K V:Type}{m:FM K V}(hm:FxOk m):∀es:List (K×V×Nat),(∀e∈es,e∈m.es)->eQ m (es.map (·.2.2))=es
 |[],_=>rfl
 |e::r,h=>by have ih:=AiZ hm r (by grind);unfold eQ at ih⊢;rw[Fi,List.filterMap_cons,Sv hm.nd (h e aC),ih]
theorem Adz(hm:FxOk m)(h:KsQ m seen)(ha:∀e∈m.es,e.2.2∈seen):(eQ m seen).Perm m.es:=by have hp:seen.Perm (m.es.map (·.2.2)):=(List.perm_ext_iff_of_nodup h.1 hm.nd).2 λn=>⟨h.2 n,(by grind)⟩;have h1:(eQ m seen).Perm (eQ m (m.es.map (·.2.2))):=hp.filterMap _;rwa [AiZ hm m.es λe h=>h] at h1
theorem Akk(h:e∈eQ m seen):e∈m.es:=by grind [eQ]
theorem AmD:∀{seen:Br},KsQ m seen->(eQ m seen).Nodup
 |[],_=> .nil
 |n::r,h=>by grind [KsQ,eQ,bc]
abbrev dvE(d:Int)(l:List (C7×Int×Nat)):Bn:=(l.filter λe=>decide (e.1.device=d)).map (·.2.1)
theorem Aat{m:FM C7 Int}(hk:(m.es.map (·.1)).Nodup)(hb:∀e∈m.es,1<=e.1.by_/\e.1.by_<=6){l:List (C7×Int×Nat)}(hn:l.Nodup)(hs:∀e∈l,e∈m.es)(d:Int):(dvE d l).length<=6:=by
 unfold dvE;rw[Gq];have key:∀l:List (C7×Int×Nat),l.Nodup->(∀e∈l,e∈m.es/\e.1.device=d)->(l.map (·.1.by_)).Nodup:=by
  intro l;induction l with
  |nil=>intro _ _;exact .nil
  |cons a r ih=>
   intro hn hs;rw[M0] at hn;rw[Fi,M0];refine⟨λhm=>?_,(by grind)⟩;obtain⟨b,hb,e⟩:=EO.1 hm;obtain⟨a1,a2⟩:=hs a aC;obtain⟨b1,b2⟩:=hs b (by simp[hb]);have:a.1=b.1:=by cases h1:a.1;cases h2:b.1;grind
   grind [NR]
 have h2:=le6 (key _ (hn.sublist List.filter_sublist) λe he=>⟨hs e (Hl.1 he).1,DV (Hl.1 he).2⟩) λx hx=>by obtain⟨e,he,rfl⟩:=EO.1 hx;exact hb e (hs e (Hl.1 he).1)
 rwa [Gq] at h2
def AcG(g:CM)(d:Int):Bn:=(inZ (dvE d g.vouches.es)).getD []
def ZN(R:Ad)(m d:Int):Int×Int:=match R.members.get m with
 |none=>(0,4)
 |some x=>match x.guard with
  |none=>(0,4)
  |some g=>bif ah (AcG g d)<g.need then(0,26)else bif g.objected&&decide ((AcG g d).getD 0 0<=g.last)then(0,28)else(wI ((AcG g d).getD (g.need.toNat-1) 0+g.wait),0)
abbrev frV(a:Nat){R:Ad}{k:Int}{x:AA}(_:R.members.get k=some x):Fr:=[(a,.ref (3+nM k) 0)]
abbrev miV{R:Ad}{k:Int}{x:AA}(_:R.members.get k=some x):Nat:=6+nM k
abbrev Ah1(ρ:DH){R:Ad}(hR:Bi R){l:List (Nat×Ob)}(hl:∀q∈l,Bw f0 R q.1=some q.2)(h:okR ρ f0=true:=by kernel_rfl):List HP:=L0.map λk=>hc (show Za (Iu ρ) (tg R l k) (tg R l k) from(aas hl k).symm▸PP (κ:=Iu ρ) (f:=f0) (f':=f0) (λk ⟨ob,hk⟩=>Aai h (D4 hk)) hR k)
abbrev ρV:DH:=Ge f0++[(14,14),(15,18)]
abbrev kdV:List (Nat×Rk):=N5++[(15,.row)]
abbrev frD{R:Ad}{k:Int}{x:AA}(hx:R.members.get k=some x)(d:Int)(a:Bn):Fr:=frV 9 hx++[(2,iG d),(10,.rsl 15 0 a.length),(36,.ref 14 0)]
abbrev stD{R:Ad}{k:Int}{x:AA}(hx:R.members.get k=some x){l:List (Nat×Ob)}(hl:∀q∈l,Bw f0 R q.1=some q.2)(g:CM)(seen:Br)(a:Bn):aQ:=stT hl++[(14,Aak tMv (miV hx) g.vouches.clk seen),(15,KY a)]
theorem Akl(hR:Bi R)(m d:Int):SA prog gl 422 [.ref 0 0,iG m,iG d] (BW f0 R) 14 14 (.tup [iG (ZN R m d).1,iG (ZN R m d).2]) (BW f0 R):=by
 have hr2:∀a b:Int,bB (.tup [iG a,iG b]):=λa b=>L7 λg hg=>by simp only[EG,K3,or_false] at hg;rcases hg with rfl|rfl<;>exact mN _
 refine dFP func422 ?_;unfold ZN;cases hx:R.members.get m with
 |none=>have hr:=hr2 0 4;exact Hi f0 _ hR [Lu 18 (XM hx)] (HC R hr)
 |some x=>
  have hlk:=Sr hx;obtain⟨j,hj,o⟩:∃j:Nat,m=(j:Int)/\(j=1\/j=2\/j=3):=by grind [AhJ]
  subst hj;obtain⟨role,gd⟩:=x;cases gd with
  |none=>
   have hl:=hl1 o hx;have hr:=hr2 0 4;rcases o with rfl|rfl|rfl
   all_goals
    refine pO 11100 (s0 88 gl (frP 8 hx++[(2,iG d)]) (stT hl) 14 14) [Lu 18 hlk] (rlT (Ge f0) f0 hR hl) ?_ (ρ:=Ge f0) (kd:=N5)
    exact Hi f0 _ hR [] (XQ hl hr)
  |some g=>
   have hl:=hl3 o hx;have hv:=hR.cv _ _ g hx rfl;obtain⟨u,v⟩:=hR.gN _ _ g hx rfl;have hb:=hR.vb _ _ g hx rfl;have h6:=Aat hv.kd hb (List.Pairwise.of_map (λx=>x.1) (λa b h e=>h (by rw[e])) hv.kd) (λe he=>he) d;obtain⟨srt,e1,p,s1⟩:=Adv (l:=dvE d g.vouches.es) aa;have hsr:∀q:Bn,q.Perm (dvE d g.vouches.es)->inZ q=some srt:=λq hk=>Adw s1 (hk.trans p.symm) (by rw[p.length_eq];omega);have hda:AcG g d=srt:=by unfold AcG;rw[e1];rfl
   dsimp only;rw[hda];have hadd:∀seen (e:C7×Int×Nat),e∈g.vouches.es->dvE d (eQ g.vouches (seen++[e.2.2]))=dvE d (eQ g.vouches seen)++(if e.1.device=d then[e.2.1] else[]):=λseen e he=>by grind [Agi,Nr.toFxOk]
   rcases o with rfl|rfl|rfl
   all_goals
    refine pO 11100 (s0 88 gl (frP 8 hx++[(2,iG d)]) (stT hl) 14 14) [Lu 18 hlk] (rlT (Ge f0) f0 hR hl) ?_ (ρ:=Ge f0) (kd:=N5)
    refine pO 11111100 (s0 88 gl (frV 9 hx++[(2,iG d),(10,Iy)]) (stT hl) 14 14) [] (Ah1 (Ge f0) hR hl) ?_ (ρ:=Ge f0) (kd:=N5)
    refine yl (Bs':=[]) [1,1,1,1,1,0,0] (J:=(s0 88 gl (frD hx d []) (stD hx hl g [] []) 16 14)) [] (Ah1 ρD hR hl++[hc (rZ.imm [])]) ?_ (vs:=[3]) (kd:=kdV)
    refine dNx 11111101 ?_
    refine dMw 36 37 38 0 (iti:=14) (mi:=miV hx) (clock:=g.vouches.clk) (since:=g.vouches.clk) (T:=tMv) (ty:=tMv) (es:=UK Cd iG g.vouches) (λseen=>(s0 88 gl (frD hx d (dvE d (eQ g.vouches seen))) (stD hx hl g seen (dvE d (eQ g.vouches seen))) 16 14)) (KsQ g.vouches) VX (λe he=>by obtain⟨x,hx,rfl⟩:=EO.1 he;exact hv.1.lt x hx) rfl (Le.refl _) (λseen=>aH) (λseen=>aH) (λseen=>⟨show 37<88 by decide,show 38<88 by decide⟩) (λB seen k w n hI Zu hns c=>?_) (λseen hI hs=>?_)
    .obtain⟨e,he,s⟩:=EO.1 Zu
     simp only[Ft] at s
     obtain⟨rfl,rfl,rfl⟩:=s
     have hla:=Aat hv.kd hb (AmD hI) (λe he=>Akk he) d
     have c:=c (V2 hI he hns)
     rw[hadd seen e he] at c
     generalize dvE d (eQ g.vouches seen)=a at hla c⊢
     have hge:jr ((14,Aak tMv (miV hx) g.vouches.clk (seen++[e.2.2]))::stD hx hl g seen a) (.ref 14 0)=some (.tup [db (Cd e.1),iG e.2.1]):=yo (iti:=14) (mi:=miV hx) (since:=g.vouches.clk) (clock:=g.vouches.clk) (T:=tMv) (ty:=tMv) (seen:=seen) aH aH (by rw[Hk];exact hv.1.nd) Zu
     cases hdv:decide (e.1.device=d) with
     |false=>
      rw[BX (Ni hdv),LP] at c
      exact jw [YT 39 hge,hr 45 hdv] (hc (rfl:a.length=a.length)::Ah1 ρD hR hl++[hc (rZ.imm a)]) c [] ρD kdV
     |true=>
      rw[BB (DV hdv)] at c
      exact jw [YT 39 hge,hr 45 hdv,Tn 49 rZ 8 a e.2.1 aa] (hc (el (a++[e.2.1]))::Ah1 ρV hR hl++[hc (rZ.imm (a++[e.2.1]))]) c [] ρV kdV
    .have hp:=Adz hv.1 hI λe he=>hs (Cd e.1,iG e.2.1,e.2.2) (EO.2 ⟨e,he,rfl⟩)
     have hpa:(dvE d (eQ g.vouches seen)).Perm (dvE d g.vouches.es):=(hp.filter _).map _
     generalize dvE d (eQ g.vouches seen)=a at hpa⊢
     have hi:=hsr a hpa
     have hsl:srt.length=a.length:=by rw[p.length_eq,hpa.length_eq]
     have hal:a.length<=6:=by rw[hpa.length_eq];exact h6
     have hlz:decide ((a.length:Int)<g.need)=decide (ah srt<g.need):=by unfold ah;rw[hsl]
     cases c1:decide (ah srt<g.need) with
     |true=>
      have hr:=hr2 0 26
      exact Hi f0 _ hR [tN 51 [15] 16 [(15,KY a)] [.rsl 15 0 a.length] [(0,KY srt)] (Qh gl aa hi) ⟨⟨rfl,.inr ⟨rfl,rZ.imm a⟩⟩,trivial⟩ ⟨⟨rfl,.inr ⟨rfl,rZ.imm srt⟩⟩,trivial⟩,Go.Proofs.YtjbfcillbjiajaaGreatDoor.hr 59 (hlz.trans c1)] (XQ hl hr)
     |false=>
      have hge:g.need<=ah srt:=by have:=Ni c1;omega
      have hz0:aS srt 0=some (srt.getD 0 0):=by grind [au]
      have h71:fh prog 22 (.rsl 15 0 a.length) 0=some (.ref 15 (0+(0:Int).toNat*1)):=by rw[<-hsl];exact rZ.ixrZ 15 hz0
      have f:=rZ.p10Z tZ hz0
      have hw1:wI (g.need-1)=((g.need.toNat-1:Nat):Int):=by grind [bM]
      have hz1:aS srt (wI (g.need-1))=some (srt.getD (g.need.toNat-1) 0):=by grind [au]
      have h81:fh prog 22 (.rsl 15 0 a.length) (wI (g.need-1))=some (.ref 15 (0+(wI (g.need-1)).toNat*1)):=by rw[<-hsl];exact rZ.ixrZ 15 hz1
      have i:=rZ.p10Z tZ hz1
      obtain⟨y,gg,gn,t,z,go,r⟩:=g
      dsimp only at*
      cases go with
      |false=>
       have hr:=hr2 (wI (srt.getD (gn.toNat-1) 0+t)) 0
       exact Hi f0 _ hR [tN 51 [15] 16 [(15,KY a)] [.rsl 15 0 a.length] [(0,KY srt)] (Qh gl aa hi) ⟨⟨rfl,.inr ⟨rfl,rZ.imm a⟩⟩,trivial⟩ ⟨⟨rfl,.inr ⟨rfl,rZ.imm srt⟩⟩,trivial⟩,Go.Proofs.YtjbfcillbjiajaaGreatDoor.hr 59 (hlz.trans c1),AB 81 h81,AB 82 i] (XQ hl hr)
      |true=>
       cases c2:decide (srt.getD 0 0<=r) with
       |true=>
        have hr:=hr2 0 28
        exact Hi f0 _ hR [tN 51 [15] 16 [(15,KY a)] [.rsl 15 0 a.length] [(0,KY srt)] (Qh gl aa hi) ⟨⟨rfl,.inr ⟨rfl,rZ.imm a⟩⟩,trivial⟩ ⟨⟨rfl,.inr ⟨rfl,rZ.imm srt⟩⟩,trivial⟩,Go.Proofs.YtjbfcillbjiajaaGreatDoor.hr 59 (hlz.trans c1),AB 71 h71,AB 72 f,Go.Proofs.YtjbfcillbjiajaaGreatDoor.hr 73 c2] (XQ hl hr)
       |false=>
        have hr:=hr2 (wI (srt.getD (gn.toNat-1) 0+t)) 0
        exact Hi f0 _ hR [tN 51 [15] 16 [(15,KY a)] [.rsl 15 0 a.length] [(0,KY srt)] (Qh gl aa hi) ⟨⟨rfl,.inr ⟨rfl,rZ.imm a⟩⟩,trivial⟩ ⟨⟨rfl,.inr ⟨rfl,rZ.imm srt⟩⟩,trivial⟩,Go.Proofs.YtjbfcillbjiajaaGreatDoor.hr 59 (hlz.trans c1),AB 71 h71,AB 72 f,Go.Proofs.YtjbfcillbjiajaaGreatDoor.hr 73 c2,AB 81 h81,AB 82 i] (XQ hl hr)
def Agj(R:Ad)(o:Bo):Int:=bif o.Guards.any λd=> !PR R d then 17 else 0
def Ael(R:Ad)(o:Bo):Int:=bif (Dq R o).2≠0 then(Dq R o).2 else bif DG R o.Device≠(Dq R o).1 then 16 else bif D3 R o.Device then 0 else 17
def Akm(R:Ad)(o:Bo)(w:Int):Bool:=bif PR R o.Old then(bif DG R o.Old≠w then true else bif D3 R o.Device then decide (DG R o.Device≠w)else true)else true
def Aem(R:Ad)(o:Bo):Int:=bif (Dq R o).2≠0 then(Dq R o).2 else bif Akm R o (Dq R o).1 then 17 else bif (ZN R (Dq R o).1 o.Device).2=0 then(bif o.At<(ZN R (Dq R o).1 o.Device).1 then 27 else 0)else(ZN R (Dq R o).1 o.Device).2
theorem Ah2(R:Ad){o:Bo}(hg:o.Guards.length<=1000000)(m:Int):ba prog gl 417 [.ptr (CO R) 0,.agg (aJ o),iG m] (iG (Agj R o)):=Y6 gl (by grind [Xg,Abt,Oo,PR,Agj])
theorem Ah3(hR:Bi R)(o:Bo)(m:Int):SA prog gl 420 [.ref 0 0,.agg (aJ o),iG m] (BW f0 R) 14 14 (iG (Ael R o)) (BW f0 R):=by
 refine dFP func420 ?_;have hg:=Ur gl hR o;unfold Ael;generalize Dq R o=we at hg⊢;obtain⟨w,e⟩:=we;dsimp only at hg⊢;have hre:bB (iG e):=mN _;have hr16:bB (iG 16):=mN _;have hr17:bB (iG 17):=mN _;have hr0:bB (iG 0):=mN _;cases c1:decide (e≠0) with
 |true=>exact Hi f0 _ hR [hrr 12 f0 15 [.agg (aJ o)] hR hg,hr 17 c1] (HC R hre)
 |false=>
  cases c2:decide (DG R o.Device≠w) with
  |true=>exact Hi f0 _ hR [hrr 12 f0 15 [.agg (aJ o)] hR hg,hr 17 c1,hof gl 23 hR o.Device 15,hr 25 c2] (HC R hr16)
  |false=>
   cases c3:D3 R o.Device with
   |true=>exact Hi f0 _ hR [hrr 12 f0 15 [.agg (aJ o)] hR hg,hr 17 c1,hof gl 23 hR o.Device 15,hr 25 c2,hfr gl 30 hR c3 15] (HC R hr0)
   |false=>exact Hi f0 _ hR [hrr 12 f0 15 [.agg (aJ o)] hR hg,hr 17 c1,hof gl 23 hR o.Device 15,hr 25 c2,hfr gl 30 hR c3 15] (HC R hr17)
theorem Ah4(hR:Bi R)(o:Bo)(m:Int):SA prog gl 421 [.ref 0 0,.agg (aJ o),iG m] (BW f0 R) 14 14 (iG (Aem R o)) (BW f0 R):=by
 refine dFP func421 ?_;have hg:=Ur gl hR o;have hin:=AhL R o.Old;unfold Aem;generalize Dq R o=we at hg⊢;obtain⟨w,e⟩:=we;dsimp only at hg⊢;have hre:bB (iG e):=mN _;have hr17:bB (iG 17):=mN _;have hr27:bB (iG 27):=mN _;have hr0:bB (iG 0):=mN _;cases c1:decide (e≠0) with
 |true=>exact Hi f0 _ hR [hrr 13 f0 15 [.agg (aJ o)] hR hg,hr 18 c1] (HC R hre)
 |false=>
  unfold Akm;cases c2:PR R o.Old with
  |false=>rw[c2] at hin;exact Hi f0 _ hR [hrr 13 f0 15 [.agg (aJ o)] hR hg,hr 18 c1,Lu 27 hin] (HC R hr17)
  |true=>
   rw[c2] at hin;cases c3:decide (DG R o.Old≠w) with
   |true=>exact Hi f0 _ hR [hrr 13 f0 15 [.agg (aJ o)] hR hg,hr 18 c1,Lu 27 hin,hof gl 33 hR o.Old 15,hr 35 c3] (HC R hr17)
   |false=>
    cases c4:D3 R o.Device with
    |false=>exact Hi f0 _ hR [hrr 13 f0 15 [.agg (aJ o)] hR hg,hr 18 c1,Lu 27 hin,hof gl 33 hR o.Old 15,hr 35 c3,hfr gl 40 hR c4 15] (HC R hr17)
    |true=>
     cases c5:decide (DG R o.Device≠w) with
     |true=>exact Hi f0 _ hR [hrr 13 f0 15 [.agg (aJ o)] hR hg,hr 18 c1,Lu 27 hin,hof gl 33 hR o.Old 15,hr 35 c3,hfr gl 40 hR c4 15,hof gl 46 hR o.Device 15,hr 48 c5] (HC R hr17)
     |false=>
      have hd:=Akl gl hR w o.Device;generalize ZN R w o.Device=de at hd⊢;obtain⟨a,e2⟩:=de;dsimp only[Bf,ax] at hd⊢;have hre2:bB (iG e2):=mN _;cases c6:decide (e2=0) with
      |false=>exact Hi f0 _ hR [hrr 13 f0 15 [.agg (aJ o)] hR hg,hr 18 c1,Lu 27 hin,hof gl 33 hR o.Old 15,hr 35 c3,hfr gl 40 hR c4 15,hof gl 46 hR o.Device 15,hr 48 c5,hrr 55 f0 15 [iG w,iG o.Device] hR hd,hr 59 c6] (HC R hre2)
      |true=>
       cases c7:decide (o.At<a) with
       |true=>exact Hi f0 _ hR [hrr 13 f0 15 [.agg (aJ o)] hR hg,hr 18 c1,Lu 27 hin,hof gl 33 hR o.Old 15,hr 35 c3,hfr gl 40 hR c4 15,hof gl 46 hR o.Device 15,hr 48 c5,hrr 55 f0 15 [iG w,iG o.Device] hR hd,hr 59 c6,hr 64 c7] (HC R hr27)
       |false=>have:e2=0:=DV c6;subst this;exact Hi f0 _ hR [hrr 13 f0 15 [.agg (aJ o)] hR hg,hr 18 c1,Lu 27 hin,hof gl 33 hR o.Old 15,hr 35 c3,hfr gl 40 hR c4 15,hof gl 46 hR o.Device 15,hr 48 c5,hrr 55 f0 15 [iG w,iG o.Device] hR hd,hr 59 c6,hr 64 c7] (HC R hr0)
def AcH(R:Ad)(o:Bo)(m:Int):Int:=if o.Kind=2 then Age R o m else if o.Kind=3 then Aek R o m else if o.Kind=5 then Agf R o m else if o.Kind=6 then Agg R m else if o.Kind=8 then Agh R o m else if o.Kind=9 then Agj R o else if o.Kind=10 then Abz R o m else if o.Kind=11 then Ael R o else if o.Kind=12 then Abz R o m else if o.Kind=13 then Aem R o else 0
def Uu(R:Ad)(o:Bo):Int:=if o.Kind=1 then(bif DG R o.By=0 then 17 else bif 0<(R.was.es.length:Int)then 5 else 0)else bif PR R o.By then AcH R o (DG R o.By)else 15
abbrev tAs:Bj:=284
theorem AoF{z:Int}(hz:z=(k:Int))(hk:k<14):fh prog tAs (.ptr IU 0) z=some (.ptr IU k):=by
 subst hz;rcases(by omega:k=0\/k=1\/k=2\/k=3\/k=4\/k=5\/k=6\/k=7\/k=8\/k=9\/k=10\/k=11\/k=12\/k=13) with rfl|rfl|rfl|rfl|rfl|rfl|rfl|rfl|rfl|rfl|rfl|rfl|rfl|rfl
 all_goals kernel_rfl
abbrev AmE(R:Ad)(o:Bo)(i:Ab)(r:Int):Prop:=SA prog fI 122 [.ref 0 0,.agg (aJ o),.agg (aj i)] (BW f0 R) 14 14 (iG r) (BW f0 R)
theorem AoG{o:Bo}{m:Int}:∀x∈[G.agg (aJ o),iG m],bB x:=λx hx=>by
 simp only[EG,K3,or_false] at hx;rcases hx with rfl|rfl
 .exact aG 20 _ aH
 .exact mN _
abbrev hla(d:Nat){R:Ad}(hR:Bi R){f:FuncId}{o:Bo}{m r:Int}(h:ba prog fI f [.ptr (CO R) 0,.agg (aJ o),iG m] (iG r))(hc:aK prog f=true:=by kernel_rfl):HP:=hrl d f0 16 hR h AoG (lR _) (hc:=hc)
theorem Agk(hR:Bi R){o:Bo}{i:Ab}(hg:o.Guards.length<=1000000):AmE R o i (Uu R o):=by
 refine dFP func122 ?_;have hi0:∀r:Int,bB (iG r):=λr=>mN _;have hin:=AhL R o.By;unfold Uu;split
 .rename_i hk;have a1:decide (o.Kind=1)=true:=C6 hk;have hle:decide (0<((UK JG bG R.was).length:Int))=decide (0<(R.was.es.length:Int)):=by rw[Gq]
  have c:=hi0 17;have h5:=hi0 5;have h0:=hi0 0;cases c1:decide (DG R o.By=0) with
  |true=>exact Hi f0 _ hR [hr 9 a1,hof fI 14 hR o.By 16,hr 15 c1] (HC R c)
  |false=>
   cases c2:decide (0<(R.was.es.length:Int)) with
   |true=>exact Hi f0 _ hR [hr 9 a1,hof fI 14 hR o.By 16,hr 15 c1,hr 22 (hle.trans c2)] (HC R h5)
   |false=>exact Hi f0 _ hR [hr 9 a1,hof fI 14 hR o.By 16,hr 15 c1,hr 22 (hle.trans c2)] (HC R h0)
 .rename_i hk1;have a1:decide (o.Kind=1)=false:=Dl hk1;cases hb:PR R o.By with
  |false=>rw[hb] at hin;have d:=hi0 15;exact Hi f0 _ hR [hr 9 a1,Lu 29 hin] (HC R d)
  |true=>
   rw[hb] at hin;rw[ax];have h0:=hi0 0;by_cases hlo:o.Kind<0
   .have:AcH R o (DG R o.By)=0:=by unfold AcH;repeat rw[BX aa]
    rw[this];exact Hi f0 _ hR [hr 9 a1,Lu 29 hin,hr 33 (C6 hlo)] (HC R h0)
   by_cases hhi:14<=o.Kind
   .have:AcH R o (DG R o.By)=0:=by unfold AcH;repeat rw[BX aa]
    rw[this];exact Hi f0 _ hR [hr 9 a1,Lu 29 hin,hr 33 (Dl hlo),hr 37 (show decide (14<=o.Kind)=true from C6 hhi)] (HC R h0)
   have a33:decide (o.Kind<0)=false:=Dl hlo;have a37:decide (14<=o.Kind)=false:=Dl hhi;unfold AcH;obtain⟨k,hk,b⟩:∃k:Nat,o.Kind=(k:Int)/\k<14:=⟨o.Kind.toNat,aa,aa⟩;have a:=AoF hk b;rcases(by omega:k=0\/k=1\/k=2\/k=3\/k=4\/k=5\/k=6\/k=7\/k=8\/k=9\/k=10\/k=11\/k=12\/k=13) with rfl|rfl|rfl|rfl|rfl|rfl|rfl|rfl|rfl|rfl|rfl|rfl|rfl|rfl
   .repeat rw[BX aa]
    exact Hi f0 _ hR [hr 9 a1,Lu 29 hin,hr 33 a33,hr 37 a37,AB 42 a] (HC R h0)
   .exact absurd hk hk1
   .rw[BB aa];have hr0:=hi0 (Age R o (DG R o.By));exact Hi f0 _ hR [hr 9 a1,Lu 29 hin,hr 33 a33,hr 37 a37,AB 42 a,AB 48 a,hof fI 55 hR o.By 16,hla 56 hR (AhW fI R o (DG R o.By))] (HC R hr0)
   .repeat rw[BX aa]
    rw[BB aa];have hr0:=hi0 (Aek R o (DG R o.By));exact Hi f0 _ hR [hr 9 a1,Lu 29 hin,hr 33 a33,hr 37 a37,AB 42 a,AB 48 a,hof fI 55 hR o.By 16,hla 56 hR (AhX fI R o (DG R o.By))] (HC R hr0)
   .repeat rw[BX aa]
    exact Hi f0 _ hR [hr 9 a1,Lu 29 hin,hr 33 a33,hr 37 a37,AB 42 a] (HC R h0)
   .repeat rw[BX aa]
    rw[BB aa];have hr0:=hi0 (Agf R o (DG R o.By));exact Hi f0 _ hR [hr 9 a1,Lu 29 hin,hr 33 a33,hr 37 a37,AB 42 a,AB 48 a,hof fI 55 hR o.By 16,hla 56 hR (AhY fI R o (DG R o.By))] (HC R hr0)
   .repeat rw[BX aa]
    rw[BB aa];have hr0:=hi0 (Agg R (DG R o.By));exact Hi f0 _ hR [hr 9 a1,Lu 29 hin,hr 33 a33,hr 37 a37,AB 42 a,AB 48 a,hof fI 55 hR o.By 16,hla 56 hR (AhZ fI R o (DG R o.By))] (HC R hr0)
   .repeat rw[BX aa]
    exact Hi f0 _ hR [hr 9 a1,Lu 29 hin,hr 33 a33,hr 37 a37,AB 42 a] (HC R h0)
   .repeat rw[BX aa]
    rw[BB aa];have hr0:=hi0 (Agh R o (DG R o.By));exact Hi f0 _ hR [hr 9 a1,Lu 29 hin,hr 33 a33,hr 37 a37,AB 42 a,AB 48 a,hof fI 55 hR o.By 16,hla 56 hR (Ah0 fI R o (DG R o.By))] (HC R hr0)
   .repeat rw[BX aa]
    rw[BB aa];have hr0:=hi0 (Agj R o);exact Hi f0 _ hR [hr 9 a1,Lu 29 hin,hr 33 a33,hr 37 a37,AB 42 a,AB 48 a,hof fI 55 hR o.By 16,hla 56 hR (Ah2 fI R hg (DG R o.By))] (HC R hr0)
   .repeat rw[BX aa]
    rw[BB aa];have hr0:=hi0 (Abz R o (DG R o.By));exact Hi f0 _ hR [hr 9 a1,Lu 29 hin,hr 33 a33,hr 37 a37,AB 42 a,AB 48 a,hof fI 55 hR o.By 16,hla 56 hR (Ady fI R o (DG R o.By))] (HC R hr0)
   .repeat rw[BX aa]
    rw[BB aa];have hr0:=hi0 (Ael R o);exact Hi f0 _ hR [hr 9 a1,Lu 29 hin,hr 33 a33,hr 37 a37,AB 42 a,AB 48 a,hof fI 55 hR o.By 16,hrr 56 f0 16 [.agg (aJ o),iG (DG R o.By)] hR (Ah3 fI hR o (DG R o.By))] (HC R hr0)
   .repeat rw[BX aa]
    rw[BB aa];have hr0:=hi0 (Abz R o (DG R o.By));exact Hi f0 _ hR [hr 9 a1,Lu 29 hin,hr 33 a33,hr 37 a37,AB 42 a,AB 48 a,hof fI 55 hR o.By 16,hla 56 hR (Ady fI R o (DG R o.By))] (HC R hr0)
   .repeat rw[BX aa]
    rw[BB aa];have hr0:=hi0 (Aem R o);exact Hi f0 _ hR [hr 9 a1,Lu 29 hin,hr 33 a33,hr 37 a37,AB 42 a,AB 48 a,hof fI 55 hR o.By 16,hrr 56 f0 16 [.agg (aJ o),iG (DG R o.By)] hR (Ah4 fI hR o (DG R o.By))] (HC R hr0)
structure Gi where
 op:Ab->Option Bo
 bef:Ab->Ab->Bool
 lev:Ab->Int
 cards:Mi
 card:Int->Option DR
def Gi.o(I:Gi)(x:Ab):Bo:=(I.op x).getD ip
def XV:DR:=⟨0,0,0,0,0⟩
structure Np (gl:CC) (gg:Az) (I:Gi):Prop where
 op:∀x,ba prog gl 24 [.ptr (Ag gg) 0,.agg (aj x)] (.tup [.agg (aJ (I.o x)),bG (I.op x).isSome])
 bef:∀x y,ba prog gl 15 [.ptr (Ag gg) 0,.agg (aj x),.agg (aj y)] (bG (I.bef x y))
 lev:∀x,ba prog gl 33 [.ptr (Ag gg) 0,.agg (aj x)] (iG (I.lev x))
 cards:ba prog gl 71 [.ptr (Ag gg) 0] (aE bv I.cards)
 card:∀d,ba prog gl 101 [.ptr (Ag gg) 0,iG d] (.tup [.agg (bv ((I.card d).getD XV)),bG (I.card d).isSome])
def AbA(I:Gi)(x:Bo)(d:Int):Bool:=bif x.Kind=13 then decide (d=x.Old)else bif x.Device≠0 then decide (d=x.Device)else bif(I.card d).isSome then decide (((I.card d).getD XV).Member=x.Member)else false
def Akn(I:Gi)(a b:Bo):Bool:=bif a.Kind=3 then AbA I a b.By else bif a.Kind=13 then(bif decide (b.Kind=12)&&decide (a.Of=b.Of)then false else AbA I a b.By)else bif a.Kind=12 then(decide (b.Kind=13)&&decide (b.Of=a.Of)&&decide (a.At<=b.At))else false
def Jn(I:Gi)(x y:Ab):Bool:=(I.op x).isSome&&(I.op y).isSome&& !decide (x=y)&& !I.bef y x&& !I.bef x y&&Akn I (I.o x) (I.o y)
section
variable {gl:CC} {gg:Az} {I:Gi} (h:Np gl gg I)
include h
theorem Agl(x:Bo)(d:Int):ba prog gl 315 [.ptr (Ag gg) 0,.agg (aJ x),iG d] (bG (AbA I x d)):=by
 have hc:=h.card d;unfold AbA;refine Gh func315 ?_;cases b1:decide (x.Kind=13) with
 |true=>exact Ar [hr 11 b1] []
 |false=>
  cases b2:decide (x.Device≠0) with
  |true=>exact Ar [hr 11 b1,hr 18 b2] []
  |false=>
   cases b3:(I.card d).isSome with
   |false=>rw[b3] at hc;exact Ar [hr 11 b1,hr 18 b2,hf 26 hc] []
   |true=>rw[b3] at hc;exact Ar [hr 11 b1,hr 18 b2,hf 26 hc] []
theorem aaE(x y:Ab):ba prog gl 217 [.ptr (Ag gg) 0,.agg (aj x),.agg (aj y)] (bG (Jn I x y)):=by
 have h1:=h.op x;have h2:=h.op y;have h3:=h.bef y x;have h4:=h.bef x y;have hg:=Agl h (I.o x) (I.o y).By;unfold Jn;generalize I.o x=a at h1 hg⊢;generalize I.o y=b at h2 hg⊢;refine Gh func217 ?_;cases c1:(I.op x).isSome with
 |false=>rw[c1] at h1;exact Ar [hf 15 h1,hf 21 h2] []
 |true=>
  rw[c1] at h1;cases c2:(I.op y).isSome with
  |false=>rw[c2] at h2;exact Ar [hf 15 h1,hf 21 h2] []
  |true=>
   rw[c2] at h2;cases c3:decide (x=y) with
   |true=>exact Ar [hf 15 h1,hf 21 h2,hV 33 (dU x y c3)] []
   |false=>
    cases c4:I.bef y x with
    |true=>rw[c4] at h3;exact Ar [hf 15 h1,hf 21 h2,hV 33 (dU x y c3),hf 39 h3] []
    |false=>
     rw[c4] at h3;cases c5:I.bef x y with
     |true=>rw[c5] at h4;exact Ar [hf 15 h1,hf 21 h2,hV 33 (dU x y c3),hf 39 h3,hf 45 h4] []
     |false=>
      rw[c5] at h4;unfold Akn;cases k3:decide (a.Kind=3) with
      |true=>
       have k13:decide (a.Kind=13)=false:=by rw[DV k3];rfl
       exact Ar [hf 15 h1,hf 21 h2,hV 33 (dU x y c3),hf 39 h3,hf 45 h4,hr 50 k3,hr 54 k13,hf 74 hg] []
      |false=>
       cases k13:decide (a.Kind=13) with
       |true=>
        cases j12:decide (b.Kind=12) with
        |false=>exact Ar [hf 15 h1,hf 21 h2,hV 33 (dU x y c3),hf 39 h3,hf 45 h4,hr 50 k3,hr 51 k13,hr 54 k13,hr 58 j12,hf 74 hg] []
        |true=>
         cases jo:decide (a.Of=b.Of) with
         |true=>exact Ar [hf 15 h1,hf 21 h2,hV 33 (dU x y c3),hf 39 h3,hf 45 h4,hr 50 k3,hr 51 k13,hr 54 k13,hr 58 j12,hV 65 (dU a.Of b.Of jo)] []
         |false=>exact Ar [hf 15 h1,hf 21 h2,hV 33 (dU x y c3),hf 39 h3,hf 45 h4,hr 50 k3,hr 51 k13,hr 54 k13,hr 58 j12,hV 65 (dU a.Of b.Of jo),hf 74 hg] []
       |false=>
        cases k12:decide (a.Kind=12) with
        |false=>exact Ar [hf 15 h1,hf 21 h2,hV 33 (dU x y c3),hf 39 h3,hf 45 h4,hr 50 k3,hr 51 k13,hr 77 k12] []
        |true=>
         cases j13:decide (b.Kind=13) with
         |false=>exact Ar [hf 15 h1,hf 21 h2,hV 33 (dU x y c3),hf 39 h3,hf 45 h4,hr 50 k3,hr 51 k13,hr 77 k12,hr 80 j13] []
         |true=>
          cases jo:decide (b.Of=a.Of) with
          |false=>exact Ar [hf 15 h1,hf 21 h2,hV 33 (dU x y c3),hf 39 h3,hf 45 h4,hr 50 k3,hr 51 k13,hr 77 k12,hr 80 j13,hV 86 (dU b.Of a.Of jo)] []
          |true=>exact Ar [hf 15 h1,hf 21 h2,hV 33 (dU x y c3),hf 39 h3,hf 45 h4,hr 50 k3,hr 51 k13,hr 77 k12,hr 80 j13,hV 86 (dU b.Of a.Of jo)] []
end
def Qt(c k:Nat):Nat:=c+k
theorem Ah5(hR:Bi R)(c:Nat):abi (kO [] [] 0 14 c) (BW f0 R) (BW (Qt c) R):=λi o h0=>by
 rw[Ht] at h0;obtain⟨k,hk,e,h⟩:=Md h0;subst e;have hκ:∀k,(∃ob,Bw f0 R k=some ob)->kO [] [] 0 14 c (f0 k)=some (Qt c k):=λk ⟨ob,h⟩=>by have:=D4 h;show(bif Nat.blt k 0 then _ else bif Nat.blt k (0+14)then some (c+(k-0))else none)=_;rw[show Nat.blt k 0=false from by cases hb:Nat.blt k 0 with|false=>rfl|true=>simp_all,show Nat.blt k (0+14)=true from Nk aa];rfl
 obtain⟨a,h1,h2⟩:=PP hκ hR k o h;grind [KJ]
theorem Agm{κ:Nat->Fq}:InP κ [] [] []:=λk o0 h=>by cases h
def hrn(d c:Nat)(args:Bk){P:Bu}{gl:CC}{fid:FuncId}{args0:Bk}{R:Ad}(hR:Bi R)(hM:SA P gl fid args0 [] 0 0 (.ref 0 0) (BW f0 R))(hc:aK P fid=true:=by kernel_rfl)(hgs:args.map (qg (vi []) 20)=args0:=by kernel_rfl):HP:=
 hfm d [] 0 14 c [] args (BW (Qt c) R) hM Agm (Ah5 hR c) hc rfl rfl hgs
def TD(I:Gi)(id:Ab)(R:Ad)(x:Ab):Ad:=bif I.bef x id then Wq R (I.o x) x else R
def XW(I:Gi)(l:Ba)(id:Ab):Ad:=l.foldl (TD I id) (Hf I.cards)
structure Aen (gl:CC) (l:Bb) (I:Gi):Prop where
 g:Np gl l.g I
 c:Aej I.cards
 o:∀x∈l.row,Wv (I.o x) x
 n:l.row.length<=1000
theorem Ah6{I:Gi}{id:Ab}(hR:Bi R)(hx:Wv (I.o x) x):Bi (TD I id R x):=by grind [TD,Sb]
theorem AdA{I:Gi}{id:Ab}:∀{l:Ba} {R:Ad},Bi R->(∀x∈l,Wv (I.o x) x)->Bi (l.foldl (TD I id) R)
 |[],R,h,_=>h
 |x::r,R,h,hx=>AdA (l:=r) (Ah6 h (hx x aC)) (by grind)
theorem AcI{I:Gi}(hc:Aej I.cards){l:Ba}(h:∀x∈l,Wv (I.o x) x)(id:Ab):Bi (XW I l id):=AdA (LT hc.r) h
section
variable {gl:CC}
end
abbrev BA(l:Ba):Option Ob:=some ⟨41,l.flatMap aj,none⟩
def AmF(ρ:DH)(f f':Nat->Nat):Bool:=L0.all λk=>match Iu ρ (f k) with|some j=>Nat.beq j (f' k)|none=>false
theorem Ah7{ρ:DH}{f f':Nat->Nat}(h:AmF ρ f f'=true)(hk:k<14):Iu ρ (f k)=some (f' k):=by have:=GV.1 h k (by have:k∈List.range 14:=List.mem_range.2 hk;exact this);grind [bc]
abbrev rlC(ρ:DH)(f f':Nat->Nat){R:Ad}(hR:Bi R)(h:AmF ρ f f'=true:=by kernel_rfl):List HP:=L0.map λk=>hc (PP (κ:=Iu ρ) (f:=f) (f':=f') (λk ⟨ob,hk⟩=>Ah7 h (D4 hk)) hR k)
abbrev kd1:List (Nat×Rk):=(0,.row)::L0.map λk=>(k+1,.any)
abbrev stO(l:Ba)(c:Nat)(R:Ad):aQ:=(0,BA l)::BW (Qt c) R
abbrev ρe0:DH:=[(0,0),(1,2),(2,3),(3,4),(4,5),(5,6),(6,7),(7,8),(8,9),(9,10),(10,11),(11,12),(12,13),(13,14),(14,15),(15,1)]
abbrev ρe1:DH:=[(0,0),(1,1),(2,2),(3,3),(4,4),(5,5),(6,6),(7,7),(8,8),(9,9),(10,10),(11,11),(12,12),(13,13),(14,14),(15,15)]
abbrev ρe2:DH:=[(0,0),(1,1),(2,2),(3,3),(4,4),(5,5),(6,18),(7,19),(8,20),(9,21),(10,22),(11,23),(12,24),(13,25),(14,26),(15,15)]
abbrev ρe3:DH:=[(0,0),(1,1),(2,2),(3,3),(4,4),(5,5),(6,6),(7,7),(8,8),(9,9),(10,10),(11,11),(12,12),(13,13),(14,14)]
section
variable {gl:CC}
theorem Ah8{gg:Az}{I:Gi}(h:Np gl gg I)(hc:Aej I.cards){al:Bb}(hal:al.g=gg)(hl:∀x∈l,Wv (I.o x) x)(hn:l.length<=1000)(id:Ab):SA prog gl 219 [.ptr (B5 al) 0,.rsl 0 0 l.length,.agg (aj id)] [(0,BA l)] 1 1 (.ref 1 0) (stO l 1 (XW I l id)):=by
 subst hal;have hQ:∀k,Bi (XW I (l.take k) id):=λk=>AcI hc (λx hx=>hl x (List.mem_of_mem_take hx)) id;refine dFP func219 ?_;refine XU (l:=l) aa (λk:Nat=>(s0 46 gl [(0,.ptr (B5 al) 0),(5,.ref 15 0),(7,.ref 1 0),(18,.rsl 0 0 l.length),(19,iG (ah l)),(20,iG (k:Int))] (stO l 1 (XW I (l.take k) id)++[(15,Po id)]) 16 1)) 1110122 [hf 16 h.cards,hrn 17 2 [aE bv I.cards] (LT hc.r) (Agd gl hc)] (Go.Proofs.YtjbfcillbjiajaaGreatDoor.hc (el l)::Go.Proofs.YtjbfcillbjiajaaGreatDoor.hc (ac.imm l)::rlC ρe0 (Qt 2) (Qt 1) (hQ 0)) (λB k x hx hz k5=>?_) (λB=>?_) [] ρe0 kd1
 .have hlt:=(cr hx).1;have hq:=hQ k;have a:=hl x (bO hx);have hb:=h.bef x id;unfold XW at k5 hq⊢;rw[JD,hx,Option.toList_some,Om,List.foldl_cons,List.foldl_nil] at k5;generalize (l.take k).foldl (TD I id) (Hf I.cards)=Q at hq k5⊢;unfold TD at k5;cases c1:I.bef x id with
  |false=>rw[c1] at hb k5;exact jw [hr 21 (CB hx),AB 22 (ac.ixrZ 0 hz),AB 23 (ac.pt0Z aW hz),hf 30 hb,hbb 44 (Xl (q:=k) aa)] (Go.Proofs.YtjbfcillbjiajaaGreatDoor.hc (el l)::Go.Proofs.YtjbfcillbjiajaaGreatDoor.hc (ac.imm l)::rlC ρe1 (Qt 1) (Qt 1) hq) k5 [] ρe1 kd1
  |true=>rw[c1] at hb k5;have b:=Sb hq a;exact jw [hr 21 (CB hx),AB 22 (ac.ixrZ 0 hz),AB 23 (ac.pt0Z aW hz),hf 30 hb,hf 37 (h.op x),hrw 43 (Qt 1) 18 [.agg (aJ (I.o x)),.agg (aj x)] hq b (Agc gl hq a),hbb 44 (Xl (q:=k) aa)] (Go.Proofs.YtjbfcillbjiajaaGreatDoor.hc (el l)::Go.Proofs.YtjbfcillbjiajaaGreatDoor.hc (ac.imm l)::rlC ρe2 (fW (Qt 1) 18) (Qt 1) b) k5 [] ρe2 kd1
 .rw[EZ];exact ZT [hr 21 (DS (s:=l))] (Go.Proofs.YtjbfcillbjiajaaGreatDoor.hc (ac.imm l)::rlC ρe3 (Qt 1) (Qt 1) (AcI hc hl id)) ρe3 kd1
def LD(I:Gi)(vd:FM Ab Bool)(out:Ba)(x:Ab):Ba:=bif A7 (vd.get x)then out else bif Uu (XW I out x) (I.o x)=0 then out++[x]else out
def JU(I:Gi)(al:Bb):Ba:=al.row.foldl (LD I al.void) []
theorem Aeo{I:Gi}{vd:FM Ab Bool}{out:Ba}{y:Ab}(h:y∈LD I vd out x):y∈out\/y=x:=by grind [LD]
theorem Aep{I:Gi}{vd:FM Ab Bool}{out:Ba}:(LD I vd out x).length<=out.length+1:=by grind [LD]
theorem XX{I:Gi}{vd:FM Ab Bool}:∀{l out:Ba},(∀y∈l.foldl (LD I vd) out,y∈out\/y∈l)/\(l.foldl (LD I vd) out).length<=out.length+l.length
 |[],out=>(by grind)
 |x::r,out=>by obtain⟨h1,h2⟩:=XX (I:=I) (vd:=vd) (l:=r) (out:=LD I vd out x);grind [Aeo,Aep]
end
theorem Agn{κ:Nat->Fq}(l:Ba):InP κ [0] [(0,BA l)] [(0,BA l)]:=λk o0 h=>by
 rw[A9] at h;split at h
 .rename_i e;subst e;exact⟨0,o0,rfl,by rw[A9,BB rfl];exact h,by cases h;exact⟨rfl,.inr ⟨rfl,ac.imm l⟩⟩⟩
 .cases h
theorem Ah9{c a b:Nat}(h:Qt c a=Qt c b):a=b:=Nat.add_left_cancel h
theorem AdB(hR:Bi R)(l:Ba)(c:Nat):abi (kO [(0,BA l)] [0] 1 14 c) (stO l 1 R) ((0,BA l)::BW (Qt c) R):=λi o h0=>by
 rw[A9] at h0;split at h0
 .rename_i e;subst e;exact⟨0,o,rfl,by grind,by cases h0;exact⟨rfl,.inr ⟨rfl,ac.imm l⟩⟩⟩
 .rw[Ht] at h0;obtain⟨k,hk,e,h⟩:=Md h0;subst e;have hκ:∀k,(∃ob,Bw (Qt 1) R k=some ob)->kO [(0,BA l)] [0] 1 14 c (Qt 1 k)=some (Qt c k):=λk ⟨ob,h⟩=>by have:=D4 h;unfold kO Qt;rw[show Nat.blt (1+k) 1=false from by cases hb:Nat.blt (1+k) 1 with|false=>rfl|true=>simp_all,show Nat.blt (1+k) (1+14)=true from Nk aa,Nat.add_sub_cancel_left];rfl
  obtain⟨d,h1,h2⟩:=PP hκ hR k o h;refine⟨Qt 1 k,d,hκ k ⟨d,h1⟩,?_,h2⟩;show ag ((0,BA l)::BW (Qt 1) R) (Qt 1 k)=_;rw[A9,BX (by unfold Qt;omega),Ht,LX (λa _ b _ e=>Ah9 e) hk];exact h1
abbrev oGd(al:Bb)(I:Gi)(k:Nat):Ba:=(al.row.take k).foldl (LD I al.void) []
abbrev AmG(al:Bb)(l:Ba)(k:Nat):St:=(s0 49 fI [(0,.ptr (B5 al) 0),(3,.rsl 0 0 l.length),(11,aE aj al.row),(12,iG (ah al.row)),(13,iG (k:Int))] [(0,BA l)] 1 0)
theorem AdC{al:Bb}{I:Gi}(h:Aen fI al I):iV prog fI 133 [.ptr (B5 al) 0] 41 (JU I al).length ((JU I al).flatMap aj):=by
 have hn:=h.n;refine OW func133 ?_;refine XU (l:=al.row) aa (λk:Nat=>AmG al (oGd al I k) k) [1,1,0,1,2,2] [] [hc (ac.imm [])] (λB k x hx hz k5=>?_) (λB=>?_)
 .have hlt:=(cr hx).1;have hsub:=XX (I:=I) (vd:=al.void) (l:=al.row.take k) (out:=[]);have a:=h.o x (bO hx);have hle:(oGd al I k).length<=1000:=Nj hsub.2 (by rw[Lv];simp;omega);have hO:∀y∈oGd al I k,Wv (I.o y) y:=λy hy=>by
   rcases hsub.1 y hy with h1|h1
   .cases h1
   .exact h.o y (List.mem_of_mem_take h1)
  unfold oGd at k5 hle hO⊢;rw[JD,hx,Option.toList_some,Om,List.foldl_cons,List.foldl_nil] at k5;generalize (al.row.take k).foldl (LD I al.void) []=l at k5 hle hO⊢;have hd:=Ah8 h.g h.c (al:=al) rfl hO hle x;have hq:=AcI h.c hO x;unfold LD at k5;have hw:=SJ al.void x;cases c1:A7 (al.void.get x) with
  |true=>rw[c1] at k5 hw;exact jw [hr 14 (CB hx),AB 15 (ac.ixZ hz),AB 16 (ac.ptZ aW hz),hf 23 (h.g.op x),hm 31 hw,hbb 47 (Xl (q:=k) aa)] [hc (el l),hc (ac.imm l)] k5
  |false=>
   rw[c1,Bf] at k5;rw[c1] at hw;have hm:=Agk (i:=x) hq a.g;generalize XW I l x=R at hd hq hm k5;cases c2:decide (Uu R (I.o x)=0) with
   |false=>rw[c2] at k5;exact jw [hr 14 (CB hx),AB 15 (ac.ixZ hz),AB 16 (ac.ptZ aW hz),hf 23 (h.g.op x),Go.Proofs.YtjbfcillbjiajaaGreatDoor.hm 31 hw,hfm 37 [0] 1 14 3 [(0,BA l)] [.ptr (B5 al) 0,.rsl 0 0 l.length,.agg (aj x)] ((0,BA l)::BW (Qt 3) R) hd (Agn l) (AdB hq l 3),hrr 40 (Qt 3) 17 [.agg (aJ (I.o x)),.agg (aj x)] hq hm,hr 41 c2,hbb 47 (Xl (q:=k) aa)] [hc (el l),hc (ac.imm l)] k5
   |true=>rw[c2] at k5;exact jw [hr 14 (CB hx),AB 15 (ac.ixZ hz),AB 16 (ac.ptZ aW hz),hf 23 (h.g.op x),Go.Proofs.YtjbfcillbjiajaaGreatDoor.hm 31 hw,hfm 37 [0] 1 14 3 [(0,BA l)] [.ptr (B5 al) 0,.rsl 0 0 l.length,.agg (aj x)] ((0,BA l)::BW (Qt 3) R) hd (Agn l) (AdB hq l 3),hrr 40 (Qt 3) 17 [.agg (aJ (I.o x)),.agg (aj x)] hq hm,hr 41 c2,Tn 46 ac 24 l x aa,hbb 47 (Xl (q:=k) aa)] [hc (el (l++[x])),hc (ac.imm (l++[x]))] k5
 .unfold JU;show Gp _ _ _ _ _ _ (AmG al ((al.row.take al.row.length).foldl (LD I al.void) []) _);rw[EZ];generalize al.row.foldl (LD I al.void) []=l;exact EI [hr 14 (DS (s:=al.row))] (ac.imm l)
def X3(I:Gi)(x y z:Ab):Bool:=bif decide (z=x)||I.bef z x then Jn I y z else false
def D5(I:Gi)(row:Ba)(x y:Ab):Bool:= !decide (x=y)&&row.any (X3 I x y)
section
variable {gl:CC} {al:Bb} {I:Gi} (h:Np gl al.g I)
include h
theorem Ago(x y z:Ab):ba prog gl 316 [.agg (aj z),.ptr (aj x) 0,.ptr [.ptr (B5 al) 0] 0,.ptr (aj y) 0] (bG (X3 I x y z)):=by
 have hb:=h.bef z x;have hk:=aaE h y z;unfold X3;refine Gh func316 ?_;cases c1:decide (z=x) with
 |true=>exact Ar [hV 8 (dU z x c1),hf 25 hk] []
 |false=>
  cases c2:I.bef z x with
  |true=>rw[c2] at hb;exact Ar [hV 8 (dU z x c1),hf 16 hb,hf 25 hk] []
  |false=>rw[c2] at hb;exact Ar [hV 8 (dU z x c1),hf 16 hb] []
theorem AbB(hn:al.row.length<=1000)(x y:Ab):ba prog gl 218 [.ptr (B5 al) 0,.agg (aj x),.agg (aj y)] (bG (D5 I al.row x y)):=by
 have hv:Uk prog gl 316 [] [.ptr (aj x) 0,.ptr [.ptr (B5 al) 0] 0,.ptr (aj y) 0] (λz:Ab=>[.agg (aj z)]) (λb:Bool=>bG b) (λz=>some (X3 I x y z)):=⟨aH,bf,eB aH,λz r e=>by cases e;exact Ago h x y z⟩;have hc:=kP gl hv (Abt (s:=al.row) (p:=X3 I x y) aa λ_ _=>rfl);unfold D5;refine Gh func218 ?_;refine pO [1,0] (s0 18 gl [(3,.ptr [.ptr (B5 al) 0] 0),(4,.ptr (aj x) 0),(5,.ptr (aj y) 0)] [] 0 0) [] [Go.Proofs.YtjbfcillbjiajaaGreatDoor.hc (eB (gs:=[.ptr (B5 al) 0]) aH),Go.Proofs.YtjbfcillbjiajaaGreatDoor.hc (eB (gs:=aj x) aH),Go.Proofs.YtjbfcillbjiajaaGreatDoor.hc (eB (gs:=aj y) aH)] ?_ [] [];cases c1:decide (x=y) with
 |true=>exact Ar [hV 9 (dy x y (r:=false) (by rw[c1];rfl))] []
 |false=>exact Ar [hV 9 (dy x y (r:=true) (by rw[c1];rfl)),hf 16 hc] []
end
end
def unS(fn:Func):Func:={fn with body:=some (match ai fn with| .seq a (.scope c)=> .seq a c|c=>c)}
def AiP:Code->Bool
 | .seq _ (.scope _)=>true
 |_=>false
theorem Afh{Q Q':Exit->St->Prop}{J:St}(hi:AiP (ai fn)=true)(hQ:∀l s,¬Q (.goto l) s)(b:Q=Q')(h:Gp P (unS fn) Q' [] false [1] J):Gp P fn Q [] false [1] J:=by
 subst b;obtain⟨a,c,hc⟩:∃a c,ai fn= .seq a (.scope c):=by unfold AiP at hi;grind
 have e:ai (unS fn)= .seq a c:=by grind [unS,ai]
 unfold Gp at h⊢;rw[e] at h;rw[hc];exact Pn (Tr.mono h λe s hx=>by
  cases e with
  |goto l=>obtain⟨s',_,h2⟩:Z1 P Q (.goto l) s:=hx;exact(hQ l s' h2).elim
  |_=>exact⟨rfl,hx⟩)
theorem AdY{r:G}:tH P fn r=tH P (unS fn) r:=by funext e s;unfold tH unS;rfl
section
attribute [local irreducible] Tr dz Gp
def Ako(p:Ab->Bool)(l:Ba)(j:Nat):Option (Nat⊕Bool):=match l[j]? with
 |none=>some (.inr false)
 |some y=>bif p y then some (.inr true)else some (.inl (j+1))
theorem Akp{p:Ab->Bool}(hn:l.length<=1000):AH (Ako p l) 0=some (l.any p):=T.eq (T.loop (λj=>j<=l.length/\∀y∈l.take j,p y=false) (λj=>l.length-j) ⟨aa,aC⟩ aa λj ⟨hj,hI⟩=>by
 unfold Ako;cases hx:l[j]? with
 |none=>have:l.length<=j:=List.getElem?_eq_none_iff.1 hx;refine .some ?_;show false=l.any p;grind
 |some y=>
  have hlt:=(cr hx).1;dsimp only;cases hp:p y with
  |true=>exact .some (show true=l.any p from(by grind))
  |false=>refine .some ⟨⟨aa,λz hz=>?_⟩,aa⟩;grind [JD])
def SB(sen:FM Int Int)(d:Int):Int:=(sen.get d).getD 0
def upB(sen:FM Int Int)(l:Ba)(b:Int)(k:Nat)(x:Ab):JQ:=bif b<0 then some (k:Int)else(aS l b).bind λy=>bif SB sen x.By<SB sen y.By then some (k:Int)else some b
def Agp(I:Gi)(row l:Ba)(sen:FM Int Int)(s:Nat×Int):Option ((Nat×Int)⊕Int):=match l[s.1]? with
 |none=>bif Nat.beq s.1 l.length then some (.inr s.2)else none
 |some x=>bif l.any (D5 I row x)then(upB sen l s.2 s.1 x).bind λb=>some (.inl (s.1+1,b))else some (.inr (s.1:Int))
section
variable {gl:CC} {al:Bb} {I:Gi} (h:Np gl al.g I)
theorem Aau(m:FM Int Int)(k:Int):∀σ,bL prog σ 280 false (FM.g JG iG m) (iG k)=some (iG (SB m k)):=FM.look1 (et:=3) O6 aH aH m k rfl
abbrev Ai0(al:Bb)(l:Ba)(sen:FM Int Int)(k:Nat)(b:Int):Fr:=[(0,.ptr (B5 al) 0),(1,aE aj l),(2,FM.g JG iG sen),(7,iG b),(12,aE aj l),(13,iG (ah l)),(14,iG (k:Int))]
include h
theorem Agq(hn:al.row.length<=1000)(hl:l.length<=1000){sen:FM Int Int}{r:Int}(hr0:AH (Agp I al.row l sen) (0,-1)=some r):ba prog gl 215 [.ptr (B5 al) 0,aE aj l,FM.g JG iG sen] (iG r):=by
 refine Gh func215 ?_;refine pO [1] (s0 50 gl [(0,.ptr (B5 al) 0),(1,aE aj l),(2,FM.g JG iG sen)] [] 0 0) [] [] ?_ [] [];refine Afh (Q':=tH prog (unS Tryz.f215) (iG r)) aH (λl s hx=>by unfold tH at hx;rcases hx.1 with e|e<;>cases e) AdY ?_;refine pN (λs:Nat×Int=>(s0 50 gl (Ai0 al l sen s.1 s.2) [] 0 0)) 11110122 hr0 [] [] (λB s v hs k5 f=>?_) [] [];obtain⟨k,b⟩:=s;unfold Agp at hs;dsimp only at hs;split at hs
 .rename_i hx;cases c0:Nat.beq k l.length with
  |false=>rw[c0] at hs;cases hs
  |true=>rw[c0] at hs;obtain rfl:=Bp hs;obtain rfl:=bc c0;obtain rfl:=f _ rfl;exact Ar [hr 15 (DS (s:=l))] []
 .rename_i x hx;have hz:=Bt hx;have hw:=λy=>AbB h hn x y;refine pN (λj:Nat=>(s0 50 gl ([(8,iG (k:Int)),(9,.ref 0 0),(19,aE aj l),(20,iG (ah l)),(21,iG (j:Int))]++Ai0 al l sen k b) [(0,Po x)] 1 0)) 11110122110210122 (Akp (p:=D5 I al.row x) hl) [hr 15 (CB hx),AB 17 (ac.ixZ hz),AB 18 (ac.ptZ aW hz)] [] (λn j v2 c m i=>?_) [] [(0,0)];unfold Ako at c;split at c
  .rename_i hy;obtain rfl:=Bp c;have ha:=i _ rfl;rw[<-ha] at hs;obtain rfl:=Bp hs;obtain rfl:=f _ rfl;have hle:l.length<=j:=List.getElem?_eq_none_iff.1 hy;exact Ar [hr 22 (show decide ((j:Int)<ah l)=false from Dl (by unfold ah;omega))] []
  .rename_i y hy;have a:=Bt hy;have hw:=hw y;cases c1:D5 I al.row x y with
   |false=>rw[c1] at c hw;obtain rfl:=Bp c;exact jw [hr 22 (CB hy),AB 23 (ac.ixZ a),AB 24 (ac.ptZ aW a),hf 28 hw,hbb 46 (Xl (q:=j) (by have:=(cr hy).1;omega))] [] (m _ rfl) [] [(0,0)]
   |true=>
    rw[c1] at c hw;obtain rfl:=Bp c;have ha:=i _ rfl;rw[<-ha,ax] at hs;obtain⟨b',hb',hs⟩:=bS hs;obtain rfl:=Bp hs;have k5:=k5 _ rfl;have hkk:k<1000:=by have:=(cr hx).1;omega
    unfold upB at hb';cases c2:decide (b<0) with
    |true=>rw[c2] at hb';obtain rfl:=Bp hb';exact jw [hr 22 (CB hy),AB 23 (ac.ixZ a),AB 24 (ac.ptZ aW a),hf 28 hw,hr 30 c2,hbb 48 (Xl (q:=k) aa)] [] k5 [] []
    |false=>
     rw[c2,Bf] at hb';obtain⟨z,d,hb'⟩:=bS hb';cases c3:decide (SB sen x.By<SB sen z.By) with
     |true=>rw[c3] at hb';obtain rfl:=Bp hb';exact jw [hr 22 (CB hy),AB 23 (ac.ixZ a),AB 24 (ac.ptZ aW a),hf 28 hw,hr 30 c2,hm 35 (Aau sen x.By),AB 39 (ac.ixZ d),AB 41 (ac.fdZ tZ 0 d),hm 42 (Aau sen z.By),hr 43 c3,hbb 48 (Xl (q:=k) aa)] [] k5 [] []
     |false=>rw[c3] at hb';obtain rfl:=Bp hb';exact jw [hr 22 (CB hy),AB 23 (ac.ixZ a),AB 24 (ac.ptZ aW a),hf 28 hw,hr 30 c2,hm 35 (Aau sen x.By),AB 39 (ac.ixZ d),AB 41 (ac.fdZ tZ 0 d),hm 42 (Aau sen z.By),hr 43 c3,hbb 48 (Xl (q:=k) aa)] [] k5 [] []
end
abbrev oA(s:OP):Option Ob:=some ⟨95,FSq s,none⟩
def RX(s t:OP):OP:=⟨gM s.a0 t.a0,gM s.a1 t.a1,gM s.a2 t.a2,gM s.a3 t.a3⟩
def wiA(s t:OP):Nat->OP
 |0=>s
 |1=>⟨gM s.a0 t.a0,s.a1,s.a2,s.a3⟩
 |2=>⟨gM s.a0 t.a0,gM s.a1 t.a1,s.a2,s.a3⟩
 |3=>⟨gM s.a0 t.a0,gM s.a1 t.a1,gM s.a2 t.a2,s.a3⟩
 |_=>RX s t
def Zx(k:Nat):Option (Nat⊕Unit):=if k<4 then some (.inl (k+1))else some (.inr ())
theorem Li:AH Zx 0=some ():=T.eq (T.loop (λ_=>True) (λk=>4-k) trivial BU λk _=>by
 unfold Zx;split
 .exact .some ⟨trivial,aa⟩
 .exact .some rfl)
theorem TX(s t:OP):jg prog gl 105 [.ref 0 0,.agg (FSq t)] [(0,oA s)] 1 (.tup []) [(0,oA (RX s t))] 1:=by
 refine pP func105 ?_;refine pN (λk:Nat=>(s0 20 gl [(0,.ref 0 0),(3,.ptr (FSq t) 0),(5,iG (k:Int))] [(0,oA (wiA s t k))] 1 1)) 11122 Li [] [hc (eB (gs:=FSq t) aH)] (λB k v hs k5 a=>?_) [] [(0,0)] [];rcases k with _|_|_|_|k
 .cases hs;exact jw [hV 16 (jc (P:=prog) (t:=36) s.a0 t.a0)] [] (k5 _ rfl) [] [(0,0)] []
 .cases hs;exact jw [hV 16 (jc (P:=prog) (t:=36) s.a1 t.a1)] [] (k5 _ rfl) [] [(0,0)] []
 .cases hs;exact jw [hV 16 (jc (P:=prog) (t:=36) s.a2 t.a2)] [] (k5 _ rfl) [] [(0,0)] []
 .cases hs;exact jw [hV 16 (jc (P:=prog) (t:=36) s.a3 t.a3)] [] (k5 _ rfl) [] [(0,0)] []
 .exact mt .normal (s0 20 gl [] [(0,oA (RX s t))] 1 1) [] [hr 6 (show decide (((k+1+1+1+1:Nat):Int)<4)=false from Dl aa)] []
abbrev OG(x:C5):Option Ob:=some ⟨97,d7 x,none⟩
theorem RE(x:C5)(t:OP):jg prog gl 105 [.ref 0 30,.agg (FSq t)] [(0,OG x)] 1 (.tup []) [(0,OG {x with past:=RX x.past t})] 1:=by
 refine pP func105 ?_;refine pN (λk:Nat=>(s0 20 gl [(0,.ref 0 30),(3,.ptr (FSq t) 0),(5,iG (k:Int))] [(0,OG {x with past:=wiA x.past t k})] 1 1)) 11122 Li [] [hc (eB (gs:=FSq t) aH)] (λB k v hs k5 a=>?_) [] [(0,0)] [];rcases k with _|_|_|_|k
 .cases hs;exact jw [hV 16 (jc (P:=prog) (t:=36) x.past.a0 t.a0)] [] (k5 _ rfl) [] [(0,0)] []
 .cases hs;exact jw [hV 16 (jc (P:=prog) (t:=36) x.past.a1 t.a1)] [] (k5 _ rfl) [] [(0,0)] []
 .cases hs;exact jw [hV 16 (jc (P:=prog) (t:=36) x.past.a2 t.a2)] [] (k5 _ rfl) [] [(0,0)] []
 .cases hs;exact jw [hV 16 (jc (P:=prog) (t:=36) x.past.a3 t.a3)] [] (k5 _ rfl) [] [(0,0)] []
 .exact mt .normal (s0 20 gl [] [(0,OG {x with past:=RX x.past t})] 1 1) [] [hr 6 (show decide (((k+1+1+1+1:Nat):Int)<4)=false from Dl aa)] []
def yt(s:OP)(n:Nat):OP:=match n/64 with
 |0=>{s with a0:=gM s.a0 (It 1 (n%64))}
 |1=>{s with a1:=gM s.a1 (It 1 (n%64))}
 |2=>{s with a2:=gM s.a2 (It 1 (n%64))}
 |_=>{s with a3:=gM s.a3 (It 1 (n%64))}
theorem W0(s:OP)(h:n<256):jg prog gl 104 [.ref 0 0,iG (n:Int)] [(0,oA s)] 1 (.tup []) [(0,oA (yt s n))] 1:=by
 have hm:u9 (n:Int) 64=some ((n%64:Nat):Int):=by grind [u9]
 have hcn:wJ ((n%64:Nat):Int)=some (n%64):=by grind [wJ]
 have hq:∀q:Nat,n/64=q->Gg (n:Int) 64=some (q:Int):=by grind [Gg,Mx]
 refine pP func104 ?_;have h4:n/64=0\/n/64=1\/n/64=2\/n/64=3:=aa;rcases h4 with e|e|e|e
 .rw[show yt s n={s with a0:=gM s.a0 (It 1 (n%64))} by grind [yt]];exact mt .normal (s0 16 gl [] [(0,oA {s with a0:=gM s.a0 (It 1 (n%64))})] 1 1) [] [hbb 6 (Tt (hq 0 e)),hbb 11 (KO hm),hV 12 (sM (P:=prog) (t:=36) 1 hcn),hV 13 (jc (P:=prog) (t:=36) s.a0 (It 1 (n%64)))] []
 .rw[show yt s n={s with a1:=gM s.a1 (It 1 (n%64))} by grind [yt]];exact mt .normal (s0 16 gl [] [(0,oA {s with a1:=gM s.a1 (It 1 (n%64))})] 1 1) [] [hbb 6 (Tt (hq 1 e)),hbb 11 (KO hm),hV 12 (sM (P:=prog) (t:=36) 1 hcn),hV 13 (jc (P:=prog) (t:=36) s.a1 (It 1 (n%64)))] []
 .rw[show yt s n={s with a2:=gM s.a2 (It 1 (n%64))} by grind [yt]];exact mt .normal (s0 16 gl [] [(0,oA {s with a2:=gM s.a2 (It 1 (n%64))})] 1 1) [] [hbb 6 (Tt (hq 2 e)),hbb 11 (KO hm),hV 12 (sM (P:=prog) (t:=36) 1 hcn),hV 13 (jc (P:=prog) (t:=36) s.a2 (It 1 (n%64)))] []
 .rw[show yt s n={s with a3:=gM s.a3 (It 1 (n%64))} by grind [yt]];exact mt .normal (s0 16 gl [] [(0,oA {s with a3:=gM s.a3 (It 1 (n%64))})] 1 1) [] [hbb 6 (Tt (hq 3 e)),hbb 11 (KO hm),hV 12 (sM (P:=prog) (t:=36) 1 hcn),hV 13 (jc (P:=prog) (t:=36) s.a3 (It 1 (n%64)))] []
theorem OH{σ ρ:Type}{step:σ->Option (σ⊕ρ)}{s:σ}{r:ρ}(h:step s=some (.inr r)):AH step s=some r:=by grind [AH,FU,KN]
theorem RF{st:St}{l:Bk}(h:ag st.σ j=some ⟨t,l,none⟩)(k:Nat):Le P st {st with σ:=(j,some ⟨t,l.take k,none⟩)::st.σ}:=by
 rintro cx a w ⟨β,r⟩;have hs:∀i o,ag ((j,some ⟨t,l.take k,none⟩)::st.σ) i=some o->∃c,ag st.σ i=some c/\((i=j/\o=⟨t,l.take k,none⟩/\c=⟨t,l,none⟩)\/o=c):=by grind
 have hs':∀i o,ag st.σ i=some o->∃c,ag ((j,some ⟨t,l.take k,none⟩)::st.σ) i=some c:=by grind
 have hA:Av cx.S0 β ((j,some ⟨t,l.take k,none⟩)::st.σ)=Av cx.S0 β st.σ:=by grind
 refine⟨β,{size:=r.size,defers:=r.defers,loose:=r.loose,rnd:=r.rnd,fr:=λi=>?_,ob:=λi o hi=>?_,inj:=λi d o c b C D h1 h2 h3 h4=>?_,own:=λi o b C h1 h2=>?_,sep:=λi o b C h1 h2=>?_,fresh:=r.fresh,glob:=λg m hl=>?_,keep:=r.keep,old:=r.old,pin:=r.pin}⟩
 .grind
 .show RO P β (Av cx.S0 β ((j,some ⟨t,l.take k,none⟩)::st.σ)) w i o;rw[hA];obtain⟨c,h1,⟨rfl,rfl,rfl⟩|rfl⟩:=hs i o hi
  .rcases r.ob _ _ h1 with⟨e1,e2,e3⟩|⟨b,x,o,e1,_⟩|⟨b,C,cur,e1,e2,e3,e4,e5,e6,e7⟩
   .grind
   .cases e1
   .have e6:l.length<=cur.size:=e6;have e7:∀(j:Nat) (g:G),l[j]?=some g->∃u,cur[j]?=some u/\u.oneCell'=true/\RV β (Av cx.S0 β st.σ) w g u:=e7;refine .inr (.inr ⟨b,C,cur,e1,e2,e3,e4,e5,?_,λx g hg=>e7 x g ?_⟩);all_goals grind
  .exact r.ob _ _ h1
 .obtain⟨e,h1',_⟩:=hs i o h1;obtain⟨f,h2',_⟩:=hs d c h2;grind
 .grind
 all_goals grind
def hcl(c:Nat){P:Bu}{σ:aQ}{t:Bj}{g:G}{i:Nat}{ob:Ob}(h:rF P σ t g=some (i,ob)):HP:=⟨some (.e 999999998 (.tup []) i ob),rF P (US σ (fR g)) t g=some (i,ob),(Afe Hh).symm.trans h⟩
section
variable {P:Bu} [M:Mix P] {st:St} {Q:Exit->St->Prop} {fn:Func} {Bs:List (St->Prop)} {m:Bool} {p:Br}
theorem dSh(j:Nat){l:Bk}(k:Nat)(h:Gp P fn Q Bs m p {st with σ:=(j,some ⟨t,l.take k,none⟩)::st.σ})(hj:ag st.σ j=some ⟨t,l,none⟩:=by rfl):Gp P fn Q Bs m p st:=by
 unfold Gp LQ at h⊢;cases m with
 |true=>exact pQ (RF hj k) _ _ h
 |false=>exact Tr.le h (RF hj k)
end
abbrev Lj(g:Az):G:= .clo (.func 188) [] [.ptr [.ptr (Ag g) 0] 0]
def AjU{α:Type}(l:List α)(i:Int):Option (Int⊕Unit):=bif i<ah l then(aS l i).bind λ_=>some (.inl (wI (i+1)))else some (.inr ())
theorem W3{l:List α}(h:l.length<1000000000):AH (AjU l) (wI (0+1))=some ():=by refine T.eq (T.loop (λi=>∃k:Nat,i=((k+1:Nat):Int)/\k<=l.length) (λi=>l.length+2-i.toNat) ⟨0,rfl,aa⟩ (by grind) ?_);rintro i ⟨k,rfl,hk⟩;unfold AjU;refine .dec (λhh=>?_) λhh=> .some rfl;unfold ah at hh;have ew:wI (((k+1:Nat):Int)+1)=((k+1+1:Nat):Int):=aq aa;refine .bind (.ix aa (x:=l[k+1]) (by grind) (.some ⟨⟨k+1,ew,aa⟩,?_⟩));grind
def zI:List Value:=[.int .i64 0,.int .i64 0,.int .u64 0]
abbrev W4(l:Ba):Bk:=(l.flatMap aj).take 0++(bN zI (l.length*3)).map .lit++(l.flatMap aj).drop (0+l.length*3)
theorem clr{l:Ba}(h:0<l.length):rF prog [ob 0 41 (l.flatMap aj)] 26 (.rsl 0 (0+(0:Int).toNat*3) (l.length-(0:Int).toNat))=some (0,⟨41,W4 l,none⟩):=by have e1:dp prog 26=some 41:=aH;have e2:jj prog 41=some zI:=aH;have e3:bw prog 41=some 3:=aH;have e4:ag [ob 0 41 (l.flatMap aj)] 0=some ⟨41,l.flatMap aj,none⟩:=rfl;show rF prog _ _ (.rsl 0 0 l.length)=_;unfold rF;rw[e1];simp only[e2,e3,e4];rw[BB ⟨rfl,h,BU,by grind [AQ.len,ac],rfl⟩]
theorem RH(l:Ba):∀g∈W4 l,bB g:=by grind [AQ.imm,ac,mN]
theorem W5(h:(g.at_.get x).isSome=true):ba prog gl 188 [.agg (aj x),.ptr [.ptr (Ag g) 0] 0] (bG true):=jk gl (by unfold df;rw[h])
theorem aa4(g:Az):Uk prog gl 188 [] [.ptr [.ptr (Ag g) 0] 0] (λx:Ab=>[.agg (aj x)]) (λx:Bool=>bG x) (λx=>df x g):=⟨aH,bf,aY (aG 20 _ aH) bf,λx r h=>jk gl h⟩
theorem ixL(h:∀x∈l,(g.at_.get x).isSome=true):Y4 l (λx=>df x g)=some (if l.length=0 then-1 else 0):=by
 unfold Y4;cases l with
 |nil=>rfl
 |cons a r=>
  have e:AH (KS (a::r) (λx=>df x g)) 0=some (.inr 0):=by grind [OH,KS,df,ah,aS]
  rw[e];rfl
theorem TY(h:∀x∈l,(g.at_.get x).isSome=true)(hl:l.length<1000000000):jg prog gl 187 [.rsl 0 0 l.length,Lj g] [ob 0 41 (l.flatMap aj)] 1 (.rsl 0 0 0) [ob 0 41 []] 1:=by
 refine pP func187 ?_;have hi:=gS gl (aa4 gl g) (ixL h);by_cases h0:l.length=0
 .rw[BB h0] at hi;obtain rfl:=List.length_eq_zero_iff.1 h0;exact mt .ret (s0 42 gl [(4,.rsl 0 0 0)] [ob 0 41 []] 1 1) [.rsl 0 0 0] [hq 10 [aE aj [],Lj g] [hc (ac.al [])] hi] [hc (rfl:0=0),hc (ac.imm [])]
 .rw[BX h0] at hi;refine pN (λj:Int=>(s0 42 gl [(0,.rsl 0 0 l.length),(1,Lj g),(5,iG 0),(6,iG j)] [ob 0 41 (l.flatMap aj)] 1 1)) 11110122 (W3 (l:=l) hl) [hq 10 [aE aj l,Lj g] [hc (ac.al l)] hi] [hc (el l),hc (aG 20 (Lj g) aH),hc (ac.imm l)] (λB j w hs k5 b=>?_);unfold AjU at hs;rcases bC hs with⟨b1,hs⟩|⟨b1,hs⟩
  .obtain⟨y,a,hs⟩:=bS hs;obtain rfl:=Bp hs;exact jw [hr 19 b1,AB 24 (ac.ixrZ 0 a),AB 25 (ac.pt0Z aW a),hf 28 (W5 gl (h y (bO (Hb a).2)))] [hc (el l),hc (aG 20 (Lj g) aH),hc (ac.imm l)] (k5 _ rfl)
  .obtain rfl:=Bp hs;refine pO 1111110 (J:=(s0 42 gl [(0,.rsl 0 0 l.length),(5,iG 0)] [ob 0 41 (W4 l)] 1 1)) [hr 19 b1,AB 38 (ac.sufZ 0 (l:=l) (i:=0) (y:=l) rfl),hcl 1 (clr (l:=l) (Nat.pos_of_ne_zero h0))] [hc (el l),hc (RH l)] ?_;refine dSh 0 0 ?_;exact mt .ret (s0 42 gl [(4,.rsl 0 0 0)] [ob 0 41 []] 1 1) [.rsl 0 0 0] [AB 41 (ac.preZ 0 (l:=l) (i:=0) (y:=[]) rfl)] [hc (rfl:0=0),hc (ac.imm [])]
theorem Zy(l:Ba):∀g∈l.flatMap aj,∃v,g= .lit v:=by grind [aj]
theorem RI{g:Az}{o:Bo}(h:∀x∈o.Past,(g.at_.get x).isSome=true)(hl:o.Past.length<1000000000):iV prog gl 103 [.ptr (Ag g) 0,.agg (aJ o)] 41 0 []:=by
 have hcl:cU o.Past=some o.Past:=by grind [cU,aT]
 refine OW func103 ?_;refine pO [1,0] (s0 10 gl [(2,.ptr [.ptr (Ag g) 0] 0),(3,.ptr (aJ o) 0)] [] 0 0) [] [hc (eB (gs:=[.ptr (Ag g) 0]) aH),hc (eB (gs:=aJ o) aH)] ?_;exact EI [ho 7 [aE aj o.Past] [] (jY gl hcl) (Zy _),tN 9 [0] 1 [ob 0 41 (o.Past.flatMap aj)] [.rsl 0 0 o.Past.length,Lj g] [ob 0 41 []] (TY gl h hl) ⟨⟨rfl,.inr ⟨rfl,ac.imm _⟩⟩,trivial⟩ ⟨⟨rfl,.inr ⟨rfl,ac.imm []⟩⟩,trivial⟩] (ac.imm [])
def hmu(R:Br)(c:Nat){P:Bu}{σ:aQ}{t:Bj}{gm gk g:G}{i:Nat}{ob:Ob}(h:dZ P σ t gm gk g=some (i,ob)):HP:=⟨some (.e 999999998 (.lit undef) i ob),dZ P (US σ (fR gm)) t gm gk g=some (i,ob),(abj Hh).symm.trans h⟩
abbrev mE(m:Jb):oE:=m.es.map λe=>(ga e.1,iG e.2.1,e.2.2)
abbrev gMp(m:Jb):G:= .mp ((mE m).map (·.1)) ((mE m).map (·.2.1)) ((mE m).map (·.2.2)) m.clk
abbrev oM(m:Jb):Option Ob:=some ⟨90,[],some (.map (mE m) m.clk)⟩
abbrev oG(cs:Mi)(n:Nat)(j:Nat):Option Ob:=some ⟨93,[aE bv cs,.mref 1,.rsl j 0 n],none⟩
abbrev zQ(N:I4):Option Ob:=some ⟨97,N.flatMap d7,none⟩
theorem RJ(m:Jb):FM.g ga iG m=gMp m:=by unfold FM.g gMp mE;simp only[Hk];rfl
theorem lkP{m:Jb}{k:Ab}{b:Bool}{v:Int}(h1:(m.get k).getD 0=v)(h2:(m.get k).isSome=b):bL prog [(1,oM m)] 90 true (.mref 1) (.agg (aj k))=some (.tup [iG v,bG b]):=by
 subst h1 h2;have hm:(mE m).map (·.1)=(m.es.map (·.1)).map ga:=by rw[Hk,Hk];rfl
 have hz:((prog.info? 3).bind (·.zero)).map db=some (iG 0):=aH;obtain⟨z,hz,hv⟩:=DQ.1 hz;unfold bL;rw[show pB prog 90=some (41,3) from by kernel_rfl,show cD (.agg (aj k))=some (ga k) from rfl];dsimp only;rw[show LE [(1,oM m)] (.mref 1)=some (1,90,mE m,m.clk) from rfl];dsimp only;rw[jt.chk,ax,hm,jt.key];grind [FM.get,fz]
theorem Zz{m:Jb}{k:Ab}{v:Int}(h1:(m.get k).getD 0=v):bL prog [(1,oM m)] 90 false (.mref 1) (.agg (aj k))=some (iG v):=by
 subst h1;have hm:(mE m).map (·.1)=(m.es.map (·.1)).map ga:=by rw[Hk,Hk];rfl
 have hz:((prog.info? 3).bind (·.zero)).map db=some (iG 0):=aH;obtain⟨z,hz,hv⟩:=DQ.1 hz;unfold bL;rw[show pB prog 90=some (41,3) from by kernel_rfl,show cD (.agg (aj k))=some (ga k) from rfl];dsimp only;rw[show LE [(1,oM m)] (.mref 1)=some (1,90,mE m,m.clk) from rfl];dsimp only;rw[jt.chk,ax,hm,jt.key];grind [FM.get,fz]
def CW(m:Jb)(k:Ab)(n:Int):Jb:=⟨m.es++[(k,n,m.clk)],m.clk+1⟩
theorem aa6{m:Jb}{k:Ab}(h:m.get k=none)(n:Int):dZ prog [(1,oM m)] 90 (.mref 1) (.agg (aj k)) (iG n)=some (1,⟨90,[],some (.map (mE (CW m k n)) (CW m k n).clk)⟩):=by
 have hm:(mE m).map (·.1)=(m.es.map (·.1)).map ga:=by rw[Hk,Hk];rfl
 unfold dZ;rw[show pB prog 90=some (41,3) from by kernel_rfl,show cD (.agg (aj k))=some (ga k) from rfl,show LE [(1,oM m)] (.mref 1)=some (1,90,mE m,m.clk) from rfl];dsimp only;rw[jt.chk,ax,hm,jt.key];grind [fz,CW,FM.get]
def hlk(d:Nat){P:Bu}{σ:aQ}{t:Bj}{ok:Bool}{i:Nat}{gk g:G}(h:bL P σ t ok (.mref i) gk=some g):HP:=⟨some (.m d g),bL P σ t ok (.mref i) gk=some g,h⟩
structure Ad3 (cs:Mi) (m:Jb) (N:I4) (o:Bo) (i:Ab) (c:DR) (kk:Nat):Prop where
 chk:Abd o kk
 sm:Be o
 cl:pG o=some o
 id:Rs o=some i
 fresh:m.get i=none
 room:N.length<200
 card:hY ⟨cs,m,N⟩ o.By=some (c,true)
 by_:o.By=c.Device
 sig:lq c.Sign (qc o) o.Sig=some true
 create:o.Kind=1->N=[]
 nPast:o.Past.length<1000000000
 par:∀x∈o.Past,∃n:Nat,m.get x=some (n:Int)/\n<200
abbrev z4:OP:=⟨0,0,0,0⟩
def Z6(m:Jb)(N:I4)(l:Ba)(s:OP×OP×Int×Int×Int):Option ((OP×OP×Int×Int×Int)⊕(OP×OP×Int×Int)):=
 bif s.2.2.2.2<ah l then(aS l s.2.2.2.2).bind λx=>(aS N ((m.get x).getD 0)).bind λy=>some (.inl (yt s.1 ((m.get x).getD 0).toNat,RX s.2.1 y.past,Fv s.2.2.1 y.o.At,Fv s.2.2.2.1 (wI (y.level+1)),wI (s.2.2.2.2+1)))else some (.inr (s.1,s.2.1,s.2.2.1,s.2.2.2.1))
def ZA(s t:OP):Nat->OP
 |0=>s
 |1=>⟨bD s.a0 t.a0,s.a1,s.a2,s.a3⟩
 |2=>⟨bD s.a0 t.a0,bD s.a1 t.a1,s.a2,s.a3⟩
 |3=>⟨bD s.a0 t.a0,bD s.a1 t.a1,bD s.a2 t.a2,s.a3⟩
 |_=>⟨bD s.a0 t.a0,bD s.a1 t.a1,bD s.a2 t.a2,bD s.a3 t.a3⟩
def Z7(N:I4)(o:Bo)(A:OP)(s:Int×Bool×Int):Option ((Int×Bool×Int)⊕(Int×Bool)):=
 bif s.2.2<ah N then(aS N s.2.2).bind λy=>bif y.o.By=o.By then(iX A s.2.2).bind λh=>bif h then some (.inl (Fv s.1 y.o.Seq,(bif s.2.1 then true else decide (y.o.Seq=wI (o.Seq-1))),wI (s.2.2+1)))else some (.inl (s.1,s.2.1,wI (s.2.2+1)))else some (.inl (s.1,s.2.1,wI (s.2.2+1)))else some (.inr (s.1,s.2.1))
section
variable {cs:Mi} {m:Jb} {N:I4} {o:Bo} {i:Ab} {c:DR} {kk:Nat}
abbrev Z8(cs:Mi)(m:Jb)(N:I4):G:= .ptr [aE bv cs,gMp m,aE d7 N] 0
theorem Ad3.card'(h:Ad3 cs m N o i c kk):ba prog fI 101 [Z8 cs m N,iG o.By] (.tup [.agg (bv c),bG true]):=by have:=uN fI h.card;grind [Ag,RJ]
theorem Ad3.lacks'(h:Ad3 cs m N o i c kk):iV prog fI 103 [Z8 cs m N,.agg (aJ o)] 41 0 []:=by have:=RI fI (g:=⟨cs,m,N⟩) (o:=o) (λx hx=>by obtain⟨n,hn,_⟩:=h.par x hx;show(m.get x).isSome=true;rw[hn];rfl) h.nPast;grind [Ag,RJ]
theorem Dx(m:Jb):∀e∈mE m,bB e.2.1:=by grind [mN]
abbrev aa7(o:Bo)(a k:Int):Fr:=[(0,.ref 0 0),(3,.ptr (aJ o) 0),(6,.ref 3 0),(11,.ref 4 0),(12,.ref 5 0),(13,iG a),(80,aE aj o.Past),(81,iG (ah o.Past)),(82,iG k)]
abbrev Z9(cs:Mi)(m:Jb)(N:I4)(x:C5)(p b:OP):aQ:=[(0,oG cs N.length 2),(1,oM m),(2,zQ N),(3,OG x),(4,oA p),(5,oA b)]
theorem TZ(x:C5){n:Nat}(hn:n<256){r:Bool}(h:iX x.past (n:Int)=some r):ba prog fI 40 [.ptr (d7 x) 30,iG (n:Int)] (bG r):=by
 have hm:u9 (n:Int) 64=some ((n%64:Nat):Int):=by grind [u9]
 have hcn:wJ ((n%64:Nat):Int)=some (n%64):=by grind [wJ]
 have hq:∀q:Nat,n/64=q->Gg (n:Int) 64=some (q:Int):=by grind [Gg,Mx]
 have hd:wI (Int.tdiv (n:Int) 64)=((n/64:Nat):Int):=by grind [bM]
 have ht:Int.tmod (n:Int) 64=((n%64:Nat):Int):=by rw[Int.tmod_eq_emod_of_nonneg aa];rfl
 unfold iX at h;rw[hd,ht,hcn] at h;refine Gh func40 ?_;have h4:n/64=0\/n/64=1\/n/64=2\/n/64=3:=aa;rcases h4 with e|e|e|e
 .rw[e] at h;obtain rfl:=Bp h;exact Ar [hbb 7 (Tt (hq 0 e)),hbb 12 (KO hm),hV 13 (Am (P:=prog) (t:=36) x.past.a0 hcn),hV 14 (ju (P:=prog) (t:=36) (JH x.past.a0 (n%64)) 1)] []
 .rw[e] at h;obtain rfl:=Bp h;exact Ar [hbb 7 (Tt (hq 1 e)),hbb 12 (KO hm),hV 13 (Am (P:=prog) (t:=36) x.past.a1 hcn),hV 14 (ju (P:=prog) (t:=36) (JH x.past.a1 (n%64)) 1)] []
 .rw[e] at h;obtain rfl:=Bp h;exact Ar [hbb 7 (Tt (hq 2 e)),hbb 12 (KO hm),hV 13 (Am (P:=prog) (t:=36) x.past.a2 hcn),hV 14 (ju (P:=prog) (t:=36) (JH x.past.a2 (n%64)) 1)] []
 .rw[e] at h;obtain rfl:=Bp h;exact Ar [hbb 7 (Tt (hq 3 e)),hbb 12 (KO hm),hV 13 (Am (P:=prog) (t:=36) x.past.a3 hcn),hV 14 (ju (P:=prog) (t:=36) (JH x.past.a3 (n%64)) 1)] []
theorem W7(h:Ad3 cs m N o i c kk){p b:OP}{top lev:Int}(h1:AH (Z6 m N o.Past) (z4,z4,0,1,0)=some (p,b,top,lev))(h2:ZA p b 4=z4)(h3:decide (o.At<top)=false){last:Int}{fol:Bool}(h4:AH (Z7 N o (RX b p)) (0,false,0)=some (last,fol))(h5:decide (o.Seq<=last)=false)(h6:1<o.Seq->fol=true):jg prog fI 54 [.ref 0 0,.agg (aJ o)] [(0,oG cs N.length 2),(1,oM m),(2,zQ N)] 3 (iG 0) [(0,oG cs (N++[(⟨o,i,RX b p,lev⟩:C5)]).length 3),(1,oM (CW m i N.length)),(3,zQ (N++[⟨o,i,RX b p,lev⟩]))] 4:=by
 have hro:=h.room;refine pP func54 ?_;refine pO 11111111100 (s0 234 fI [(0,.ref 0 0),(3,.ptr (aJ o) 0),(6,.ref 3 0)] [(0,oG cs N.length 2),(1,oM m),(2,zQ N),(3,OG ⟨o,i,z4,1⟩)] 4 3) [hf 24 (IW h.chk),hf 29 (Ds fI h.cl),hf 31 (TP fI h.sm h.id),hlk 40 (lkP (m:=m) (k:=i) (v:=0) (b:=false) (by rw[h.fresh];rfl) (by rw[h.fresh];rfl)),hr 49 (show decide (200<=(N.length:Int))=false from Dl aa),hq 54 [Z8 cs m N,iG o.By] [hc (Dx m),hc (az.al N)] h.card',hf 61 (OD fI h.sm h.by_ h.sig)] [hc (eB (gs:=aJ o) aH),hc (el N),hc (Dx m),hc (az.imm N)] ?_;refine Ix 1111111110 (s0 234 fI [(0,.ref 0 0),(3,.ptr (aJ o) 0),(6,.ref 3 0)] [(0,oG cs N.length 2),(1,oM m),(2,zQ N),(3,OG ⟨o,i,z4,1⟩)] 4 3) ?_ λd=>?_;rotate_left
 .by_cases hk1:o.Kind=1
  .have e0:decide (0<(N.length:Int))=false:=by rw[h.create hk1];rfl
   exact yl 1111111110 [hr 65 (C6 hk1),hr 72 e0] [hc (el N),hc (Dx m),hc (az.imm N)] d
  .exact yl 1111111110 [hr 65 (Dl hk1)] [hc (el N),hc (Dx m),hc (az.imm N)] d
 refine Ix 111111111111101 (s0 234 fI [(0,.ref 0 0),(3,.ptr (aJ o) 0),(6,.ref 3 0),(11,.ref 4 0),(12,.ref 5 0),(13,iG top)] (Z9 cs m N ⟨o,i,z4,lev⟩ p b) 6 3) ?_ λd=>?_;rotate_left
 .refine pN (λs:OP×OP×Int×Int×Int=>(s0 234 fI (aa7 o s.2.2.1 s.2.2.2.2) (Z9 cs m N ⟨o,i,z4,s.2.2.2.1⟩ s.1 s.2.1) 6 3)) 11111111111110122 h1 [ho 76 [Z8 cs m N,.agg (aJ o)] [hc (Dx m),hc (az.al N)] h.lacks' (λg hg=>by cases hg)] [hc (el N),hc (Dx m),hc (az.imm N)] (λB s w hs k5 j=>?_);unfold Z6 at hs;rcases bC hs with⟨c1,hs⟩|⟨c1,hs⟩
  .obtain⟨x,l,hs⟩:=bS hs;obtain⟨n,q,hn⟩:=h.par x (bO (Hb l).2);have ej:(m.get x).getD 0=(n:Int):=by rw[q];rfl
   rw[ej] at hs;obtain⟨y,a,hs⟩:=bS hs;obtain rfl:=Bp hs;exact jw [hr 83 c1,AB 84 (ac.ixZ l),AB 85 (ac.ptZ aW l),hlk 95 (Zz ej),AB 96 (az.ixrZ 2 a),hlk 102 (Zz ej),tN 103 [4] 7 [(4,oA s.1)] [.ref 4 0,iG (n:Int)] [(0,oA (yt s.1 n))] (W0 fI s.1 aa) ⟨⟨rfl,.inl rfl⟩,trivial⟩ ⟨⟨rfl,.inl rfl⟩,trivial⟩,AB 107 (az.fs0Z aap aaq 30 BU a),tN 108 [5] 7 [(5,oA s.2.1)] [.ref 5 0,.agg (FSq y.past)] [(0,oA (RX s.2.1 y.past))] (TX fI s.2.1 y.past) ⟨⟨rfl,.inl rfl⟩,trivial⟩ ⟨⟨rfl,.inl rfl⟩,trivial⟩,AB 114 (az.fd0Z tZ 3 a),AB 121 (az.fd0Z tZ 34 a)] [hc (el N),hc (Dx m),hc (az.imm N)] (k5 _ rfl)
  .obtain rfl:=Bp hs;have e:=j _ rfl;simp only[Ft] at e;obtain⟨rfl,rfl,rfl,rfl⟩:=e;exact yl 111111111111101 [hr 83 c1] [hc (el N),hc (Dx m),hc (az.imm N)] d
 refine Ix 11111111111111101 (s0 234 fI [(0,.ref 0 0),(3,.ptr (aJ o) 0),(6,.ref 3 0),(11,.ref 4 0),(12,.ref 5 0),(13,iG top),(17,.ref 6 0)] (Z9 cs m N ⟨o,i,z4,lev⟩ p b++[(6,oA z4)]) 7 3) ?_ λd=>?_;rotate_left
 .refine pN (λk:Nat=>(s0 234 fI [(0,.ref 0 0),(3,.ptr (aJ o) 0),(6,.ref 3 0),(11,.ref 4 0),(12,.ref 5 0),(13,iG top),(17,.ref 6 0),(127,iG (k:Int))] (Z9 cs m N ⟨o,i,z4,lev⟩ p b++[(6,oA (ZA p b k))]) 7 3)) 1111111111111110122 Li [] [hc (el N),hc (Dx m),hc (az.imm N)] (λB k v hs k5 j=>?_);rcases k with _|_|_|_|k
  .cases hs;exact jw [hV 136 (ju (P:=prog) (t:=36) p.a0 b.a0)] [hc (el N),hc (Dx m),hc (az.imm N)] (k5 _ rfl)
  .cases hs;exact jw [hV 136 (ju (P:=prog) (t:=36) p.a1 b.a1)] [hc (el N),hc (Dx m),hc (az.imm N)] (k5 _ rfl)
  .cases hs;exact jw [hV 136 (ju (P:=prog) (t:=36) p.a2 b.a2)] [hc (el N),hc (Dx m),hc (az.imm N)] (k5 _ rfl)
  .cases hs;exact jw [hV 136 (ju (P:=prog) (t:=36) p.a3 b.a3)] [hc (el N),hc (Dx m),hc (az.imm N)] (k5 _ rfl)
  .have e:ZA p b (k+1+1+1+1)=z4:=h2;rw[e];exact yl 11111111111111101 [hr 128 (show decide (((k+1+1+1+1:Nat):Int)<4)=false from Dl aa)] [hc (el N),hc (Dx m),hc (az.imm N)] d
 refine Ix 11111111111111111111101 (s0 234 fI [(0,.ref 0 0),(3,.ptr (aJ o) 0),(6,.ref 3 0),(19,iG last),(20,bG fol)] [(0,oG cs N.length 2),(1,oM m),(2,zQ N),(3,OG ⟨o,i,RX b p,lev⟩)] 4 3) ?_ λd=>?_;rotate_left
 .refine pN (λs:Int×Bool×Int=>(s0 234 fI [(0,.ref 0 0),(3,.ptr (aJ o) 0),(6,.ref 3 0),(19,iG s.1),(20,bG s.2.1),(157,iG (ah N)),(158,iG s.2.2)] [(0,oG cs N.length 2),(1,oM m),(2,zQ N),(3,OG ⟨o,i,RX b p,lev⟩)] 4 3)) 1111111111111111111110122 h4 [hr 146 h3,tN 152 [3] 7 [(3,OG ⟨o,i,b,lev⟩)] [.ref 3 30,.agg (FSq p)] [(0,OG ⟨o,i,RX b p,lev⟩)] (RE fI ⟨o,i,b,lev⟩ p) ⟨⟨rfl,.inl rfl⟩,trivial⟩ ⟨⟨rfl,.inl rfl⟩,trivial⟩] [hc (el N),hc (Dx m),hc (az.imm N)] (λB s w hs k5 j=>?_);obtain⟨la,r,k⟩:=s;unfold Z7 at hs;dsimp only at hs;rcases bC hs with⟨c1,hs⟩|⟨c1,hs⟩
  .obtain⟨y,a,hs⟩:=bS hs;obtain⟨n,hn⟩:∃n:Nat,k=(n:Int):=⟨k.toNat,by have:=(Hb a).1;omega⟩;rcases bC hs with⟨c2,hs⟩|⟨c2,hs⟩
   .obtain⟨hh,f,hs⟩:=bS hs;rw[hn] at f;have f:=TZ ⟨o,i,RX b p,lev⟩ (n:=n) (by have:=(cr (Hb a).2).1;omega) f;rw[<-hn] at f;cases hh
    .obtain rfl:=Bp hs;exact jw [hr 159 c1,AB 166 (az.ixrZ 2 a),AB 171 (az.fd0Z tZ 0 a),hr 174 c2,hq 178 [.ptr (d7 ⟨o,i,RX b p,lev⟩) 30,iG k] [] f] [hc (el N),hc (Dx m),hc (az.imm N)] (k5 _ rfl)
    .obtain rfl:=Bp hs;cases r
     .exact jw [hr 159 c1,AB 166 (az.ixrZ 2 a),AB 171 (az.fd0Z tZ 0 a),hr 174 c2,hq 178 [.ptr (d7 ⟨o,i,RX b p,lev⟩) 30,iG k] [] f,AB 185 (az.fd0Z tZ 1 a),AB 193 (az.fd0Z tZ 1 a),hr 197 (rfl:decide (y.o.Seq=wI (o.Seq-1))=decide (y.o.Seq=wI (o.Seq-1)))] [hc (el N),hc (Dx m),hc (az.imm N)] (k5 _ rfl)
     .exact jw [hr 159 c1,AB 166 (az.ixrZ 2 a),AB 171 (az.fd0Z tZ 0 a),hr 174 c2,hq 178 [.ptr (d7 ⟨o,i,RX b p,lev⟩) 30,iG k] [] f,AB 185 (az.fd0Z tZ 1 a)] [hc (el N),hc (Dx m),hc (az.imm N)] (k5 _ rfl)
   .obtain rfl:=Bp hs;exact jw [hr 159 c1,AB 166 (az.ixrZ 2 a),AB 171 (az.fd0Z tZ 0 a),hr 174 c2] [hc (el N),hc (Dx m),hc (az.imm N)] (k5 _ rfl)
  .obtain rfl:=Bp hs;have e:=j _ rfl;simp only[Ft] at e;obtain⟨rfl,rfl⟩:=e;exact yl 11111111111111111111101 [hr 159 c1] [hc (el N),hc (Dx m),hc (az.imm N)] d
 refine pO 111111111111111111111100 (s0 234 fI [(0,.ref 0 0),(3,.ptr (aJ o) 0),(6,.ref 3 0),(19,iG last),(20,bG fol)] [(0,oG cs N.length 2),(1,oM m),(2,zQ N),(3,OG ⟨o,i,RX b p,lev⟩)] 4 3) [] [hc (el N),hc (Dx m),hc (az.imm N)] ?_;refine Ix 11111111111111111111110 (s0 234 fI [(0,.ref 0 0),(3,.ptr (aJ o) 0),(6,.ref 3 0)] [(0,oG cs N.length 2),(1,oM m),(2,zQ N),(3,OG ⟨o,i,RX b p,lev⟩)] 4 3) ?_ λd=>?_;rotate_left
 .by_cases hs1:1<o.Seq
  .obtain rfl:=h6 hs1;exact yl 11111111111111111111110 [hr 203 h5,hr 207 (C6 hs1)] [hc (el N),hc (Dx m),hc (az.imm N)] d
  .exact yl 11111111111111111111110 [hr 203 h5,hr 207 (Dl hs1)] [hc (el N),hc (Dx m),hc (az.imm N)] d
 exact mt .ret (s0 234 fI [(4,iG 0)] [(0,oG cs (N++[(⟨o,i,RX b p,lev⟩:C5)]).length 3),(1,oM (CW m i N.length)),(3,zQ (N++[⟨o,i,RX b p,lev⟩]))] 4 3) [iG 0] [hmu [1] 4 (aa6 h.fresh N.length),Tn 231 az 392 N ⟨o,i,RX b p,lev⟩ aa] [hc (el (N++[⟨o,i,RX b p,lev⟩])),hc (Dx (CW m i N.length)),hc (az.imm (N++[⟨o,i,RX b p,lev⟩]))] (ρ:=rI 3++[(3,5)]) (kd:=[(3,.row)])
end
theorem ZB(l:Mi):∀g∈l.flatMap bv,∃v,g= .lit v:=Gj (λx g hg=>by simp only[bv,EG,K3,or_false] at hg;rcases hg with rfl|rfl|rfl|rfl|rfl<;>exact⟨_,rfl⟩) l
theorem W8{cs:Mi}(h:xf cs):jg prog gl 53 [aE bv cs] [] 0 (.ref 0 0) [(0,oG cs 0 2),(1,oM ⟨[],0⟩),(2,zQ [])] 3:=by
 have hcl:Fl cs=some cs:=by unfold Fl aT;rw[BB (by have:=h.1;simp;omega)];rfl
 refine pP func53 ?_;exact mt .ret (s0 15 gl [(2,.ref 0 0)] [(0,oG cs 0 2),(1,oM ⟨[],0⟩),(2,zQ [])] 3 0) [.ref 0 0] [ho 5 [aE bv cs] [] (tn gl hcl) (ZB _),hz 13 [0] (wS (i:=0) (c:=3) aH (Lh gl h) (aG 20 _ aH) (bT.imm cs) BU (by rfl) (w5 (zr wZ)))] [hc (bT.al cs),hc (Dx ⟨[],0⟩),hc (az.imm [])]
abbrev frG(r:Bc):Fr:=[(1,.ptr (aI r) 0),(3,.ref 0 0)]
structure Abe (r:Bc) (ms:Nat->Jb) (N:I4):Prop where
 srt:xf r.Cards
 sml:r.L.length<=1000
 len:N.length=r.L.length
 m0:ms 0=⟨[],0⟩
 step:∀(k:Nat) (o:Bo),r.L[k]?=some o->jg prog fI 54 [.ref 0 0,.agg (aJ o)] [(0,oG r.Cards k 2),(1,oM (ms k)),(2,zQ (N.take k))] 3 (iG 0) [(0,oG r.Cards (k+1) 3),(1,oM (ms (k+1))),(3,zQ (N.take (k+1)))] 4
def AjV(n k:Nat):Option (Nat⊕Unit):=if k<n then some (.inl (k+1))else if k=n then some (.inr ())else none
theorem CX(h:n<=1000):AH (AjV n) 0=some ():=T.eq (T.loop (λk=>k<=n) (λk=>n-k) aa aa λk hk=>by
 unfold AjV;split
 .exact .some ⟨aa,aa⟩
 .rw[BB aa];exact .some rfl)
theorem ZC{r:Bc}{ms:Nat->Jb}{N:I4}(h:Abe r ms N):jg prog fI 20 [.agg (aI r)] [] 0 (.ref 0 0) [(0,oG r.Cards r.L.length 2),(1,oM (ms r.L.length)),(2,zQ (N.take r.L.length))] 3:=by
 have hn:=h.sml;refine pP func20 ?_;refine Ix 111101 (s0 26 fI (frG r) [(0,oG r.Cards r.L.length 2),(1,oM (ms r.L.length)),(2,zQ (N.take r.L.length))] 3 0) ?_ λa=>?_
 .exact mt .ret (s0 26 fI [(2,.ref 0 0)] [(0,oG r.Cards r.L.length 2),(1,oM (ms r.L.length)),(2,zQ (N.take r.L.length))] 3 0) [.ref 0 0] [] [hc (rfl:r.L.length=r.L.length),hc (Dx (ms r.L.length)),hc (az.imm (N.take r.L.length))]
 have hw:jg prog fI 53 [aE bv r.Cards] [] 0 (.ref 0 0) [(0,oG r.Cards 0 2),(1,oM (ms 0)),(2,zQ [])] 3:=by rw[h.m0];exact W8 fI h.srt
 refine pN (λk:Nat=>(s0 26 fI [(1,.ptr (aI r) 0),(3,.ref 0 0),(4,iG (k:Int))] [(0,oG r.Cards k 2),(1,oM (ms k)),(2,zQ (N.take k))] 3 0)) 11110122 (CX hn) [tN 7 [] 1 [] [aE bv r.Cards] [ob 0 93 [aE bv r.Cards,.mref 2,.rsl 3 0 0],(1,oM (ms 0)),(2,zQ [])] hw trivial ⟨⟨rfl,.inl rfl⟩,⟨rfl,rfl,rfl,rfl,.inr ⟨rfl,Dx _⟩⟩,⟨rfl,.inr ⟨rfl,az.imm []⟩⟩,trivial⟩] [hc (eB (gs:=aI r) aH),hc (rfl:0=0),hc (Dx (ms 0)),hc (az.imm [])] (λB k v hs k5 b=>?_) [] [(0,1),(1,2),(2,3)] [(2,.row)];unfold AjV at hs;split at hs
 .rename_i hk;obtain rfl:=Bp hs;obtain⟨o,ho⟩:∃o,r.L[k]?=some o:=⟨_,EA hk⟩;have hz:aS r.L (k:Int)=some o:=by rw[au];exact ho
  exact jw [hr 14 (show decide ((k:Int)<(r.L.length:Int))=true from C6 aa),AB 21 (eJ.ixZ hz),AB 22 (eJ.ptZ GN hz),tN 23 [0,1,2] 3 [(0,oG r.Cards k 2),(1,oM (ms k)),(2,zQ (N.take k))] [.ref 0 0,.agg (aJ o)] [(0,oG r.Cards (k+1) 3),(1,oM (ms (k+1))),(2,none),(3,zQ (N.take (k+1)))] (h.step k o ho) ⟨⟨rfl,.inl rfl⟩,⟨rfl,rfl,rfl,rfl,.inr ⟨rfl,Dx _⟩⟩,⟨rfl,.inr ⟨rfl,az.imm _⟩⟩,trivial⟩ ⟨⟨rfl,.inl rfl⟩,⟨rfl,rfl,rfl,rfl,.inr ⟨rfl,Dx _⟩⟩,⟨rfl,.inr ⟨rfl,az.imm _⟩⟩,trivial⟩,hbb 16 (Xl (q:=k) aa)] [hc (rfl:k+1=k+1),hc (Dx (ms (k+1))),hc (az.imm (N.take (k+1)))] (k5 _ rfl) [] [(0,0),(1,1),(2,3)] [(2,.row)]
 .rename_i hk;split at hs
  .rename_i he;subst he;obtain rfl:=Bp hs;exact yl 111101 [hr 14 (show decide ((r.L.length:Int)<(r.L.length:Int))=false from Dl aa)] [hc (rfl:r.L.length=r.L.length),hc (Dx (ms r.L.length)),hc (az.imm (N.take r.L.length))] a [] [(0,0),(1,1),(2,2)] [(2,.row)]
  .cases hs
end
section
variable {α β ρ:Type}
theorem cL{c:Bool}{a b:α}:(bif c then some a else some b)=some (bif c then a else b):=by cases c<;>rfl
theorem T.bindc{x:Option α}{f:α->Option β}{Q:β->Prop}(h:T x λ_=>True)(k:∀v,x= .some v->T (f v) Q):T (x.bind f) Q:=by obtain⟨v,e,_⟩:=h;exact .bind ⟨v,e,k v e⟩
theorem T.for1{step:Int->Option (Int⊕ρ)}{Q:ρ->Prop}(n:Nat)(J:Fu)(hn:n<2305843009213693952)(h0:J 1)(h:∀k,1<=k->k<n->J k->T (step (k:Int)) (Rd (λs'=>s'=((k+1:Nat):Int)/\J (k+1)) Q))(he:∀k,n<=k->k<=n+1->J k->T (step (k:Int)) (Rd (λ_=>False) Q)):T (AH step 1) Q:=by
 refine T.loop (λs=>∃k:Nat,1<=k/\k<=n+1/\s=(k:Int)/\J k) (λs=>n+1-s.toNat) (by grind) cq ?_;rintro i ⟨k,h1,hk,hik,hj⟩;subst hik;rcases JB k n with hlt|hge
 .refine(h k h1 hlt hj).mono λr hr=>?_;cases r with
  |inl s'=>refine⟨⟨k+1,aa,aa,hr.1,hr.2⟩,?_⟩;rw[hr.1];simp;omega
  |inr r=>exact hr
 .refine(he k hge hk hj).mono λr hr=>?_;cases r with
  |inl s'=>exact hr.elim
  |inr r=>exact hr
theorem T.search{step:Int->Option (Int⊕(Unit⊕ρ))}(l:List α)(p:α->Bool)(g:Nat->α->ρ)(hn:l.length<2305843009213693952)(h:∀(k:Nat) (x:α),l[k]?= .some x->k<l.length->step (k:Int)= .some (bif p x then .inr (.inr (g k x))else .inl ((k+1:Nat):Int)))(he:step (l.length:Int)= .some (.inr (.inl ()))):T (AH step 0) (λr=>(r= .inl ()/\∀x∈l,p x=false)\/∃k x,l[k]?= .some x/\p x=true/\r= .inr (g k x)/\∀(j:Nat) (y:α),j<k->l[j]?= .some y->p y=false):=by
 refine T.forI l.length (λk=>∀(j:Nat) (y:α),j<k->l[j]?= .some y->p y=false) hn (by grind) (λk hk hj=>?_) λhj=>?_
 .have hx:l[k]?= .some (l[k]'hk):=EA hk;rw[h k _ hx hk];refine .some ?_;cases hp:p l[k] with
  |true=>exact .inr ⟨k,_,hx,hp,rfl,hj⟩
  |false=>constructor<;>grind
 .rw[he];refine .some (.inl ⟨rfl,λx hx=>?_⟩);grind [Gu]
end
theorem gT(n a b:Int):fB n a b=some (decide (a<=n/\n<=b)):=by grind [fB]
theorem Cq(n:Nat):AL n=some (decide (n<2305843009213693951)):=by unfold AL;congr 2;grind
def l7(i:Ab):Bool:=decide (1<=i.By/\i.By<=12/\1<=i.Seq/\i.Seq<=2147483647/\i.Sum<2305843009213693951)
def Cr(n:Nat):Bool:=decide (1<=n/\n<2305843009213693951)
theorem mY(i:Ab):iM i=some (l7 i):=by grind [iM,l7,gT,Cq]
theorem kS(n:Nat):Jo n=some (Cr n):=by grind [Jo,Cr]
def yZ(b:Hd):Bool:=Cr b.To&&Cr b.Eph&&decide (b.Body<2305843009213693951)&&decide (b.Tag<2305843009213693951)
theorem Cs{l:List Hd}(hn:l.length<=1000000):T (qw l) λb=>b=l.all yZ:=by
 unfold qw;refine .bind ((T.search l (λb=> !yZ b) (λ_ _=>false) aa (λk x hx hk=>?_) ?_).mono ?_)
 .unfold qv;rw[eA hk,ax,au,hx];simp only[aL,kS,Cq];grind [yZ,aq]
 .unfold qv;rw[eF,Bf]
 .rintro r (⟨rfl,h⟩|⟨k,x,hx,hp,rfl,_⟩)
  .refine .some (Eq.symm (GV.2 λx hx=>?_));have:=h x hx;simpa using this
  .refine .some (Eq.symm (Bool.eq_false_iff.2 λh=>?_));have:=GV.1 h x (bO hx);rw[this] at hp;cases hp
theorem Ip{p:α->Bool}{step:Int->Option (Int⊕(Unit⊕Bool))}{next:Unit->Fo}{rest:Bool}(l:List α)(hl:l.length<=1000000)(h:∀(k:Nat) (x:α),l[k]?=some x->x∈l->k<l.length->step (k:Int)=some (bif p x then .inl ((k+1:Nat):Int)else .inr (.inr false)))(he:step (l.length:Int)=some (.inr (.inl ())))(hn:T (next ()) λb=>b=rest):T ((AH step 0).bind λx=>ma x next (λq=>some q)) λb=>b=(l.all p&&rest):=by
 refine .bind ((T.search l (λx=> !p x) (λ_ _=>false) aa (λk x hx hk=>?_) he).mono ?_)
 .grind
 .rintro r (⟨rfl,hr⟩|⟨k,x,hx,hp,rfl,_⟩)
  .have:l.all p=true:=by grind
   rw[this,Bool.true_and];exact hn
  .have:l.all p=false:=by grind
   rw[this,Bool.false_and];exact .some rfl
theorem Mq{p:α->Bool}{step:Int->Option (Int⊕(Unit⊕Bool))}{next:Unit->Fo}{rest:Bool}(l:List α)(hl:l.length<=1000000)(h:∀(k:Nat) (x:α),l[k]?=some x->x∈l->k<l.length->step (k:Int)=some (bif p x then .inr (.inr true)else .inl ((k+1:Nat):Int)))(he:step (l.length:Int)=some (.inr (.inl ())))(hn:T (next ()) λb=>b=rest):T ((AH step 0).bind λx=>ma x next (λq=>some q)) λb=>b=(l.any p||rest):=by
 refine .bind ((T.search l p (λ_ _=>true) aa (λk x hx hk=>?_) he).mono ?_)
 .grind
 .rintro r (⟨rfl,hr⟩|⟨k,x,hx,hp,rfl,_⟩)
  .have:l.any p=false:=by grind
   rw[this,Bool.false_or];exact hn
  .have:l.any p=true:=by grind
   rw[this,Bool.true_or];exact .some rfl
def yb(o:Bo):Bool:=o.Guards.all (λz=>decide (1<=z/\z<=12))&&(o.Refs.all (λn=>decide (n<2305843009213693951))&&(o.Past.all l7&&(o.Path.all (λn=>Cr n.Pub&&n.Boxes.all yZ)&&(o.Hist.all (λx=>l7 x.Of)&&o.Boxes.all yZ))))
theorem KA{o:Bo}(h:Be o):T (vw o) λb=>b=yb o:=by
 have n1:=h.nPast;have n2:=h.nPath;have a:=h.nRefs;have c:=h.nGuards;have d:=h.nHist;have f:=h.nBoxes;unfold vw yb;refine Ip o.Guards aa (λk x hx hm hk=>?_) (by unfold qB;rw[eF,Bf]) (Ip o.Refs aa (λk x hx hm hk=>?_) (by unfold qA;rw[eF,Bf]) (Ip o.Past aa (λk x hx hm hk=>?_) (by unfold qz;rw[eF,Bf]) (Ip o.Path aa (λk x hx hm hk=>?_) (by unfold qy;rw[eF,Bf]) (Ip o.Hist aa (λk x hx hm hk=>?_) (by unfold qx;rw[eF,Bf]) (by grind [Cs])))))
 .grind [qB,eA,au,aq,gT]
 .grind [qA,eA,au,aq,Cq]
 .grind [qz,eA,au,aq,mY]
 .have e:=(Cs (l:=x.Boxes) (by have:=(h.path x hm).n;omega)).eq;unfold qy;grind [eA,au,aq,kS]
 grind [qx,eA,au,aq,mY]
def Ct(o:Bo):Bool:=o.Path.any (λn=>decide (12<n.Boxes.length))||(o.Hist.any (λn=>decide (208<n.Body.length))||(decide (12<o.Past.length\/5<o.Path.length\/208<o.Body.length\/8<o.Refs.length\/20<o.Hist.length\/6<o.Guards.length)||(if o.Kind=7 then !decide (1<=o.Body.length/\o.Body.length<=20)else if o.Kind=9 then decide (o.Boxes.length≠o.Guards.length)else if o.Kind=10 then !decide (1<=o.Boxes.length/\o.Boxes.length<=6)else if o.Kind=11 then decide (o.Boxes.length≠1)else false)))
theorem Iq(l:List α)(n:Nat):decide ((n:Int)<ah l)=decide (n<l.length):=decide_eq_decide.2 (by unfold ah;omega)
theorem NZ{o:Bo}(h:Be o):T (z6 o) λb=>b=Ct o:=by
 have n1:=h.nPast;have n2:=h.nPath;have a:=h.nHist;unfold z6 Ct;refine Mq o.Path aa (λk x hx hm hk=>?_) (by unfold tV;rw[eF,Bf]) (Mq o.Hist aa (λk x hx hm hk=>?_) (by unfold tU;rw[eF,Bf]) ?_)
 .grind [tV,au,aq,ah]
 .grind [tU,au,aq,ah]
 .have a1:decide ((12:Int)<ah o.Past)=decide (12<o.Past.length):=Iq o.Past 12;have a2:decide ((5:Int)<ah o.Path)=decide (5<o.Path.length):=Iq o.Path 5;have a3:decide ((208:Int)<ah o.Body)=decide (208<o.Body.length):=Iq o.Body 208;have a4:decide ((8:Int)<ah o.Refs)=decide (8<o.Refs.length):=Iq o.Refs 8;have a5:decide ((20:Int)<ah o.Hist)=decide (20<o.Hist.length):=Iq o.Hist 20;have a6:decide ((6:Int)<ah o.Guards)=decide (6<o.Guards.length):=Iq o.Guards 6;have b1:decide ((1:Int)<=ah o.Body/\ah o.Body<=20)=decide (1<=o.Body.length/\o.Body.length<=20):=decide_eq_decide.2 (by unfold ah;omega);have b2:decide ((1:Int)<=ah o.Boxes/\ah o.Boxes<=6)=decide (1<=o.Boxes.length/\o.Boxes.length<=6):=decide_eq_decide.2 (by unfold ah;omega);have b3:decide (ah o.Boxes≠ah o.Guards)=decide (o.Boxes.length≠o.Guards.length):=decide_eq_decide.2 (by unfold ah;omega);have b4:decide (ah o.Boxes≠1)=decide (o.Boxes.length≠1):=decide_eq_decide.2 (by unfold ah;omega);rw[a1,a2,a3,a4,a5,a6];simp only[gT,aL,b1,b2,b3,b4,cL];refine⟨_,rfl,?_⟩;grind
def Adc(o:Bo):Bool:=(mz o).getD false
theorem Cu(o:Bo):mz o=some (Adc o):=by
 have:T (mz o) λ_=>True:=by unfold mz;repeat'(first|exact T.some trivial|(refine T.bindc ?_ λv _=>?_)|(refine T.ite (λ_=>?_) λ_=>?_))
 obtain⟨b,e,_⟩:=this;unfold Adc;rw[e];rfl
def gU(o:Bo):Bool:=(Gb o).getD false
theorem jF(o:Bo):Gb o=some (gU o):=by
 have:T (Gb o) λ_=>True:=by unfold Gb;simp only[gT,mY,kS];repeat'(first|exact T.some trivial|(refine T.bindc ?_ λv _=>?_)|(refine T.ite (λ_=>?_) λ_=>?_))
 obtain⟨b,e,_⟩:=this;unfold gU;rw[e];rfl
def dt(a b:Ab):Bool:=if a.By≠b.By then decide (a.By<b.By)else if a.Seq≠b.Seq then decide (a.Seq<b.Seq)else decide (a.Sum<b.Sum)
theorem pJ(a b:Ab):oU a b=some (dt a b):=by unfold oU dt;rw[show decide ((a.Sum:Int)<(b.Sum:Int))=decide (a.Sum<b.Sum) from decide_eq_decide.2 aa];grind
structure Ga (o:Bo):Prop where
 kind:1<=o.Kind/\o.Kind<=13
 bare:Adc o=true
 numbers:gU o=true
 items:yb o=true
 long:Ct o=false
 past:∀(k:Nat) (a b:Ab),o.Past[k]?=some a->o.Past[k+1]?=some b->dt a b=true
 guards:∀(k:Nat) (a b:Int),o.Guards[k]?=some a->o.Guards[k+1]?=some b->a<b
 create:o.Past=[]↔o.Kind=1
theorem F7(h:1<=k)(h2:k<2305843009213693952):wI ((k:Int)-1)=((k-1:Nat):Int):=by grind [bM]
theorem Cv{o:Bo}(h:Be o):T (qE o) λe=>e=0->Ga o:=by
 have n1:=h.nPast;have d:=h.nGuards;unfold qE;rw[cL,aL];refine .ite (by grind [T.some]) λhk=>?_;rw[Cu,aL];refine .ite (by grind [T.some]) λhb=>?_;rw[jF,aL];refine .then (v:= !(gU o)|| !(yb o)) ?_ ?_
 .cases hn:gU o with
  |false=>exact .some rfl
  |true=>exact .then (KA h) (.some aC)
 refine .ite (by grind [T.some]) λhn=>?_;refine .then (NZ h) (.ite (by grind [T.some]) λhl=>?_);refine .bind (T.for1 o.Past.length (λk=>∀(j:Nat) (a b:Ab),j+1<k->o.Past[j]?=some a->o.Past[j+1]?=some b->dt a b=true) aa (by grind) (λk h1 hk hj=>?_) λk hge _ hj=>?_)
 .obtain⟨a0,e0⟩:∃a0,o.Past[k-1]?=some a0:=⟨_,EA aa⟩;obtain⟨a1,e1⟩:∃a1,o.Past[k]?=some a1:=⟨_,EA hk⟩;unfold qD;rw[eA hk,ax,F7 h1 aa,au,au,e0,e1,aq aa];simp only[aL,pJ];refine .ite (λ_=> .some (.some (by grind))) λc=> .some ⟨rfl,λj a b hjk ha hb'=>?_⟩;grind
 unfold qD;rw[show decide ((k:Int)<ah o.Past)=false from Dl (by unfold ah;omega),Bf];refine .some ?_;have hpast:∀(j:Nat) (a b:Ab),o.Past[j]?=some a->o.Past[j+1]?=some b->dt a b=true:=by grind
 clear hj;refine .bind (T.for1 o.Guards.length (λk=>∀(j:Nat) (a b:Int),j+1<k->o.Guards[j]?=some a->o.Guards[j+1]?=some b->a<b) aa (by grind) (λk h1 hk hj=>?_) λk hge _ hj=>?_)
 .obtain⟨a0,e0⟩:∃a0,o.Guards[k-1]?=some a0:=⟨_,EA aa⟩;obtain⟨a1,e1⟩:∃a1,o.Guards[k]?=some a1:=⟨_,EA hk⟩;unfold qC;rw[eA hk,ax,F7 h1 aa,au,au,e0,e1,aq aa];simp only[aL];refine .dec (λ_=> .some (.some (by grind))) λc=> .some ⟨rfl,λj a b hjk ha hb'=>?_⟩;grind
 unfold qC;rw[show decide ((k:Int)<ah o.Guards)=false from Dl (by unfold ah;omega),Bf];refine .some ?_;have hguards:∀(j:Nat) (a b:Int),o.Guards[j]?=some a->o.Guards[j+1]?=some b->a<b:=λj a b ha hb'=>hj j a b (by grind) ha hb';rw[cL,cL,cL,aL];refine .ite (by grind [T.some]) λhc=> .some λ_=>⟨?_,?_,?_,?_,hl,hpast,hguards,?_⟩
 .grind
 .simpa using hb
 .grind
 .grind
 .have e:ah o.Past=0↔o.Past=[]:=by unfold ah;simp_all
  grind
end Go.Proofs.YtjbfcillbjiajaaGreatDoor
