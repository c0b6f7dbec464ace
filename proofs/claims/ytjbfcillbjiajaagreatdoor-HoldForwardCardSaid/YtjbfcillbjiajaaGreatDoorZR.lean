/- Texts. -/
import Derived.Test.YtjbfcillbjiajaaGreatDoorZH
namespace Go.Proofs.YtjbfcillbjiajaaGreatDoor
set_option linter.unusedSectionVars false
set_option linter.unusedVariables false
set_option linter.unusedSimpArgs false
open Go.RowKit Tryz
attribute [local irreducible] Tr dz Gp
variable {α:Type}{s:FM Bg Int×FM Int Int}{x:Ab}{ids vs:Ba}{j k p:Nat}{d m v:Int}{l:List GR}{o:Bo}{y y':GR}{x':AA}{cs:Mi}{dl:JW}{al:Bb}{a:Ba×FM Ab Bool}{D V:List Bool}{b:List Bool×List Bool×Int}
def fkT(s:FM Bg Int×FM Int Int)(x:Ab):FM Bg Int×FM Int Int:=
 (CA s.1 ⟨x.By,x.Seq⟩ (wI ((s.1.get ⟨x.By,x.Seq⟩).getD 0+1)),bif wI ((s.1.get ⟨x.By,x.Seq⟩).getD 0+1)<2 then s.2 else bif(s.2.get x.By).isSome then(bif x.Seq<(s.2.get x.By).getD 0 then CA s.2 x.By x.Seq else s.2)else CA s.2 x.By x.Seq)
def Uz(ids:Ba):FM Bg Int×FM Int Int:=ids.foldl fkT (⟨[],0⟩,⟨[],0⟩)
theorem AkT(h:Nr s.1/\Nr s.2):Nr (fkT s x).1/\Nr (fkT s x).2:=by grind [fkT,Hj]
theorem Yb(ids:Ba):Nr (Uz ids).1/\Nr (Uz ids).2:=by
 have key:∀(l:Ba) (s:FM Bg Int×FM Int Int),Nr s.1/\Nr s.2->Nr (l.foldl fkT s).1/\Nr (l.foldl fkT s).2:=by intro l;induction l<;>grind [AkT]
 exact key ids _ ⟨AcO,AcO⟩
theorem AbK(hx:ids[k]?=some x):Uz (ids.take (k+1))=fkT (Uz (ids.take k)) x:=by grind [Uz,JD]
theorem lkF(m:FM Bg Int)(k:Bg)(h:(m.get k).getD 0=v):bL prog [(0,oMk m)] tMk false (.mref 0) (.agg (Bv k))=some (iG v):=h▸(Q9 (et:=3) ON aH (k:=k) rfl NP).trans (FM.look1 (et:=3) (v0:=0) ON aH aH m k rfl _)
theorem lkY(m:FM Int Int)(k:Int){b:Bool}(h:(m.get k).getD 0=v)(hb:(m.get k).isSome=b):bL prog [(1,oMy m)] tMy true (.mref 1) (iG k)=some (.tup [iG v,bG b]):=h▸hb▸(Q9 (et:=3) O6 aH (k:=k) rfl NP).trans (FM.look (et:=3) (v0:=0) O6 aH aH m k rfl _)
def hnl(d:Nat){P:Bu}{σ:aQ}{t:Bj}{ok:Bool}{i:Nat}{gk g:G}(ck:aQ->Bool)(h:bL P [(i,ag σ i)] t ok (.mref i) gk=some g/\∀W,ck W=true->bL P [(i,ag (W++σ) i)] t ok (.mref i) gk=some g):HP:=⟨some (.n d g ck),bL P [(i,ag σ i)] t ok (.mref i) gk=some g/\∀W,ck W=true->bL P [(i,ag (W++σ) i)] t ok (.mref i) gk=some g,h⟩
def hnk(ck:aQ->Bool)(U:aQ)(h:ck U=true):HP:=⟨some (.v 999999996 (.lit undef)),ck U=true,h⟩
noncomputable def ckE(V:aQ):aQ->Bool:=λW=> @decide (W=V) (Classical.propDecidable _)
theorem AgP{V W:aQ}:ckE V W=true↔W=V:= @decide_eq_true_iff _ (Classical.propDecidable _)
theorem mkI(m:FM Bg Int):∀e∈UK EH iG m,bB e.2.1:=OI λv=>mN _
theorem myI(m:FM Int Int):∀e∈UK JG iG m,bB e.2.1:=OI λv=>mN _
abbrev Am4(clock:Nat)(seen:Br):Option Ob:=some ⟨tMy,[],some (.iter (some 0) clock seen clock)⟩
abbrev mkF(e:Int×Int×Nat):Bg:=⟨e.1,e.2.1⟩
section
variable {gl:CC}
abbrev stF(gl:CC)(l:FM Int Int)(seen:Br)(a:List Bg):St:=(s0 75 gl [(12,.rsl 2 0 a.length),(60,.ref 1 0)] [(0,oMy l),(1,Am4 l.clk seen),(2,oFk a)] 3 0)
abbrev fr4(ids:Ba)(k:Nat):Fr:=[(5,.mref 0),(6,.mref 1),(17,aE aj ids),(18,iG (ah ids)),(19,iG (k:Int))]
theorem AbM{gg:Az}{ids:Ba}{r:List Bg}{n:Nat}(hn:ids.length<=1000)(h12:(Uz ids).2.es.length<=12)(he:(Uz ids).2.es.length=n)(hs:∀l:List Bg,l.Perm ((Uz ids).2.es.map mkF)->inI Vo ((0:Nat):Int) (l.length:Int) l=some r):iV prog gl 120 [.ptr (Ag gg) 0,aE aj ids] 199 n (r.flatMap Bv):=by
 refine OW func120 ?_;refine XU (l:=ids) aa (λk:Nat=>(s0 75 gl (fr4 ids k) [(0,oMk (Uz (ids.take k)).1),(1,oMy (Uz (ids.take k)).2)] 2 0)) 11110122 [] [hc (mkI (Uz (ids.take 0)).1),hc (myI (Uz (ids.take 0)).2)] (λB k x hx hz k5=>?_) (λB=>?_) [] [(0,0),(1,1)] []
 .have hlt:=(cr hx).1;obtain⟨h1,h2⟩:=Yb (ids.take k);rw[AbK hx] at k5;generalize Uz (ids.take k)=s at k5 h1 h2⊢;obtain⟨m,l⟩:=s;unfold fkT at k5;dsimp only at k5 h1 h2⊢;generalize hv1:(m.get ⟨x.By,x.Seq⟩).getD 0=v at k5;have h36:((CA m ⟨x.By,x.Seq⟩ (wI (v+1))).get ⟨x.By,x.Seq⟩).getD 0=wI (v+1):=by rw[Bz,BB rfl];rfl
  refine pO 111101221102110 (s0 75 gl ([(8,.ref 2 0),(9,.ref 3 0)]++fr4 ids k) [(0,oMk m),(1,oMy l),ob 2 41 (aj x),ob 3 199 (Bv ⟨x.By,x.Seq⟩)] 4 0) [hr 20 (CB hx),AB 21 (ac.ixZ hz),AB 22 (ac.ptZ aW hz)] [hc (mkI m),hc (myI l)] ?_ [] [(0,0),(1,1),(2,2),(3,3)] [];refine pO 11110122110211100 (s0 75 gl ([(8,.ref 2 0),(9,.ref 3 0)]++fr4 ids k) [(0,oMk (CA m ⟨x.By,x.Seq⟩ (wI (v+1)))),(1,oMy l),ob 2 41 (aj x),ob 3 199 (Bv ⟨x.By,x.Seq⟩)] 4 0) [hnl 30 (σ:=[(0,oMk m),(1,oMy l),ob 2 41 (aj x),ob 3 199 (Bv ⟨x.By,x.Seq⟩)]) (ckE [(0,some (M7 tMk EH iG (CA m ⟨x.By,x.Seq⟩ ((m.get ⟨x.By,x.Seq⟩).getD 0))))]) ⟨lkF m ⟨x.By,x.Seq⟩ hv1,λW h=>by rw[AgP.1 h];exact lkF (CA m ⟨x.By,x.Seq⟩ ((m.get ⟨x.By,x.Seq⟩).getD 0)) ⟨x.By,x.Seq⟩ (by rw[Bz,BB rfl];exact hv1)⟩,hnk (ckE [(0,some (M7 tMk EH iG (CA m ⟨x.By,x.Seq⟩ ((m.get ⟨x.By,x.Seq⟩).getD 0))))]) [(0,some (M7 tMk EH iG (CA m ⟨x.By,x.Seq⟩ ((m.get ⟨x.By,x.Seq⟩).getD 0))))] (AgP.2 rfl),Zu 32 [0] 4 (Akg (P:=prog) (σ:=[(0,oMk m)]) (t:=tMk) (t':=tMk) (et:=3) (v0:=0) ON Am2 aH aH (k:=⟨x.By,x.Seq⟩) (gk:= .agg (Bv ⟨x.By,x.Seq⟩)) rfl NP),hms 33 [0] 4 (Akh (σ:=[(0,some (M7 tMk EH iG (CA m ⟨x.By,x.Seq⟩ ((m.get ⟨x.By,x.Seq⟩).getD 0))))]) (i:=0) (t':=tMk) (kv:=EH) (vg:=iG) (m:=m) (k:=⟨x.By,x.Seq⟩) (v0:=(m.get ⟨x.By,x.Seq⟩).getD 0) h1.1 NP (wI (v+1)))] [hc (mkI (CA m ⟨x.By,x.Seq⟩ (wI (v+1)))),hc (myI l)] ?_ [] [(0,0),(1,1),(2,2),(3,3)] [];generalize CA m ⟨x.By,x.Seq⟩ (wI (v+1))=m' at k5 h36⊢;generalize wI (v+1)=v' at k5 h36⊢;skip;clear hv1 h1;cases c1:decide (v'<2) with
  |true=>rw[c1,ax] at k5;exact jw [hlk 36 (lkF m' ⟨x.By,x.Seq⟩ h36),hr 37 c1,hbb 58 (Xl (q:=k) aa)] [hc (mkI m'),hc (myI l)] k5 [] [(0,0),(1,1)] []
  |false=>
   rw[c1,Bf] at k5;have hput:=AcA (P:=prog) (σ:=[(0,oMk m'),(1,oMy l),ob 2 41 (aj x),ob 3 199 (Bv ⟨x.By,x.Seq⟩)]) (i:=1) (t:=tMy) (t':=tMy) (et:=3) (vg:=iG) O6 Abm aH (k:=x.By) (gk:=iG x.By) rfl (m:=l) rfl x.Seq;cases c2:(l.get x.By).isSome with
   |false=>rw[c2,Bf] at k5;exact jw [hlk 36 (lkF m' ⟨x.By,x.Seq⟩ h36),hr 37 c1,hlk 42 (lkY l x.By rfl c2),hmp 4 hput,hbb 58 (Xl (q:=k) aa)] [hc (mkI m'),hc (myI (CA l x.By x.Seq))] k5 [] [(0,0),(1,1)] []
   |true=>
    rw[c2,ax] at k5;generalize hw:(l.get x.By).getD 0=w at k5;cases c3:decide (x.Seq<w) with
    |true=>rw[c3,ax] at k5;exact jw [hlk 36 (lkF m' ⟨x.By,x.Seq⟩ h36),hr 37 c1,hlk 42 (lkY l x.By hw c2),hr 51 c3,hmp 4 hput,hbb 58 (Xl (q:=k) aa)] [hc (mkI m'),hc (myI (CA l x.By x.Seq))] k5 [] [(0,0),(1,1)] []
    |false=>rw[c3,Bf] at k5;exact jw [hlk 36 (lkF m' ⟨x.By,x.Seq⟩ h36),hr 37 c1,hlk 42 (lkY l x.By hw c2),hr 51 c3,hbb 58 (Xl (q:=k) aa)] [hc (mkI m'),hc (myI l)] k5 [] [(0,0),(1,1)] []
 .rw[EZ];obtain⟨h1,h2⟩:=Yb ids;generalize Uz ids=s at h1 h2 h12 he hs⊢;obtain⟨m,l⟩:=s;dsimp only at h1 h2 h12 he hs⊢;refine yl (Bs':=[]) [1,1,1,0,1] (J:=(s0 75 gl [(6,.mref 0)] [(0,oMy l)] 1 0)) [hr 20 (DS (s:=ids))] [hc (myI l)] ?_;refine pO 11111100 (s0 75 gl [(6,.mref 0),(12,Iy)] [(0,oMy l)] 1 0) [] [hc (myI l)] ?_ [] [(0,0)] [];refine yl (Bs':=[]) [1,1,1,1,1,0,0] (J:=stF gl l [] []) [] [hc (myI l),hc (Bh.imm [])] ?_;refine dNx 11111101 ?_;refine dMw 60 61 62 2 (iti:=1) (mi:=0) (clock:=l.clk) (since:=l.clk) (T:=tMy) (ty:=tMy) (es:=UK JG iG l) (λseen=>stF gl l seen ((eQ l seen).map mkF)) (KsQ l) VX (λe he=>by obtain⟨x,hx,rfl⟩:=EO.1 he;exact h2.lt x hx) rfl (Le.refl _) (λseen=>rfl) (λseen=>rfl) (by grind) (λB seen k g nn hI Zu hns c=>?_) (λseen hI d=>?_)
  .obtain⟨e,b,f⟩:=EO.1 Zu;simp only[Ft] at f;obtain⟨rfl,rfl,rfl⟩:=f;have c:=c (V2 hI b hns);rw[Agi h2.1 b,List.map_append] at c;have hal:((eQ l seen).map mkF).length<=12:=by rw[Gq];have:=Aas hI;have h3:(eQ l seen).length<=seen.length:=List.length_filterMap_le _ _;have h4:=Rf hI.1 hI.2;rw[Gq] at h4;omega
   generalize (eQ l seen).map mkF=a at c hal⊢;have hge:jr ((1,Am4 l.clk (seen++[e.2.2]))::(stF gl l seen a).σ) (.ref 1 0)=some (.tup [db (JG e.1),iG e.2.1]):=yo (iti:=1) (mi:=0) (since:=l.clk) (clock:=l.clk) (T:=tMy) (ty:=tMy) (seen:=seen) rfl rfl (by rw[Hk];exact h2.nd) Zu;exact jw [YT 63 hge,Tn 71 Bh 16 a (mkF e) aa] [hc (el (a++[mkF e])),hc (myI l),hc (Bh.imm (a++[mkF e]))] c [] [(0,0),(1,1),(2,4)] [(2,.row)]
  .have hp:=(Adz h2.1 hI λe he=>d _ (EO.2 ⟨e,he,rfl⟩)).map mkF;have hi:=hs _ hp;have hla:((eQ l seen).map mkF).length=n:=by rw[hp.length_eq,Gq,he]
   generalize (eQ l seen).map mkF=a at hi hla⊢;subst hla;exact EI [tN 73 [2] 3 [(2,oFk a)] [.rsl 2 0 a.length,cmK] [(0,oFk r)] (AgO (gl:=gl) aa hi) ⟨⟨rfl,.inr ⟨rfl,Bh.imm a⟩⟩,trivial⟩ ⟨⟨rfl,.inr ⟨rfl,Bh.imm r⟩⟩,trivial⟩] (Bh.imm r)
end
theorem Rh{a b:Ab}:GL a b<0↔dt a b=true:=by grind [GL]
theorem QK:OrN GL λ_=>True:=by grind [OrN,Rh,dt,EX]
theorem AbN{x y:Int}:AbD x y<0↔x<y:=by grind [AbD]
theorem Wy{cmp:α->α->Int}(tr:∀x y z,cmp x y<0->cmp y z<0->cmp x z<0)(a:∀x,¬cmp x x<0){l r:List α}(hp:l.Perm r)(h1:l.Pairwise λx y=>cmp x y<0)(h2:r.Pairwise λx y=>cmp x y<0):l=r:=
 by grind [List.Perm.eq_of_pairwise]
def OY(ids:Ba)(f:Bg):Nat:=(ids.filter λx=>decide (x.By=f.Device)&&decide (x.Seq=f.Seq)).length
theorem T0(p:Ba)(x:Ab)(f:Bg):OY (p++[x]) f=OY p f+if(⟨x.By,x.Seq⟩:Bg)=f then 1 else 0:=by unfold OY;rw[Se,UQ];obtain⟨d,s⟩:=f;grind
theorem AgR(p:Ba)(f:Bg):OY p f<=p.length:=Oa _ _
structure FkI (p:Ba) (s:FM Bg Int×FM Int Int):Prop where
 n:∀f,(s.1.get f).getD 0=(OY p f:Int)
 a:∀d v,s.2.get d=some v->2<=OY p ⟨d,v⟩
 b:∀d v,2<=OY p ⟨d,v⟩->∃w,s.2.get d=some w/\w<=v
theorem Am5{p:Ba}(h:FkI p s)(hp:p.length<=1000):FkI (p++[x]) (fkT s x):=by
 have hle:=AgR p ⟨x.By,x.Seq⟩;have hw:wI ((s.1.get ⟨x.By,x.Seq⟩).getD 0+1)=((OY p ⟨x.By,x.Seq⟩+1:Nat):Int):=by grind [FkI.n,bM]
 have hset:∀(l:FM Int Int),l=CA s.2 x.By x.Seq->1<=OY p ⟨x.By,x.Seq⟩->(∀w,s.2.get x.By=some w->x.Seq<=w)->(∀d v,l.get d=some v->2<=OY (p++[x]) ⟨d,v⟩)/\(∀d v,2<=OY (p++[x]) ⟨d,v⟩->∃w,l.get d=some w/\w<=v):=by grind [Bz,T0,FkI.a,FkI.b]
 have hold:∀(l:FM Int Int),l=s.2->(1<=OY p ⟨x.By,x.Seq⟩->∃w,s.2.get x.By=some w/\w<=x.Seq)->(∀d v,l.get d=some v->2<=OY (p++[x]) ⟨d,v⟩)/\(∀d v,2<=OY (p++[x]) ⟨d,v⟩->∃w,l.get d=some w/\w<=v):=by grind [T0,FkI.a,FkI.b]
 have key:(∀d v,(fkT s x).2.get d=some v->2<=OY (p++[x]) ⟨d,v⟩)/\(∀d v,2<=OY (p++[x]) ⟨d,v⟩->∃w,(fkT s x).2.get d=some w/\w<=v):=by
  unfold fkT;dsimp only;rw[hw];cases c1:decide (((OY p ⟨x.By,x.Seq⟩+1:Nat):Int)<2) with
  |true=>grind
  |false=>
   have h1:=Ni c1;rw[Bf];cases c2:s.2.get x.By with
   |none=>grind
   |some w=>rw[Option.isSome_some,ax,Nt];cases c3:decide (x.Seq<w)<;>grind
 refine⟨λf=>?_,key.1,key.2⟩;grind [fkT,Bz,T0,FkI.n]
theorem AgS(ids:Ba)(hn:ids.length<=1000):FkI ids (Uz ids):=by
 have key:∀k,k<=ids.length->FkI (ids.take k) (Uz (ids.take k)):=by
  intro k;induction k with
  |zero=>exact λ_=>⟨λf=>rfl,λd v h=>(by cases h),λd v h=>absurd h (by show¬2<=0;omega)⟩
  |succ k ih=>intro hk;have hx:ids[k]?=some (ids[k]'aa):=EA _;rw[AbK hx,JD,hx,Option.toList_some];grind [Am5]
 grind [EZ]
theorem AdK{α:Type}(p:α->Bool):∀l:List α,l.length=(l.filter p).length+(l.filter λx=> !p x).length
 |[]=>rfl
 |a::r=>by have:=AdK p r;grind
theorem AbO:∀{ds:Bn} {ids:Ba},ds.Nodup->(∀d∈ds,2<=(ids.filter λx=>decide (x.By=d)).length)->2*ds.length<=ids.length
 |[],ids,_,_=>aC
 |d::r,ids,hd,h=>by
  rw[M0] at hd;have ih:=AbO (ids:=ids.filter λx=> !decide (x.By=d)) hd.2 λe he=>by have:=h e (by simp[he]);rw[List.filter_filter];grind
  have h1:=h d aC;grind [AdK]
theorem AaI{ids:Ba}(hn:ids.length<=1000):2*(Uz ids).2.es.length<=ids.length:=by have hk:=(Yb ids).2;have hI:=AgS ids hn;rw[<-Gq (f:=λe:Int×Int×Nat=>e.1)];refine AbO hk.kd λd hd=>?_;obtain⟨e,he,rfl⟩:=EO.1 hd;have hg:=IX hk (k:=e.1) (v:=e.2.1) (n:=e.2.2) he;have h2:=hI.a _ _ hg;refine Nj h2 ?_;unfold OY;rw[<-List.filter_filter];exact(List.Sublist.filter _ List.filter_sublist).length_le
theorem T9{ids:Ba}{f:Bg}:f∈(Uz ids).2.es.map mkF↔(Uz ids).2.get f.Device=some f.Seq:=by grind [Yb,IX,GK]
theorem Ai9(ids:Ba):OrN Vo λf=>f∈(Uz ids).2.es.map mkF:=by grind [OrN,Vo,AbN,T9]
theorem AgT{ids:Ba}:((Uz ids).2.es.map mkF).Nodup:=List.Pairwise.of_map (S:=λa b:Int=>a≠b) (λf:Bg=>f.Device) (by grind) (by rw[Hk];exact(Yb ids).2.kd)
theorem Aja{ids:Ba}(hn:ids.length<=15):∃r:List Bg,r.Perm ((Uz ids).2.es.map mkF)/\∀l:List Bg,l.Perm ((Uz ids).2.es.map mkF)->inI Vo ((0:Nat):Int) (l.length:Int) l=some r:=by
 have hl:=AaI (ids:=ids) aa;have go:∀l:List Bg,l.Perm ((Uz ids).2.es.map mkF)->∃r,inI Vo ((0:Nat):Int) (l.length:Int) l=some r/\r.Perm ((Uz ids).2.es.map mkF)/\r.Pairwise λx y=>Vo x y<0:=λl hp=>by obtain⟨r,e,h1,h2⟩:=AaG (Ai9 ids) (a:=0) (b:=l.length) (hp.nodup_iff.2 AgT) (λz hz=>hp.mem_iff.1 hz) aa (Dk _) (by rw[hp.length_eq,Gq];omega);refine⟨r,e,h1.1.trans hp,?_⟩;rw[List.pairwise_iff_getElem];intro p q hp' c d;exact h2 p q _ _ (Nat.zero_le _) d (by rw[<-h1.len];exact c) (EA hp') (EA c)
 obtain⟨r,_,h2,h3⟩:=go _ (.refl _);refine⟨r,h2,λl hp=>?_⟩;obtain⟨r',e,k2,k3⟩:=go l hp;rw[e,Wy (cmp:=Vo) (Ai9 ids).tr (by grind [Vo,AbN]) (k2.trans h2.symm) k3 h3]
def voP(ids:Ba)(x:Ab):Bool:=ids.any λy=>decide (y.By=x.By/\y.Seq<=x.Seq/\2<=OY ids ⟨y.By,y.Seq⟩)
section
variable {gl:CC}
theorem Aiv{gg:Az}{r:Ba}{fs:List Bg}{R:Bg->Ba}(hF:ba prog gl 120 [.ptr (Ag gg) 0,aE aj ids] (aE Bv fs))(hfl:fs.length<=1000)(hR:∀f∈fs,ba prog gl 313 [aE aj ids,iG f.Device,iG f.Seq,iG 4611686018427387904] (aE aj (R f)))(hl:(fs.flatMap R).length<=15)(h:Pa GL (fs.flatMap R)=some r)(hle:r.length=(fs.flatMap R).length):iV prog gl 211 [.ptr (Ag gg) 0,aE aj ids] 41 r.length (r.flatMap aj):=by
 rw[hle];refine OW func211 ?_;refine XU (l:=fs) aa (λk:Nat=>(s0 27 gl [(1,aE aj ids),(5,.rsl 0 0 ((fs.take k).flatMap R).length),(10,aE Bv fs),(11,iG (ah fs)),(12,iG (k:Int))] [(0,BA ((fs.take k).flatMap R))] 1 0)) 1110122 [hf 10 hF] [hc (ac.imm [])] (λB k x hx hz k5=>?_) (λB=>?_)
 .have hlt:=(cr hx).1;have e:(fs.take (k+1)).flatMap R=(fs.take k).flatMap R++R x:=by grind [JD]
  have hll:((fs.take k).flatMap R++R x).length<=15:=by grind [Pw]
  rw[e] at k5;generalize (fs.take k).flatMap R=l at k5 hll⊢;rw[UQ] at hll;exact jw [hr 13 (CB hx),AB 14 (Bh.ixZ hz),AB 15 (Bh.ptZ Hp hz),hf 22 (hR x (bO hx)),An7 23 ac 24 l (R x) aa,hbb 24 (Xl (q:=k) aa)] [hc (el (l++R x)),hc (ac.imm (l++R x))] k5
 .rw[EZ];exact EI [hr 13 (DS (s:=fs)),hsm (gl:=gl) 26 1 hl h] (ac.imm r)
end
theorem Yc{α β:Type}{f:α->List β}:∀{l:List α},l.Nodup->(∀x∈l,(f x).Nodup)->(∀x∈l,∀y∈l,x≠y->∀z∈f x,z∉f y)->(l.flatMap f).Nodup
 |[],_,_,_=> .nil
 |a::r,hn,h1,h2=>by rw[M0] at hn;rw[List.flatMap_cons,List.nodup_append];refine⟨h1 a aC,Yc hn.2 (by grind) (by grind),λz hz w hw e=>?_⟩;grind
theorem Aiw{gl:CC}{gg:Az}(hn:ids.length<=15)(hd:ids.Nodup)(hs:∀x∈ids,x.Seq<=4611686018427387904):∃r,ba prog gl 211 [.ptr (Ag gg) 0,aE aj ids] (aE aj r)/\r.Perm (ids.filter (voP ids))/\r.Pairwise λx y=>GL x y<0:=by
 obtain⟨fs,hp,hi⟩:=Aja hn;have hl:=AaI (ids:=ids) aa;have hI:=AgS ids aa;have hF:=(AbM (gl:=gl) (gg:=gg) (ids:=ids) (r:=fs) (n:=fs.length) aa aa (by rw[hp.length_eq,Gq]) hi).fn Bh.sz (Bh.len _) (Bh.imm _);have hof:∀f:Bg,∃r,Pa GL (ids.filter (ZQ f.Device f.Seq 4611686018427387904))=some r/\r.Perm (ids.filter (ZQ f.Device f.Seq 4611686018427387904)):=λf=>by have h1:=Oa (ZQ f.Device f.Seq 4611686018427387904) ids;obtain⟨r,e,h2,h3⟩:=Uy QK (l:=ids.filter (ZQ f.Device f.Seq 4611686018427387904)) (hd.sublist List.filter_sublist) aa;exact⟨r,e,h2⟩
 let R:Bg->Ba:=λf=>(Pa GL (ids.filter (ZQ f.Device f.Seq 4611686018427387904))).getD [];have hRp:∀f,Pa GL (ids.filter (ZQ f.Device f.Seq 4611686018427387904))=some (R f)/\(R f).Perm (ids.filter (ZQ f.Device f.Seq 4611686018427387904)):=λf=>by obtain⟨r,e,h2⟩:=hof f;grind
 have hRm:∀f x,x∈R f↔x∈ids/\x.By=f.Device/\f.Seq<=x.Seq:=λf x=>by rw[(hRp f).2.mem_iff,Hl];grind [ZQ]
 clear_value R;have hfd:∀x∈fs,∀y∈fs,x≠y->x.Device≠y.Device:=by grind [T9]
 have hfn:(fs.flatMap R).Nodup:=Yc (hp.nodup_iff.2 AgT) (by grind) (by grind);have hperm:(fs.flatMap R).Perm (ids.filter (voP ids)):=by
  refine(List.perm_ext_iff_of_nodup hfn (hd.sublist List.filter_sublist)).2 λx=>?_;rw[List.mem_flatMap,Hl];unfold voP;rw[List.any_eq_true];refine⟨λ⟨f,hf,hx⟩=>?_,λ⟨hx,y,hy,hv⟩=>?_⟩
  .obtain⟨h1,h2,h3⟩:=(hRm f x).1 hx;have h4:=T9.1 (hp.mem_iff.1 hf);have h5:=hI.a _ _ h4;refine⟨h1,?_⟩;have h6:0<(ids.filter λx=>decide (x.By=f.Device)&&decide (x.Seq=f.Seq)).length:=Nat.lt_of_lt_of_le Nat.zero_lt_two h5;obtain⟨y,hy⟩:=List.exists_mem_of_length_pos h6;grind
  .obtain⟨h1,h2,h3⟩:=DV hv;obtain⟨w,hw,hle⟩:=hI.b _ _ h3;refine⟨⟨y.By,w⟩,hp.mem_iff.2 (T9.2 hw),(by grind)⟩
 have hlen:(fs.flatMap R).length<=15:=by grind [List.Perm.length_eq,Oa]
 obtain⟨r,e,h2,h3⟩:=Uy QK hfn hlen;refine⟨r,(Aiv (gl:=gl) hF (by rw[hp.length_eq,Gq];omega) (by grind [AkR,List.Perm.length_eq]) hlen e h2.length_eq).fn ac.sz (ac.len _) (ac.imm _),h2.trans hperm,h3⟩
theorem Rb{l:List α}{x:α}(hx:l[k]?=some x):l.take (k+1)=l.take k++[x]:=by rw[JD,hx];rfl
section
variable {g:Bc} {m:Jb} {N:I4}
abbrev Dd(g:Bc)(m:Jb)(N:I4):Gi:=R0 ⟨g.Cards,m,N⟩
theorem Pr(w:G9 g){i:Nat}(h:g.IDs[i]?=some x):bu x g.IDs=some i:=by
 cases hk:bu x g.IDs with
 |none=>exact absurd (bO h) (Tl hk)
 |some j=>rw[Nf w.nd (gb hk).1 h]
abbrev I9(g:Bc)(l:Bn):Ba:=l.map λp=>(g.IDs[p.toNat]?).getD ⟨0,0,0⟩
theorem Ps(w:G9 g){l:Bn}(h:EF g l){z:Int}(hz:l[j]?=some z):∃(n:Nat) (y:Ab),z=(n:Int)/\n<g.L.length/\g.IDs[n]?=some y/\(I9 g l)[j]?=some y:=by obtain⟨n,rfl,hn⟩:=h.nat (bO hz);have nI:=w.nI;obtain⟨y,hy,_⟩:=Hm (l:=g.IDs) (k:=n) aa;refine⟨n,y,rfl,hn,hy,?_⟩;rw[Mu,hz,Option.map_some,Fw,hy];rfl
end
def YF(cs:Mi)(d:Int):Int:=match cs.find? λc=>decide (c.Device=d) with
 |some c=>c.Member
 |none=>0
structure Mr (x:AA) (y:GR):Prop where
 role:y.Role=x.role
 no:x.guard=none->y.Is=false
 gd:∀g,x.guard=some g->y.Is=true/\y.ID=g.id/\y.Guards=g.guards/\y.Need=g.need/\y.Wait=g.wait/\y.Objected=g.objected/\y.Last=g.last
def Ag3(V:List I6)(i:Ab)(b d a:Int):Prop:=∃v∈V,v.Of=i/\v.By=b/\v.Device=d/\v.At=a
structure Rr (R:Ad) (D:DE):Prop where
 card:∀d,DG R d=YF D.Cards d
 nd:(D.In++D.Gone).Nodup
 in_:∀d,R.in_.get d=if d∈D.In then some true else none
 was:∀d,R.was.get d=if d∈D.In\/d∈D.Gone then some true else none
 w0:R.was.es.length=D.In.length+D.Gone.length
 ln:(D.L.map (·.N)).Nodup
 no:∀m,R.members.get m=none->∀y∈D.L,y.N≠m
 mem:∀m x,R.members.get m=some x->∃y∈D.L,y.N=m/\Mr x y
 vou:∀m x g,R.members.get m=some x->x.guard=some g->∀b d a,g.vouches.get ⟨b,d⟩=some a↔Ag3 D.V g.id b d a
 vof:∀v∈D.V,∃m x g,R.members.get m=some x/\x.guard=some g/\v.Of=g.id
 vnd:(D.V.map λv=>(v.Of,v.By,v.Device)).Nodup
 back:R.back=D.Back
 d6:∀d∈D.In++D.Gone,1<=d/\d<=6
structure Sz (D:DE):Prop where
 c:D.Cards.length<=1000
 dev:D.In.length+D.Gone.length<=100000
 l:D.L.length<=100000
 v:D.V.length<=100000
theorem JK{l:Bn}{n:Int}:QF l n=decide (n∈l):=by grind [QF]
section
variable {R:Ad} {D:DE}
theorem Sz.i(z:Sz D):D.In.length<=1000000:=by grind [Sz]
theorem Sz.g(z:Sz D):D.Gone.length<=1000000:=by grind [Sz]
theorem ofE(z:Sz D)(d:Int):gE D d=some (YF D.Cards d):=by
 have:=z.c;unfold gE;refine T.eq (.bind ((T.search D.Cards (λx=>decide (x.Device=d)) (λk x=>x.Member) aa (λk x hx hk=>?_) ?_).mono ?_))
 .grind [AR,eA,au,aq]
 .grind [AR,eF]
 .rintro r (⟨rfl,h⟩|⟨k,x,hx,hp,rfl,h⟩)
  .refine .some ?_;grind [YF]
  .refine .some ?_;grind [YF,List.find?_eq_some_iff_getElem]
theorem Anz(z:Sz D)(n:Int):T (dS D n) λv=>(v= -1/\∀y∈D.L,y.N≠n)\/∃(k:Nat) (y:GR),v=(k:Int)/\D.L[k]?=some y/\y.N=n:=by
 have:=z.l;unfold dS;refine .bind ((T.search D.L (λx=>decide (x.N=n)) (λk _=>(k:Int)) aa (λk x hx hk=>?_) ?_).mono ?_)
 .grind [o5,eA,au,aq]
 .grind [o5,eF]
 .rintro r (⟨rfl,h⟩|⟨k,x,hx,hp,rfl,h⟩)
  .exact .some (by grind)
  .exact .some (by grind)
theorem Rr.at_(h:Rr R D){m:Int}{x:AA}(hx:R.members.get m=some x){y:GR}(hy:y∈D.L)(hn:y.N=m):Mr x y:=by grind [mem,NR,ln]
theorem Rr.of(h:Rr R D){y:GR}(hy:y∈D.L):∃x,R.members.get y.N=some x/\Mr x y:=by cases hx:R.members.get y.N<;>grind [no,at_]
theorem YZ(z:Sz D)(h:Rr R D)(n:Int):T (dS D n) λv=>match R.members.get n with
  |none=>v= -1
  |some x=>∃(k:Nat) (y:GR),v=(k:Int)/\D.L[k]?=some y/\y.N=n/\Mr x y:=by
 refine(Anz z n).mono λv hv=>?_
 grind [Rr,Rr.of]
theorem Aix(z:Sz D)(h:Rr R D)(n:Int):se D n=some (M6 R n):=by unfold se;refine T.eq (.bind ((YZ z h n).mono λv hv=>?_));grind [M6,T.some,au,Mr.role]
theorem Rr.ins(h:Rr R D)(d:Int):PR R d=decide (d∈D.In):=by grind [PR,in_,EY]
theorem inE(z:Sz D)(h:Rr R D)(d:Int):fb D.In d=some (PR R d):=by rw[cX z.i,JK,h.ins]
theorem AnA(z:Sz D)(h:Rr R D)(d:Int):Fd D d=some (EY (R.was.get d)):=by grind [Fd,cX,Sz.i,Sz.g,JK,Rr.was,EY]
theorem aaS(z:Sz D)(h:Rr R D)(d:Int):nW D d=some (D3 R d):=by grind [nW,D3,AnA,ofE,Rr.card]
theorem Alk(z:Sz D)(i:Ab):T (jN D i) λv=>(v= -1/\∀y∈D.L,¬(y.Is=true/\y.ID=i))\/∃(k:Nat) (y:GR),v=(k:Int)/\D.L[k]?=some y/\y.Is=true/\y.ID=i:=by
 have:=z.l;unfold jN;refine .bind ((T.search D.L (λx=>x.Is&&decide (x.ID=i)) (λk _=>(k:Int)) aa (λk x hx hk=>?_) ?_).mono ?_)
 .grind [qQ,eA,au,aq]
 .grind [qQ,eF]
 .rintro r (⟨rfl,hn⟩|⟨k,y,hy,hp,rfl,hn⟩)
  .exact .some (by grind)
  .have hp2:y.Is=true/\y.ID=i:=by grind
   exact .some (by grind)
theorem Alm(z:Sz D)(h:Rr R D)(hR:Bi R)(i:Ab):T (jN D i) λv=>match R.members.es.find? λe=>LB e.2.1 i with
  |none=>v= -1
  |some e=>∃(k:Nat) (y:GR) (g:CM),v=(k:Int)/\D.L[k]?=some y/\y.N=e.1/\Mr e.2.1 y/\e.2.1.guard=some g/\g.id=i/\R.members.get e.1=some e.2.1:=by
 refine(Alk z i).mono ?_
 rintro v (⟨rfl,hn⟩|⟨k,y,rfl,hy,hp2⟩)
 .cases hf:R.members.es.find? λe=>LB e.2.1 i with
  |none=>rfl
  |some e=>obtain⟨hx,_⟩:=hR.mem (List.mem_of_find?_eq_some hf);grind [Rr.mem,LB,Mr.gd]
 .have a:=bO hy
  obtain⟨x,hx,hm⟩:=h.of a
  cases hgd:x.guard with
  |none=>grind [Mr.no]
  |some g=>
   have h1:=hm.gd g hgd
   have hid:g.id=i:=by grind
   have hgx:LB x i=true:=by grind [LB]
   cases hf:R.members.es.find? λe=>LB e.2.1 i<;>grind [GK,Bi.mem,Bi.uni]
theorem aaV(z:Sz D)(h:Rr R D)(hR:Bi R)(o:Bo):T (nY D o) λv=>v.2=(Dq R o).2/\((Dq R o).2=0->∃(k:Nat) (y:GR) (x:AA) (g:CM),v.1=(k:Int)/\D.L[k]?=some y/\y.N=(Dq R o).1/\R.members.get (Dq R o).1=some x/\Mr x y/\x.guard=some g/\g.id=o.Of):=by
 unfold nY;refine .bind ((Alm z h hR o.Of).mono λv hv=>?_);cases hf:R.members.es.find? λe=>LB e.2.1 o.Of with
 |none=>grind [Dq,T.some]
 |some e=>
  rw[hf] at hv;obtain⟨k,y,g,rfl,hy,a,hm,hgd,hid,hx⟩:=hv;have eS:Dq R o=bif g.guards.any λy=>decide (o.By=y)then(e.1,0)else(0,14):=by grind [Dq]
  have h1:=hm.gd g hgd;grind [Bi.gn,au,cX,JK,T.some]
end
theorem Ajc{l:Bn}{x:Int}(hp:Qi l)(h1:∀i y,i<j->l[i]?=some y->y<=x)(h2:∀y,l[j]?=some y->x<=y):Qi (l.take j++[x]++l.drop j):=by
 have hpj:(l.take j++l.drop j).Pairwise λa b=>a<=b:=by rw[Pw];exact hp
 rw[List.pairwise_append] at hpj;have hlt:∀a∈l.take j,a<=x:=by grind [Gu]
 have hgt:∀b∈l.drop j,x<=b:=λb hb=>by cases hc:l[j]? <;>grind [List.drop_eq_nil_of_le,List.drop_eq_getElem_cons,List.pairwise_cons]
 grind [Qi]
theorem AeF{l:Bn}(hl:l.length<=1000000):T (lg l) λr=>r.Perm l/\Qi r:=by
 unfold lg;refine .bind (T.mono (Q:=λr:Bn=>r.Perm l/\Qi r) (T.forA l.length (λk acc=>acc.Perm (l.take k)/\Qi acc) aa ⟨aC,.nil⟩ (λk acc hk hj=>?_) λacc hj=>?_) λx hx=> .some hx)
 .obtain⟨y,hy,hm⟩:=Hm hk;have hal:acc.length=k:=by rw[hj.1.length_eq,Lv];omega
  unfold pb;simp only[eA hk,ax,au,hy,aL];refine .bind (T.mono (Q:=λn:Int=>∃j:Nat,n=(j:Int)/\j<=acc.length/\(∀i z,i<j->acc[i]?=some z->z<=y)/\∀z,acc[j]?=some z->y<=z) (T.forI acc.length (λj=>∀i z,i<j->acc[i]?=some z->z<=y) aa (λi z h=>aa) (λj hjl hq=>?_) λhq=>?_) λn hn=>?_)
  .obtain⟨z,hz,a⟩:=Hm hjl;unfold pa;simp only[eA hjl,ax,au,hz,hy,aL];refine .dec (λhc=> .some ⟨aq aa,λi b hi hz'=>?_⟩) λhc=> .some ⟨j,rfl,aa,hq,λb hz'=>?_⟩;all_goals grind
  .unfold pa;dsimp only;rw[eF,Bf,aL,Bf];refine .some ⟨acc.length,rfl,Dk _,hq,λz hz=>?_⟩;grind
  .obtain⟨j,rfl,hjl,q1,c⟩:=hn;refine .bind (.pre aa aa (.bind (.app cq (.bind (.app cq (.bind (.suf aa aa (.bind (.app cq (.some ⟨aq aa,?_⟩))))))))));rw[Px,Fw];constructor<;>grind [Ajc,Rb,Cy]
 .unfold pb;dsimp only;rw[eF,Bf];rw[EZ] at hj;exact .some hj
theorem AaV{a b:Bn}(hp:a.Perm b)(h1:Qi a)(h2:Qi b):a=b:=List.Perm.eq_of_pairwise (le:=λa b=>a<=b) (by grind) h1 h2 hp
theorem aaW{α β γ:Type}{f:α->β}{g:α->γ}:∀{l:List α},(l.map g).Nodup->(∀x∈l,∀y∈l,f x=f y->g x=g y)->(l.map f).Nodup
 |[],_,_=> .nil
 |a::r,hd,h=>by rw[Fi,M0] at hd⊢;refine⟨λhm=>?_,aaW hd.2 (by grind)⟩;grind
section
variable {R:Ad} {D:DE}
abbrev atV(V:List I6)(i:Ab)(d:Int):Bn:=(V.filter λv=>decide (v.Of=i)&&decide (v.Device=d)).map (·.At)
theorem Aln(h:Rr R D)(hR:Bi R){x:AA}{g:CM}(hx:R.members.get m=some x)(hg:x.guard=some g)(d:Int):(atV D.V g.id d).Perm (dvE d g.vouches.es):=by
 have hv:=hR.cv _ _ g hx hg;have hp:((D.V.filter λv=>decide (v.Of=g.id)&&decide (v.Device=d)).map λv=>(v.By,v.At)).Perm ((g.vouches.es.filter λe=>decide (e.1.device=d)).map λe=>(e.1.by_,e.2.1)):=by
  refine(List.perm_ext_iff_of_nodup ?_ ?_).2 λ⟨b,a⟩=>?_
  .refine aaW (g:=λv:I6=>(v.Of,v.By,v.Device)) (h.vnd.sublist (List.filter_sublist.map _)) λp hp q hq e=>?_;grind
  .refine aaW (g:=λe:C7×Int×Nat=>e.1) (hv.kd.sublist (List.filter_sublist.map _)) λp hp q hq e=>?_;rw[Hl] at hp hq;have h1:=DV hp.2;have h2:=DV hq.2;simp only[Ft] at e;cases hp1:p.1;cases i:q.1;grind
  .have hb:=h.vou m x g hx hg b d a;constructor
   .intro hm;obtain⟨v,hv1,hv2⟩:=EO.1 hm;rw[Hl] at hv1;have h1:v.Of=g.id/\v.Device=d:=by simpa using hv1.2
    simp only[Ft] at hv2;obtain⟨n,hn⟩:=GK (hb.2 ⟨v,hv1.1,h1.1,hv2.1,h1.2,hv2.2⟩);exact EO.2 ⟨_,Hl.2 ⟨hn,C6 rfl⟩,rfl⟩
   .intro hm;obtain⟨e,c,f⟩:=EO.1 hm;rw[Hl] at c;have h1:=DV c.2;simp only[Ft] at f;have hge:=IX hv (k:=e.1) (v:=e.2.1) (n:=e.2.2) c.1;have hk:e.1=⟨b,d⟩:=by cases hq:e.1;grind
    rw[hk,f.2] at hge;obtain⟨v,k1,k2,k3,j,k5⟩:=hb.1 hge;grind
 have:=hp.map Prod.snd;rw[Hk,Hk] at this;exact this
theorem atT(z:Sz D)(d:Int)(y:GR):AH (QM D d y) ([],0)=some (atV D.V y.ID d):=by
 have:=z.v;refine T.eq (T.forA D.V.length (λk acc=>acc=atV (D.V.take k) y.ID d) aa (by simp[atV]) (λk acc hk hj=>?_) λacc hj=>?_)
 .obtain⟨v,hv,_⟩:=Hm hk;have hal:acc.length<=k:=by grind
  have e:atV (D.V.take (k+1)) y.ID d=acc++(if v.Of=y.ID/\v.Device=d then[v.At] else[]):=by unfold atV;rw[Rb hv,Se,List.map_append];grind
  unfold QM;simp only[eA hk,ax,au,hv,aL];by_cases c1:v.Of=y.ID
  .by_cases c2:v.Device=d
   .simp only[c1,c2,decide_true,ax,aL];rw[BB ⟨c1,c2⟩] at e;exact .bind (.app cq (.some ⟨aq aa,e.symm⟩))
   .simp only[c1,c2,decide_true,decide_false,ax,Bf,aL];rw[BX λc=>c2 c.2,LP] at e;exact .some ⟨aq aa,e.symm⟩
  .simp only[c1,decide_false,Bf,aL];rw[BX λc=>c1 c.1,LP] at e;exact .some ⟨aq aa,e.symm⟩
 .unfold QM;dsimp only;rw[eF,Bf];refine .some (show acc=_ from ?_);rw[hj,EZ]
theorem AnB(z:Sz D)(h:Rr R D)(hR:Bi R)(m d:Int):Ff D m d=some (ZN R m d):=by
 unfold Ff;refine T.eq (.bind ((YZ z h m).mono λv hv=>?_));unfold ZN;cases hx:R.members.get m with
 |none=>grind [T.some]
 |some x=>
  rw[hx] at hv;obtain⟨k,y,rfl,hy,_,hm⟩:=hv;rw[show decide ((k:Int)<0)=false from Dl aa,Bf,au,hy,aL];dsimp only;cases hg:x.guard with
  |none=>grind [Mr.no,T.some]
  |some g=>
   have h1:=hm.gd g hg;have hv:=hR.cv _ _ g hx hg;have hb:=hR.vb _ _ g hx hg;have hn:=hR.gN _ _ g hx hg;have h6:=Aat hv.kd hb (List.Pairwise.of_map (λx=>x.1) (by grind) hv.kd) (λe he=>he) d;obtain⟨srt,e1,a,s1⟩:=Adv (l:=dvE d g.vouches.es) aa;have hda:AcG g d=srt:=by unfold AcG;rw[e1];rfl
   have hp:=Aln h hR hx hg d;rw[h1.1,atT z d y,aL];simp only[Bool.not_true,Bf];rw[hda,h1.2.1];refine .bind ((AeF (by rw[hp.length_eq];omega)).mono λv hv=>?_);obtain rfl:v=srt:=AaV (hv.1.trans (hp.trans a.symm)) hv.2 s1;rw[h1.2.2.2.1,h1.2.2.2.2.1,h1.2.2.2.2.2.1,h1.2.2.2.2.2.2];refine .dec (by grind [T.some]) λhc=>?_;rw[Dl hc,Bf];have hc2:g.need<=(v.length:Int):=by unfold ah at hc;omega
   have hz0:aS v 0=some (v.getD 0 0):=by grind [au]
   have hz1:aS v (wI (g.need-1))=some (v.getD (g.need.toNat-1) 0):=by grind [bM,au]
   grind [T.some]
theorem AeG(z:Sz D)(h:Rr R D)(o:Bo)(m:Int):o9 D o m (decide (M6 R m=3))=some (Aek R o m):=by
 unfold o9 Aek Jk;rw[inE z h,ofE z,h.card,aL,aL];cases decide (o.Device≠0) with
 |true=>grind
 |false=>refine T.eq (.bind ((YZ z h o.Member).mono λv hv=>?_));grind [T.some]
theorem AnC(z:Sz D)(h:Rr R D)(hR:Bi R)(hk:o.Kind=11):mB D o=some (Ael R o):=by
 unfold mB Ael;refine T.eq (.bind ((aaV z h hR o).mono λv hv=>?_));rw[hv.1];cases c0:decide ((Dq R o).2≠0) with
 |true=>exact .some rfl
 |false=>
  have c1:(Dq R o).2=0:=by simpa using c0
  obtain⟨k,y,x,g,hv1,hy,a,hx,hm,hgd,hid⟩:=hv.2 c1;rw[Bf,hv1,au,hy,aL,ofE z,aaS z h,h.card,a,hk];grind [T.some]
theorem AnD(z:Sz D)(h:Rr R D)(hR:Bi R)(hk:o.Kind=13):mB D o=some (Aem R o):=by
 unfold mB Aem Akm;refine T.eq (.bind ((aaV z h hR o).mono λv hv=>?_));rw[hv.1];cases c0:decide ((Dq R o).2≠0) with
 |true=>exact .some rfl
 |false=>
  have c1:(Dq R o).2=0:=by simpa using c0
  obtain⟨k,y,x,g,hv1,hy,a,hx,hm,hgd,hid⟩:=hv.2 c1;rw[Bf,hv1,au,hy,aL,ofE z,ofE z,aaS z h,inE z h,h.card,h.card,a,hk,AnB z h hR];simp only[Int.reduceEq,decide_true,decide_false,ax,Bf,aL];generalize ZN R (Dq R o).1 o.Device=q;cases PR R o.Old with
  |false=>exact .some rfl
  |true=>simp only[Bool.not_true,Bf,ax];cases decide (YF D.Cards o.Old≠(Dq R o).1)<;>grind [T.some]
theorem Alo(z:Sz D)(h:Rr R D)(hR:Bi R)(hgl:o.Guards.length<=1000000)(i:Ab):AX D o i=some (Uu R o):=by
 have e:=z.dev;unfold AX;rw[ofE z,aL,<-h.card];unfold Uu;by_cases k1:o.Kind=1
 .grind [Rr.w0,ah]
 rw[BX k1,Dl k1,Bf,inE z h,aL];cases PR R o.By with
 |false=>rfl
 |true=>
 rw[Bool.not_true,Bf,ax,Aix z h,aL];unfold AcH;by_cases k2:o.Kind=2
 .grind [aaS,ofE,Age,Jk,Rr.card]
 rw[BX k2,Dl k2,Bf];by_cases k3:o.Kind=3
 .grind [AeG]
 rw[BX k3,Dl k3,Bf];by_cases k5:o.Kind=5
 .rw[BB k5,C6 k5,ax];unfold Agf Jk;cases decide (M6 R (DG R o.By)=3) with
  |false=>rfl
  |true=>simp only[Bool.not_true,Bf,ax];refine T.eq (.bind ((YZ z h o.Member).mono λv hv=>?_));grind [T.some]
 rw[BX k5,Dl k5,Bf];by_cases k6:o.Kind=6
 .grind [Agg]
 rw[BX k6,Dl k6,Bf];by_cases k8:o.Kind=8
 .grind [ofE,Agh,Jk,Rr.card]
 rw[BX k8,Dl k8,Bf];by_cases k9:o.Kind=9
 .rw[BB k9,C6 k9,ax];unfold Agj;refine T.eq (.bind ((T.search o.Guards (λx=> !PR R x) (λk _=>(17:Int)) aa (λk x hx hk=>?_) ?_).mono ?_))
  .grind [Uc,eA,au,inE,aq]
  .unfold Uc;rw[eF,Bf]
  .rintro r (⟨rfl,hn⟩|⟨k,x,hx,hp,rfl,hn⟩)
   .refine .some ?_;grind
   .refine .some ?_;grind
 rw[BX k9,Dl k9,Bf];have hO:T ((dS D (DG R o.By)).bind λa=>bif a<0 then(some 25)else(((aS D.L a).bind λb=>bif(!b.Is)then(some true)else((aS D.L a).bind λc=>some (!decide (c.ID=o.Of)))).bind λd=>bif d then(some 25)else(some 0))) λw=>w=Abz R o (DG R o.By):=by
  refine .bind ((YZ z h (DG R o.By)).mono λv hv=>?_);unfold Abz;cases hx:R.members.get (DG R o.By) with
  |none=>grind [T.some]
  |some x=>rw[hx] at hv;grind [au,Mr.no,T.some,Mr.gd]
 grind [T.eq,AnC,AnD]
end
theorem AnE{K V:Type}[DecidableEq K]{m:FM K V}{k:K}{p:V}:(CA m k p).es.length=if(m.get k).isSome then m.es.length else m.es.length+1:=by
 unfold CA;cases hk:bu k (m.es.map (·.1)) with
 |none=>rw[Tz hk];simp
 |some j=>obtain⟨e,_,_,h⟩:=Nd hk;rw[h];simp
structure Sy (D:DE):Prop where
 c:D.Cards.length<=1000
 dev:D.In.length+D.Gone.length<=2000
 l:D.L.length<=2000
 v:D.V.length<=2000
structure Gw (D D':DE):Prop where
 c:D'.Cards=D.Cards
 v:D'.V.length<=D.V.length
structure Gv (D D':DE):Prop where
 c:D'.Cards=D.Cards
 v:D'.V.length<=D.V.length+1
theorem Gw.rfl'{D:DE}:Gw D D:=⟨rfl,Dk _⟩
theorem Gw.gv{D D':DE}(h:Gw D D'):Gv D D':=⟨h.c,Nat.le_succ_of_le h.v⟩
theorem Sy.z{D:DE}(h:Sy D):Sz D:=by grind [Sy,Sz]
section
variable {R:Ad} {D:DE}
theorem AcT(h:Rr R D)(hR:Bi R)(c:D.Cards.length<=1000)(v:D.V.length<=2000):Sy D:=by
 have h1:=EC h.nd (m:=[1,2,3,4,5,6]) λd hd=>by have:=h.d6 d hd;grind
 have h2:=EC h.ln (m:=[1,2,3]) λk hk=>by obtain⟨y,hy,rfl⟩:=EO.1 hk;obtain⟨x,hx,_⟩:=h.of hy;obtain⟨n,hn⟩:=GK hx;have:=hR.m3 _ hn;grind
 rw[UQ] at h1;rw[Gq] at h2;exact⟨c,Nj h1 BU,Nj h2 BU,v⟩
theorem Alp(h:Rr R D)(h1:d∉D.In)(h2:d∉D.Gone)(h6:1<=d/\d<=6):Rr {R with in_:=CA R.in_ d true,was:=CA R.was d true} {D with In:=D.In++[d]} where
 card:=h.card
 nd:=by show(D.In++[d]++D.Gone).Nodup;rw[List.append_assoc,List.singleton_append,List.perm_middle.nodup_iff,M0];grind [Rr.nd]
 in_ e:=by grind [Bz,Rr.in_]
 was e:=by grind [Bz,Rr.was]
 w0:=by grind [Rr.was,AnE,Rr.w0]
 ln:=h.ln
 no:=h.no
 mem:=h.mem
 vou:=h.vou
 vof:=h.vof
 vnd:=h.vnd
 back:=h.back
 d6 e he:=by have:=h.d6 e;rw[JF] at this;simp at he;grind
theorem Ajd(h:Rr R D){m role:Int}(hm:R.members.get m=none):Rr {R with members:=CA R.members m ⟨role,none⟩} {D with L:=D.L++[⟨m,role,false,⟨0,0,0⟩,[],0,0,false,0⟩]} where
 card:=h.card
 nd:=h.nd
 in_:=h.in_
 was:=h.was
 w0:=h.w0
 ln:=by show((D.L++[(⟨m,role,false,⟨0,0,0⟩,[],0,0,false,0⟩:GR)]).map (·.N)).Nodup;rw[List.map_append,Fi,List.map_nil,List.perm_append_comm.nodup_iff,List.singleton_append,M0];grind [Rr.ln,Rr.no]
 no k hk y hy:=by grind [Bz,Rr.no]
 mem k x hk:=by
  have hk:(CA R.members m ⟨role,none⟩).get k=some x:=hk;rw[Bz] at hk;split at hk
  .rename_i e;cases hk;exact⟨_,JF.2 (.inr (List.mem_singleton.2 rfl)),e.symm,rfl,λ_=>rfl,λg hg=>by cases hg⟩
  grind [Rr.mem]
 vou k x g hk hg:=by grind [Bz,Rr.vou]
 vof v hv:=by obtain⟨k,x,g,hk,hg,e⟩:=h.vof v hv;refine⟨k,x,g,?_,hg,e⟩;grind [Bz]
 vnd:=h.vnd
 back:=h.back
 d6:=h.d6
theorem AbX(z:Sy D)(h:Rr R D)(hR:Bi R)(d role:Int):T (nX D d role) λD'=>Rr (Je R d role) D'/\Gw D D':=by
 have a:=z.dev;have b:=z.l;unfold nX Je;rw[aaS z.z h,aL];cases hf:D3 R d with
 |false=>exact .some ⟨h,.rfl'⟩
 |true=>
  rw[Bool.not_true,Bf,ax];have hw:R.was.get d=none:=by grind [Rr.was,D3,EY]
  have hnd:d∉D.In/\d∉D.Gone:=by grind [Rr.was]
  refine .bind (.app cq (.bind (.app cq ?_)));rw[Px];have h':=Alp h hnd.1 hnd.2 (hR.c6 d (by unfold D3 at hf;rw[bA] at hf;exact DV hf.1));rw[show gE {D with In:=D.In++[d]} d=gE D d from rfl,ofE z.z,aL,<-h.card];rw[show dS {D with In:=D.In++[d]} (DG R d)=dS D (DG R d) from rfl];refine .bind ((YZ z.z h (DG R d)).mono λv hv=>?_);cases hx:R.members.get (DG R d) with
  |none=>rw[hx] at hv;subst hv;rw[show decide ((-1:Int)<0)=true from rfl,ax];refine .bind (.bind (.app cq (.bind (.app cq (.some ?_)))));rw[Px];exact .some ⟨Ajd (role:=role) h' hx,rfl,Dk _⟩
  |some x=>rw[hx] at hv;obtain⟨k,y,rfl,_⟩:=hv;rw[show decide ((k:Int)<0)=false from Dl aa,Bf];exact .some ⟨h',rfl,Dk _⟩
theorem AeH(h:Rr R D)(hy:D.L[k]?=some y)(hn:y.N=m)(a:y'.N=m):((D.L.set k y').map (·.N)).Nodup:=by grind [List.map_set,Rr.ln]
theorem AeI(h:Rr R D)(a:y'.N=m)(q:Int)(hq:(CA R.members m x').get q=none)(z:GR)(hz:z∈D.L.set k y'):z.N≠q:=by grind [Bz,Rr.no]
theorem aaX(h:Rr R D)(hy:D.L[k]?=some y)(hn:y.N=m)(a:y'.N=m)(hM:Mr x' y')(q:Int)(z:AA)(hq:(CA R.members m x').get q=some z):∃y∈D.L.set k y',y.N=q/\Mr z y:=by
 rw[Bz] at hq;split at hq
 .rename_i e;cases hq;exact⟨y',bO (i:=k) (by grind),a.trans e.symm,hM⟩
 .rename_i hne;obtain⟨w,hw,b,c⟩:=h.mem q z hq;obtain⟨j,hj⟩:=Gu hw;have hkj:¬k=j:=by grind
  exact⟨w,bO (i:=j) (by grind),b,c⟩
theorem AeJ(h:Rr R D){x:AA}(hx:R.members.get m=some x)(hy:D.L[k]?=some y)(hn:y.N=m)(b:y'.N=m)(hM:Mr x' y')(h1:∀a,x'.guard=some a->∃g,x.guard=some g/\a.id=g.id/\a.vouches=g.vouches)(h2:∀g,x.guard=some g->∃a,x'.guard=some a/\a.id=g.id):Rr (HU R m x') {D with L:=D.L.set k y'} where
 card:=h.card
 nd:=h.nd
 in_:=h.in_
 was:=h.was
 w0:=h.w0
 ln:=AeH h hy hn b
 no q hq z hz:=AeI h b q hq z hz
 mem q z hq:=aaX h hy hn b hM q z hq
 vou q z a hq hg':=by grind [Bz,Rr.vou]
 vof v hv:=by
  obtain⟨q,z,g,hq,hg,e⟩:=h.vof v hv;by_cases c:q=m
  .subst c;rw[hx] at hq;cases hq;obtain⟨a,e1,e2⟩:=h2 g hg;exact⟨q,x',a,by grind [Bz],e1,e.trans e2.symm⟩
  .exact⟨q,z,g,by grind [Bz],hg,e⟩
 vnd:=h.vnd
 back:=h.back
 d6:=h.d6
theorem Alq(z:Sy D)(h:Rr R D)(o:Bo):T ((dS D o.Member).bind λa=>bif 0<=a then((aS D.L a).bind λb=>(o6 D.L a ({b with Role:=o.Role})).bind λc=>some ({D with L:=c}))else(some D)) λD'=>Rr (UJ R o) D'/\Gw D D':=by
 have d:=z.l;refine .bind ((YZ z.z h o.Member).mono λv hv=>?_);unfold UJ;cases hx:R.members.get o.Member with
 |none=>grind [T.some,Gw.rfl']
 |some x=>rw[hx] at hv;obtain⟨k,y,rfl,hy,hn,hM⟩:=hv;have hk:=(cr hy).1;rw[show decide ((0:Int)<=(k:Int))=true from C6 aa,ax,au,hy,aL];unfold o6;refine .bind (.bind (.app cq (.bind (.set aa cq (.some (.some ?_))))));rw[Px,Fw];exact⟨by grind [AeJ,Mr],rfl,Dk _⟩
abbrev inF(l:Bn)(d:Int):Bn:=l.filter λx=>decide (x≠d)
abbrev lF(l:List GR)(m:Int):List GR:=l.filter λy=>decide (y.N≠m)
def aaZ(l:List GR)(i:Ab):Bool:=l.any λy=>y.Is&&decide (y.ID=i)
theorem Pt{i:Ab}:aaZ l i=true↔∃y∈l,y.Is=true/\y.ID=i:=by grind [aaZ]
theorem Alr(z:Sz D)(i:Ab):T (jN D i) λv=>decide (0<=v)=aaZ D.L i:=by grind [T.mono,Alk,Pt]
theorem aa0:∀{l:Bn} {d:Int},l.Nodup->d∈l->(inF l d).length+1=l.length
 |[],d,_,h=>by cases h
 |x::r,d,hn,h=>by
  rw[M0] at hn;by_cases e:x=d
  .grind [List.filter_eq_self]
  .have:=aa0 hn.2 ((EG.1 h).resolve_left λc=>e c.symm);grind
theorem Aje(h:Rr R D)(hR:Bi R)(hd:d∈D.In):Rr (IK R d) {D with In:=inF D.In d,Gone:=D.Gone++[d]} where
 card:=h.card
 nd:=by show(inF D.In d++(D.Gone++[d])).Nodup;have h1:=List.nodup_append.1 h.nd;grind
 in_ e:=by grind [MY,Bi.ci,Rr.in_]
 was e:=by grind [Rr.was]
 w0:=by grind [aa0,Rr.nd,Rr.w0]
 ln:=h.ln
 no:=h.no
 mem:=h.mem
 vou:=h.vou
 vof:=h.vof
 vnd:=h.vnd
 back:=h.back
 d6 e he:=by have:=h.d6 e;rw[JF] at this;simp at he;grind
theorem Ajf(h:Rr R D)(hR:Bi R)(m:Int):Rr (Ss R m) {D with L:=lF D.L m,V:=D.V.filter λv=>aaZ (lF D.L m) v.Of}:=by
 have hg:∀k,(Ss R m).members.get k=if k=m then none else R.members.get k:=λk=>MY hR.cm k
 have hmem:∀y,y∈lF D.L m↔y∈D.L/\y.N≠m:=by grind
 constructor<;>try grind [Rr.nd,Rr.in_,Rr.was,Rr.w0,Rr.ln,Rr.of,Rr.vnd,Rr.back]
 .exact h.card
 .exact(by grind [Rr.mem])
 .exact λk x g hk hgd b d a=>by
   rw[hg] at hk;split at hk
   .cases hk
   .rename_i hne;rw[h.vou k x g hk hgd b d a];obtain⟨y,hy,hn,hm⟩:=h.mem k x hk;have h1:=hm.gd g hgd;have hown:aaZ (lF D.L m) g.id=true:=by grind [Pt]
    constructor
    .rintro⟨v,hv,e1,e2⟩;exact⟨v,(by grind),e1,e2⟩
    .rintro⟨v,hv,e⟩;exact⟨v,(Hl.1 hv).1,e⟩
 .exact λv hv=>by obtain⟨y,hy,h1,h2⟩:=Pt.1 (Hl.1 hv).2;have c:=(hmem y).1 hy;obtain⟨x,hx,hm⟩:=h.of c.1;cases hgd:x.guard<;>grind [Mr.no,Mr.gd]
 .exact h.d6
theorem Als(z:Sy D)(d v4:Int):T (AH (uj D d v4) ([],false,0)) λx=>x=(inF D.In d,(inF D.In d).any λx=>decide (YF D.Cards x=v4)):=by
 have hd:=z.dev;refine T.loop (λs=>∃k:Nat,k<=D.In.length/\s.2.2=(k:Int)/\s.1=inF (D.In.take k) d/\s.2.1=(inF (D.In.take k) d).any λx=>decide (YF D.Cards x=v4)) (λs=>D.In.length-s.2.2.toNat) (by grind) cq ?_;rintro⟨a,b,i⟩ ⟨k,hk,rfl,ha,hb⟩;dsimp only at ha hb;subst ha;unfold uj;dsimp only;rcases JB k D.In.length with hlt|hge
 .obtain⟨x,hx,_⟩:=Hm hlt;have hla:(inF (D.In.take k) d).length<=k:=by grind
  simp only[eA hlt,ax,au,hx,aL,ofE z.z];have ew:=aq (show k<2305843009213693952 by omega);have e:inF (D.In.take (k+1)) d=inF (D.In.take k) d++(if x≠d then[x] else[]):=by unfold inF;rw[Rb hx,Se];by_cases c:x=d<;>simp[c]
  refine .dec (λhc=>?_) λhc=>?_
  .rw[BB hc] at e;refine .bind (.app cq (.bind (x:=bif b then some true else some (decide (YF D.Cards x=v4))) (T.mono (Q:=λq=>q=(b||decide (YF D.Cards x=v4))) (by cases b<;>exact .some rfl) λq hq=> .some ⟨⟨k+1,aa,ew,e.symm,?_⟩,?_⟩)));all_goals grind
  .rw[BX hc,LP] at e;refine .some ⟨(by grind),?_⟩;rw[ew];simp;omega
 .obtain rfl:k=D.In.length:=aa;rw[eF,Bf];refine .some (show(_,_)=_ from ?_);rw[hb,EZ]
theorem Alt(z:Sy D)(m:Int):T (AH (ui D m) ([],[],0)) λx=>x=(lF D.L m,[]):=by
 have hd:=z.l;refine T.loop (λs=>∃k:Nat,k<=D.L.length/\s.2.2=(k:Int)/\s.1=lF (D.L.take k) m/\s.2.1=[]) (λs=>D.L.length-s.2.2.toNat) (by grind) cq ?_;rintro⟨a,b,i⟩ ⟨k,hk,rfl,ha,hb⟩;dsimp only at ha hb;subst ha;subst hb;unfold ui;dsimp only;rcases JB k D.L.length with hlt|hge
 .obtain⟨x,hx,_⟩:=Hm hlt;have hla:(lF (D.L.take k) m).length<=k:=by grind
  simp only[eA hlt,ax,au,hx,aL];have ew:=aq (show k<2305843009213693952 by omega);have e:lF (D.L.take (k+1)) m=lF (D.L.take k) m++(if x.N≠m then[x] else[]):=by unfold lF;rw[Rb hx,Se];grind
  refine .dec (λhc=>?_) λhc=>?_
  .rw[BB hc] at e;refine .bind (.app cq (.some ⟨(by grind),?_⟩));rw[ew];simp;omega
  .rw[BX hc,LP] at e;refine .some ⟨(by grind),?_⟩;rw[ew];simp;omega
 .obtain rfl:k=D.L.length:=aa;rw[eF,Bf];refine .some (show(_,_)=_ from ?_);rw[EZ]
theorem Alu{step:List I6×Int->Option ((List I6×Int)⊕List I6)}{V:List I6}{p:I6->Bool}(hn:V.length<=2000)(hs:∀(k:Nat) (v:I6) (acc:List I6),V[k]?=some v->acc.length<=2000->T (step (acc,(k:Int))) λq=>q= .inl (if p v then acc++[v]else acc,wI ((k:Int)+1)))(he:∀acc,step (acc,(V.length:Int))=some (.inr acc)):T (AH step ([],0)) λx=>x=V.filter p:=by
 refine T.forA V.length (λk acc=>acc=(V.take k).filter p) aa aC (λk acc hk hj=>?_) λacc hj=>?_
 .obtain⟨v,hv,_⟩:=Hm hk;have hal:acc.length<=k:=by grind
  refine(hs k v acc hv aa).mono λq hq=>?_;subst hq;refine⟨aq aa,?_⟩;dsimp only;rw[Rb hv,Se,<-hj];cases hp:p v<;>simp[hp]
 .rw[he];refine .some (show acc=_ from ?_);rw[hj,EZ]
theorem Aiy(z:Sy D)(h:Rr R D)(hR:Bi R)(d:Int):T (sh D d) λD'=>Rr (Ha R d) D'/\Gw D D':=by
 have b:=z.dev;have a:=z.l;have z3:=z.v;have z4:=z.c;unfold sh Ha;rw[inE z.z h,aL];cases hi:PR R d with
 |false=>exact .some ⟨h,.rfl'⟩
 |true=>
  have hd:d∈D.In:=by grind [Rr.ins]
  rw[Bool.not_true,Bf,ax,ofE z.z,aL,<-h.card];refine .bind ((Als z d (DG R d)).mono λx hx=>?_);subst hx;have ho:=Aje h hR hd;have hlen:=aa0 (List.nodup_append.1 h.nd).1 hd;have hst:MT (IK R d) (DG R d)=(inF D.In d).any λx=>decide (YF D.Cards x=DG R d):=by
   unfold MT;rw[Bool.eq_iff_iff,List.any_eq_true,List.any_eq_true];constructor
   .rintro⟨e,he,hc⟩;have hg:=IX (Re hR.ci) (k:=e.1) (v:=e.2.1) (n:=e.2.2) he;have hge:=ho.in_ e.1;grind [Rr]
   .rintro⟨x,hx,hc⟩;have hge:=ho.in_ x;rw[BB hx] at hge;obtain⟨n,hn⟩:=GK hge;grind [Rr]
  refine .bind (.app cq (.bind (.app cq ?_)));rw[Px];dsimp only;rw[hst];cases hb:(inF D.In d).any λx=>decide (YF D.Cards x=DG R d) with
  |true=>exact .some ⟨ho,rfl,Dk _⟩
  |false=>
   rw[Bf,Bf];refine .bind ((Alt z (DG R d)).mono λx hx=>?_);subst hx;have hlf:(lF D.L (DG R d)).length<=2000:=Nj (Oa _ _) a;have hif:(inF D.In d).length<=D.In.length:=Oa _ _;refine .bind ((Alu (p:=λv=>aaZ (lF D.L (DG R d)) v.Of) z3 (λk v acc hv hal=>?_) λacc=>?_).mono λx hx=>?_)
   .have hk:=(cr hv).1;unfold uh;simp only[eA hk,ax,au,hv,aL];grind [T.bind,T.mono,Alr,Sz,T.app,T.some]
   .grind [uh,eF]
   .subst hx;exact .some ⟨Ajf ho (Aaj hR d) (DG R d),rfl,Oa _ _⟩
end
structure Rq (Q Q':Ad):Prop where
 c:∀d,DG Q' d=DG Q d
 i:∀d,Q'.in_.get d=Q.in_.get d
 w:∀d,Q'.was.get d=Q.was.get d
 n:Q'.was.es.length=Q.was.es.length
 m:∀k,Q'.members.get k=Q.members.get k
 b:Q'.back=Q.back
theorem Rq.rr{Q Q':Ad}{D:DE}(q:Rq Q Q')(h:Rr Q D):Rr Q' D where
 card d:=(q.c d).trans (h.card d)
 nd:=h.nd
 in_ d:=(q.i d).trans (h.in_ d)
 was d:=(q.w d).trans (h.was d)
 w0:=q.n.trans h.w0
 ln:=h.ln
 no m hm:=h.no m ((q.m m).symm.trans hm)
 mem m x hm:=h.mem m x ((q.m m).symm.trans hm)
 vou m x g hm hg:=by grind [Rr,m]
 vof v hv:=by grind [Rr.vof,m]
 vnd:=h.vnd
 back:=q.b.trans h.back
 d6:=h.d6
structure Go (R Q:Ad) (m:Int) (p:Bn):Prop where
 c:∀d,DG Q d=DG R d
 w:Q.was=R.was
 b:Q.back=R.back
 i:∀e,Q.in_.get e=if e∈p then none else R.in_.get e
 m1:p=[]\/(∃e v,Q.in_.get e=some v/\DG R e=m)->∀k,Q.members.get k=R.members.get k
 m2:p≠[]->(∀e v,Q.in_.get e=some v->DG R e≠m)->∀k,Q.members.get k=if k=m then none else R.members.get k
theorem Go.step{R Q:Ad}{m:Int}{p:Bn}{d:Int}(h:Go R Q m p)(hQ:Bi Q)(hp:d∉p)(hi:R.in_.get d=some true)(hm:DG R d=m):Go R (Ha Q d) m (p++[d]):=by
 have hq:Q.in_.get d=some true:=by rw[h.i,BX hp,hi]
 have hin:PR Q d=true:=by unfold PR;rw[hq];rfl
 have ho:∀e,(IK Q d).in_.get e=if e∈p++[d]then none else R.in_.get e:=by grind [MY,Bi.ci,i]
 have hst:MT (IK Q d) (DG Q d)=true↔∃e v,(IK Q d).in_.get e=some v/\DG R e=m:=by
  unfold MT;rw[List.any_eq_true,h.c,hm];constructor
  .rintro⟨e,he,hc⟩;exact⟨e.1,e.2.1,(by grind [IX,Re,Bi.ci]),(h.c e.1).symm.trans (DV hc)⟩
  .rintro⟨e,v,hg,hc⟩;obtain⟨n,hn⟩:=GK hg;exact⟨_,hn,C6 ((h.c e).trans hc)⟩
 have a:=h.m1 (.inr ⟨d,true,hq,hm⟩);unfold Ha;rw[hin,ax];cases hs:MT (IK Q d) (DG Q d) with
 |true=>have hx:=hst.1 hs;exact⟨h.c,h.w,h.b,ho,λ_=>a,(by grind)⟩
 |false=>
  have hx:¬∃e v,(IK Q d).in_.get e=some v/\DG R e=m:=by grind
  refine⟨h.c,h.w,h.b,ho,λc=>?_,λ_ _ k=>?_⟩;all_goals grind [MY,Bi.cm,c]
theorem Go.fold{R:Ad}{m:Int}:∀{l p:Bn} {Q:Ad},Go R Q m p->Bi Q->(p++l).Nodup->(∀d∈l,R.in_.get d=some true/\DG R d=m)->Go R (l.foldl Ha Q) m (p++l)
 |[],p,Q,h,_,_,_=>by rw[LP];exact h
 |d::r,p,Q,h,hQ,hn,hl=>by
  have hp:d∉p:=by grind
  have h1:=h.step hQ hp (hl d aC).1 (hl d aC).2;have:=Go.fold (l:=r) h1 (KX hQ d) (by rw[List.append_assoc];exact hn) (by grind);rw[List.append_assoc] at this;exact this
theorem Ud{R:Ad}{m:Int}:∀{l:Bn} {Q:Ad},(∀d,DG Q d=DG R d)->l.foldl (TB m) Q=(l.filter λd=>decide (DG R d=m)).foldl Ha Q
 |[],Q,_=>rfl
 |d::r,Q,h=>by
  have hc:∀e,DG (Ha Q d) e=DG R e:=by grind [Ha,DG]
  have e:TB m Q d=bif DG R d=m then Ha Q d else Q:=by unfold TB;rw[h d]
  rw[List.foldl_cons,e];by_cases c:DG R d=m
  .rw[C6 c,ax,List.filter_cons_of_pos (p:=λd=>decide (DG R d=m)) (C6 c),List.foldl_cons];exact Ud hc
  .rw[Dl c,Bf,List.filter_cons_of_neg (p:=λd=>decide (DG R d=m)) (by simpa using c)];exact Ud h
section
variable {R:Ad} {D:DE}
theorem Aiz(l:Bn)(hl:l.length<=2000)(z:Sy D)(h:Rr R D)(hR:Bi R):T (AH (AT l) (D,0)) λD'=>Rr (l.foldl Ha R) D'/\Gw D D':=by
 refine(T.forA l.length (λk D'=>Rr ((l.take k).foldl Ha R) D'/\Bi ((l.take k).foldl Ha R)/\Gw D D') aa ⟨h,hR,.rfl'⟩ (λk D' hk hj=>?_) λD' hj=>?_)
 .obtain⟨x,hx,_⟩:=Hm hk;unfold AT;simp only[eA hk,ax,au,hx,aL];refine .bind ((Aiy (AcT hj.1 hj.2.1 (hj.2.2.c▸z.c) (Nj hj.2.2.v z.v)) hj.1 hj.2.1 x).mono λa h2=> .some ⟨aq aa,?_⟩);rw[Rb hx,Om];grind [KX,Gw]
 .unfold AT;dsimp only;rw[eF,Bf];rw[EZ] at hj;exact .some ⟨hj.1,hj.2.2⟩
theorem AnF(z:Sy D)(o:Bo){st:Bn×Int->Option ((Bn×Int)⊕Bn)}(hst:st=Pj D o):AH st ([],0)=some (D.In.filter λx=>decide (YF D.Cards x=o.Member)):=by
 have a:=z.dev;subst hst;refine T.eq (T.forA D.In.length (λk acc=>acc=(D.In.take k).filter λx=>decide (YF D.Cards x=o.Member)) aa aC (λk acc hk hj=>?_) λacc hj=>?_)
 .obtain⟨x,hx,_⟩:=Hm hk;have hal:acc.length<=k:=by grind
  unfold Pj;simp only[eA hk,ax,au,hx,aL,ofE z.z];have e:(D.In.take (k+1)).filter (λx=>decide (YF D.Cards x=o.Member))=acc++(if YF D.Cards x=o.Member then[x] else[]):=by rw[Rb hx,Se,<-hj];grind
  refine .dec (λhc=>?_) λhc=>?_
  .rw[BB hc] at e;exact .bind (.app cq (.some ⟨aq aa,e.symm⟩))
  .rw[BX hc,LP] at e;exact .some ⟨aq aa,e.symm⟩
 .unfold Pj;dsimp only;rw[eF,Bf];refine .some (show acc=_ from ?_);rw[hj,EZ]
theorem AnG(z:Sy D)(h:Rr R D)(hR:Bi R)(o:Bo):T (AH (AT (D.In.filter λx=>decide (YF D.Cards x=o.Member))) (D,0)) λD'=>Rr (Agb R o) D'/\Gw D D':=by
 have j:=z.dev;have hn:=(List.nodup_append.1 h.nd).1;refine(Aiz _ (by grind) z h hR).mono λD' hD=>?_;unfold Agb;rw[Ud λd=>rfl];obtain⟨m,f,_⟩:=OJ hR;generalize hA:(D.In.filter λx=>decide (YF D.Cards x=o.Member))=A at hD;generalize hB:((Hx R).filter λd=>decide (DG R d=o.Member))=B;have hAB:∀e,e∈A↔e∈B:=λe=>by
  rw[<-hA,<-hB,Hl,Hl,f.mem_iff,h.card];refine and_congr ?_ Iff.rfl;have hi:=h.in_ e;constructor
  .grind [GK]
  .intro he;obtain⟨q,hq,rfl⟩:=EO.1 he;have hg:=IX hR.ci (k:=q.1) (v:=q.2.1) (n:=q.2.2) hq;grind
 have hin:∀d∈A,R.in_.get d=some true/\DG R d=o.Member:=by grind [Rr.in_]
 have h0:Go R R o.Member []:=by constructor<;>grind
 have gA:=Go.fold (l:=A) h0 hR (by rw[Px,<-hA];exact hn.sublist List.filter_sublist) hin;have gB:=Go.fold (l:=B) h0 hR (by rw[Px,<-hB];exact((f.nodup_iff.2 hR.ci.kd).sublist List.filter_sublist)) λd hd=>hin d ((hAB d).2 hd);rw[Px] at gA gB;have hfin:∀{Q:Ad} {p:Bn},(∀e,e∈p↔e∈A)->Go R Q o.Member p->∀k,Q.members.get k=if A=[]then R.members.get k else if k=o.Member then none else R.members.get k:=λ{Q p} hp g k=>by
  by_cases c:A=[]
  .have hp0:p=[]:=by
    cases p with
    |nil=>rfl
    |cons a r=>have:=(hp a).1 aC;rw[c] at this;cases this
   grind [Go.m1]
  .rw[BX c];have hp0:p≠[]:=λe=>by
    cases hA':A with
    |nil=>exact c hA'
    |cons a r=>have:=(hp a).2 (by rw[hA'];simp);rw[e] at this;cases this
   refine g.m2 hp0 (λe v he hc=>?_) k;grind [Go.i,Rr.in_,Rr.card]
 have q:Rq (A.foldl Ha R) (B.foldl Ha R):=⟨(by grind [Go]),λd=>by rw[gA.i,gB.i];simp only[hAB],λd=>by rw[gA.w,gB.w],by rw[gA.w,gB.w],(by grind),by rw[gA.b,gB.b]⟩;exact⟨q.rr hD.1,hD.2⟩
def NoG(R:Ad)(i:Ab):Prop:=∀q z g,R.members.get q=some z->z.guard=some g->g.id≠i
theorem Ajg{z:GR}(hz:z∈l.set k y'):z=y'\/∃j,j≠k/\l[j]?=some z:=by grind [Gu]
theorem Ajh(h:Rr R D){x:AA}{g:CM}{i:Ab}(hx:R.members.get m=some x)(hy:D.L[k]?=some y)(hn:y.N=m)(f:y'.N=m)(hM:Mr x' y')(hg:x'.guard=some g)(hi:g.id=i)(he:∀q,g.vouches.get q=none)(hf:NoG R i):Rr (HU R m x') {D with L:=D.L.set k y',V:=D.V.filter λv=>aaZ (D.L.set k y') v.Of} where
 card:=h.card
 nd:=h.nd
 in_:=h.in_
 was:=h.was
 w0:=h.w0
 ln:=AeH h hy hn f
 no q hq z hz:=AeI h f q hq z hz
 mem q z hq:=aaX h hy hn f hM q z hq
 vou q z g' hq hg':=by
  have hz:∃w∈D.L.set k y',w.N=q/\Mr z w:=aaX h hy hn f hM q z hq;have hq:(CA R.members m x').get q=some z:=hq;intro b d a;rw[Bz] at hq;split at hq
  .cases hq;rw[hg] at hg';cases hg';rw[he];constructor
   .intro c;cases c
   .rintro⟨v,hv,e1,_⟩;obtain⟨l,n,g2,k1,k2,k3⟩:=h.vof v (Hl.1 hv).1;exact absurd (k3.symm.trans (e1.trans hi)) (hf l n g2 k1 k2)
  .rw[h.vou q z g' hq hg'];obtain⟨w,hw,_,hm⟩:=hz;have h1:=hm.gd g' hg';have hown:aaZ (D.L.set k y') g'.id=true:=by grind [Pt]
   constructor
   .rintro⟨v,hv,e1,e2⟩;exact⟨v,(by grind),e1,e2⟩
   .rintro⟨v,hv,e⟩;exact⟨v,(Hl.1 hv).1,e⟩
 vof v hv:=by
  obtain⟨w,hw,h1,h2⟩:=Pt.1 (Hl.1 hv).2;obtain⟨l,n,g2,k1,k2,k3⟩:=h.vof v (Hl.1 hv).1;rcases Ajg hw with rfl|⟨j,hj,o⟩
  .have:=(hM.gd g hg).2.1;exact absurd (by grind) (hf l n g2 k1 k2)
  .obtain⟨z,hz,hm⟩:=h.of (bO o);have hne:w.N≠m:=λc=>by
    have e1:(D.L.map (·.N))[j]?=some m:=by grind
    have e2:(D.L.map (·.N))[k]?=some m:=by grind
    exact hj (Nf h.ln e1 e2)
   cases hgd:z.guard with
   |none=>rw[hm.no hgd] at h1;cases h1
   |some p=>exact⟨w.N,z,p,by grind [Bz],hgd,by grind [Mr.gd]⟩
 vnd:=h.vnd.sublist (List.filter_sublist.map _)
 back:=h.back
 d6:=h.d6
theorem Alv(z:Sy D)(h:Rr R D){o:Bo}{i:Ab}:T (o7 D o i) λD'=>(NoG R i->Rr (Aao R o i) D')/\Gw D D':=by
 have a:=z.l;have z3:=z.v;have z4:=z.c;have z5:=z.dev;unfold o7 Aao;rw[ofE z.z,aL,<-h.card];refine .bind ((YZ z.z h (DG R o.By)).mono λv hv=>?_);cases hx:R.members.get (DG R o.By) with
 |none=>exact(by grind [T.some,Gw.rfl'])
 |some x=>
  rw[hx] at hv;obtain⟨k,y,rfl,hy,hn,hM⟩:=hv;have hk:=(cr hy).1;rw[show decide ((k:Int)<0)=false from Dl aa,Bf,au,hy,aL,aL];unfold o6;refine .bind (.bind (.app cq (.bind (.set aa cq (.some ?_)))));rw[Px,Fw];refine .bind ((Alu (p:=λv=>aaZ (D.L.set k ⟨y.N,y.Role,true,i,o.Guards,o.Need,o.Wait,false,0⟩) v.Of) z3 (λj v acc hv hal=>?_) λacc=>?_).mono λq hq=>?_)
  .have hj:=(cr hv).1;unfold ni;simp only[eA hj,ax,au,hv,aL];grind [T.bind,T.mono,Alr,Sz,T.app,T.some]
  .grind [ni,eF]
  .subst hq;refine .some ⟨Ajh h hx hy hn hn ⟨hM.role,λc=>(by cases c),λg hg=>?_⟩ rfl rfl (λq=>rfl),rfl,Oa _ _⟩;cases hg;exact⟨rfl,rfl,rfl,rfl,rfl,rfl,rfl⟩
def Jt(o:Bo)(v:I6):Bool:=decide (v.Of=o.Of)&&(decide (v.By=o.By)&&decide (v.Device=o.Device))
theorem AeK{v:I6}:Jt o v=true↔v.Of=o.Of/\v.By=o.By/\v.Device=o.Device:=by grind [Jt]
theorem AnI(z:Sy D)(h:Rr R D)(o:Bo):T (AH (nj D o) (o.At,[],0)) λx=>x.2=D.V.filter (λv=> !Jt o v)/\((x.1=o.At/\∀v∈D.V,Jt o v=false)\/∃v∈D.V,Jt o v=true/\x.1=iI o.At v.At):=by
 have z3:=z.v;refine T.loop (λs=>∃k:Nat,k<=D.V.length/\s.2.2=(k:Int)/\s.2.1=(D.V.take k).filter (λv=> !Jt o v)/\((s.1=o.At/\∀v∈D.V.take k,Jt o v=false)\/∃(j:Nat) (v:I6),j<k/\D.V[j]?=some v/\Jt o v=true/\s.1=iI o.At v.At)) (λs=>D.V.length-s.2.2.toNat) (by grind) cq ?_;rintro⟨a,acc,i⟩ ⟨k,hk,rfl,ha,hm⟩;dsimp only at ha hm;subst ha;unfold nj;dsimp only;rcases JB k D.V.length with hlt|hge
 .obtain⟨v,hv,_⟩:=Hm hlt;have hla:((D.V.take k).filter (λv=> !Jt o v)).length<=k:=by grind
  have ew:=aq (show k<2305843009213693952 by omega);have e:(D.V.take (k+1)).filter (λv=> !Jt o v)=(D.V.take k).filter (λv=> !Jt o v)++(if Jt o v=true then[] else[v]):=by rw[Rb hv,Se];cases c:Jt o v<;>simp[c]
  simp only[eA hlt,ax,au,hv,aL];refine .bind (T.mono (Q:=λq=>q=Jt o v) (by grind [Jt,T.some]) λq hq=>?_)
  subst hq;cases c:Jt o v with
  |true=>
   rw[c,BB rfl,LP] at e;rw[ax];refine .some ⟨⟨k+1,aa,ew,e.symm,.inr ⟨k,v,aa,hv,c,?_⟩⟩,by rw[ew];simp;omega⟩;rcases hm with⟨rfl,_⟩|⟨j,w,hj,hw,hc,_⟩
   .rfl
   .have kc:∀u:I6,Jt o u=true->(u.Of,u.By,u.Device)=(o.Of,o.By,o.Device):=by grind [Jt]
    have e1:(D.V.map λv=>(v.Of,v.By,v.Device))[j]?=some (o.Of,o.By,o.Device):=by grind
    have e2:(D.V.map λv=>(v.Of,v.By,v.Device))[k]?=some (o.Of,o.By,o.Device):=by grind
    have:=Nf h.vnd e1 e2;omega
  |false=>rw[c,BX aC] at e;rw[Bf];refine .bind (.app cq (.some ⟨⟨k+1,aa,ew,e.symm,?_⟩,by rw[ew];simp;omega⟩));grind [Rb]
 .obtain rfl:k=D.V.length:=aa;rw[eF,Bf];rw[EZ] at hm⊢;refine .some ⟨rfl,?_⟩;grind
theorem AeL(h:Rr R D)(hR:Bi R){x:AA}{g g2:CM}{a:Int}{M:FM Int AA}(hx:R.members.get m=some x)(hg:x.guard=some g)(hid:g.id=o.Of)(e2:∀y,Mr x y->Mr ⟨x.role,some g2⟩ y)(ei:g2.id=g.id)(hM:∀q,M.get q=if q=m then some ⟨x.role,some g2⟩else R.members.get q)(hv:∀q,g2.vouches.get q=if q=XR o then some a else g.vouches.get q):Rr {R with members:=M} {D with V:=D.V.filter (λv=> !Jt o v)++[⟨o.Of,o.By,o.Device,a⟩]} where
 card:=h.card
 nd:=h.nd
 in_:=h.in_
 was:=h.was
 w0:=h.w0
 ln:=h.ln
 no q hq y hy:=by grind [Rr.no]
 mem q z hq:=by grind [Rr.mem]
 vou q z g' hq hg':=by
  have hq:M.get q=some z:=hq;intro b d c;have hkb:∀v:I6,(!Jt o v)=true↔¬(v.Of=o.Of/\v.By=o.By/\v.Device=o.Device):=by grind [AeK]
  have hV:∀i,Ag3 (D.V.filter (λv=> !Jt o v)++[⟨o.Of,o.By,o.Device,a⟩]) i b d c↔(i=o.Of/\b=o.By/\d=o.Device/\c=a)\/(¬(i=o.Of/\b=o.By/\d=o.Device)/\Ag3 D.V i b d c):=λi=>by
   constructor
   .rintro⟨v,hv,e1,e2,e3,e4⟩;rcases JF.1 hv with hv|hv
    .rw[Hl,hkb,e1,e2,e3] at hv;exact .inr ⟨hv.2,v,hv.1,e1,e2,e3,e4⟩
    grind
   .rintro(⟨rfl,rfl,rfl,rfl⟩|⟨hne,v,hv,e1,e2,e3,e4⟩)
    .exact⟨_,JF.2 (.inr (List.mem_singleton.2 rfl)),rfl,rfl,rfl,rfl⟩
    .exact⟨v,(by grind),e1,e2,e3,e4⟩
  show _↔Ag3 (D.V.filter (λv=> !Jt o v)++[⟨o.Of,o.By,o.Device,a⟩]) g'.id b d c;rw[hV];rw[hM] at hq;split at hq
  .grind [Rr.vou]
  .rename_i hne;rw[h.vou q z g' hq hg'];have hd:g'.id≠o.Of:=by grind [Bi]
   grind
 vof v e:=by grind [Rr.vof]
 vnd:=by show((D.V.filter (λv=> !Jt o v)++[(⟨o.Of,o.By,o.Device,a⟩:I6)]).map λv=>(v.Of,v.By,v.Device)).Nodup;rw[List.map_append,Fi,List.map_nil,List.perm_append_comm.nodup_iff,List.singleton_append,M0];refine⟨λhh=>?_,h.vnd.sublist (List.filter_sublist.map _)⟩;grind [Jt]
 back:=h.back
 d6:=h.d6
theorem AnJ(z:Sy D)(h:Rr R D)(hR:Bi R)(o:Bo):T (o8 D o) λD'=>Rr (ZH R o) D'/\Gv D D':=by
 have z3:=z.v;unfold o8;refine .bind ((aaV z.z h hR o).mono λv hv=>?_);rw[hv.1];cases hf:R.members.es.find? λe=>LB e.2.1 o.Of with
 |none=>grind [Dq,ZH,T.some,Gw.gv,Gw.rfl']
 |some e=>
  obtain⟨hx,_⟩:=hR.mem (List.mem_of_find?_eq_some hf);have hge:LB e.2.1 o.Of=true:=by have:=List.find?_some hf;exact this
  obtain⟨q,⟨role,gd⟩,n⟩:=e;dsimp only at hx hge;cases gd with
  |none=>cases hge
  |some g=>
  have hid:g.id=o.Of:=DV hge;have e1:Dq R o=bif g.guards.any (λy=>decide (o.By=y))then(q,0)else(0,14):=by unfold Dq;rw[hf]
  have e2:ZH R o=bif(g.guards.any λy=>decide (o.By=y))&&Aan g o then HU R q ⟨role,some (Acv g o)⟩else R:=by unfold ZH;rw[hf]
  rw[e1,e2];cases hb:g.guards.any λy=>decide (o.By=y) with
  |false=>exact .some ⟨h,Gw.rfl'.gv⟩
  |true=>
  rw[ax,Bool.true_and];refine .bind ((AnI z h o).mono λx hx2=>?_);obtain⟨b,V'⟩:=x;obtain⟨h1,h2⟩:=hx2;dsimp only at h1 h2;subst h1;have hfl:(D.V.filter λv=> !Jt o v).length<=D.V.length:=Oa _ _;refine .bind (.app cq (.some ⟨?_,rfl,by simp;omega⟩));have key:∀a,g.vouches.get (XR o)=some a↔∃v∈D.V,Jt o v=true/\v.At=a:=λa=>by
   rw[show XR o=⟨o.By,o.Device⟩ from rfl,h.vou q _ g hx rfl];constructor
   .rintro⟨v,hv,k1,k2,k3,c⟩;grind [Jt]
   .rintro⟨v,hv,k1,k2⟩;unfold Jt at k1;simp only[bA,decide_eq_true_eq] at k1;exact⟨v,hv,k1.1.trans hid.symm,k1.2.1,k1.2.2,k2⟩
  have keep:g.vouches.get (XR o)=some b->Rr R {D with V:=D.V.filter (λv=> !Jt o v)++[⟨o.Of,o.By,o.Device,b⟩]}:=λhk=>AeL (M:=R.members) (g2:=g) (a:=b) h hR hx rfl hid (λy hy=>hy) rfl (by grind) (by grind);have new:b=o.At->Rr (HU R q ⟨role,some (Acv g o)⟩) {D with V:=D.V.filter (λv=> !Jt o v)++[⟨o.Of,o.By,o.Device,b⟩]}:=λhk=>AeL (M:=CA R.members q ⟨role,some (Acv g o)⟩) (g2:=Acv g o) (a:=b) h hR hx rfl hid (by grind [Mr]) rfl (λp=>by rw[Bz]) (by grind [Bz]);cases hg:g.vouches.get (XR o) with
  |none=>
   have hN:Aan g o=true:=by unfold Aan;rw[hg]
   rw[hN];rcases h2 with⟨h2,_⟩|⟨v,hv,h3,h4⟩
   .exact new h2
   .have:=(key v.At).2 ⟨v,hv,h3,rfl⟩;rw[hg] at this;cases this
  |some a=>
   have hN:Aan g o=decide (o.At<a):=by unfold Aan;rw[hg]
   obtain⟨w,hw,k1,k2⟩:=(key a).1 hg;have hmn:b=iI o.At a:=by
    rcases h2 with⟨_,h2⟩|⟨v,hv,h3,h4⟩
    .rw[h2 w hw] at k1;cases k1
    .have:=(key v.At).2 ⟨v,hv,h3,rfl⟩;grind
   grind [iI]
theorem AnK(z:Sy D)(h:Rr R D)(hR:Bi R)(o:Bo):T ((bif 0<ah D.In then(some true)else(bif 0<ah D.Gone then(some true)else((gE D o.By).bind λa=>some (decide (a=0))))).bind λb=>bif b then(some D)else((nX D o.By 3).bind λv9=>some ({v9 with Back:=o.Need}))) λD'=>Rr (Abs R o) D'/\Gw D D':=by
 have hw:=h.w0;unfold Abs;rw[ofE z.z,<-h.card,aL];unfold ah;rcases Nat.eq_zero_or_pos D.In.length with c1|c1
 .rcases Nat.eq_zero_or_pos D.Gone.length with c2|c2
  .have hi:D.In=[]:=List.eq_nil_of_length_eq_zero c1;have hg:D.Gone=[]:=List.eq_nil_of_length_eq_zero c2;have hf:D3 R o.By=decide (0<DG R o.By):=by grind [Rr.was,D3,EY]
   rw[c1,c2,hw,c1,c2,hf];have h0:=(hR.c3 o.By).1;have h0:0<=DG R o.By:=h0;rw[show decide ((0:Int)<((0:Nat):Int))=false from rfl,Bf,Bf,aL,show decide ((((0+0:Nat)):Int)=0)=true from rfl,Bool.true_and];by_cases c3:DG R o.By=0
   .rw[C6 c3,c3];exact .some ⟨h,.rfl'⟩
   .rw[Dl c3,show decide (0<DG R o.By)=true from C6 aa,Bf,ax];refine .bind ((AbX z h hR o.By 3).mono λD' hD=> .some ?_);have h1:=hD.1;exact⟨⟨h1.card,h1.nd,h1.in_,h1.was,h1.w0,h1.ln,h1.no,h1.mem,h1.vou,h1.vof,h1.vnd,rfl,h1.d6⟩,hD.2.c,hD.2.v⟩
  grind [T.some,Gw.rfl']
 grind [T.some,Gw.rfl']
theorem AnL(z:Sy D)(h:Rr R D)(o:Bo){v3:Int}(hv:match R.members.get (DG R o.By) with
  |none=>v3= -1
  |some x=>∃(k:Nat) (y:GR),v3=(k:Int)/\D.L[k]?=some y/\y.N=DG R o.By/\Mr x y):T ((bif 0<=v3 then((aS D.L (Fv v3 0)).bind λb=>bif b.Is then((aS D.L (Fv v3 0)).bind λc=>some (decide (c.ID=o.Of)))else(some false))else(some false)).bind λd=>bif d then((aS D.L v3).bind λa=>(o6 D.L v3 ({a with Objected:=true,Last:=Fv a.Last o.At})).bind λf=>some ({D with L:=f}))else(some D)) λD'=>Rr (Vb R o) D'/\Gw D D':=by
 have i:=z.l
 cases hx:R.members.get (DG R o.By) with
 |none=>
  grind [Vb,T.some,Gw.rfl']
 |some x=>
  rw[hx] at hv
  obtain⟨k,y,rfl,hy,hn,hM⟩:=hv
  have hk:=(cr hy).1
  have hmx:Fv (k:Int) 0=(k:Int):=by unfold Fv;rw[BX aa]
  rw[show decide ((0:Int)<=(k:Int))=true from C6 aa,ax,hmx,au,hy,aL,aL]
  obtain⟨role,gd⟩:=x
  cases gd with
  |none=>
   grind [Vb,Mr.no,T.some,Gw.rfl']
  |some g=>
   have h1:=hM.gd g rfl
   have e:Vb R o=bif g.id=o.Of then HU R (DG R o.By) ⟨role,some {g with objected:=true,last:=Fv g.last o.At}⟩else R:=by unfold Vb;rw[hx]
   rw[e,h1.1,h1.2.1,ax,aL]
   cases decide (g.id=o.Of) with
   |false=>exact .some ⟨h,.rfl'⟩
   |true=>
    rw[ax,ax,aL]
    unfold o6
    refine .bind (.bind (.app cq (.bind (.set aa cq (.some (.some ?_))))))
    rw[Px,Fw]
    refine⟨AeJ h hx hy hn hn (by grind [Mr]) (λj hg'=>?_) (by grind),rfl,Dk _⟩
    all_goals grind
theorem AnM(z:Sy D)(h:Rr R D)(hR:Bi R)(o:Bo):T ((jN D o.Of).bind λb=>(bif 0<=b then((fb D.In o.Old).bind λj=>bif j then((gE D o.Old).bind λl=>(aS D.L (Fv b 0)).bind λm=>bif l=m.N then((gE D o.Device).bind λn=>(aS D.L (Fv b 0)).bind λp=>some (decide (n=p.N)))else(some false))else(some false))else(some false)).bind λq=>bif q then((gE D o.Device).bind λd=>(se D d).bind λf=>(nX D o.Device f).bind λi=>(sh i o.Old).bind λa=>some a)else(some D)) λD'=>Rr (ZL R o) D'/\Gw D D':=by
 refine .bind ((Alm z.z h hR o.Of).mono λv hv=>?_);have fin:T (bif Acw R o then((gE D o.Device).bind λd=>(se D d).bind λf=>(nX D o.Device f).bind λi=>(sh i o.Old).bind λa=>some a)else(some D)) λD'=>Rr (ZL R o) D'/\Gw D D':=by
  unfold ZL;cases Acw R o with
  |false=>exact .some ⟨h,.rfl'⟩
  |true=>rw[ax,ax,ofE z.z,aL,<-h.card,Aix z.z h,aL];refine .bind ((AbX z h hR _ _).mono λD' hD=>?_);refine .bind ((Aiy (AcT hD.1 (Hv hR _ _) (hD.2.c▸z.c) (Nj hD.2.v z.v)) hD.1 (Hv hR _ _) o.Old).mono λv hv=> .some ⟨hv.1,hv.2.c.trans hD.2.c,Nj hv.2.v hD.2.v⟩)
 cases hf:R.members.es.find? λe=>LB e.2.1 o.Of with
 |none=>grind [Acw,Hw]
 |some e=>
  rw[hf] at hv;obtain⟨k,y,g,rfl,hy,hn,_,_,_,hx⟩:=hv;have hw:Hw R o.Of=e.1:=by unfold Hw;rw[hf]
  have h3:=hR.m3 e (List.mem_of_find?_eq_some hf);have hB:Acw R o=bif PR R o.Old then(bif DG R o.Old=e.1 then decide (DG R o.Device=e.1)else false)else false:=by grind [Acw]
  have hmx:Fv (k:Int) 0=(k:Int):=by unfold Fv;rw[BX aa]
  rw[show decide ((0:Int)<=(k:Int))=true from C6 aa,ax,inE z.z h,aL,hmx,au,hy];grind [ofE,Sy.z,Rr.card]
theorem doE(z:Sy D)(h:Rr R D)(hR:Bi R){o:Bo}{i:Ab}(hf:o.Kind=9->NoG R i):T (DM D o i) λD'=>Rr (Wq R o i) D'/\Gv D D':=by
 unfold DM;refine .eqb (ofE z.z o.By) ?_;rw[<-h.card];refine .bind ((YZ z.z h (DG R o.By)).mono λv3 hv=>?_);unfold Wq;refine .dec (λk1=>?_) λk1=>?_
 .rw[BB k1];exact(AnK z h hR o).mono λ_ q=>⟨q.1,q.2.gv⟩
 rw[BX k1];refine .dec (λk2=>?_) λk2=>?_
 .rw[BB k2];exact .bind ((AbX z h hR _ _).mono λ_ q=> .some ⟨q.1,q.2.gv⟩)
 rw[BX k2];refine .dec (λk3=>?_) λk3=>?_
 .rw[BB k3];by_cases c:o.Device=0
  .rw[BB c,C6 c,ax,AnF z o rfl,aL,aL];exact .bind ((AnG z h hR o).mono λ_ q=> .some ⟨q.1,q.2.gv⟩)
  .rw[BX c,Dl c,Bf,aL];exact .bind ((Aiz [o.Device] aC z h hR).mono λ_ q=> .some ⟨q.1,q.2.gv⟩)
 rw[BX k3];refine .dec (λk5=>?_) λk5=>?_
 .rw[BB k5];exact(Alq z h o).mono λ_ q=>⟨q.1,q.2.gv⟩
 rw[BX k5];refine .dec (λk9=>?_) λk9=>?_
 .rw[BB k9];exact .bind ((Alv z h).mono λ_ q=> .some ⟨q.1 (hf k9),q.2.gv⟩)
 have a:=AnJ z h hR o;have b:=(AnL z h o hv).mono λ_ q=>(⟨q.1,q.2.gv⟩:Rr (Vb R o) _/\Gv D _);have c:=(AnM z h hR o).mono λ_ q=>(⟨q.1,q.2.gv⟩:Rr (ZL R o) _/\Gv D _);have d:=Gw.rfl'.gv (D:=D);grind [T.some]
theorem Alw(hc:∀d,DG (Hf cs) d=YF cs d):T (AV cs) (Rr (Hf cs)):=by
 refine .some ⟨hc,.nil,λd=>?_,λd=>?_,rfl,.nil,(by grind),λm x hm=>(by cases hm),λm x g hm=>(by cases hm),λv hv=>(by cases hv),.nil,rfl,λd hd=>(by cases hd)⟩
 .rw[BX aC];rfl
 .rw[BX aC];rfl
end
def Gs(R:Ad)(S:Ba):Prop:=∀q z g,R.members.get q=some z->z.guard=some g->g.id∈S
section
variable {R:Ad} {S:Ba}
theorem Gs.up(h:Gs R S)(i:Ab):Gs R (S++[i]):=λq z g h1 h2=>by simp[h q z g h1 h2]
theorem Wz(h:Gs R S){M:FM Int AA}{k:Int}{x:AA}(hM:∀q,M.get q=if q=k then some x else R.members.get q)(hx:∀g,x.guard=some g->g.id∈S){Q:Ad}(hQ:Q.members=M):Gs Q S:=λq z g h1 h2=>by
 rw[hQ,hM] at h1;split at h1
 .cases h1;exact hx g h2
 .exact h q z g h1 h2
theorem WA(h:Gs R S)(d role:Int):Gs (Je R d role) S:=by
 unfold Je;cases D3 R d with
 |false=>exact h
 |true=>
  cases hm:(R.members.get (DG R d)).isSome with
  |true=>exact λq z g h1 h2=>h q z g (by grind) h2
  |false=>exact Wz h (M:=CA R.members (DG R d) ⟨role,none⟩) (λq=>Bz _ q) (λg hg=>by cases hg) (by rw[ax];simp[hm])
theorem aa1(h:Gs R S)(hR:Bi R)(d:Int):Gs (Ha R d) S:=by
 unfold Ha;cases PR R d with
 |false=>exact h
 |true=>
  cases MT (IK R d) (DG R d) with
  |true=>exact h
  |false=>
   intro q z g h1 h2;have h1:(LS R.members (DG R d)).get q=some z:=h1;rw[MY hR.cm] at h1;split at h1
   .cases h1
   .exact h q z g h1 h2
theorem Aji(h:Gs R S)(hR:Bi R)(m:Int):∀l:Bn,Gs (l.foldl (TB m) R) S:=λl=>by induction l generalizing R<;>grind [Adx,TB,aa1]
theorem AiA(h:Gs R S)(hR:Bi R)(o:Bo)(i:Ab):Gs (Wq R o i) (S++[i]):=by
 unfold Wq;split
 .unfold Abs;cases decide ((R.was.es.length:Int)=0)&&D3 R o.By with
  |false=>exact h.up i
  |true=>exact(WA h o.By 3).up i
 split
 .exact(WA h _ _).up i
 split
 .split
  .exact(Aji h hR _ _).up i
  .exact(aa1 h hR _).up i
 split
 .refine Gs.up ?_ i;unfold UJ;split
  .exact h
  .rename_i x hx;exact Wz h (x:=⟨o.Role,x.guard⟩) (λq=>Bz _ q) (λg hg=>h _ x g hx hg) rfl
 split
 .unfold Aao;split
  .exact h.up i
  .exact Wz (h.up i) (λq=>Bz _ q) (by grind) rfl
 split
 .refine Gs.up ?_ i;unfold ZH;split
  .rename_i k role g n hf;have hx:=(hR.mem (List.mem_of_find?_eq_some hf)).1;cases(g.guards.any λy=>decide (o.By=y))&&Aan g o with
   |false=>exact h
   |true=>exact Wz h (λq=>Bz _ q) (λa hg=>by cases hg;exact h _ _ g hx rfl) rfl
  .exact h
 split
 .refine Gs.up ?_ i;unfold Vb;split
  .rename_i role g hx;cases decide (g.id=o.Of) with
   |false=>exact h
   |true=>exact Wz h (λq=>Bz _ q) (λa hg=>by cases hg;exact h _ _ g hx rfl) rfl
  .exact h
 grind [Gs.up,ZL,aa1,WA,Hv]
end
structure Pg (g:Bc) (m:Jb) (N:I4):Prop where
 w:G9 g
 p:Ou g m N
 od:∀(i:Nat) (o:Bo) (x:Ab),g.L[i]?=some o->g.IDs[i]?=some x->Wv o x
 dv:∀(i:Nat) (o:Bo) (x:Ab),g.L[i]?=some o->g.IDs[i]?=some x->∃c∈g.Cards,c.Device=o.By
 cd:Aej g.Cards
 cn:(g.Cards.map (·.Device)).Nodup
section
variable {g:Bc} {m:Jb} {N:I4} (P:Pg g m N)
include P
theorem Pg.op{i:Nat}{o:Bo}{x:Ab}(ho:g.L[i]?=some o)(hx:g.IDs[i]?=some x):(Dd g m N).op x=some o/\(Dd g m N).o x=o:=by
 have e:(Dd g m N).op x=some o:=by rw[Agv P.w P.p,Pr P.w hx];exact ho
 grind [Gi.o]
theorem Pg.bef{i k:Nat}{x y:Ab}(hx:g.IDs[i]?=some x)(hy:g.IDs[k]?=some y):(Dd g m N).bef x y=RU g k i:=by rw[Agw P.w P.p,Pr P.w hx,Pr P.w hy]
theorem Pg.new(d:Int):DG (Hf g.Cards) d=YF g.Cards d:=by
 have key:∀(l:Mi) (M:FM Int DR),(l.map (·.Device)).Nodup->(∀c∈l,M.get c.Device=none)->(l.foldl (λm c=>CA m c.Device c) M).get d=match l.find? λc=>decide (c.Device=d) with|some c=>some c|none=>M.get d:=by
  intro l;induction l with
  |nil=>exact λM _ _=>rfl
  |cons c r ih=>grind [Bz]
 unfold DG YF Hf Akj;rw[key g.Cards ⟨[],0⟩ P.cn λc _=>rfl];cases g.Cards.find? λc=>decide (c.Device=d)<;>rfl
theorem ZZ{R:Ad}{D:DE}{n:Nat}(h:RkS g n D)(hn:n<=1000)(r:Rr R D)(q:Bi R):Sy D:=AcT r q (h.cards▸P.w.nC) (Nj h.nV aa)
theorem AnO{l:Bn}(hi:EF g l)(hl:l.length<=1000)(hnd:(I9 g l).Nodup){id:Ab}(hk:g.IDs[k]?=some id):T (Fg g l (k:Int)) λD=>Rr (XW (Dd g m N) (I9 g l) id) D/\Bi (XW (Dd g m N) (I9 g l) id)/\RkS g 1000 D:=by
 have w:=P.w;have nL:=w.nL;have nI:=w.nI;have hkl:k<g.L.length:=by grind
 obtain⟨d,e0,f⟩:=Alw (P.new);unfold Fg;rw[e0,aL];have hD0:d=⟨g.Cards,[],[],[],0,[]⟩:=(Bp e0).symm;subst hD0;refine .bind (T.mono (Q:=λD=>Rr (XW (Dd g m N) (I9 g l) id) D/\Bi (XW (Dd g m N) (I9 g l) id)/\RkS g 1000 D) (T.forA l.length (λj D=>(Rr (((I9 g l).take j).foldl (TD (Dd g m N) id) (Hf g.Cards)) D/\Bi (((I9 g l).take j).foldl (TD (Dd g m N) id) (Hf g.Cards))/\Gs (((I9 g l).take j).foldl (TD (Dd g m N) id) (Hf g.Cards)) ((I9 g l).take j))/\RkS g j D) aa ⟨⟨f,LT P.cd.r,λq z g h=>by cases h⟩,Mv g⟩ (λj D hj hr=>?_) λD hr=>?_) λD hr=> .some hr)
 .obtain⟨y,hy,hm⟩:=Hm hj;obtain⟨i,x,rfl,hil,hx,a⟩:=Ps w hi hy;obtain⟨o,ho,so,p⟩:=w.op hil;obtain⟨row,b,hrow,hb⟩:=w.cell hkl hil;obtain⟨⟨h1,h2,h3⟩,h4⟩:=hr;have hod:=P.od i o x ho hx;have c:=(P.op ho hx).2;have hbf:(Dd g m N).bef x id=b:=by rw[P.bef hx hk];grind [RU]
  have et:((I9 g l).take (j+1)).foldl (TD (Dd g m N) id) (Hf g.Cards)=bif b then Wq (((I9 g l).take j).foldl (TD (Dd g m N) id) (Hf g.Cards)) o x else((I9 g l).take j).foldl (TD (Dd g m N) id) (Hf g.Cards):=by rw[Rb a,Om,List.foldl_cons,List.foldl_nil];unfold TD;rw[hbf,c]
  have hxS:x∉(I9 g l).take j:=by grind [Gu,Nf]
  rw[et,Rb a];generalize ((I9 g l).take j).foldl (TD (Dd g m N) id) (Hf g.Cards)=R at h1 h2 h3⊢;unfold xx;simp only[eA hj,ax,au,hy,ho,hx,hrow,hb,aL];have z:=ZZ P h4 aa h1 h2;cases b with
  |true=>exact .bind ((doE z h1 h2 λ_ q z n k1 k2 e=>by have:=h3 q z n k1 k2;rw[e] at this;exact hxS this).mono λv hv=> .some (by constructor<;>grind [aq,Sb,AiA,RkS,Gv]))
  |false=>exact .some (by constructor<;>grind [aq,Gs.up,RkS.up])
 .unfold xx;dsimp only;rw[eF,Bf];have hl2:(I9 g l).length=l.length:=Gq ..;rw[<-hl2,EZ] at hr;exact .some ⟨hr.1.1,hr.1.2.1,hr.2.up aa⟩
end
structure Lr (g:Bc) (dl:JW) (al:Bb):Prop where
 row:EF g dl.Row
 nm:I9 g dl.Row=al.row
 nd:al.row.Nodup
 nr:dl.Row.length<=1000
 nv:dl.Void.length=g.L.length
 nc:dl.Decided.length=g.L.length
 fk:∀(p:Nat) (x:Ab),g.IDs[p]?=some x->dl.Fork[p]?=some (A7 (al.fork.get x))
 vd:∀(p:Nat) (x:Ab),g.IDs[p]?=some x->dl.Void[p]?=some (A7 (al.void.get x))
section
variable {g:Bc} {m:Jb} {N:I4} (P:Pg g m N)
include P
theorem AiB(h:Lr g dl al):T (SD g dl) λr=>EF g r/\r.length<=1000/\I9 g r=JU (Dd g m N) al/\(I9 g r).Sublist al.row:=by
 have w:=P.w;have nL:=w.nL;have hr:=h.nr;unfold SD JU;refine .bind (T.mono (Q:=λr=>EF g r/\r.length<=1000/\I9 g r=al.row.foldl (LD (Dd g m N) al.void) []/\(I9 g r).Sublist al.row) (T.forA dl.Row.length (λj r=>EF g r/\r.length<=j/\I9 g r=(al.row.take j).foldl (LD (Dd g m N) al.void) []/\(I9 g r).Sublist (al.row.take j)) aa ⟨.nil,aC,by simp[I9],by simp[I9]⟩ (λk acc hk hj=>?_) λr a=>?_) λr a=> .some a)
 .obtain⟨y,hy,hm⟩:=Hm hk;obtain⟨i,x,rfl,hil,hx,b⟩:=Ps w h.row hy;rw[h.nm] at b;obtain⟨o,ho,so,q⟩:=w.op hil;obtain⟨l,p,n,d⟩:=hj;have f:=(P.op ho hx).2;have hod:=P.od i o x ho hx;have hv:=h.vd i x hx;have hnd:(I9 g acc).Nodup:=(h.nd.sublist (List.take_sublist k _)).sublist d;rw[Rb b,Om,List.foldl_cons,List.foldl_nil,<-n];unfold um;simp only[eA hk,ax,au,hy,ho,hx,hv,aL];have keep:(I9 g acc).Sublist (al.row.take k++[x]):=d.trans (List.sublist_append_left _ _);unfold LD;rw[f];cases hc:A7 (al.void.get x) with
  |true=>exact .some (by constructor<;>grind [aq])
  |false=>
   rw[Bf,Bf];refine .bind ((AnO P l aa hnd hx).mono λD hD=>?_);rw[Alo (ZZ P hD.2.2 aa hD.1 hD.2.1).z hD.1 hD.2.1 hod.g x,aL];refine .dec (λc=>?_) λc=>?_
   .rw[C6 c,ax];have e:I9 g (acc++[(i:Int)])=I9 g acc++[x]:=by simp[I9,hx]
    exact .bind (.app cq (.some ⟨aq aa,l.snoc hil,by simp;omega,e,e▸d.append (.refl _)⟩))
   .rw[Dl c,Bf];exact .some (by constructor<;>grind [aq])
 .unfold um;dsimp only;rw[eF,Bf];have hl2:al.row.length=dl.Row.length:=by rw[<-h.nm,Gq]
  rw[<-hl2,EZ] at a;exact .some ⟨a.1,aa,a.2.2.1,a.2.2.2⟩
theorem Ag4(d:Int):nT g d=some (match(Dd g m N).card d with|some c=>c.Member|none=>0):=by have nC:=P.w.nC;unfold nT;rw[Cw aa,aL];unfold mZ;show _=some (match g.Cards.find? (λc=>decide (c.Device=d)) with|some c=>c.Member|none=>0);grind
theorem Pg.same{i k:Nat}{x y:Ab}(hx:g.IDs[i]?=some x)(hy:g.IDs[k]?=some y):x=y↔(i:Int)=(k:Int):=by grind [Pg,Nf,G9.nd]
theorem AeM{i:Nat}{y:Ab}(hi:i<g.L.length)(hk:k<g.L.length)(hx:g.IDs[i]?=some x)(hy:g.IDs[k]?=some y):n9 g (i:Int) (k:Int)=some (Jn (Dd g m N) x y):=by
 have w:=P.w;obtain⟨a,ha,h,e⟩:=w.op hi;obtain⟨b,hb,f,cb⟩:=w.op hk;obtain⟨row,u,hrow,hu⟩:=w.cell hi hk;obtain⟨d,v,c,hv⟩:=w.cell hk hi;have ea:=P.op ha hx;have eb:=P.op hb hy;have e1:(Dd g m N).bef y x=u:=by rw[P.bef hy hx];grind [RU]
 have e2:(Dd g m N).bef x y=v:=by rw[P.bef hx hy];grind [RU]
 have hby:=P.same hx hy;unfold n9 Jn;simp only[au,ha,hb,hrow,hu,c,hv,aL,ea.1,eb.1,ea.2,eb.2,e1,e2,Option.isSome_some,Bool.true_and];have hd:decide (x=y)=decide ((i:Int)=(k:Int)):=decide_eq_decide.2 hby;rw[hd];cases decide ((i:Int)=(k:Int)) with
 |true=>rfl
 |false=>
 cases u with
 |true=>cases v<;>rfl
 |false=>
 cases v with
 |true=>rfl
 |false=>
 simp only[Bf,aL,Bool.not_false,Bool.true_and];unfold Akn AbA;rw[Ag4 P];by_cases k3:a.Kind=3
 .rw[k3];simp only[Int.reduceEq,decide_true,decide_false,ax,Bf];by_cases hD:a.Device=0
  .have hm:=T1 e.numbers|>.k3 k3;grind [Dl]
  grind
 grind
theorem AeN(h:Lr g dl al){i:Nat}{y:Ab}(hi:i<g.L.length)(hk:k<g.L.length)(hx:g.IDs[i]?=some x)(hy:g.IDs[k]?=some y):qW g dl (i:Int) (k:Int)=some (D5 (Dd g m N) al.row x y):=by
 have w:=P.w;have hr:=h.nr;have hby:=P.same hx hy;unfold qW D5;rw[show decide (x=y)=decide ((i:Int)=(k:Int)) from decide_eq_decide.2 hby];cases decide ((i:Int)=(k:Int)) with
 |true=>rfl
 |false=>
 rw[Bf,Bool.not_false,Bool.true_and];refine T.eq (.bind ((T.search dl.Row (λz=>X3 (Dd g m N) x y ((g.IDs[z.toNat]?).getD ⟨0,0,0⟩)) (λk _=>true) aa (λj z hz hj=>?_) ?_).mono ?_))
 .obtain⟨q,v,rfl,a,hv,_⟩:=Ps w h.row hz;obtain⟨row,u,hrow,hu⟩:=w.cell hi a;have e1:(Dd g m N).bef v x=u:=by rw[P.bef hv hx];grind [RU]
  have hvx:decide (v=x)=decide ((q:Int)=(i:Int)):=decide_eq_decide.2 (P.same hv hx);unfold qV X3;rw[eA hj,ax,au,hz,aL,Fw,hv,Nt,aq aa,e1,hvx,AeM P hk a hy hv];grind [au]
 .unfold qV;rw[eF,Bf]
 .have hmap:∀z∈dl.Row,((g.IDs[z.toNat]?).getD ⟨0,0,0⟩)∈al.row:=by grind [Lr.nm]
  rintro r (⟨rfl,hn⟩|⟨j,z,hz,hp,rfl,hn⟩)
  .refine .some ?_;grind [Lr.nm]
  .refine .some ?_;grind
end
theorem AaW(c:Ga o)(h:R1 o=some d):1<=d/\d<=12:=by have f:=T1 c.numbers;grind [Ot,R1]
theorem AeO(o:Bo):LJ o=some ((R1 o).getD 0):=by grind [LJ,R1]
theorem Alx{l:Bn}(hd:l.Nodup)(h:∀x∈l,1<=x/\x<=12):l.length<=12:=by
 have hs:∀x∈l.map Int.toNat,x∈List.range' 1 12:=by grind
 have hn:(l.map Int.toNat).Nodup:=aaW (g:=id) (by rw[List.map_id];exact hd) (by grind);have:=Rf hn hs;rwa [Gq,List.length_range'] at this
theorem AcV{I:Gi}:∀{l:Ba} {acc:Bn},acc.Nodup->(l.foldl (TG I) acc).Nodup
 |[],acc,h=>h
 |x::r,acc,h=>by refine AcV (l:=r) ?_;grind [TG]
theorem AaX{I:Gi}{Q:Int->Prop}:∀{l:Ba} {acc:Bn},(∀x∈l,∀d,R1 (I.o x)=some d->Q d)->(∀d∈acc,Q d)->∀d∈l.foldl (TG I) acc,Q d
 |[],acc,_,h=>h
 |x::r,acc,hx,h=>by refine AaX (l:=r) (by grind) ?_;grind [TG]
theorem AcW{m:FM Int Int}{s:Bn}(hn:s.Nodup){d:Int}:∀k,k<=s.length->(∀j:Nat,j<k->s[j]?=some d->(Vc m s k).get d=some (j:Int))/\((∀j:Nat,j<k->s[j]?≠some d)->(Vc m s k).get d=m.get d)
 |0,_=>⟨λj h=>aa,λ_=>rfl⟩
 |k+1,hk=>by
  have ih:=AcW (m:=m) hn (d:=d) k aa;obtain⟨x,hx,_⟩:=Hm (l:=s) (k:=k) aa;have e:Vc m s (k+1)=CA (Vc m s k) x (k:Int):=by show(match s[k]? with|some d=>_|none=>_)=_;rw[hx]
  rw[e,Bz];refine⟨λj hj hd=>?_,λhne=>?_⟩
  .grind [Nf]
  grind
theorem AcX{d:Int}:∀{cs:Mi} {m:FM Int Int},(∃c∈cs,c.Device=d)\/m.get d=some 12->(cs.foldl (λm c=>CA m c.Device 12) m).get d=some 12
 |[],m,h=>by grind
 |c::r,m,h=>by refine AcX (cs:=r) ?_;grind [Bz]
def snD(s:Bn)(d:Int):Int:=match bu d s with
 |some j=>(j:Int)
 |none=>(s.length:Int)
theorem aa2{s:Bn}(hn:s.length<=1000)(d:Int):oa s d=some (snD s d):=by
 unfold oa;refine T.eq (.bind ((T.search s (λx=>decide (x=d)) (λk _=>(k:Int)) aa (λk x hx hk=>?_) ?_).mono ?_))
 .grind [ph,eA,au,aq]
 .unfold ph;rw[eF,Bf]
 .rintro r (⟨rfl,h⟩|⟨k,x,hx,hp,rfl,h⟩)
  .have:bu d s=none:=by grind [jv]
   refine .some ?_;unfold snD;rw[this];rfl
  .have hp:=DV hp;subst hp;have:bu x s=some k:=by grind [y0]
   refine .some ?_;unfold snD;rw[this]
theorem Ajj{s:Bn}(hn:s.Nodup)(hl:s.length<=12){e:Int}(hd:∃c∈cs,c.Device=d)(he:∃c∈cs,c.Device=e):decide (SB (O8 cs s) d<SB (O8 cs s) e)=decide (snD s d<snD s e):=by
 have at_:∀d,(∃c∈cs,c.Device=d)->(∃j:Nat,j<s.length/\SB (O8 cs s) d=(j:Int)/\snD s d=(j:Int))\/(SB (O8 cs s) d=12/\snD s d=(s.length:Int)):=λd hd=>by have h:=AcW (m:=TF cs) hn (d:=d) s.length (Dk _);unfold SB O8 snD;grind [gb,jv,TF,AcX]
 grind
section
variable {g:Bc} {m:Jb} {N:I4} (P:Pg g m N)
include P
theorem AaY{ids row:Ba}(ho:n8 g ids=some row)(hn:row.length<=1000)(hm:∀x∈row,x∈g.IDs):jn g ids=some (N3 (Dd g m N) row):=by
 have w:=P.w;have nL:=w.nL;have nI:=w.nI;unfold jn;rw[ho,aL];refine T.eq (.bind (T.mono (Q:=λr=>r=N3 (Dd g m N) row) (T.forA row.length (λk acc=>acc=(row.take k).foldl (TG (Dd g m N)) []) aa rfl (λk acc hk hj=>?_) λacc hj=>?_) λr hr=> .some hr))
 .obtain⟨x,hx,hmx⟩:=Hm hk;obtain⟨i,hi⟩:=Gu (hm x hmx);have hil:i<g.L.length:=by grind
  obtain⟨o,a,so,c⟩:=w.op hil;have hpz:gO g x=(i:Int):=by unfold gO;rw[Pr w hi]
  have b:=(P.op a hi).2;have hal:=X9 (I:=Dd g m N) (l:=row.take k) (acc:=[]);rw[Lv,List.length_nil,<-hj] at hal;rw[Rb hx,Om,List.foldl_cons,List.foldl_nil,<-hj];unfold TG;rw[b];unfold nk;simp only[eA hk,ax,au,hx,aL,qR,dC (show g.IDs.length<=1000000 by omega),hpz,a,AeO];cases hc:R1 o with
  |none=>exact .some ⟨aq aa,rfl⟩
  |some d=>
   have hd:=AaW c hc;rw[Nt,show decide (0<d)=true from C6 aa,ax,cX aa,aL];have hb:QF acc d=acc.any (λy=>decide (d=y)):=by grind [JK]
   rw[hb,aL];dsimp only;cases acc.any (λy=>decide (d=y)) with
   |true=>exact .some ⟨aq aa,rfl⟩
   |false=>exact .bind (.app cq (.some ⟨aq aa,rfl⟩))
 .unfold nk;dsimp only;rw[eF,Bf];refine .some (show acc=_ from ?_);rw[hj,EZ];rfl
end
def Y0(lt:Ab->Ab->Bool)(b:Option Ab)(x:Ab):Option Ab:=match b with
 |none=>some x
 |some y=>bif lt x y then some x else some y
theorem AnP{I:Gi}{row l:Ba}{sen:FM Int Int}(hl:l.length<=1000):T (AH (Agp I row l sen) (0,-1)) λr=>(∃(i:Nat) (x:Ab),r=(i:Int)/\l[i]?=some x/\(l.find? (λx=> !l.any (D5 I row x))=some x\/(l.find? (λx=> !l.any (D5 I row x))=none/\l.foldl (Y0 λx y=>decide (SB sen x.By<SB sen y.By)) none=some x)))\/(l=[]/\r= -1):=by
 refine T.loop (λs=>s.1<=l.length/\(∀y∈l.take s.1,(!l.any (D5 I row y))=false)/\((s.1=0/\s.2= -1)\/∃(i:Nat) (x:Ab),s.2=(i:Int)/\l[i]?=some x/\(l.take s.1).foldl (Y0 λx y=>decide (SB sen x.By<SB sen y.By)) none=some x)) (λs=>l.length-s.1) (by grind) (by show l.length-0<_;omega) ?_;rintro⟨k,b⟩ ⟨hk,hw,hb⟩;dsimp only at hk hw hb;unfold Agp;dsimp only;cases hx:l[k]? with
 |none=>
  have hge:l.length<=k:=List.getElem?_eq_none_iff.1 hx;obtain rfl:k=l.length:=aa;rw[EZ] at hw hb;dsimp only;rw[Nat.beq_refl,ax];refine .some ?_;rcases hb with⟨h1,h2⟩|⟨i,x,h1,h2,h3⟩
  .exact .inr ⟨List.length_eq_zero_iff.1 h1,h2⟩
  .exact .inl (by grind)
 |some x=>
  have hlt:=(cr hx).1;dsimp only;refine .ite (λha=>?_) λha=> .some (.inl ⟨k,x,rfl,hx,.inl ?_⟩)
  .have hw':∀y∈l.take (k+1),(!l.any (D5 I row y))=false:=λy hy=>by rw[Rb hx] at hy;grind
   have ef:(l.take (k+1)).foldl (Y0 λx y=>decide (SB sen x.By<SB sen y.By)) none=Y0 (λx y=>decide (SB sen x.By<SB sen y.By)) ((l.take k).foldl (Y0 λx y=>decide (SB sen x.By<SB sen y.By)) none) x:=by rw[Rb hx,Om];rfl
   unfold upB;rcases hb with⟨rfl,rfl⟩|⟨i,y,rfl,hi,hf⟩
   .refine .some ⟨⟨aa,hw',.inr ⟨0,x,rfl,hx,?_⟩⟩,by show l.length-1<l.length-0;omega⟩;rw[ef];rfl
   .rw[hf] at ef;rw[show decide ((i:Int)<0)=false from Dl aa,Bf,au,hi,aL];cases hc:decide (SB sen x.By<SB sen y.By) with
    |true=>exact .some ⟨⟨by show k+1<=_;omega,hw',.inr ⟨k,x,rfl,hx,by rw[ef];show(bif SB sen x.By<SB sen y.By then some x else some y)=_;rw[hc];rfl⟩⟩,by grind⟩
    |false=>exact .some ⟨⟨by show k+1<=_;omega,hw',.inr ⟨i,y,rfl,hi,by rw[ef];show(bif SB sen x.By<SB sen y.By then some x else some y)=_;rw[hc];rfl⟩⟩,by grind⟩
  .rw[List.find?_eq_some_iff_getElem];obtain⟨h1,h2⟩:=cr hx;refine⟨by rw[ha];rfl,k,h1,h2,λj hj=>?_⟩;have hj':l[j]?=some (l[j]'aa):=EA _;have:=hw _ (bO (i:=j) (by rw[List.getElem?_take,BB hj];exact hj'));rw[this];simp
abbrev NxQ(g:Bc)(m:Jb)(N:I4)(al:Bb)(l:Ba)(lt:Ab->Ab->Bool)(nx:Int):Prop:=(∃(p:Nat) (x:Ab),nx=(p:Int)/\g.IDs[p]?=some x/\x∈l/\(l.find? (λx=> !l.any (D5 (Dd g m N) al.row x))=some x\/(l.find? (λx=> !l.any (D5 (Dd g m N) al.row x))=none/\l.foldl (Y0 lt) none=some x)))\/(l=[]/\nx= -1)
section
variable {g:Bc} {m:Jb} {N:I4} (P:Pg g m N)
include P
theorem Aly(h:Lr g dl al){l:Ba}{s:Bn}{lt:Ab->Ab->Bool}(hs:s.length<=1000)(hlf:l=al.row.filter λx=>decide (x∈l))(j:∀(p:Nat) (x:Ab),g.IDs[p]?=some x->x∈al.row->N8 g dl (p:Int)=some (decide (x∈l)))(hlt:∀x∈al.row,∀y∈al.row,lt x y=decide (snD s ((Dd g m N).o x).By<snD s ((Dd g m N).o y).By)):T (vL g dl s) λnx=>NxQ g m N al l lt nx:=by
 have w:=P.w;have hr:=h.nr;have inner:∀{i:Nat} {x:Ab},i<g.L.length->g.IDs[i]?=some x->AH (ut g dl (i:Int)) (true,0)=some (!l.any (D5 (Dd g m N) al.row x)):=λ{i x} hi hx=>by
  refine T.eq (T.forA dl.Row.length (λk b=>b= !((al.row.take k).any λy=>decide (y∈l)&&D5 (Dd g m N) al.row x y)) aa rfl (λk b hk hb=>?_) λb hb=>?_)
  .obtain⟨z,hz,_⟩:=Hm hk;obtain⟨q,v,rfl,d,hv,a⟩:=Ps w h.row hz;rw[h.nm] at a;unfold ut;simp only[eA hk,ax,au,hz,aL,j q v hv (bO a),AeN P h hi d hx hv];have e:((al.row.take (k+1)).any λy=>decide (y∈l)&&D5 (Dd g m N) al.row x y)=(((al.row.take k).any λy=>decide (y∈l)&&D5 (Dd g m N) al.row x y)||(decide (v∈l)&&D5 (Dd g m N) al.row x v)):=by rw[Rb a,List.any_append];simp
   rw[e];cases decide (v∈l) with
   |false=>exact .some ⟨aq aa,by simpa using hb⟩
   |true=>
    cases D5 (Dd g m N) al.row x v with
    |false=>exact .some ⟨aq aa,by simpa using hb⟩
    |true=>exact .some ⟨aq aa,aC⟩
  .unfold ut;dsimp only;rw[eF,Bf];refine .some (show b=_ from ?_);grind [Lr.nm,Gq]
 unfold vL;refine .bind ((T.forA (Q:=λr:Int⊕Int=>(∃(p:Nat) (x:Ab),r= .inr (p:Int)/\g.IDs[p]?=some x/\x∈l/\l.find? (λx=> !l.any (D5 (Dd g m N) al.row x))=some x)\/(∃(p:Nat) (x:Ab),r= .inl (p:Int)/\g.IDs[p]?=some x/\x∈l/\l.find? (λx=> !l.any (D5 (Dd g m N) al.row x))=none/\l.foldl (Y0 lt) none=some x)\/(l=[]/\r= .inl (-1))) dl.Row.length (λk b=>(∀y∈al.row.take k,y∈l->(!l.any (D5 (Dd g m N) al.row y))=false)/\((b= -1/\((al.row.take k).filter λx=>decide (x∈l))=[])\/∃(p:Nat) (x:Ab),b=(p:Int)/\p<g.L.length/\g.IDs[p]?=some x/\x∈l/\((al.row.take k).filter λx=>decide (x∈l)).foldl (Y0 lt) none=some x)) aa ⟨λy hy=>(by cases hy),.inl ⟨rfl,rfl⟩⟩ (λk b hk hb=>?_) λb hb=>?_).mono ?_)
 .obtain⟨z,hz,_⟩:=Hm hk;obtain⟨q,v,rfl,d,hv,a⟩:=Ps w h.row hz;rw[h.nm] at a;have n:=bO a;obtain⟨hb1,hb2⟩:=hb;have ef:(al.row.take (k+1)).filter (λx=>decide (x∈l))=(al.row.take k).filter (λx=>decide (x∈l))++(if v∈l then[v] else[]):=by rw[Rb a,Se];grind
  unfold uu;simp only[eA hk,ax,au,hz,aL,j q v hv n];by_cases c:v∈l
  .rw[BB c] at ef;rw[C6 c,Bool.not_true,Bf,inner d hv,aL];cases hany:l.any (D5 (Dd g m N) al.row v) with
   |false=>
    refine .some (.inl ⟨q,v,rfl,hv,c,?_⟩);have hkl:(al.row.take k).filter (λx=>decide (x∈l))++[v]++(al.row.drop (k+1)).filter (λx=>decide (x∈l))=l:=by grind [Pw]
    have:l.find? (λx=> !l.any (D5 (Dd g m N) al.row x))=((al.row.take k).filter (λx=>decide (x∈l))++[v]++(al.row.drop (k+1)).filter (λx=>decide (x∈l))).find? (λx=> !l.any (D5 (Dd g m N) al.row x)):=by rw[hkl]
    rw[this,List.append_assoc,List.find?_append,List.find?_eq_none.2 λy hy=>by rw[Hl] at hy;rw[hb1 y hy.1 (DV hy.2)];simp]
    rw[List.singleton_append,List.find?_cons,hany];rfl
   |true=>
    rw[Bool.not_true,Bf];have hb1':∀y∈al.row.take (k+1),y∈l->(!l.any (D5 (Dd g m N) al.row y))=false:=λy hy f=>by
     rw[Rb a] at hy;rcases JF.1 hy with hy|hy
     .exact hb1 y hy f
     .simp at hy;subst hy;rw[hany];rfl
    obtain⟨o,ho,so,u⟩:=w.op d;rcases hb2 with⟨rfl,he⟩|⟨p,y,rfl,hpl,hp,f,hf⟩
    .rw[show decide ((-1:Int)<0)=true from rfl,ax,aL,ax];refine .some ⟨aq aa,hb1',.inr ⟨q,v,rfl,d,hv,c,?_⟩⟩;rw[ef,he];rfl
    .obtain⟨t,ho2,_⟩:=w.op hpl;have hmx:Fv (p:Int) 0=(p:Int):=by unfold Fv;rw[BX aa]
     have hyr:y∈al.row:=by grind
     rw[show decide ((p:Int)<0)=false from Dl aa,Bf,hmx];simp only[au,ho,ho2,aL,aa2 hs];have hl1:=hlt v n y hyr;rw[(P.op ho hv).2,(P.op ho2 hp).2] at hl1;rw[<-hl1];have ef2:((al.row.take (k+1)).filter λx=>decide (x∈l)).foldl (Y0 lt) none=Y0 lt (some y) v:=by rw[ef,Om,hf];rfl
     cases hc:lt v y with
     |true=>exact .some ⟨aq aa,hb1',.inr ⟨q,v,rfl,d,hv,c,by rw[ef2];show(bif lt v y then some v else some y)=_;rw[hc];rfl⟩⟩
     |false=>exact .some ⟨aq aa,hb1',.inr ⟨p,y,rfl,hpl,hp,f,by rw[ef2];show(bif lt v y then some v else some y)=_;rw[hc];rfl⟩⟩
  .rw[BX c,LP] at ef;rw[Dl c,Bool.not_false,ax];refine .some ⟨aq aa,λy hy f=>?_,by rw[ef];exact hb2⟩;rw[Rb a] at hy;grind
 .unfold uu;dsimp only;rw[eF,Bf];have hl2:al.row.length=dl.Row.length:=by rw[<-h.nm,Gq]
  rw[<-hl2,EZ,<-hlf] at hb;refine .some ?_;obtain⟨hb1,hb2⟩:=hb;rcases hb2 with⟨rfl,he⟩|⟨p,x,rfl,_,hp,hx,hf⟩
  .exact .inr (.inr ⟨he,rfl⟩)
  .refine .inr (.inl ⟨p,x,rfl,hp,hx,List.find?_eq_none.2 λy hy=>?_,hf⟩);have hyr:y∈al.row:=by rw[hlf] at hy;exact(Hl.1 hy).1
   rw[hb1 y hyr hy];simp
 .rintro r (⟨p,x,rfl,hp,hx,h1⟩|⟨p,x,rfl,hp,hx,h1⟩|⟨h1,rfl⟩)
  .exact .some (.inl ⟨p,x,rfl,hp,hx,.inl h1⟩)
  .exact .some (.inl ⟨p,x,rfl,hp,hx,.inr h1⟩)
  .exact .some (.inr ⟨h1,rfl⟩)
end
theorem AbY{α:Type}[DecidableEq α]:∀{l row:List α},l.Sublist row->row.Nodup->l=row.filter λx=>decide (x∈l)
 |_,_,.slnil,_=>rfl
 |l,_,.cons (l₂:=r) a h,hn=>by rw[M0] at hn;rw[List.filter_cons_of_neg (by grind)];exact AbY h hn.2
 |_,_,.cons_cons (l₁:=l) (l₂:=r) a h,hn=>by rw[M0] at hn;rw[List.filter_cons_of_pos aC];have e:=AbY h hn.2;grind [List.filter_congr]
theorem AcY:A7 ((ofV vs).get x)=decide (x∈vs):=by
 have key:∀(l:Ba) (M:FM Ab Bool),A7 ((l.foldl (λm x=>CA m x true) M).get x)=(A7 (M.get x)||decide (x∈l)):=by intro l;induction l<;>grind [Bz,A7]
 unfold ofV;rw[key];rfl
theorem AcZ{I:Gi}{row left:Ba}{x y:Ab}:∀{l:Ba} {v:FM Ab Bool},A7 ((l.foldl (vFu I row left x) v).get y)=(A7 (v.get y)||(decide (y∈l)&&(Jn I x y||(left.any (λz=>decide (y=z))&&D5 I row x y))))
 |[],v=>aC
 |a::r,v=>by
  rw[List.foldl_cons,AcZ (l:=r)];have e:A7 ((vFu I row left x v a).get y)=(A7 (v.get y)||(decide (y=a)&&(Jn I x y||(left.any (λz=>decide (y=z))&&D5 I row x y)))):=by unfold vFu;grind [Bz,A7]
  grind
section
variable {g:Bc} {m:Jb} {N:I4} (P:Pg g m N)
include P
theorem Alz{row:Ba}(hi:Fm g ids)(ho:n8 g ids=some row)(hrn:row.Nodup)(hr:row.length<=1000)(hrm:∀x∈row,x∈g.IDs)(hv:vJ ids=some vs)(d:vs.length<=1000)(hvm:∀x∈vs,x∈g.IDs):T (Aa g ids) λc=>Lr g c (Vm ⟨g.Cards,m,N⟩ row vs)/\c.Decided=List.replicate g.L.length false:=by
 have w:=P.w;have nL:=w.nL;have nI:=w.nI;unfold Aa;rw[ho,aL];have hmk:rP 1 (false:Bool) (ah g.L)=some (List.replicate g.L.length false):=T.eq (.make (by unfold ah;omega) (by unfold ah;omega) (by unfold ah;omega) (by unfold ah;rw[Fw]));rw[hmk,aL,aL,aL];have pz:∀x∈g.IDs,∃i:Nat,g.IDs[i]?=some x/\i<g.L.length/\fC g x=some (i:Int):=λx hx=>by obtain⟨i,hi⟩:=Gu hx;have:=(cr hi).1;exact⟨i,hi,aa,by rw[dC aa];unfold gO;rw[Pr w hi]⟩
 refine .bind ((T.forA row.length (λk acc=>EF g acc/\acc.length=k/\I9 g acc=row.take k) aa ⟨.nil,rfl,rfl⟩ (λk acc hk hj=>?_) λacc hj=>?_).mono (Q:=λacc=>EF g acc/\acc.length=row.length/\I9 g acc=row) λb h10=>?_)
 .obtain⟨x,hx,hmx⟩:=Hm hk;obtain⟨i,hi,hil,hp⟩:=pz x (hrm x hmx);unfold uq;simp only[eA hk,ax,au,hx,aL,hp];refine .bind (.app cq (.some ⟨aq aa,hj.1.snoc hil,by simp;omega,?_⟩));grind [Rb]
 .unfold uq;dsimp only;rw[eF,Bf];rw[EZ] at hj;exact .some hj
 .rw[hv,aL];refine .bind ((T.loop (Q:=λr:List Bool×List Bool=>r.1.length=g.L.length/\∀(p:Nat) (x:Ab),g.IDs[p]?=some x->r.1[p]?=some (decide (x∈vs))/\r.2[p]?=some (decide (x∈vs))) (λs=>∃k:Nat,k<=vs.length/\s.2.2=(k:Int)/\s.1.length=g.L.length/\s.2.1.length=g.L.length/\∀(p:Nat) (x:Ab),g.IDs[p]?=some x->s.1[p]?=some (decide (x∈vs.take k))/\s.2.1[p]?=some (decide (x∈vs.take k))) (λs=>vs.length-s.2.2.toNat) ⟨0,aa,rfl,aC,aC,λp x hp=>?_⟩ cq ?_).mono λr a=>?_)
  .have:=(cr hp).1;show(List.replicate g.L.length false)[p]?=_/\(List.replicate g.L.length false)[p]?=_;rw[List.getElem?_replicate,BB aa];simp
  .rintro⟨V,F,i⟩ ⟨k,hk,rfl,h1,h2,h3⟩;dsimp only at h1 h2 h3;unfold uo;dsimp only;rcases JB k vs.length with hlt|hge
   .obtain⟨x,hx,hmx⟩:=Hm hlt;obtain⟨q,hq,e,hp⟩:=pz x (hvm x hmx);rw[eA hlt,ax,au,hx,aL,hp,aL];have ew:=aq (show k<2305843009213693952 by omega);refine .bind (.set aa aa (.bind (.set aa aa (.some ⟨⟨k+1,aa,ew,by simp;omega,by simp;omega,λp y hy=>?_⟩,by rw[ew];simp;omega⟩))));dsimp only;rw[Fw,List.getElem?_set,List.getElem?_set,Rb hx];have:=h3 p y hy;grind [Nf,G9.nd]
   .obtain rfl:k=vs.length:=aa;rw[eF,Bf];rw[EZ] at h3;exact .some ⟨h1,h3⟩
  .refine .some ⟨⟨h10.1,h10.2.2,hrn,by show b.length<=1000;omega,a.1,aC,λp x hp=>?_,λp x hp=>?_⟩,rfl⟩
   .show r.2[p]?=some (A7 ((ofV vs).get x));rw[AcY];exact(a.2 p x hp).2
   .show r.1[p]?=some (A7 ((ofV vs).get x));rw[AcY];exact(a.2 p x hp).1
structure RDb (g:Bc) (I:Gi) (dl:JW) (al:Bb) (a:Ba×FM Ab Bool) (V D:List Bool):Prop where
 lr:Lr g {dl with Void:=V,Decided:=D} (wV al a.2)
 sub:a.1.Sublist al.row
 kil:∀x∈a.1,JN (I.o x).Kind=true
 dec:∀(p:Nat) (x:Ab),g.IDs[p]?=some x->x∈al.row->JN (I.o x).Kind=true->A7 (a.2.get x)=false->D[p]?=some (!decide (x∈a.1))
structure RDc (g:Bc) (I:Gi) (dl:JW) (al:Bb) (s:Bn) (a:Ba×FM Ab Bool) (b:List Bool×List Bool×Int):Prop extends RDb g I dl al a b.1 b.2.1 where
 nx:vL g {dl with Void:=b.1,Decided:=b.2.1} s=some b.2.2
theorem AiD(h:RDb g (Dd g m N) dl al a V D)(hp:g.IDs[p]?=some x)(hx:x∈al.row):N8 g {dl with Void:=V,Decided:=D} (p:Int)=some (decide (x∈a.1.filter λx=> !A7 (a.2.get x))):=by
 have w:=P.w;have nI:=w.nI;have hpl:p<g.L.length:=by grind
 obtain⟨o,ho,so,c⟩:=w.op hpl;have b:=(P.op ho hp).2;have hv:=h.lr.vd p x hp;have hv:V[p]?=some (A7 (a.2.get x)):=hv;have hdl:=h.lr.nc;grind [N8,au,JN,RDb.kil,RDb.dec,Bp]
end
theorem AnQ{js:Bn}(hj:js.length<=1000)(hi:∀z∈js,∃q:Nat,z=(q:Int)/\q<V.length):T (AH (ng js) (V,0)) λW=>W.length=V.length/\∀(q:Nat) (b:Bool),V[q]?=some b->W[q]?=some (b||decide ((q:Int)∈js)):=by
 refine T.forA js.length (λk W=>W.length=V.length/\∀(q:Nat) (b:Bool),V[q]?=some b->W[q]?=some (b||decide ((q:Int)∈js.take k))) aa (by grind) (λk W hk a=>?_) λW a=>?_
 .obtain⟨z,hz,c⟩:=Hm hk;obtain⟨p,rfl,hp⟩:=hi z c;unfold ng;simp only[eA hk,ax,au,hz,aL];refine .bind (.set aa (by rw[a.1];omega) (.some ⟨aq aa,by rw[List.length_set];exact a.1,λq b h=>?_⟩));rw[Fw,List.getElem?_set,Rb hz];grind
 .unfold ng;dsimp only;rw[eF,Bf];rw[EZ] at a;exact .some a
theorem AaZ{σ1 σ2 ρ1 ρ2:Type}{s1:σ1->Option (σ1⊕ρ1)}{s2:σ2->Option (σ2⊕ρ2)}(R:σ1->σ2->Prop)(Q:ρ1->ρ2->Prop)(μ:σ1->Nat)(h:∀a b,R a b->∃u v,s1 a=some u/\s2 b=some v/\Sim (λa' b'=>R a' b'/\μ a'<μ a) Q u v):∀(n:Nat) (a:σ1) (b:σ2),μ a<n->R a b->∃q r,KN s1 n a=some q/\KN s2 n b=some r/\Q q r
 |0,a,b,hm,_=>absurd hm (Nat.not_lt_zero _)
 |n+1,a,b,hm,hR=>by
  obtain⟨u,v,e1,e2,hs⟩:=h a b hR;unfold KN;rw[e1,e2];cases u with
  |inl a'=>
   cases v with
   |inl b'=>exact AaZ R Q μ h n a' b' (by have:=hs.2;omega) hs.1
   |inr b'=>exact hs.elim
  |inr a'=>
   cases v with
   |inl b'=>exact hs.elim
   |inr b'=>exact⟨_,_,rfl,rfl,hs⟩
section
variable {g:Bc} {m:Jb} {N:I4} (P:Pg g m N)
include P
theorem AeP{l:Bn}(hi:EF g l)(hp:g.IDs[p]?=some x):(p:Int)∈l↔x∈I9 g l:=by grind [Gu,Ps,Pg.w,Nf,G9.nd]
theorem AlB{s:Bn}(h:RDc g (Dd g m N) dl al s a b){p:Nat}{x:Ab}(hp:g.IDs[p]?=some x)(hb:b.2.2=(p:Int)):AH (nh g dl b) ([],0)=some (dl.Row.filter λz=>(λy=>Jn (Dd g m N) x y||(decide (y∈a.1.filter λx=> !A7 (a.2.get x))&&D5 (Dd g m N) al.row x y)) ((g.IDs[z.toNat]?).getD ⟨0,0,0⟩)):=by
 have w:=P.w;have nI:=w.nI;have hr:dl.Row.length<=1000:=h.lr.nr;have hpl:p<g.L.length:=by grind
 generalize hf:(λy=>Jn (Dd g m N) x y||(decide (y∈a.1.filter λx=> !A7 (a.2.get x))&&D5 (Dd g m N) al.row x y))=f;refine T.eq (T.forA dl.Row.length (λk acc=>acc=(dl.Row.take k).filter λz=>f ((g.IDs[z.toNat]?).getD ⟨0,0,0⟩)) aa aC (λk acc hk hj=>?_) λacc hj=>?_)
 .obtain⟨z,hz,_⟩:=Hm hk;have hrow:EF g dl.Row:=h.lr.row;obtain⟨q,y,rfl,d,hq,i⟩:=Ps w hrow hz;have hnm:I9 g dl.Row=al.row:=h.lr.nm;rw[hnm] at i;have hyr:=bO i;have hal:acc.length<=k:=by grind
  have e:(dl.Row.take (k+1)).filter (λz=>f ((g.IDs[z.toNat]?).getD ⟨0,0,0⟩))=acc++(if f y=true then[(q:Int)] else[]):=by rw[Rb hz,Se,<-hj];cases hfy:f y<;>simp[hq,hfy]
  have hw:=AeN P h.lr hpl d hp hq;unfold nh;simp only[eA hk,ax,au,hz,aL,hb,AeM P hpl d hp hq,AiD P h.toRDb hq hyr];refine .bind (T.mono (Q:=λc=>c=f y) ?_ λc hc=>?_)
  .rw[<-hf];dsimp only;cases Jn (Dd g m N) x y<;>grind [T.some]
  .subst hc;cases hfy:f y with
   |true=>rw[hfy,BB rfl] at e;exact .bind (.app cq (.some ⟨aq aa,e.symm⟩))
   |false=>rw[hfy,BX aC,LP] at e;exact .some ⟨aq aa,e.symm⟩
 .unfold nh;dsimp only;rw[eF,Bf];refine .some (show acc=_ from ?_);rw[hj,EZ]
theorem ltE{s:Bn}(hsn:s.Nodup)(hsl:s.length<=12)(h:Lr g dl al):∀x∈al.row,∀y∈al.row,decide (SB (O8 g.Cards s) x.By<SB (O8 g.Cards s) y.By)=decide (snD s ((Dd g m N).o x).By<snD s ((Dd g m N).o y).By):=by
 have w:=P.w;have pos:∀x∈al.row,∃q:Nat,q<g.L.length/\g.IDs[q]?=some x:=λx hx=>by rw[<-h.nm] at hx;obtain⟨z,hz,e⟩:=EO.1 hx;obtain⟨j,hj⟩:=Gu hz;obtain⟨n,y,rfl,hn,hy,_⟩:=Ps w h.row hj;grind
 intro x hx y hy;obtain⟨p,hp,a⟩:=pos x hx;obtain⟨q,hq,b⟩:=pos y hy;obtain⟨o,ho,_⟩:=w.op hp;obtain⟨c,ho2,_⟩:=w.op hq;rw[(P.op ho a).2,(P.op ho2 b).2,<-(P.od p o x ho a).i,<-(P.od q c y ho2 b).i];refine Ajj hsn hsl ?_ ?_
 .rw[(P.od p o x ho a).i];exact P.dv p o x ho a
 .rw[(P.od q c y ho2 b).i];exact P.dv q c y ho2 b
theorem nxE{s:Bn}(hsn:s.Nodup)(hsl:s.length<=12)(h:RDb g (Dd g m N) dl al a V D):T (vL g {dl with Void:=V,Decided:=D} s) λnx=>NxQ g m N (wV al a.2) (a.1.filter λx=> !A7 (a.2.get x)) (λx y=>decide (SB (O8 g.Cards s) x.By<SB (O8 g.Cards s) y.By)) nx:=Aly P h.lr (show s.length<=1000 by omega) (AbY (List.filter_sublist.trans h.sub) h.lr.nd) (λ_ _ hp hx=>AiD P h hp hx) (ltE P hsn hsl h.lr)
theorem AlC{s:Bn}(hsn:s.Nodup)(hsl:s.length<=12)(h:RDc g (Dd g m N) dl al s a b):∃u v,Agx (Dd g m N) al (O8 g.Cards s) a=some u/\tw g dl s b=some v/\Sim (λa' b'=>RDc g (Dd g m N) dl al s a' b'/\a'.1.length<a.1.length) (λ(v:FM Ab Bool) (r:List Bool×List Bool)=>Lr g {dl with Void:=r.1,Decided:=r.2} (wV al v)) u v:=by
 have w:=P.w;have nL:=w.nL;have nI:=w.nI;have hrow:EF g dl.Row:=h.lr.row;have hnm:I9 g dl.Row=al.row:=h.lr.nm;have hnd:al.row.Nodup:=h.lr.nd;have hnr:dl.Row.length<=1000:=h.lr.nr;have hrl:al.row.length=dl.Row.length:=by rw[<-hnm,Gq]
 obtain⟨nx,e1,t⟩:=nxE P hsn hsl h.toRDb;obtain⟨v0,hv⟩:∃v0,tw g dl s b=v0:=⟨_,rfl⟩;rw[hv];have D:=Oa (λx=> !A7 (a.2.get x)) a.1;have hkl:=λp x hp hb=>AlB P h (p:=p) (x:=x) hp hb;have hl1s:(a.1.filter λx=> !A7 (a.2.get x)).Sublist al.row:=List.filter_sublist.trans h.sub;have hlen:a.1.length<=1000:=by have:=h.sub.length_le;omega
 have hmem:∀y,y∈(a.1.filter λx=> !A7 (a.2.get x))↔y∈a.1/\A7 (a.2.get y)=false:=by grind
 unfold Agx;rw[C6 hlen,ax];dsimp only;generalize (a.1.filter λx=> !A7 (a.2.get x))=l1 at*;have hl1n:l1.Nodup:=hnd.sublist hl1s;have hl1l:l1.length<=1000:=by have:=hl1s.length_le;omega
 rw[h.nx] at e1;obtain rfl:=Bp e1;obtain⟨r,e2,hr⟩:=AnP (I:=Dd g m N) (row:=al.row) (sen:=O8 g.Cards s) hl1l;rw[e2];rcases t with⟨p,x,f,hp,hxl,hx⟩|⟨h0,hb⟩
 .obtain⟨i,J,rfl,hi,hx'⟩:=hr.resolve_right (by grind);obtain rfl:x=J:=by grind
  have hil:=(cr hi).1;have F:=hl1s.subset hxl;have hpl:p<g.L.length:=by grind
  rw[show decide (ah l1=0)=false from Dl (by unfold ah;omega),Bf,aL,au,hi,aL,Fw];obtain⟨gd,e3,g1,g2,H,M⟩:=AiB P h.lr;have hgood:QF gd (p:Int)=(JU (Dd g m N) (wV al a.2)).any (λz=>decide (x=z)):=by rw[JK,Bool.eq_iff_iff,List.any_eq_true,decide_eq_true_iff,AeP P g1 hp,H];constructor<;>grind
  have hlp:∀y,y∈l1.eraseIdx i↔y∈l1/\y≠x:=λy=>by
   have hsp:l1=l1.take i++x::l1.drop (i+1):=by grind [List.drop_eq_getElem_cons,Pw]
   have A:=hl1n;rw[hsp,List.perm_middle.nodup_iff,M0] at A;rw[List.eraseIdx_eq_take_drop_succ];constructor
   .intro hy;constructor<;>grind [List.mem_of_mem_drop]
   .rintro⟨hy,hne⟩;rw[hsp] at hy;rcases JF.1 hy with hy|hy
    .exact JF.2 (.inl hy)
    grind
  have hvl:b.1.length=g.L.length:=h.lr.nv;have hdl:b.2.1.length=g.L.length:=h.lr.nc;have key:∀(o:Bn) (d:FM Ab Bool),o.length<=1000->(∀z∈o,∃q:Nat,z=(q:Int)/\q<b.1.length)->(∀(q:Nat) (y:Ab),g.IDs[q]?=some y->A7 (d.get y)=(A7 (a.2.get y)||decide ((q:Int)∈o)))->T ((ji b.2.1 b.2.2 true).bind λj=>(AH (ng o) (b.1,0)).bind λk=>(vL g ({dl with Void:=k,Decided:=j}) s).bind λB=>some (.inl (k,j,B))) λ(v:(List Bool×List Bool×Int)⊕(List Bool×List Bool))=>Sim (λa' b'=>RDc g (Dd g m N) dl al s a' b'/\a'.1.length<a.1.length) (λ(v:FM Ab Bool) (r:List Bool×List Bool)=>Lr g {dl with Void:=r.1,Decided:=r.2} (wV al v)) (.inl (l1.eraseIdx i,d)) v:=λo d hjl C l=>by
   rw[f];refine .bind (.set aa aa (.bind ((AnQ hjl C).mono λW E=>?_)));rw[Fw];have hL:Lr g {dl with Void:=W,Decided:=b.2.1.set p true} (wV al d):=⟨hrow,hnm,hnd,hnr,E.1.trans hvl,by grind,h.lr.fk,λq y hq=>by show W[q]?=some (A7 (d.get y));rw[l q y hq];exact E.2 q _ (h.lr.vd q y hq)⟩
   have hb:RDb g (Dd g m N) dl al (l1.eraseIdx i,d) W (b.2.1.set p true):=by
    refine⟨hL,(List.eraseIdx_sublist l1 i).trans hl1s,(by grind [RDb.kil,h.toRDb]),λq y hq hy hk n=>?_⟩;dsimp only at n⊢;rw[l q y hq] at n;have hvy1:A7 (a.2.get y)=false:=by grind
    rw[List.getElem?_set];by_cases c:p=q
    .grind
    .have hne:y≠x:=λe=>c (by rw[e] at hq;exact Nf w.nd hp hq);rw[BX c,h.dec q y hq hy hk hvy1];grind
   obtain⟨K,e4,_⟩:=nxE P hsn hsl hb;rw[e4,aL];exact .some ⟨⟨hb,e4⟩,by show(l1.eraseIdx i).length<_;rw[List.length_eraseIdx_of_lt hil];omega⟩
  unfold tw at hv;rw[f,show decide ((0:Int)<=(p:Int))=true from C6 aa,ax,e3,aL,cX aa,aL,hkl p x hp f,aL,hgood] at hv;rw[<-f] at hv;cases hg:(JU (Dd g m N) (wV al a.2)).any (λz=>decide (x=z)) with
  |true=>
   rw[hg,Bool.not_true,Bf,aL] at hv;rw[ax];obtain⟨v',ev,hs⟩:=key (dl.Row.filter λz=>(λy=>Jn (Dd g m N) x y||(decide (y∈l1)&&D5 (Dd g m N) al.row x y)) ((g.IDs[z.toNat]?).getD ⟨0,0,0⟩)) (vAl (Dd g m N) al.row (l1.eraseIdx i) x a.2) (Nj (Oa _ _) hnr) (λz hz=>by
    obtain⟨q,e,hq⟩:=hrow.nat (Hl.1 hz).1;exact⟨q,e,aa⟩) λq y hq=>by
    unfold vAl;rw[AcZ];congr 1;have h1:decide ((q:Int)∈dl.Row.filter λz=>(λy=>Jn (Dd g m N) x y||(decide (y∈l1)&&D5 (Dd g m N) al.row x y)) ((g.IDs[z.toNat]?).getD ⟨0,0,0⟩))=(decide (y∈al.row)&&(Jn (Dd g m N) x y||(decide (y∈l1)&&D5 (Dd g m N) al.row x y))):=by rw[Bool.eq_iff_iff,decide_eq_true_iff,Hl,bA,decide_eq_true_iff,AeP P hrow hq,hnm,Fw,hq,Nt]
    rw[h1];congr 2;have h2:(l1.eraseIdx i).any (λz=>decide (y=z))=decide (y∈l1/\y≠x):=by rw[Bool.eq_iff_iff,List.any_eq_true,decide_eq_true_iff,<-hlp];constructor<;>grind
    rw[h2];by_cases c:y=x
    .subst c;unfold D5;simp
    .simp[c]
   exact⟨_,v',rfl,by rw[<-hv,ev],hs⟩
  |false=>
   rw[hg,Bool.not_false,ax,aL] at hv;rw[Bf];obtain⟨v',ev,hs⟩:=key [b.2.2] (CA a.2 x true) aC (by grind) λq y hq=>by
    rw[Bz,f];by_cases c:y=x
    .subst c;have:q=p:=Nf w.nd hq hp;rw[BB rfl,this];simp[A7]
    .have:¬((q:Int)=(p:Int)):=λe=>c (by have:q=p:=aa;grind)
     rw[BX c];simp[this]
   exact⟨_,v',rfl,by rw[<-hv,ev],hs⟩
 .rw[h0,show decide (ah ([]:Ba)=0)=true from rfl,ax];unfold tw at hv;rw[hb,show decide ((0:Int)≤-1)=false from rfl,Bf] at hv;exact⟨_,_,rfl,hv.symm,h.lr⟩
end
end Go.Proofs.YtjbfcillbjiajaaGreatDoor
