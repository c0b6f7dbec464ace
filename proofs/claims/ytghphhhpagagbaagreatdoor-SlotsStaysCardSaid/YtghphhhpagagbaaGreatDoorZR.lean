/- Texts. -/
import Derived.Test.YtghphhhpagagbaaGreatDoorVl
namespace Go.Proofs.YtghphhhpagagbaaGreatDoor
set_option linter.unusedSectionVars false
set_option linter.unusedVariables false
set_option linter.unusedSimpArgs false
open Go.RowKit Tryz
attribute [local irreducible] Tr dz Gp
variable {α:Type}{s:FM Bh Int×FM Int Int}{x:Ab}{ids r row vs:Bc}{j k p:Nat}{d m v:Int}{gg:Aj}{l:Bk}{o:Bp}{y y':D3}{x':Az}{cs:LQ}{D V:List Bool}{dl:JR}{al:AQ}{a:Bc×FM Ab Bool}{b:List Bool×List Bool×Int}{N:JH}
def fkT(s:FM Bh Int×FM Int Int)(x:Ab):FM Bh Int×FM Int Int:=
 (C3 s.1 ⟨x.By,x.Seq⟩ (wI ((s.1.get ⟨x.By,x.Seq⟩).getD 0+1)),bif wI ((s.1.get ⟨x.By,x.Seq⟩).getD 0+1)<2 then s.2 else bif(s.2.get x.By).isSome then(bif x.Seq<(s.2.get x.By).getD 0 then C3 s.2 x.By x.Seq else s.2)else C3 s.2 x.By x.Seq)
def TF(ids:Bc):FM Bh Int×FM Int Int:=ids.foldl fkT (⟨[],0⟩,⟨[],0⟩)
theorem Ajc(h:QI s.1/\QI s.2):QI (fkT s x).1/\QI (fkT s x).2:=by grind [fkT,NR]
theorem WF(ids:Bc):QI (TF ids).1/\QI (TF ids).2:=by
 have key:∀(l:Bc) (s:FM Bh Int×FM Int Int),QI s.1/\QI s.2->QI (l.foldl fkT s).1/\QI (l.foldl fkT s).2:=by intro l;induction l<;>grind [Ajc]
 exact key ids _ ⟨AiV,AiV⟩
theorem AaP(hx:ids[k]?=some x):TF (ids.take (k+1))=fkT (TF (ids.take k)) x:=by grind [TF,JJ]
theorem lkF(m:FM Bh Int)(k:Bh)(h:(m.get k).getD 0=v):bL prog [(0,oMk m)] tMk false (.mref 0) (.agg (Bt k))=some (iG v):=h▸(Sx (et:=3) N3 aH (k:=k) rfl Q4).trans (FM.look1 (et:=3) (v0:=0) N3 aH aH m k rfl _)
theorem lkY(m:FM Int Int)(k:Int){b:Bool}(h:(m.get k).getD 0=v)(hb:(m.get k).isSome=b):bL prog [(1,oMy m)] tMy true (.mref 1) (iG k)=some (.tup [iG v,bG b]):=h▸hb▸(Sx (et:=3) O6 aH (k:=k) rfl Q4).trans (FM.look (et:=3) (v0:=0) O6 aH aH m k rfl _)
def hnl(d:Nat){P:Br}{σ:aQ}{t:Bo}{ok:Bool}{i:Nat}{gk g:G}(ck:aQ->Bool)(h:bL P [(i,ag σ i)] t ok (.mref i) gk=some g/\∀W,ck W=true->bL P [(i,ag (W++σ) i)] t ok (.mref i) gk=some g):HP:=⟨some (.n d g ck),bL P [(i,ag σ i)] t ok (.mref i) gk=some g/\∀W,ck W=true->bL P [(i,ag (W++σ) i)] t ok (.mref i) gk=some g,h⟩
def hnk(ck:aQ->Bool)(U:aQ)(h:ck U=true):HP:=⟨some (.v 999999996 (.lit undef)),ck U=true,h⟩
noncomputable def ckE(V:aQ):aQ->Bool:=λW=> @decide (W=V) (Classical.propDecidable _)
theorem Afn{V W:aQ}:ckE V W=true↔W=V:= @decide_eq_true_iff _ (Classical.propDecidable _)
theorem mkI(m:FM Bh Int):∀e∈mEs D4 iG m,bB e.2.1:=PL λv=>mN _
theorem myI(m:FM Int Int):∀e∈mEs JN iG m,bB e.2.1:=PL λv=>mN _
abbrev AkZ(clock:Nat)(seen:Bq):Option Ob:=some ⟨tMy,[],some (.iter (some 0) clock seen clock)⟩
abbrev mkF(e:Int×Int×Nat):Bh:=⟨e.1,e.2.1⟩
section
variable {gl:CB}
abbrev stF(gl:CB)(l:FM Int Int)(seen:Bq)(a:List Bh):St:=(s0 75 gl [(12,.rsl 2 0 a.length),(60,.ref 1 0)] [(0,oMy l),(1,AkZ l.clk seen),(2,YZ a)] 3 0)
abbrev fr4(ids:Bc)(k:Nat):Fr:=[(5,.mref 0),(6,.mref 1),(17,aE aj ids),(18,iG (ah ids)),(19,iG (k:Int))]
theorem AaR{gg:Aj}{ids:Bc}{r:List Bh}{n:Nat}(hn:ids.length<=1000)(h12:(TF ids).2.es.length<=12)(he:(TF ids).2.es.length=n)(hs:∀l:List Bh,l.Perm ((TF ids).2.es.map mkF)->inI Uw ((0:Nat):Int) (l.length:Int) l=some r):iV prog gl 68 [.ptr (Ag gg) 0,aE aj ids] 123 n (r.flatMap Bt):=by
 refine OW func68 ?_;refine pN (λk:Nat=>(s0 75 gl (fr4 ids k) [(0,oMk (TF (ids.take k)).1),(1,oMy (TF (ids.take k)).2)] 2 0)) 11110122 (EO (n:=ids.length) aa) [] [hc (mkI (TF (ids.take 0)).1),hc (myI (TF (ids.take 0)).2)] (λB k w hs k5 j=>?_) [] [(0,0),(1,1)] [];unfold Ko at hs;split at hs
 .rename_i hlt;obtain rfl:=Bf hs;obtain⟨x,hx⟩:∃x,ids[k]?=some x:=⟨_,DR hlt⟩;have hz:=Bg hx;have k5:=k5 _ rfl;obtain⟨h1,h2⟩:=WF (ids.take k);rw[AaP hx] at k5;generalize TF (ids.take k)=s at k5 h1 h2⊢;obtain⟨m,l⟩:=s;unfold fkT at k5;dsimp only at k5 h1 h2⊢;generalize hv1:(m.get ⟨x.By,x.Seq⟩).getD 0=v at k5;have h36:((C3 m ⟨x.By,x.Seq⟩ (wI (v+1))).get ⟨x.By,x.Seq⟩).getD 0=wI (v+1):=by rw[Bz,Bx rfl];rfl
  refine pO 111101221102110 (s0 75 gl ([(8,.ref 2 0),(9,.ref 3 0)]++fr4 ids k) [(0,oMk m),(1,oMy l),ob 2 25 (aj x),ob 3 123 (Bt ⟨x.By,x.Seq⟩)] 4 0) [hr 20 (Dd hx),AB 21 (ac.ixZ hz),AB 22 (ac.ptZ aW hz)] [hc (mkI m),hc (myI l)] ?_ [] [(0,0),(1,1),(2,2),(3,3)] [];refine pO 11110122110211100 (s0 75 gl ([(8,.ref 2 0),(9,.ref 3 0)]++fr4 ids k) [(0,oMk (C3 m ⟨x.By,x.Seq⟩ (wI (v+1)))),(1,oMy l),ob 2 25 (aj x),ob 3 123 (Bt ⟨x.By,x.Seq⟩)] 4 0) [hnl 30 (σ:=[(0,oMk m),(1,oMy l),ob 2 25 (aj x),ob 3 123 (Bt ⟨x.By,x.Seq⟩)]) (ckE [(0,some (MZ tMk D4 iG (C3 m ⟨x.By,x.Seq⟩ ((m.get ⟨x.By,x.Seq⟩).getD 0))))]) ⟨lkF m ⟨x.By,x.Seq⟩ hv1,λW o=>by rw[Afn.1 o];exact lkF (C3 m ⟨x.By,x.Seq⟩ ((m.get ⟨x.By,x.Seq⟩).getD 0)) ⟨x.By,x.Seq⟩ (by rw[Bz,Bx rfl];exact hv1)⟩,hnk (ckE [(0,some (MZ tMk D4 iG (C3 m ⟨x.By,x.Seq⟩ ((m.get ⟨x.By,x.Seq⟩).getD 0))))]) [(0,some (MZ tMk D4 iG (C3 m ⟨x.By,x.Seq⟩ ((m.get ⟨x.By,x.Seq⟩).getD 0))))] (Afn.2 rfl),hme 32 [0] 4 (Aiw (P:=prog) (σ:=[(0,oMk m)]) (t:=tMk) (t':=tMk) (et:=3) (v0:=0) N3 AkX aH aH (k:=⟨x.By,x.Seq⟩) (gk:= .agg (Bt ⟨x.By,x.Seq⟩)) rfl Q4),hms 33 [0] 4 (Aix (σ:=[(0,some (MZ tMk D4 iG (C3 m ⟨x.By,x.Seq⟩ ((m.get ⟨x.By,x.Seq⟩).getD 0))))]) (i:=0) (t':=tMk) (kv:=D4) (vg:=iG) (m:=m) (k:=⟨x.By,x.Seq⟩) (v0:=(m.get ⟨x.By,x.Seq⟩).getD 0) h1.1 Q4 (wI (v+1)))] [hc (mkI (C3 m ⟨x.By,x.Seq⟩ (wI (v+1)))),hc (myI l)] ?_ [] [(0,0),(1,1),(2,2),(3,3)] [];generalize C3 m ⟨x.By,x.Seq⟩ (wI (v+1))=m' at k5 h36⊢;generalize wI (v+1)=v' at k5 h36⊢;skip;clear hv1 h1;cases c1:decide (v'<2) with
  |true=>rw[c1,ax] at k5;exact jw [hlk 36 (lkF m' ⟨x.By,x.Seq⟩ h36),hr 37 c1,hbb 58 (Xl (q:=k) aa)] [hc (mkI m'),hc (myI l)] k5 [] [(0,0),(1,1)] []
  |false=>
   rw[c1,Be] at k5;have hput:=AeH (P:=prog) (σ:=[(0,oMk m'),(1,oMy l),ob 2 25 (aj x),ob 3 123 (Bt ⟨x.By,x.Seq⟩)]) (i:=1) (t:=tMy) (t':=tMy) (et:=3) (vg:=iG) O6 Acd aH (k:=x.By) (gk:=iG x.By) rfl (m:=l) rfl x.Seq;cases c2:(l.get x.By).isSome with
   |false=>rw[c2,Be] at k5;exact jw [hlk 36 (lkF m' ⟨x.By,x.Seq⟩ h36),hr 37 c1,hlk 42 (lkY l x.By rfl c2),hmp 4 hput,hbb 58 (Xl (q:=k) aa)] [hc (mkI m'),hc (myI (C3 l x.By x.Seq))] k5 [] [(0,0),(1,1)] []
   |true=>
    rw[c2,ax] at k5;generalize hw:(l.get x.By).getD 0=w at k5;cases c3:decide (x.Seq<w) with
    |true=>rw[c3,ax] at k5;exact jw [hlk 36 (lkF m' ⟨x.By,x.Seq⟩ h36),hr 37 c1,hlk 42 (lkY l x.By hw c2),hr 51 c3,hmp 4 hput,hbb 58 (Xl (q:=k) aa)] [hc (mkI m'),hc (myI (C3 l x.By x.Seq))] k5 [] [(0,0),(1,1)] []
    |false=>rw[c3,Be] at k5;exact jw [hlk 36 (lkF m' ⟨x.By,x.Seq⟩ h36),hr 37 c1,hlk 42 (lkY l x.By hw c2),hr 51 c3,hbb 58 (Xl (q:=k) aa)] [hc (mkI m'),hc (myI l)] k5 [] [(0,0),(1,1)] []
 .split at hs
  .rename_i d;subst d;clear j k5 hs;rw[EQ];obtain⟨h1,h2⟩:=WF ids;generalize TF ids=s at h1 h2 h12 he hs⊢;obtain⟨m,l⟩:=s;dsimp only at h1 h2 h12 he hs⊢;refine yl (Bs':=[]) [1,1,1,0,1] (J:=(s0 75 gl [(6,.mref 0)] [(0,oMy l)] 1 0)) [hr 20 (DZ (s:=ids))] [hc (myI l)] ?_;refine pO 11111100 (s0 75 gl [(6,.mref 0),(12,Iy)] [(0,oMy l)] 1 0) [] [hc (myI l)] ?_ [] [(0,0)] [];refine yl (Bs':=[]) [1,1,1,1,1,0,0] (J:=stF gl l [] []) [] [hc (myI l),hc (Bi.imm [])] ?_;refine dNx 11111101 ?_;refine dMw 60 61 62 2 (iti:=1) (mi:=0) (clock:=l.clk) (since:=l.clk) (T:=tMy) (ty:=tMy) (es:=mEs JN iG l) (λseen=>stF gl l seen ((eQ l seen).map mkF)) (KsQ l) aat (λe he=>by obtain⟨x,hx,rfl⟩:=EP.1 he;exact h2.lt x hx) rfl (Le.refl _) (λseen=>rfl) (λseen=>rfl) (by grind) (λB seen k g nn hI hme hns c=>?_) (λseen hI f=>?_)
   .obtain⟨e,b,h⟩:=EP.1 hme;simp only[FF] at h;obtain⟨rfl,rfl,rfl⟩:=h;have c:=c (aaE hI b hns);rw[AeU h2.1 b,List.map_append] at c;have hal:((eQ l seen).map mkF).length<=12:=by rw[Hl];have:=Acj hI;have h3:(eQ l seen).length<=seen.length:=List.length_filterMap_le _ _;have h4:=PN hI.1 hI.2;rw[Hl] at h4;omega
    generalize (eQ l seen).map mkF=a at c hal⊢;have hge:jr ((1,AkZ l.clk (seen++[e.2.2]))::(stF gl l seen a).σ) (.ref 1 0)=some (.tup [db (JN e.1),iG e.2.1]):=yo (iti:=1) (mi:=0) (since:=l.clk) (clock:=l.clk) (T:=tMy) (ty:=tMy) (seen:=seen) rfl rfl (by rw[HR];exact h2.nd) hme;exact jw [YT 63 hge,Tn 71 Bi 16 a (mkF e) aa] [hc (el (a++[mkF e])),hc (myI l),hc (Bi.imm (a++[mkF e]))] c [] [(0,0),(1,1),(2,4)] [(2,.row)]
   .have hp:=(Acm h2.1 hI λe he=>f _ (EP.2 ⟨e,he,rfl⟩)).map mkF;have hi:=hs _ hp;have hla:((eQ l seen).map mkF).length=n:=by rw[hp.length_eq,Hl,he]
    generalize (eQ l seen).map mkF=a at hi hla⊢;subst hla;exact EI [tN 73 [2] 3 [(2,YZ a)] [.rsl 2 0 a.length,cmK] [(0,YZ r)] (Afm (gl:=gl) aa hi) ⟨⟨rfl,.inr ⟨rfl,Bi.imm a⟩⟩,trivial⟩ ⟨⟨rfl,.inr ⟨rfl,Bi.imm r⟩⟩,trivial⟩] (Bi.imm r)
  .cases hs
end
theorem PR{a b:Ab}:GK a b<0↔dt a b=true:=by grind [GK]
theorem Nn:OrN GK λ_=>True:=by grind [OrN,PR,dt,EX]
theorem JG{x y:Int}:Wx x y<0↔x<y:=by grind [Wx]
theorem P2{cmp:α->α->Int}(tr:∀x y z,cmp x y<0->cmp y z<0->cmp x z<0)(a:∀x,¬cmp x x<0){l r:List α}(hp:l.Perm r)(h1:l.Pairwise λx y=>cmp x y<0)(h2:r.Pairwise λx y=>cmp x y<0):l=r:=
 by grind [List.Perm.eq_of_pairwise]
def Om(ids:Bc)(f:Bh):Nat:=(ids.filter λx=>decide (x.By=f.Device)&&decide (x.Seq=f.Seq)).length
theorem SJ(p:Bc)(x:Ab)(f:Bh):Om (p++[x]) f=Om p f+if(⟨x.By,x.Seq⟩:Bh)=f then 1 else 0:=by unfold Om;rw[Qn,Uh];obtain⟨d,s⟩:=f;grind
theorem Afp(p:Bc)(f:Bh):Om p f<=p.length:=Mj _ _
structure FkI (p:Bc) (s:FM Bh Int×FM Int Int):Prop where
 n:∀f,(s.1.get f).getD 0=(Om p f:Int)
 a:∀d v,s.2.get d=some v->2<=Om p ⟨d,v⟩
 b:∀d v,2<=Om p ⟨d,v⟩->∃w,s.2.get d=some w/\w<=v
theorem Ak0{p:Bc}(h:FkI p s)(hp:p.length<=1000):FkI (p++[x]) (fkT s x):=by
 have hle:=Afp p ⟨x.By,x.Seq⟩;have hw:wI ((s.1.get ⟨x.By,x.Seq⟩).getD 0+1)=((Om p ⟨x.By,x.Seq⟩+1:Nat):Int):=by grind [FkI.n,bM]
 have hset:∀(l:FM Int Int),l=C3 s.2 x.By x.Seq->1<=Om p ⟨x.By,x.Seq⟩->(∀w,s.2.get x.By=some w->x.Seq<=w)->(∀d v,l.get d=some v->2<=Om (p++[x]) ⟨d,v⟩)/\(∀d v,2<=Om (p++[x]) ⟨d,v⟩->∃w,l.get d=some w/\w<=v):=by grind [Bz,SJ,FkI.a,FkI.b]
 have hold:∀(l:FM Int Int),l=s.2->(1<=Om p ⟨x.By,x.Seq⟩->∃w,s.2.get x.By=some w/\w<=x.Seq)->(∀d v,l.get d=some v->2<=Om (p++[x]) ⟨d,v⟩)/\(∀d v,2<=Om (p++[x]) ⟨d,v⟩->∃w,l.get d=some w/\w<=v):=by grind [SJ,FkI.a,FkI.b]
 have key:(∀d v,(fkT s x).2.get d=some v->2<=Om (p++[x]) ⟨d,v⟩)/\(∀d v,2<=Om (p++[x]) ⟨d,v⟩->∃w,(fkT s x).2.get d=some w/\w<=v):=by
  unfold fkT;dsimp only;rw[hw];cases c1:decide (((Om p ⟨x.By,x.Seq⟩+1:Nat):Int)<2) with
  |true=>grind
  |false=>
   have h1:=LR c1;rw[Be];cases c2:s.2.get x.By with
   |none=>grind
   |some w=>rw[Option.isSome_some,ax,M2];cases c3:decide (x.Seq<w)<;>grind
 refine⟨λf=>?_,key.1,key.2⟩;grind [fkT,Bz,SJ,FkI.n]
theorem Afq(ids:Bc)(hn:ids.length<=1000):FkI ids (TF ids):=by
 have key:∀k,k<=ids.length->FkI (ids.take k) (TF (ids.take k)):=by
  intro k;induction k with
  |zero=>exact λ_=>⟨λf=>rfl,λd v h=>(by cases h),λd v h=>absurd h (by show¬2<=0;omega)⟩
  |succ k ih=>intro hk;have hx:ids[k]?=some (ids[k]'aa):=DR _;rw[AaP hx,JJ,hx,Option.toList_some];grind [Ak0]
 grind [EQ]
theorem Acx{α:Type}(p:α->Bool):∀l:List α,l.length=(l.filter p).length+(l.filter λx=> !p x).length
 |[]=>rfl
 |a::r=>by have:=Acx p r;grind
theorem AaS:∀{ds:Bk} {ids:Bc},ds.Nodup->(∀d∈ds,2<=(ids.filter λx=>decide (x.By=d)).length)->2*ds.length<=ids.length
 |[],ids,_,_=>aC
 |d::r,ids,hd,h=>by
  rw[LS] at hd;have ih:=AaS (ids:=ids.filter λx=> !decide (x.By=d)) hd.2 λe he=>by have:=h e (by simp[he]);rw[List.filter_filter];grind
  have h1:=h d aC;grind [Acx]
theorem aba{ids:Bc}(hn:ids.length<=1000):2*(TF ids).2.es.length<=ids.length:=by have hk:=(WF ids).2;have hI:=Afq ids hn;rw[<-Hl (f:=λe:Int×Int×Nat=>e.1)];refine AaS hk.kd λd hd=>?_;obtain⟨e,he,rfl⟩:=EP.1 hd;have hg:=IX hk (k:=e.1) (v:=e.2.1) (n:=e.2.2) he;have h2:=hI.a _ _ hg;refine LD h2 ?_;unfold Om;rw[<-List.filter_filter];exact(List.Sublist.filter _ List.filter_sublist).length_le
theorem SK{ids:Bc}{f:Bh}:f∈(TF ids).2.es.map mkF↔(TF ids).2.get f.Device=some f.Seq:=by grind [WF,IX,G9]
theorem AhC(ids:Bc):OrN Uw λf=>f∈(TF ids).2.es.map mkF:=by grind [OrN,Uw,JG,SK]
theorem Afr{ids:Bc}:((TF ids).2.es.map mkF).Nodup:=List.Pairwise.of_map (S:=λa b:Int=>a≠b) (λf:Bh=>f.Device) (by grind) (by rw[HR];exact(WF ids).2.kd)
theorem AhD{ids:Bc}(hn:ids.length<=14):∃r:List Bh,r.Perm ((TF ids).2.es.map mkF)/\∀l:List Bh,l.Perm ((TF ids).2.es.map mkF)->inI Uw ((0:Nat):Int) (l.length:Int) l=some r:=by
 have hl:=aba (ids:=ids) aa;have go:∀l:List Bh,l.Perm ((TF ids).2.es.map mkF)->∃r,inI Uw ((0:Nat):Int) (l.length:Int) l=some r/\r.Perm ((TF ids).2.es.map mkF)/\r.Pairwise λx y=>Uw x y<0:=λl hp=>by obtain⟨r,e,h1,h2⟩:=aa8 (AhC ids) (a:=0) (b:=l.length) (hp.nodup_iff.2 Afr) (λz hz=>hp.mem_iff.1 hz) aa (DC _) (by rw[hp.length_eq,Hl];omega);refine⟨r,e,h1.1.trans hp,?_⟩;rw[List.pairwise_iff_getElem];intro p q hp' c d;exact h2 p q _ _ (Nat.zero_le _) d (by rw[<-h1.len];exact c) (DR hp') (DR c)
 obtain⟨r,_,h2,h3⟩:=go _ (.refl _);refine⟨r,h2,λl hp=>?_⟩;obtain⟨r',e,k2,k3⟩:=go l hp;rw[e,P2 (cmp:=Uw) (AhC ids).tr (by grind [Uw,JG]) (k2.trans h2.symm) k3 h3]
def voP(ids:Bc)(x:Ab):Bool:=ids.any λy=>decide (y.By=x.By/\y.Seq<=x.Seq/\2<=Om ids ⟨y.By,y.Seq⟩)
section
variable {gl:CB}
theorem Ag1{fs:List Bh}{R:Bh->Bc}(hF:ba prog gl 68 [.ptr (Ag gg) 0,aE aj ids] (aE Bt fs))(hfl:fs.length<=1000)(hR:∀f∈fs,ba prog gl 299 [aE aj ids,iG f.Device,iG f.Seq,iG 4611686018427387904] (aE aj (R f)))(hl:(fs.flatMap R).length<=14)(h:Ow GK (fs.flatMap R)=some r)(hle:r.length=(fs.flatMap R).length):iV prog gl 238 [.ptr (Ag gg) 0,aE aj ids] 25 r.length (r.flatMap aj):=by
 rw[hle];refine OW func238 ?_;refine pN (λk:Nat=>(s0 27 gl [(1,aE aj ids),(5,.rsl 0 0 ((fs.take k).flatMap R).length),(10,aE Bt fs),(11,iG (ah fs)),(12,iG (k:Int))] [(0,Bw ((fs.take k).flatMap R))] 1 0)) 1110122 (EO (n:=fs.length) aa) [hf 10 hF] [hc (ac.imm [])] (λB k w hs k5 a=>?_) [25] [(0,0)] [(0,.row)];unfold Ko at hs;split at hs
 .rename_i hlt;obtain rfl:=Bf hs;obtain⟨x,hx⟩:∃x,fs[k]?=some x:=⟨_,DR hlt⟩;have hz:=Bg hx;have k5:=k5 _ rfl;have e:(fs.take (k+1)).flatMap R=(fs.take k).flatMap R++R x:=by grind [JJ]
  have hll:((fs.take k).flatMap R++R x).length<=14:=by grind [OQ]
  rw[e] at k5;generalize (fs.take k).flatMap R=l at k5 hll⊢;rw[Uh] at hll;exact jw [hr 13 (Dd hx),AB 14 (Bi.ixZ hz),AB 15 (Bi.ptZ Hm hz),hf 22 (hR x (bO hx)),AlO 23 ac 24 l (R x) aa,hbb 24 (Xl (q:=k) aa)] [hc (el (l++R x)),hc (ac.imm (l++R x))] k5 [] [(0,2)] [(0,.row)]
 .split at hs
  .rename_i he;subst he;rw[EQ];exact EI [hr 13 (DZ (s:=fs)),hsm (gl:=gl) 26 1 hl h] (ac.imm r)
  .cases hs
end
theorem WG{α β:Type}{f:α->List β}:∀{l:List α},l.Nodup->(∀x∈l,(f x).Nodup)->(∀x∈l,∀y∈l,x≠y->∀z∈f x,z∉f y)->(l.flatMap f).Nodup
 |[],_,_,_=> .nil
 |a::r,hn,h1,h2=>by rw[LS] at hn;rw[List.flatMap_cons,List.nodup_append];refine⟨h1 a aC,WG hn.2 (by grind) (by grind),λz hz w hw e=>?_⟩;grind
theorem Ag2{gl:CB}{gg:Aj}(hn:ids.length<=14)(hd:ids.Nodup)(hs:∀x∈ids,x.Seq<=4611686018427387904):∃r,ba prog gl 238 [.ptr (Ag gg) 0,aE aj ids] (aE aj r)/\r.Perm (ids.filter (voP ids))/\r.Pairwise λx y=>GK x y<0:=by
 obtain⟨fs,hp,hi⟩:=AhD hn;have hl:=aba (ids:=ids) aa;have hI:=Afq ids aa;have hF:=(AaR (gl:=gl) (gg:=gg) (ids:=ids) (r:=fs) (n:=fs.length) aa aa (by rw[hp.length_eq,Hl]) hi).fn Bi.sz (Bi.len _) (Bi.imm _);have hof:∀f:Bh,∃r,Ow GK (ids.filter (XW f.Device f.Seq 4611686018427387904))=some r/\r.Perm (ids.filter (XW f.Device f.Seq 4611686018427387904)):=λf=>by have h1:=Mj (XW f.Device f.Seq 4611686018427387904) ids;obtain⟨r,e,h2,h3⟩:=PC Nn (l:=ids.filter (XW f.Device f.Seq 4611686018427387904)) (hd.sublist List.filter_sublist) aa;exact⟨r,e,h2⟩
 let R:Bh->Bc:=λf=>(Ow GK (ids.filter (XW f.Device f.Seq 4611686018427387904))).getD [];have hRp:∀f,Ow GK (ids.filter (XW f.Device f.Seq 4611686018427387904))=some (R f)/\(R f).Perm (ids.filter (XW f.Device f.Seq 4611686018427387904)):=λf=>by obtain⟨r,e,h2⟩:=hof f;grind
 have hRm:∀f x,x∈R f↔x∈ids/\x.By=f.Device/\f.Seq<=x.Seq:=λf x=>by rw[(hRp f).2.mem_iff,Hk];grind [XW]
 clear_value R;have hfd:∀x∈fs,∀y∈fs,x≠y->x.Device≠y.Device:=by grind [SK]
 have hfn:(fs.flatMap R).Nodup:=WG (hp.nodup_iff.2 Afr) (by grind) (by grind);have hperm:(fs.flatMap R).Perm (ids.filter (voP ids)):=by
  refine(List.perm_ext_iff_of_nodup hfn (hd.sublist List.filter_sublist)).2 λx=>?_;rw[List.mem_flatMap,Hk];unfold voP;rw[List.any_eq_true];refine⟨λ⟨f,hf,hx⟩=>?_,λ⟨hx,y,hy,hv⟩=>?_⟩
  .obtain⟨h1,h2,h3⟩:=(hRm f x).1 hx;have h4:=SK.1 (hp.mem_iff.1 hf);have h5:=hI.a _ _ h4;refine⟨h1,?_⟩;have h6:0<(ids.filter λx=>decide (x.By=f.Device)&&decide (x.Seq=f.Seq)).length:=Nat.lt_of_lt_of_le Nat.zero_lt_two h5;obtain⟨y,hy⟩:=List.exists_mem_of_length_pos h6;grind
  .obtain⟨h1,h2,h3⟩:=DL hv;obtain⟨w,hw,hle⟩:=hI.b _ _ h3;refine⟨⟨y.By,w⟩,hp.mem_iff.2 (SK.2 hw),(by grind)⟩
 have hlen:(fs.flatMap R).length<=14:=by grind [List.Perm.length_eq,Mj]
 obtain⟨r,e,h2,h3⟩:=PC Nn hfn hlen;refine⟨r,(Ag1 (gl:=gl) hF (by rw[hp.length_eq,Hl];omega) (by grind [Aja,List.Perm.length_eq]) hlen e h2.length_eq).fn ac.sz (ac.len _) (ac.imm _),h2.trans hperm,h3⟩
theorem Rb{l:List α}{x:α}(hx:l[k]?=some x):l.take (k+1)=l.take k++[x]:=by rw[JJ,hx];rfl
section
variable {g:A7} {m:JI} {N:JH}
abbrev C4(g:A7)(m:JI)(N:JH):Gi:=PA ⟨g.Cards,m,N⟩
theorem Mh(w:Fo g){i:Nat}(h:g.IDs[i]?=some x):bu x g.IDs=some i:=by
 cases hk:bu x g.IDs with
 |none=>exact absurd (bO h) (Sw hk)
 |some j=>rw[Md w.nd (gb hk).1 h]
abbrev I4(g:A7)(l:Bk):Bc:=l.map λp=>(g.IDs[p.toNat]?).getD ⟨0,0,0⟩
theorem OO(w:Fo g){l:Bk}(h:EF g l){z:Int}(hz:l[j]?=some z):∃(n:Nat) (y:Ab),z=(n:Int)/\n<g.L.length/\g.IDs[n]?=some y/\(I4 g l)[j]?=some y:=by obtain⟨n,rfl,hn⟩:=h.nat (bO hz);have nI:=w.nI;obtain⟨y,hy,_⟩:=dk (l:=g.IDs) (k:=n) aa;refine⟨n,y,rfl,hn,hy,?_⟩;rw[MH,hz,Option.map_some,Fs,hy];rfl
end
def Xi(cs:LQ)(d:Int):Int:=match cs.find? λc=>decide (c.Device=d) with
 |some c=>c.Member
 |none=>0
structure Mr (x:Az) (y:D3):Prop where
 role:y.Role=x.role
 no:x.guard=none->y.Is=false
 gd:∀g,x.guard=some g->y.Is=true/\y.ID=g.id/\y.Guards=g.guards/\y.Need=g.need/\y.Wait=g.wait/\y.Objected=g.objected/\y.Last=g.last
def AfD(V:List G4)(i:Ab)(b d a:Int):Prop:=∃v∈V,v.Of=i/\v.By=b/\v.Device=d/\v.At=a
structure Rr (R:Ad) (D:C5):Prop where
 card:∀d,Dq R d=Xi D.Cards d
 nd:(D.In++D.Gone).Nodup
 in_:∀d,R.in_.get d=if d∈D.In then some true else none
 was:∀d,R.was.get d=if d∈D.In\/d∈D.Gone then some true else none
 w0:R.was.es.length=D.In.length+D.Gone.length
 ln:(D.L.map (·.N)).Nodup
 no:∀m,R.members.get m=none->∀y∈D.L,y.N≠m
 mem:∀m x,R.members.get m=some x->∃y∈D.L,y.N=m/\Mr x y
 vou:∀m x g,R.members.get m=some x->x.guard=some g->∀b d a,g.vouches.get ⟨b,d⟩=some a↔AfD D.V g.id b d a
 vof:∀v∈D.V,∃m x g,R.members.get m=some x/\x.guard=some g/\v.Of=g.id
 vnd:(D.V.map λv=>(v.Of,v.By,v.Device)).Nodup
 back:R.back=D.Back
structure Sz (D:C5):Prop where
 c:D.Cards.length<=1000
 dev:D.In.length+D.Gone.length<=100000
 l:D.L.length<=100000
 v:D.V.length<=100000
theorem Ju{n:Int}:QF l n=decide (n∈l):=by grind [QF]
section
variable {R:Ad} {D:C5}
theorem Sz.i(z:Sz D):D.In.length<=1000000:=by grind [Sz]
theorem Sz.g(z:Sz D):D.Gone.length<=1000000:=by grind [Sz]
theorem ofE(z:Sz D)(d:Int):gE D d=some (Xi D.Cards d):=by
 have:=z.c;unfold gE;refine T.eq (.bind ((T.search D.Cards (λx=>decide (x.Device=d)) (λk x=>x.Member) aa (λk x hx hk=>?_) ?_).mono ?_))
 .grind [AR,eA,au,aq]
 .grind [AR,eF]
 .rintro r (⟨rfl,h⟩|⟨k,x,hx,hp,rfl,h⟩)
  .refine .some ?_;grind [Xi]
  .refine .some ?_;grind [Xi,List.find?_eq_some_iff_getElem]
theorem Alo(z:Sz D)(n:Int):T (dS D n) λv=>(v= -1/\∀y∈D.L,y.N≠n)\/∃(k:Nat) (y:D3),v=(k:Int)/\D.L[k]?=some y/\y.N=n:=by
 have:=z.l;unfold dS;refine .bind ((T.search D.L (λx=>decide (x.N=n)) (λk _=>(k:Int)) aa (λk x hx hk=>?_) ?_).mono ?_)
 .grind [o5,eA,au,aq]
 .grind [o5,eF]
 .rintro r (⟨rfl,h⟩|⟨k,x,hx,hp,rfl,h⟩)
  .exact .some (by grind)
  .exact .some (by grind)
theorem Rr.at_(h:Rr R D){m:Int}{x:Az}(hx:R.members.get m=some x){y:D3}(hy:y∈D.L)(hn:y.N=m):Mr x y:=by grind [mem,Nj,ln]
theorem Rr.of(h:Rr R D){y:D3}(hy:y∈D.L):∃x,R.members.get y.N=some x/\Mr x y:=by cases hx:R.members.get y.N<;>grind [no,at_]
theorem Xj(z:Sz D)(h:Rr R D)(n:Int):T (dS D n) λv=>match R.members.get n with
  |none=>v= -1
  |some x=>∃(k:Nat) (y:D3),v=(k:Int)/\D.L[k]?=some y/\y.N=n/\Mr x y:=by
 refine(Alo z n).mono λv hv=>?_
 grind [Rr,Rr.of]
theorem Ag3(z:Sz D)(h:Rr R D)(n:Int):se D n=some (LW R n):=by unfold se;refine T.eq (.bind ((Xj z h n).mono λv hv=>?_));grind [LW,T.some,au,Mr.role]
theorem Rr.ins(h:Rr R D)(d:Int):OI R d=decide (d∈D.In):=by grind [OI,in_,Hg]
theorem inE(z:Sz D)(h:Rr R D)(d:Int):fb D.In d=some (OI R d):=by rw[cX z.i,Ju,h.ins]
theorem Alp(z:Sz D)(h:Rr R D)(d:Int):Fd D d=some (Hg (R.was.get d)):=by grind [Fd,cX,Sz.i,Sz.g,Ju,Rr.was,Hg]
theorem Y0(z:Sz D)(h:Rr R D)(d:Int):nW D d=some (DY R d):=by grind [nW,DY,Alp,ofE,Rr.card]
theorem AjB(z:Sz D)(i:Ab):T (jN D i) λv=>(v= -1/\∀y∈D.L,¬(y.Is=true/\y.ID=i))\/∃(k:Nat) (y:D3),v=(k:Int)/\D.L[k]?=some y/\y.Is=true/\y.ID=i:=by
 have:=z.l;unfold jN;refine .bind ((T.search D.L (λx=>x.Is&&decide (x.ID=i)) (λk _=>(k:Int)) aa (λk x hx hk=>?_) ?_).mono ?_)
 .grind [qQ,eA,au,aq]
 .grind [qQ,eF]
 .rintro r (⟨rfl,hn⟩|⟨k,y,hy,hp,rfl,hn⟩)
  .exact .some (by grind)
  .have hp2:y.Is=true/\y.ID=i:=by grind
   exact .some (by grind)
theorem AjC(z:Sz D)(h:Rr R D)(hR:Bj R)(i:Ab):T (jN D i) λv=>match R.members.es.find? λe=>Lm e.2.1 i with
  |none=>v= -1
  |some e=>∃(k:Nat) (y:D3) (g:Cd),v=(k:Int)/\D.L[k]?=some y/\y.N=e.1/\Mr e.2.1 y/\e.2.1.guard=some g/\g.id=i/\R.members.get e.1=some e.2.1:=by
 refine(AjB z i).mono ?_
 rintro v (⟨rfl,hn⟩|⟨k,y,rfl,hy,hp2⟩)
 .cases hf:R.members.es.find? λe=>Lm e.2.1 i with
  |none=>rfl
  |some e=>obtain⟨hx,_⟩:=hR.mem (List.mem_of_find?_eq_some hf);grind [Rr.mem,Lm,Mr.gd]
 .have a:=bO hy
  obtain⟨x,hx,hm⟩:=h.of a
  cases hgd:x.guard with
  |none=>grind [Mr.no]
  |some g=>
   have h1:=hm.gd g hgd
   have hid:g.id=i:=by grind
   have hgx:Lm x i=true:=by grind [Lm]
   cases hf:R.members.es.find? λe=>Lm e.2.1 i<;>grind [G9,Bj.mem,Bj.uni]
theorem Y1(z:Sz D)(h:Rr R D)(hR:Bj R)(o:Bp):T (nY D o) λv=>v.2=(C7 R o).2/\((C7 R o).2=0->∃(k:Nat) (y:D3) (x:Az) (g:Cd),v.1=(k:Int)/\D.L[k]?=some y/\y.N=(C7 R o).1/\R.members.get (C7 R o).1=some x/\Mr x y/\x.guard=some g/\g.id=o.Of):=by
 unfold nY;refine .bind ((AjC z h hR o.Of).mono λv hv=>?_);cases hf:R.members.es.find? λe=>Lm e.2.1 o.Of with
 |none=>grind [C7,T.some]
 |some e=>
  rw[hf] at hv;obtain⟨k,y,g,rfl,hy,a,hm,hgd,hid,hx⟩:=hv;have eS:C7 R o=bif g.guards.any λy=>decide (o.By=y)then(e.1,0)else(0,14):=by grind [C7]
  have h1:=hm.gd g hgd;grind [Bj.gn,au,cX,Ju,T.some]
end
theorem AdN(hl:l.length<=3000):Nr l d=some ((N9 (l.length+1) l).filter λs=>decide (d∈s)).reverse:=by
 obtain⟨e0,hn⟩:=ZJ (l.length+1) l aa aa;obtain⟨v,e1,_,hy⟩:=u6 (l.length+1) l aa aa;rw[e0] at e1;obtain rfl:=Bf e1;unfold Nr z0;rw[e0,aL];generalize N9 (l.length+1) l=b at hn hy;have e:wI (ah b-1)=ah b-1:=by grind [bM,ah]
 rw[e];refine T.eq (.bind (T.mono (T.loop (Q:=λr:LE=>r=(b.filter λs=>decide (d∈s)).reverse) (λs=> -1<=s.2/\s.2<(b.length:Int)/\s.1=((b.drop (s.2+1).toNat).filter λs=>decide (d∈s)).reverse) (λs=>(s.2+1).toNat) ⟨by unfold ah;omega,by unfold ah;omega,?_⟩ (by grind [ah]) ?_) λ_ h=> .some h))
 .grind [List.drop_eq_nil_of_le,ah]
 rintro⟨a,i⟩ ⟨i1,f,c⟩;simp only at i1 f c;unfold AF;refine .dec (λh0=>?_) λh0=> .some (show a=_ from ?_)
 .replace h0:0<=i:=h0;obtain⟨k,rfl⟩:=Int.eq_ofNat_of_zero_le h0;have hk:k<b.length:=aa;have hw:wI ((k:Int)-1)=(k:Int)-1:=bM aa aa;have hz:aS b (k:Int)=some (b[k]'hk):=Bg (DR hk);have ha:a.length<=6000:=by grind
  dsimp only;rw[hz,aL,cX (by grind),aL,Ju,hw];have ed:b.drop k=b[k]'hk::b.drop (k+1):=List.drop_eq_getElem_cons hk;rw[show((k:Int)+1).toNat=k+1 by omega] at c;by_cases hd:d∈b[k]'hk
  .rw[CO hd,ax,aL];refine .bind (.app (by grind) (.some ⟨⟨by show-1<=(k:Int)-1;omega,by show(k:Int)-1<_;omega,?_⟩,by show((k:Int)-1+1).toNat<((k:Int)+1).toNat;omega⟩));show a++[b[k]'hk]=((b.drop ((k:Int)-1+1).toNat).filter _).reverse;rw[show((k:Int)-1+1).toNat=k by omega,ed,List.filter_cons_of_pos (by simp[hd]),List.reverse_cons,c]
  .rw[C6 hd,Be];refine .some ⟨⟨by show-1<=(k:Int)-1;omega,by show(k:Int)-1<_;omega,?_⟩,by show((k:Int)-1+1).toNat<((k:Int)+1).toNat;omega⟩;show a=((b.drop ((k:Int)-1+1).toNat).filter _).reverse;rw[show((k:Int)-1+1).toNat=k by omega,ed,List.filter_cons_of_neg (by simp[hd]),c]
 .replace h0:¬0<=i:=h0;rw[c,show(i+1).toNat=0 by omega,List.drop_zero]
theorem UA(d:Int):∀(n:Nat) (l:Bk),l.length<n->l.length<=1000000->(XM d n l).length<=l.length+1
 |0,_,h,_=>(by grind)
 |n+1,l,h,hl=>by
  unfold XM;split
  .simp
  .obtain⟨_,k1,k2⟩:=X9 (n:=l.length) aa hl;have a:=UA d n (l.take (ZI l.length)) cq cq;have b:=UA d n (l.drop (ZI l.length)) cq cq;grind
theorem AdO(d:Int):∀(n:Nat) (l:Bk),l.length<n->l.length<=1000000->d∈l->l.Nodup->(∀s∈XM d n l,d∈s/\s.length<=l.length/\s.Nodup)/\((XM d n l).Pairwise λa b=>b.length<a.length)/\(XM d n l).getLast?=some [d]
 |0,_,h,_,_,_=>(by grind)
 |n+1,l,h,hl,hd,hn=>by
  unfold XM;split
  .match l,hd,hn with
   |[a],hd,hn=>simp_all
   |a::b::r,_,_=>simp at*
  .obtain⟨_,k1,k2⟩:=X9 (n:=l.length) aa hl;have hx:d∈l.take (ZI l.length)\/d∈l.drop (ZI l.length):=by grind [OQ]
   have key:∀q:Bk,q.length<l.length->d∈q->q.Nodup->(∀s∈l::XM d n q,d∈s/\s.length<=l.length/\s.Nodup)/\((l::XM d n q).Pairwise λa b=>b.length<a.length)/\(l::XM d n q).getLast?=some [d]:=λq h1 h2 h3=>by obtain⟨a,b,c⟩:=AdO d n q aa aa h2 h3;refine⟨λs hs=>?_,(by grind [List.pairwise_cons]),by grind⟩;grind
   split
   .grind
   grind
def tpL(d:Int)(l:Bk):LE:=if d∈l then(XM d (l.length+1) l).reverse else[]
structure UU (d:Int) (ss:LE):Prop where
 n:ss.length<=3000
 m:∀s∈ss,d∈s/\s.length<=3000/\s.Nodup
 p:ss.Pairwise λa b=>a.length<b.length
 f:∀s,ss[0]?=some s->s=[d]
theorem ZL:UU d []:=⟨aC,aC,.nil,aC⟩
theorem Ah5(hl:l.length<=2000)(hn:l.Nodup):UU d (tpL d l):=by
 unfold tpL;split
 .rename_i hd;obtain⟨a,b,c⟩:=AdO d (l.length+1) l aa aa hd hn;have:=UA d (l.length+1) l aa aa;constructor<;>grind
 .exact ZL
theorem AdP(hl:l.length<=3000)(hn:l.Nodup):Nr l d=some (tpL d l):=by grind [AdN,ZK,tpL]
theorem AdQ{gl:CB}(hl:l.length<=3000):ba prog gl 26 [aE cZ l,iG d] (aE Jc (tpL d l)):=by
 unfold tpL;by_cases hd:d∈l
 .grind [AfR,UA,Ab0,AdM]
 .rw[BA hd];refine Ab0 (a:=[]) (b:=[]) ?_ aC (by grind [AdM]) rfl;grind [Pm,Sv]
theorem AhF{x:Int}(hp:Pv l)(h1:∀i y,i<j->l[i]?=some y->y<=x)(h2:∀y,l[j]?=some y->x<=y):Pv (l.take j++[x]++l.drop j):=by
 have hpj:(l.take j++l.drop j).Pairwise λa b=>a<=b:=by rw[OQ];exact hp
 rw[List.pairwise_append] at hpj;have hlt:∀a∈l.take j,a<=x:=by grind [Gu]
 have hgt:∀b∈l.drop j,x<=b:=λb hb=>by cases hc:l[j]? <;>grind [List.drop_eq_nil_of_le,List.drop_eq_getElem_cons,List.pairwise_cons]
 grind [Pv]
theorem Adl(hl:l.length<=1000000):T (lg l) λr=>r.Perm l/\Pv r:=by
 unfold lg;refine .bind (T.mono (Q:=λr:Bk=>r.Perm l/\Pv r) (T.forA l.length (λk acc=>acc.Perm (l.take k)/\Pv acc) aa ⟨aC,.nil⟩ (λk acc hk hj=>?_) λacc hj=>?_) λx hx=> .some hx)
 .obtain⟨y,hy,hm⟩:=dk hk;have hal:acc.length=k:=by rw[hj.1.length_eq,Nv];omega
  unfold Nt;simp only[eA hk,ax,au,hy,aL];refine .bind (T.mono (Q:=λn:Int=>∃j:Nat,n=(j:Int)/\j<=acc.length/\(∀i z,i<j->acc[i]?=some z->z<=y)/\∀z,acc[j]?=some z->y<=z) (T.forI acc.length (λj=>∀i z,i<j->acc[i]?=some z->z<=y) aa (λi z h=>aa) (λj hjl hq=>?_) λhq=>?_) λn hn=>?_)
  .obtain⟨z,hz,a⟩:=dk hjl;unfold pa;simp only[eA hjl,ax,au,hz,hy,aL];refine .dec (λhc=> .some ⟨aq aa,λi b hi hz'=>?_⟩) λhc=> .some ⟨j,rfl,aa,hq,λb hz'=>?_⟩;all_goals grind
  .unfold pa;dsimp only;rw[eF,Be,aL,Be];refine .some ⟨acc.length,rfl,DC _,hq,λz hz=>?_⟩;grind
  .obtain⟨j,rfl,hjl,q1,c⟩:=hn;refine .bind (.pre aa aa (.bind (.app cq (.bind (.app cq (.bind (.suf aa aa (.bind (.app cq (.some ⟨aq aa,?_⟩))))))))));rw[M1,Fs];constructor<;>grind [AhF,Rb,Cy]
 .unfold Nt;dsimp only;rw[eF,Be];rw[EQ] at hj;exact .some hj
theorem abm{a b:Bk}(hp:a.Perm b)(h1:Pv a)(h2:Pv b):a=b:=List.Perm.eq_of_pairwise (le:=λa b=>a<=b) (by grind) h1 h2 hp
theorem Y2{α β γ:Type}{f:α->β}{g:α->γ}:∀{l:List α},(l.map g).Nodup->(∀x∈l,∀y∈l,f x=f y->g x=g y)->(l.map f).Nodup
 |[],_,_=> .nil
 |a::r,hd,h=>by rw[E7,LS] at hd⊢;refine⟨λhm=>?_,Y2 hd.2 (by grind)⟩;grind
section
variable {R:Ad} {D:C5}
abbrev atV(V:List G4)(i:Ab)(d:Int):Bk:=(V.filter λv=>decide (v.Of=i)&&decide (v.Device=d)).map (·.At)
theorem AjD(h:Rr R D)(hR:Bj R){x:Az}{g:Cd}(hx:R.members.get m=some x)(hg:x.guard=some g)(d:Int):(atV D.V g.id d).Perm (dvE d g.vouches.es):=by
 have hv:=hR.cv _ _ g hx hg;have hp:((D.V.filter λv=>decide (v.Of=g.id)&&decide (v.Device=d)).map λv=>(v.By,v.At)).Perm ((g.vouches.es.filter λe=>decide (e.1.device=d)).map λe=>(e.1.by_,e.2.1)):=by
  refine(List.perm_ext_iff_of_nodup ?_ ?_).2 λ⟨b,a⟩=>?_
  .refine Y2 (g:=λv:G4=>(v.Of,v.By,v.Device)) (h.vnd.sublist (List.filter_sublist.map _)) λp hp q hq e=>?_;grind
  .refine Y2 (g:=λe:CM×Int×Nat=>e.1) (hv.kd.sublist (List.filter_sublist.map _)) λp hp q hq e=>?_;rw[Hk] at hp hq;have h1:=DL hp.2;have h2:=DL hq.2;simp only[FF] at e;cases hp1:p.1;cases i:q.1;grind
  .have hb:=h.vou m x g hx hg b d a;constructor
   .intro hm;obtain⟨v,hv1,hv2⟩:=EP.1 hm;rw[Hk] at hv1;have h1:v.Of=g.id/\v.Device=d:=by simpa using hv1.2
    simp only[FF] at hv2;obtain⟨n,hn⟩:=G9 (hb.2 ⟨v,hv1.1,h1.1,hv2.1,h1.2,hv2.2⟩);exact EP.2 ⟨_,Hk.2 ⟨hn,CO rfl⟩,rfl⟩
   .intro hm;obtain⟨e,c,f⟩:=EP.1 hm;rw[Hk] at c;have h1:=DL c.2;simp only[FF] at f;have hge:=IX hv (k:=e.1) (v:=e.2.1) (n:=e.2.2) c.1;have hk:e.1=⟨b,d⟩:=by cases hq:e.1;grind
    rw[hk,f.2] at hge;obtain⟨v,k1,k2,k3,j,k5⟩:=hb.1 hge;grind
 have:=hp.map Prod.snd;rw[HR,HR] at this;exact this
theorem atT(z:Sz D)(d:Int)(y:D3):AA (PE D d y) ([],0)=some (atV D.V y.ID d):=by
 have:=z.v;refine T.eq (T.forA D.V.length (λk acc=>acc=atV (D.V.take k) y.ID d) aa (by simp[atV]) (λk acc hk hj=>?_) λacc hj=>?_)
 .obtain⟨v,hv,_⟩:=dk hk;have hal:acc.length<=k:=by grind
  have e:atV (D.V.take (k+1)) y.ID d=acc++(if v.Of=y.ID/\v.Device=d then[v.At] else[]):=by unfold atV;rw[Rb hv,Qn,List.map_append];grind
  unfold PE;simp only[eA hk,ax,au,hv,aL];by_cases c1:v.Of=y.ID
  .by_cases c2:v.Device=d
   .simp only[c1,c2,decide_true,ax,aL];rw[Bx ⟨c1,c2⟩] at e;exact .bind (.app cq (.some ⟨aq aa,e.symm⟩))
   .simp only[c1,c2,decide_true,decide_false,ax,Be,aL];rw[BA λc=>c2 c.2,MG] at e;exact .some ⟨aq aa,e.symm⟩
  .simp only[c1,decide_false,Be,aL];rw[BA λc=>c1 c.1,MG] at e;exact .some ⟨aq aa,e.symm⟩
 .unfold PE;dsimp only;rw[eF,Be];refine .some (show acc=_ from ?_);rw[hj,EQ]
theorem Alq(z:Sz D)(h:Rr R D)(hR:Bj R)(m d:Int):Ff D m d=some (XT R m d):=by
 unfold Ff;refine T.eq (.bind ((Xj z h m).mono λv hv=>?_));unfold XT;cases hx:R.members.get m with
 |none=>grind [T.some]
 |some x=>
  rw[hx] at hv;obtain⟨k,y,rfl,hy,_,hm⟩:=hv;rw[show decide ((k:Int)<0)=false from C6 aa,Be,au,hy,aL];dsimp only;cases hg:x.guard with
  |none=>grind [Mr.no,T.some]
  |some g=>
   have h1:=hm.gd g hg;have hv:=hR.cv _ _ g hx hg;have hb:=hR.vb _ _ g hx hg;have hn:=hR.gN _ _ g hx hg;have h6:=aaF hv.kd hb (List.Pairwise.of_map (λx=>x.1) (by grind) hv.kd) (λe he=>he) d;obtain⟨srt,e1,p1,s1⟩:=Acg (l:=dvE d g.vouches.es) aa;have hda:Abx g d=srt:=by unfold Abx;rw[e1];rfl
   have hp:=AjD h hR hx hg d;rw[h1.1,atT z d y,aL];simp only[Bool.not_true,Be];rw[hda,h1.2.1];refine .bind ((Adl (by rw[hp.length_eq];omega)).mono λv hv=>?_);obtain rfl:v=srt:=abm (hv.1.trans (hp.trans p1.symm)) hv.2 s1;rw[h1.2.2.2.1,h1.2.2.2.2.1,h1.2.2.2.2.2.1,h1.2.2.2.2.2.2];refine .dec (by grind [T.some]) λhc=>?_;rw[C6 hc,Be];have hc2:g.need<=(v.length:Int):=by unfold ah at hc;omega
   have hz0:aS v 0=some (v.getD 0 0):=by grind [au]
   have hz1:aS v (wI (g.need-1))=some (v.getD (g.need.toNat-1) 0):=by grind [bM,au]
   grind [T.some]
theorem Adm(z:Sz D)(h:Rr R D)(o:Bp)(m:Int):o9 D o m (decide (LW R m=3))=some (Ac3 R o m):=by
 unfold o9 Ac3 I9;rw[inE z h,ofE z,h.card,aL,aL];cases decide (o.Device≠0) with
 |true=>grind
 |false=>refine T.eq (.bind ((Xj z h o.Member).mono λv hv=>?_));grind [T.some]
theorem Alr(z:Sz D)(h:Rr R D)(hR:Bj R)(hk:o.Kind=11):mB D o=some (Ac4 R o):=by
 unfold mB Ac4;refine T.eq (.bind ((Y1 z h hR o).mono λv hv=>?_));rw[hv.1];cases c0:decide ((C7 R o).2≠0) with
 |true=>exact .some rfl
 |false=>
  have c1:(C7 R o).2=0:=by simpa using c0
  obtain⟨k,y,x,g,hv1,hy,a,hx,hm,hgd,hid⟩:=hv.2 c1;rw[Be,hv1,au,hy,aL,ofE z,Y0 z h,h.card,a,hk];grind [T.some]
theorem Als(z:Sz D)(h:Rr R D)(hR:Bj R)(hk:o.Kind=13):mB D o=some (Ac5 R o):=by
 unfold mB Ac5 AiC;refine T.eq (.bind ((Y1 z h hR o).mono λv hv=>?_));rw[hv.1];cases c0:decide ((C7 R o).2≠0) with
 |true=>exact .some rfl
 |false=>
  have c1:(C7 R o).2=0:=by simpa using c0
  obtain⟨k,y,x,g,hv1,hy,a,hx,hm,hgd,hid⟩:=hv.2 c1;rw[Be,hv1,au,hy,aL,ofE z,ofE z,Y0 z h,inE z h,h.card,h.card,a,hk,Alq z h hR];simp only[Int.reduceEq,decide_true,decide_false,ax,Be,aL];generalize XT R (C7 R o).1 o.Device=q;cases OI R o.Old with
  |false=>exact .some rfl
  |true=>simp only[Bool.not_true,Be,ax];cases decide (Xi D.Cards o.Old≠(C7 R o).1)<;>grind [T.some]
theorem AjE(z:Sz D)(h:Rr R D)(hR:Bj R)(hgl:o.Guards.length<=1000000)(i:Ab):AX D o i=some (SD R o):=by
 have e:=z.dev;unfold AX;rw[ofE z,aL,<-h.card];unfold SD;by_cases k1:o.Kind=1
 .grind [Rr.w0,ah]
 rw[BA k1,C6 k1,Be,inE z h,aL];cases OI R o.By with
 |false=>rfl
 |true=>
 rw[Bool.not_true,Be,ax,Ag3 z h,aL];unfold Aby;by_cases k2:o.Kind=2
 .grind [Y0,ofE,AeQ,I9,Rr.card]
 rw[BA k2,C6 k2,Be];by_cases k3:o.Kind=3
 .grind [Adm]
 rw[BA k3,C6 k3,Be];by_cases k5:o.Kind=5
 .rw[Bx k5,CO k5,ax];unfold AeR I9;cases decide (LW R (Dq R o.By)=3) with
  |false=>rfl
  |true=>simp only[Bool.not_true,Be,ax];refine T.eq (.bind ((Xj z h o.Member).mono λv hv=>?_));grind [T.some]
 rw[BA k5,C6 k5,Be];by_cases k6:o.Kind=6
 .grind [AeS]
 rw[BA k6,C6 k6,Be];by_cases k8:o.Kind=8
 .grind [ofE,AeT,I9,Rr.card]
 rw[BA k8,C6 k8,Be];by_cases k9:o.Kind=9
 .rw[Bx k9,CO k9,ax];unfold AeV;refine T.eq (.bind ((T.search o.Guards (λx=> !OI R x) (λk _=>(17:Int)) aa (λk x hx hk=>?_) ?_).mono ?_))
  .grind [SM,eA,au,inE,aq]
  .unfold SM;rw[eF,Be]
  .rintro r (⟨rfl,hn⟩|⟨k,x,hx,hp,rfl,hn⟩)
   .refine .some ?_;grind
   .refine .some ?_;grind
 rw[BA k9,C6 k9,Be];have hO:T ((dS D (Dq R o.By)).bind λa=>bif a<0 then(some 25)else(((aS D.L a).bind λb=>bif(!b.Is)then(some true)else((aS D.L a).bind λc=>some (!decide (c.ID=o.Of)))).bind λd=>bif d then(some 25)else(some 0))) λw=>w=AaG R o (Dq R o.By):=by
  refine .bind ((Xj z h (Dq R o.By)).mono λv hv=>?_);unfold AaG;cases hx:R.members.get (Dq R o.By) with
  |none=>grind [T.some]
  |some x=>rw[hx] at hv;grind [au,Mr.no,T.some,Mr.gd]
 grind [T.eq,Alr,Als]
end
theorem Alt{K V:Type}[DecidableEq K]{m:FM K V}{k:K}{p:V}:(C3 m k p).es.length=if(m.get k).isSome then m.es.length else m.es.length+1:=by
 unfold C3;cases hk:bu k (m.es.map (·.1)) with
 |none=>rw[SA hk];simp
 |some j=>obtain⟨e,_,_,h⟩:=LX hk;rw[h];simp
structure Sy (D:C5):Prop where
 c:D.Cards.length<=1000
 dev:D.In.length+D.Gone.length<=2000
 l:D.L.length<=2000
 v:D.V.length<=2000
structure Gw (D D':C5):Prop where
 c:D'.Cards=D.Cards
 dev:D'.In.length+D'.Gone.length<=D.In.length+D.Gone.length+1
 l:D'.L.length<=D.L.length+1
 v:D'.V=D.V
theorem Gw.rfl'{D:C5}:Gw D D:=by grind [Gw]
theorem Sy.z{D:C5}(h:Sy D):Sz D:=by grind [Sy,Sz]
section
variable {R:Ad} {D:C5}
theorem AjF(h:Rr R D)(h1:d∉D.In)(h2:d∉D.Gone):Rr {R with in_:=C3 R.in_ d true,was:=C3 R.was d true} {D with In:=D.In++[d]} where
 card:=h.card
 nd:=by show(D.In++[d]++D.Gone).Nodup;rw[List.append_assoc,List.singleton_append,List.perm_middle.nodup_iff,LS];grind [Rr.nd]
 in_ e:=by grind [Bz,Rr.in_]
 was e:=by grind [Bz,Rr.was]
 w0:=by grind [Rr.was,Alt,Rr.w0]
 ln:=h.ln
 no:=h.no
 mem:=h.mem
 vou:=h.vou
 vof:=h.vof
 vnd:=h.vnd
 back:=h.back
theorem AhG(h:Rr R D){m role:Int}(hm:R.members.get m=none):Rr {R with members:=C3 R.members m ⟨role,none⟩} {D with L:=D.L++[⟨m,role,false,⟨0,0,0⟩,[],0,0,false,0⟩]} where
 card:=h.card
 nd:=h.nd
 in_:=h.in_
 was:=h.was
 w0:=h.w0
 ln:=by show((D.L++[(⟨m,role,false,⟨0,0,0⟩,[],0,0,false,0⟩:D3)]).map (·.N)).Nodup;rw[List.map_append,E7,List.map_nil,List.perm_append_comm.nodup_iff,List.singleton_append,LS];grind [Rr.ln,Rr.no]
 no k hk y hy:=by grind [Bz,Rr.no]
 mem k x hk:=by
  have hk:(C3 R.members m ⟨role,none⟩).get k=some x:=hk;rw[Bz] at hk;split at hk
  .rename_i e;cases hk;exact⟨_,Jk.2 (.inr (List.mem_singleton.2 rfl)),e.symm,rfl,λ_=>rfl,λg hg=>by cases hg⟩
  grind [Rr.mem]
 vou k x g hk hg:=by grind [Bz,Rr.vou]
 vof v hv:=by obtain⟨k,x,g,hk,hg,e⟩:=h.vof v hv;refine⟨k,x,g,?_,hg,e⟩;grind [Bz]
 vnd:=h.vnd
 back:=h.back
theorem AaY(z:Sy D)(h:Rr R D)(hR:Bj R)(d role:Int):T (nX D d role) λD'=>Rr (I6 R d role) D'/\Gw D D':=by
 have a:=z.dev;have b:=z.l;unfold nX I6;rw[Y0 z.z h,aL];cases hf:DY R d with
 |false=>exact .some ⟨h,.rfl'⟩
 |true=>
  rw[Bool.not_true,Be,ax];have hw:R.was.get d=none:=by grind [Rr.was,DY,Hg]
  have hnd:d∉D.In/\d∉D.Gone:=by grind [Rr.was]
  refine .bind (.app cq (.bind (.app cq ?_)));rw[M1];have h':=AjF h hnd.1 hnd.2;rw[show gE {D with In:=D.In++[d]} d=gE D d from rfl,ofE z.z,aL,<-h.card];rw[show dS {D with In:=D.In++[d]} (Dq R d)=dS D (Dq R d) from rfl];refine .bind ((Xj z.z h (Dq R d)).mono λv hv=>?_);cases hx:R.members.get (Dq R d) with
  |none=>rw[hx] at hv;subst hv;rw[show decide ((-1:Int)<0)=true from rfl,ax];refine .bind (.bind (.app cq (.bind (.app cq (.some ?_)))));rw[M1];exact .some ⟨AhG (role:=role) h' hx,rfl,by simp;omega,aC,rfl⟩
  |some x=>rw[hx] at hv;obtain⟨k,y,rfl,_⟩:=hv;rw[show decide ((k:Int)<0)=false from C6 aa,Be];exact .some ⟨h',rfl,by simp;omega,aC,rfl⟩
theorem Adn(h:Rr R D)(hy:D.L[k]?=some y)(hn:y.N=m)(a:y'.N=m):((D.L.set k y').map (·.N)).Nodup:=by grind [List.map_set,Rr.ln]
theorem Ado(h:Rr R D)(a:y'.N=m)(q:Int)(hq:(C3 R.members m x').get q=none)(z:D3)(hz:z∈D.L.set k y'):z.N≠q:=by grind [Bz,Rr.no]
theorem Y3(h:Rr R D)(hy:D.L[k]?=some y)(hn:y.N=m)(a:y'.N=m)(hM:Mr x' y')(q:Int)(z:Az)(hq:(C3 R.members m x').get q=some z):∃y∈D.L.set k y',y.N=q/\Mr z y:=by
 rw[Bz] at hq;split at hq
 .rename_i e;cases hq;exact⟨y',bO (i:=k) (by grind),a.trans e.symm,hM⟩
 .rename_i hne;obtain⟨w,hw,b,c⟩:=h.mem q z hq;obtain⟨j,hj⟩:=Gu hw;have hkj:¬k=j:=by grind
  exact⟨w,bO (i:=j) (by grind),b,c⟩
theorem Adp(h:Rr R D){x:Az}(hx:R.members.get m=some x)(hy:D.L[k]?=some y)(hn:y.N=m)(b:y'.N=m)(hM:Mr x' y')(h1:∀a,x'.guard=some a->∃g,x.guard=some g/\a.id=g.id/\a.vouches=g.vouches)(h2:∀g,x.guard=some g->∃a,x'.guard=some a/\a.id=g.id):Rr (HD R m x') {D with L:=D.L.set k y'} where
 card:=h.card
 nd:=h.nd
 in_:=h.in_
 was:=h.was
 w0:=h.w0
 ln:=Adn h hy hn b
 no q hq z hz:=Ado h b q hq z hz
 mem q z hq:=Y3 h hy hn b hM q z hq
 vou q z a hq hg':=by grind [Bz,Rr.vou]
 vof v hv:=by
  obtain⟨q,z,g,hq,hg,e⟩:=h.vof v hv;by_cases c:q=m
  .subst c;rw[hx] at hq;cases hq;obtain⟨a,e1,e2⟩:=h2 g hg;exact⟨q,x',a,by grind [Bz],e1,e.trans e2.symm⟩
  .exact⟨q,z,g,by grind [Bz],hg,e⟩
 vnd:=h.vnd
 back:=h.back
theorem AjG(z:Sy D)(h:Rr R D)(o:Bp):T ((dS D o.Member).bind λa=>bif 0<=a then((aS D.L a).bind λb=>(o6 D.L a ({b with Role:=o.Role})).bind λc=>some ({D with L:=c}))else(some D)) (Rr (Uf R o)):=by
 have d:=z.l;refine .bind ((Xj z.z h o.Member).mono λv hv=>?_);unfold Uf;cases hx:R.members.get o.Member with
 |none=>grind [T.some]
 |some x=>rw[hx] at hv;obtain⟨k,y,rfl,hy,hn,hM⟩:=hv;have hk:=(cr hy).1;rw[show decide ((0:Int)<=(k:Int))=true from CO aa,ax,au,hy,aL];unfold o6;refine .bind (.bind (.app cq (.bind (.set aa cq (.some (.some ?_))))));rw[M1,Fs];grind [Adp,Mr]
abbrev inF(l:Bk)(d:Int):Bk:=l.filter λx=>decide (x≠d)
abbrev lF(l:List D3)(m:Int):List D3:=l.filter λy=>decide (y.N≠m)
def Y4(l:List D3)(i:Ab):Bool:=l.any λy=>y.Is&&decide (y.ID=i)
theorem OP{l:List D3}{i:Ab}:Y4 l i=true↔∃y∈l,y.Is=true/\y.ID=i:=by grind [Y4]
theorem AjH(z:Sz D)(i:Ab):T (jN D i) λv=>decide (0<=v)=Y4 D.L i:=by grind [T.mono,AjB,OP]
theorem Y5:∀{l:Bk} {d:Int},l.Nodup->d∈l->(inF l d).length+1=l.length
 |[],d,_,h=>by cases h
 |x::r,d,hn,h=>by
  rw[LS] at hn;by_cases e:x=d
  .grind [List.filter_eq_self]
  .have:=Y5 hn.2 ((EG.1 h).resolve_left λc=>e c.symm);grind
theorem AhH(h:Rr R D)(hR:Bj R)(hd:d∈D.In):Rr (IK R d) {D with In:=inF D.In d,Gone:=D.Gone++[d]} where
 card:=h.card
 nd:=by show(inF D.In d++(D.Gone++[d])).Nodup;have h1:=List.nodup_append.1 h.nd;grind
 in_ e:=by grind [Nk,Bj.ci,Rr.in_]
 was e:=by grind [Rr.was]
 w0:=by grind [Y5,Rr.nd,Rr.w0]
 ln:=h.ln
 no:=h.no
 mem:=h.mem
 vou:=h.vou
 vof:=h.vof
 vnd:=h.vnd
 back:=h.back
theorem AhI(h:Rr R D)(hR:Bj R)(m:Int):Rr (RX R m) {D with L:=lF D.L m,V:=D.V.filter λv=>Y4 (lF D.L m) v.Of}:=by
 have hg:∀k,(RX R m).members.get k=if k=m then none else R.members.get k:=λk=>Nk hR.cm k
 have hmem:∀y,y∈lF D.L m↔y∈D.L/\y.N≠m:=by grind
 constructor<;>try grind [Rr.nd,Rr.in_,Rr.was,Rr.w0,Rr.ln,Rr.of,Rr.vnd,Rr.back]
 .exact h.card
 .exact(by grind [Rr.mem])
 .exact λk x g hk hgd b d a=>by
   rw[hg] at hk;split at hk
   .cases hk
   .rename_i hne;rw[h.vou k x g hk hgd b d a];obtain⟨y,hy,hn,hm⟩:=h.mem k x hk;have h1:=hm.gd g hgd;have hown:Y4 (lF D.L m) g.id=true:=by grind [OP]
    constructor
    .rintro⟨v,hv,e1,e2⟩;exact⟨v,(by grind),e1,e2⟩
    .rintro⟨v,hv,e⟩;exact⟨v,(Hk.1 hv).1,e⟩
 .exact λv hv=>by obtain⟨y,hy,h1,h2⟩:=OP.1 (Hk.1 hv).2;have c:=(hmem y).1 hy;obtain⟨x,hx,hm⟩:=h.of c.1;cases hgd:x.guard<;>grind [Mr.no,Mr.gd]
theorem AjI(z:Sy D)(d f:Int):T (AA (uj D d f) ([],false,0)) λx=>x=(inF D.In d,(inF D.In d).any λx=>decide (Xi D.Cards x=f)):=by
 have hd:=z.dev;refine T.loop (λs=>∃k:Nat,k<=D.In.length/\s.2.2=(k:Int)/\s.1=inF (D.In.take k) d/\s.2.1=(inF (D.In.take k) d).any λx=>decide (Xi D.Cards x=f)) (λs=>D.In.length-s.2.2.toNat) (by grind) cq ?_;rintro⟨a,b,i⟩ ⟨k,hk,rfl,ha,hb⟩;dsimp only at ha hb;subst ha;unfold uj;dsimp only;rcases HE k D.In.length with hlt|hge
 .obtain⟨x,hx,_⟩:=dk hlt;have hla:(inF (D.In.take k) d).length<=k:=by grind
  simp only[eA hlt,ax,au,hx,aL,ofE z.z];have ew:=aq (show k<2305843009213693952 by omega);have e:inF (D.In.take (k+1)) d=inF (D.In.take k) d++(if x≠d then[x] else[]):=by unfold inF;rw[Rb hx,Qn];by_cases c:x=d<;>simp[c]
  refine .dec (λhc=>?_) λhc=>?_
  .rw[Bx hc] at e;refine .bind (.app cq (.bind (x:=bif b then some true else some (decide (Xi D.Cards x=f))) (T.mono (Q:=λq=>q=(b||decide (Xi D.Cards x=f))) (by cases b<;>exact .some rfl) λq hq=> .some ⟨⟨k+1,aa,ew,e.symm,?_⟩,?_⟩)));all_goals grind
  .rw[BA hc,MG] at e;refine .some ⟨(by grind),?_⟩;rw[ew];simp;omega
 .obtain rfl:k=D.In.length:=aa;rw[eF,Be];refine .some (show(_,_)=_ from ?_);rw[hb,EQ]
theorem AjJ(z:Sy D)(m:Int):T (AA (ui D m) ([],[],0)) λx=>x=(lF D.L m,[]):=by
 have hd:=z.l;refine T.loop (λs=>∃k:Nat,k<=D.L.length/\s.2.2=(k:Int)/\s.1=lF (D.L.take k) m/\s.2.1=[]) (λs=>D.L.length-s.2.2.toNat) (by grind) cq ?_;rintro⟨a,b,i⟩ ⟨k,hk,rfl,ha,hb⟩;dsimp only at ha hb;subst ha;subst hb;unfold ui;dsimp only;rcases HE k D.L.length with hlt|hge
 .obtain⟨x,hx,_⟩:=dk hlt;have hla:(lF (D.L.take k) m).length<=k:=by grind
  simp only[eA hlt,ax,au,hx,aL];have ew:=aq (show k<2305843009213693952 by omega);have e:lF (D.L.take (k+1)) m=lF (D.L.take k) m++(if x.N≠m then[x] else[]):=by unfold lF;rw[Rb hx,Qn];grind
  refine .dec (λhc=>?_) λhc=>?_
  .rw[Bx hc] at e;refine .bind (.app cq (.some ⟨(by grind),?_⟩));rw[ew];simp;omega
  .rw[BA hc,MG] at e;refine .some ⟨(by grind),?_⟩;rw[ew];simp;omega
 .obtain rfl:k=D.L.length:=aa;rw[eF,Be];refine .some (show(_,_)=_ from ?_);rw[EQ]
theorem AjK{step:List G4×Int->Option ((List G4×Int)⊕List G4)}{V:List G4}{p:G4->Bool}(hn:V.length<=2000)(hs:∀(k:Nat) (v:G4) (acc:List G4),V[k]?=some v->acc.length<=2000->T (step (acc,(k:Int))) λq=>q= .inl (if p v then acc++[v]else acc,wI ((k:Int)+1)))(he:∀acc,step (acc,(V.length:Int))=some (.inr acc)):T (AA step ([],0)) λx=>x=V.filter p:=by
 refine T.forA V.length (λk acc=>acc=(V.take k).filter p) aa aC (λk acc hk hj=>?_) λacc hj=>?_
 .obtain⟨v,hv,_⟩:=dk hk;have hal:acc.length<=k:=by grind
  refine(hs k v acc hv aa).mono λq hq=>?_;subst hq;refine⟨aq aa,?_⟩;dsimp only;rw[Rb hv,Qn,<-hj];cases hp:p v<;>simp[hp]
 .rw[he];refine .some (show acc=_ from ?_);rw[hj,EQ]
theorem Ag4(z:Sy D)(h:Rr R D)(hR:Bj R)(d:Int):T (sh D d) λD'=>Rr (GV R d) D'/\Sy D':=by
 have f:=z.dev;have b:=z.l;have a:=z.v;have z4:=z.c;unfold sh GV;rw[inE z.z h,aL];cases hi:OI R d with
 |false=>exact .some ⟨h,z⟩
 |true=>
  have hd:d∈D.In:=by grind [Rr.ins]
  rw[Bool.not_true,Be,ax,ofE z.z,aL,<-h.card];refine .bind ((AjI z d (Dq R d)).mono λx hx=>?_);subst hx;have ho:=AhH h hR hd;have hlen:=Y5 (List.nodup_append.1 h.nd).1 hd;have hst:LP (IK R d) (Dq R d)=(inF D.In d).any λx=>decide (Xi D.Cards x=Dq R d):=by
   unfold LP;rw[Bool.eq_iff_iff,List.any_eq_true,List.any_eq_true];constructor
   .rintro⟨e,he,hc⟩;have hg:=IX (UF hR.ci) (k:=e.1) (v:=e.2.1) (n:=e.2.2) he;have hge:=ho.in_ e.1;grind [Rr]
   .rintro⟨x,hx,hc⟩;have hge:=ho.in_ x;rw[Bx hx] at hge;obtain⟨n,hn⟩:=G9 hge;grind [Rr]
  refine .bind (.app cq (.bind (.app cq ?_)));rw[M1];dsimp only;rw[hst];cases hb:(inF D.In d).any λx=>decide (Xi D.Cards x=Dq R d) with
  |true=>grind [Sy,T.some]
  |false=>
   rw[Be,Be];refine .bind ((AjJ z (Dq R d)).mono λx hx=>?_);subst hx;have hlf:(lF D.L (Dq R d)).length<=2000:=LD (Mj _ _) b;have hif:(inF D.In d).length<=D.In.length:=Mj _ _;refine .bind ((AjK (p:=λv=>Y4 (lF D.L (Dq R d)) v.Of) a (λk v acc hv hal=>?_) λacc=>?_).mono λx hx=>?_)
   .have hk:=(cr hv).1;unfold uh;simp only[eA hk,ax,au,hv,aL];grind [T.bind,T.mono,AjH,Sz,T.app,T.some]
   .grind [uh,eF]
   .subst hx;exact .some ⟨AhI ho (aab hR d) (Dq R d),z4,by simp;omega,hlf,LD (Mj _ _) a⟩
end
structure Rq (Q Q':Ad):Prop where
 c:∀d,Dq Q' d=Dq Q d
 i:∀d,Q'.in_.get d=Q.in_.get d
 w:∀d,Q'.was.get d=Q.was.get d
 n:Q'.was.es.length=Q.was.es.length
 m:∀k,Q'.members.get k=Q.members.get k
 b:Q'.back=Q.back
theorem Rq.rr{Q Q':Ad}{D:C5}(q:Rq Q Q')(h:Rr Q D):Rr Q' D where
 card d:=(q.c d).trans (h.card d)
 nd:=h.nd
 in_ d:=(q.i d).trans (h.in_ d)
 was d:=(q.w d).trans (h.was d)
 w0:=q.n.trans h.w0
 ln:=h.ln
 no m hm:=h.no m ((q.m m).symm.trans hm)
 mem m x hm:=h.mem m x ((q.m m).symm.trans hm)
 vou m x g hm hg:=by grind [Rr,m]
 vof v hv:=by grind [Rr.vof,m]
 vnd:=h.vnd
 back:=q.b.trans h.back
structure Go (R Q:Ad) (m:Int) (p:Bk):Prop where
 c:∀d,Dq Q d=Dq R d
 w:Q.was=R.was
 b:Q.back=R.back
 i:∀e,Q.in_.get e=if e∈p then none else R.in_.get e
 m1:p=[]\/(∃e v,Q.in_.get e=some v/\Dq R e=m)->∀k,Q.members.get k=R.members.get k
 m2:p≠[]->(∀e v,Q.in_.get e=some v->Dq R e≠m)->∀k,Q.members.get k=if k=m then none else R.members.get k
theorem Go.step{R Q:Ad}{m:Int}{p:Bk}{d:Int}(h:Go R Q m p)(hQ:Bj Q)(hp:d∉p)(hi:R.in_.get d=some true)(hm:Dq R d=m):Go R (GV Q d) m (p++[d]):=by
 have hq:Q.in_.get d=some true:=by rw[h.i,BA hp,hi]
 have hin:OI Q d=true:=by unfold OI;rw[hq];rfl
 have ho:∀e,(IK Q d).in_.get e=if e∈p++[d]then none else R.in_.get e:=by grind [Nk,Bj.ci,i]
 have hst:LP (IK Q d) (Dq Q d)=true↔∃e v,(IK Q d).in_.get e=some v/\Dq R e=m:=by
  unfold LP;rw[List.any_eq_true,h.c,hm];constructor
  .rintro⟨e,he,hc⟩;exact⟨e.1,e.2.1,(by grind [IX,UF,Bj.ci]),(h.c e.1).symm.trans (DL hc)⟩
  .rintro⟨e,v,hg,hc⟩;obtain⟨n,hn⟩:=G9 hg;exact⟨_,hn,CO ((h.c e).trans hc)⟩
 have a:=h.m1 (.inr ⟨d,true,hq,hm⟩);unfold GV;rw[hin,ax];cases hs:LP (IK Q d) (Dq Q d) with
 |true=>have hx:=hst.1 hs;exact⟨h.c,h.w,h.b,ho,λ_=>a,(by grind)⟩
 |false=>
  have hx:¬∃e v,(IK Q d).in_.get e=some v/\Dq R e=m:=by grind
  refine⟨h.c,h.w,h.b,ho,λc=>?_,λ_ _ k=>?_⟩;all_goals grind [Nk,Bj.cm,c]
theorem Go.fold{R:Ad}{m:Int}:∀{l p:Bk} {Q:Ad},Go R Q m p->Bj Q->(p++l).Nodup->(∀d∈l,R.in_.get d=some true/\Dq R d=m)->Go R (l.foldl GV Q) m (p++l)
 |[],p,Q,h,_,_,_=>by rw[MG];exact h
 |d::r,p,Q,h,hQ,hn,hl=>by
  have hp:d∉p:=by grind
  have h1:=h.step hQ hp (hl d aC).1 (hl d aC).2;have:=Go.fold (l:=r) h1 (KE hQ d) (by rw[List.append_assoc];exact hn) (by grind);rw[List.append_assoc] at this;exact this
theorem SN{R:Ad}{m:Int}:∀{l:Bk} {Q:Ad},(∀d,Dq Q d=Dq R d)->l.foldl (SB m) Q=(l.filter λd=>decide (Dq R d=m)).foldl GV Q
 |[],Q,_=>rfl
 |d::r,Q,h=>by
  have hc:∀e,Dq (GV Q d) e=Dq R e:=by grind [GV,Dq]
  have e:SB m Q d=bif Dq R d=m then GV Q d else Q:=by unfold SB;rw[h d]
  rw[List.foldl_cons,e];by_cases c:Dq R d=m
  .rw[CO c,ax,List.filter_cons_of_pos (p:=λd=>decide (Dq R d=m)) (CO c),List.foldl_cons];exact SN hc
  .rw[C6 c,Be,List.filter_cons_of_neg (p:=λd=>decide (Dq R d=m)) (by simpa using c)];exact SN h
section
variable {R:Ad} {D:C5}
theorem Ag5(l:Bk)(hl:l.length<=2000)(z:Sy D)(h:Rr R D)(hR:Bj R):T (AA (AT l) (D,0)) λD'=>Rr (l.foldl GV R) D'/\Sy D':=by
 refine(T.forA l.length (λk D'=>Rr ((l.take k).foldl GV R) D'/\Bj ((l.take k).foldl GV R)/\Sy D') aa ⟨h,hR,z⟩ (λk D' hk hj=>?_) λD' hj=>?_)
 .obtain⟨x,hx,_⟩:=dk hk;unfold AT;simp only[eA hk,ax,au,hx,aL];refine .bind ((Ag4 hj.2.2 hj.1 hj.2.1 x).mono λa h2=> .some ⟨aq aa,?_⟩);rw[Rb hx,On];grind [KE]
 .unfold AT;dsimp only;rw[eF,Be];rw[EQ] at hj;exact .some ⟨hj.1,hj.2.2⟩
theorem Alu(z:Sy D)(o:Bp){st:Bk×Int->Option ((Bk×Int)⊕Bk)}(hst:st=Pj D o):AA st ([],0)=some (D.In.filter λx=>decide (Xi D.Cards x=o.Member)):=by
 have a:=z.dev;subst hst;refine T.eq (T.forA D.In.length (λk acc=>acc=(D.In.take k).filter λx=>decide (Xi D.Cards x=o.Member)) aa aC (λk acc hk hj=>?_) λacc hj=>?_)
 .obtain⟨x,hx,_⟩:=dk hk;have hal:acc.length<=k:=by grind
  unfold Pj;simp only[eA hk,ax,au,hx,aL,ofE z.z];have e:(D.In.take (k+1)).filter (λx=>decide (Xi D.Cards x=o.Member))=acc++(if Xi D.Cards x=o.Member then[x] else[]):=by rw[Rb hx,Qn,<-hj];grind
  refine .dec (λhc=>?_) λhc=>?_
  .rw[Bx hc] at e;exact .bind (.app cq (.some ⟨aq aa,e.symm⟩))
  .rw[BA hc,MG] at e;exact .some ⟨aq aa,e.symm⟩
 .unfold Pj;dsimp only;rw[eF,Be];refine .some (show acc=_ from ?_);rw[hj,EQ]
theorem Alv(z:Sy D)(h:Rr R D)(hR:Bj R)(o:Bp):T (AA (AT (D.In.filter λx=>decide (Xi D.Cards x=o.Member))) (D,0)) (Rr (AeN R o)):=by
 have j:=z.dev;have hn:=(List.nodup_append.1 h.nd).1;refine(Ag5 _ (by grind) z h hR).mono λD' hD=>?_;unfold AeN;rw[SN λd=>rfl];obtain⟨m,f,_⟩:=Lo hR;generalize hA:(D.In.filter λx=>decide (Xi D.Cards x=o.Member))=A at hD;generalize hB:((He R).filter λd=>decide (Dq R d=o.Member))=B;have hAB:∀e,e∈A↔e∈B:=λe=>by
  rw[<-hA,<-hB,Hk,Hk,f.mem_iff,h.card];refine and_congr ?_ Iff.rfl;have hi:=h.in_ e;constructor
  .grind [G9]
  .intro he;obtain⟨q,hq,rfl⟩:=EP.1 he;have hg:=IX hR.ci (k:=q.1) (v:=q.2.1) (n:=q.2.2) hq;grind
 have hin:∀d∈A,R.in_.get d=some true/\Dq R d=o.Member:=by grind [Rr.in_]
 have h0:Go R R o.Member []:=by constructor<;>grind
 have gA:=Go.fold (l:=A) h0 hR (by rw[M1,<-hA];exact hn.sublist List.filter_sublist) hin;have gB:=Go.fold (l:=B) h0 hR (by rw[M1,<-hB];exact((f.nodup_iff.2 hR.ci.kd).sublist List.filter_sublist)) λd hd=>hin d ((hAB d).2 hd);rw[M1] at gA gB;have hfin:∀{Q:Ad} {p:Bk},(∀e,e∈p↔e∈A)->Go R Q o.Member p->∀k,Q.members.get k=if A=[]then R.members.get k else if k=o.Member then none else R.members.get k:=λ{Q p} hp g k=>by
  by_cases c:A=[]
  .have hp0:p=[]:=by
    cases p with
    |nil=>rfl
    |cons a r=>have:=(hp a).1 aC;rw[c] at this;cases this
   grind [Go.m1]
  .rw[BA c];have hp0:p≠[]:=λe=>by
    cases hA':A with
    |nil=>exact c hA'
    |cons a r=>have:=(hp a).2 (by rw[hA'];simp);rw[e] at this;cases this
   refine g.m2 hp0 (λe v he hc=>?_) k;grind [Go.i,Rr.in_,Rr.card]
 have q:Rq (A.foldl GV R) (B.foldl GV R):=⟨(by grind [Go]),λd=>by rw[gA.i,gB.i];simp only[hAB],λd=>by rw[gA.w,gB.w],by rw[gA.w,gB.w],(by grind),by rw[gA.b,gB.b]⟩;exact q.rr hD.1
def NoG(R:Ad)(i:Ab):Prop:=∀q z g,R.members.get q=some z->z.guard=some g->g.id≠i
theorem AhJ{l:List D3}{z:D3}(hz:z∈l.set k y'):z=y'\/∃j,j≠k/\l[j]?=some z:=by grind [Gu]
theorem AhK(h:Rr R D){x:Az}{g:Cd}{i:Ab}(hx:R.members.get m=some x)(hy:D.L[k]?=some y)(hn:y.N=m)(f:y'.N=m)(hM:Mr x' y')(hg:x'.guard=some g)(hi:g.id=i)(he:∀q,g.vouches.get q=none)(hf:NoG R i):Rr (HD R m x') {D with L:=D.L.set k y',V:=D.V.filter λv=>Y4 (D.L.set k y') v.Of} where
 card:=h.card
 nd:=h.nd
 in_:=h.in_
 was:=h.was
 w0:=h.w0
 ln:=Adn h hy hn f
 no q hq z hz:=Ado h f q hq z hz
 mem q z hq:=Y3 h hy hn f hM q z hq
 vou q z g' hq hg':=by
  have hz:∃w∈D.L.set k y',w.N=q/\Mr z w:=Y3 h hy hn f hM q z hq;have hq:(C3 R.members m x').get q=some z:=hq;intro b d a;rw[Bz] at hq;split at hq
  .cases hq;rw[hg] at hg';cases hg';rw[he];constructor
   .intro c;cases c
   .rintro⟨v,hv,e1,_⟩;obtain⟨l,n,g2,k1,k2,k3⟩:=h.vof v (Hk.1 hv).1;exact absurd (k3.symm.trans (e1.trans hi)) (hf l n g2 k1 k2)
  .rw[h.vou q z g' hq hg'];obtain⟨w,hw,_,hm⟩:=hz;have h1:=hm.gd g' hg';have hown:Y4 (D.L.set k y') g'.id=true:=by grind [OP]
   constructor
   .rintro⟨v,hv,e1,e2⟩;exact⟨v,(by grind),e1,e2⟩
   .rintro⟨v,hv,e⟩;exact⟨v,(Hk.1 hv).1,e⟩
 vof v hv:=by
  obtain⟨w,hw,h1,h2⟩:=OP.1 (Hk.1 hv).2;obtain⟨l,n,g2,k1,k2,k3⟩:=h.vof v (Hk.1 hv).1;rcases AhJ hw with rfl|⟨j,hj,o⟩
  .have:=(hM.gd g hg).2.1;exact absurd (by grind) (hf l n g2 k1 k2)
  .obtain⟨z,hz,hm⟩:=h.of (bO o);have hne:w.N≠m:=λc=>by
    have e1:(D.L.map (·.N))[j]?=some m:=by grind
    have e2:(D.L.map (·.N))[k]?=some m:=by grind
    exact hj (Md h.ln e1 e2)
   cases hgd:z.guard with
   |none=>rw[hm.no hgd] at h1;cases h1
   |some p=>exact⟨w.N,z,p,by grind [Bz],hgd,by grind [Mr.gd]⟩
 vnd:=h.vnd.sublist (List.filter_sublist.map _)
 back:=h.back
theorem Alx(z:Sy D)(h:Rr R D){i:Ab}(hf:NoG R i):T (o7 D o i) (Rr (aaj R o i)):=by
 have b:=z.l;have a:=z.v;have z4:=z.c;have d:=z.dev;unfold o7 aaj;rw[ofE z.z,aL,<-h.card];refine .bind ((Xj z.z h (Dq R o.By)).mono λv hv=>?_);cases hx:R.members.get (Dq R o.By) with
 |none=>grind [T.some]
 |some x=>
  rw[hx] at hv;obtain⟨k,y,rfl,hy,hn,hM⟩:=hv;have hk:=(cr hy).1;rw[show decide ((k:Int)<0)=false from C6 aa,Be,au,hy,aL,aL];unfold o6;refine .bind (.bind (.app cq (.bind (.set aa cq (.some ?_)))));rw[M1,Fs];refine .bind ((AjK (p:=λv=>Y4 (D.L.set k ⟨y.N,y.Role,true,i,o.Guards,o.Need,o.Wait,false,0⟩) v.Of) a (λj v acc hv hal=>?_) λacc=>?_).mono λq hq=>?_)
  .have hj:=(cr hv).1;unfold ni;simp only[eA hj,ax,au,hv,aL];grind [T.bind,T.mono,AjH,Sz,T.app,T.some]
  .grind [ni,eF]
  .subst hq;refine .some (AhK h hx hy hn hn ⟨hM.role,λc=>(by cases c),λg hg=>?_⟩ rfl rfl (λq=>rfl) hf);cases hg;exact⟨rfl,rfl,rfl,rfl,rfl,rfl,rfl⟩
def Je(o:Bp)(v:G4):Bool:=decide (v.Of=o.Of)&&(decide (v.By=o.By)&&decide (v.Device=o.Device))
theorem Adq{v:G4}:Je o v=true↔v.Of=o.Of/\v.By=o.By/\v.Device=o.Device:=by grind [Je]
theorem Aly(z:Sy D)(h:Rr R D)(o:Bp):T (AA (nj D o) (o.At,[],0)) λx=>x.2=D.V.filter (λv=> !Je o v)/\((x.1=o.At/\∀v∈D.V,Je o v=false)\/∃v∈D.V,Je o v=true/\x.1=iI o.At v.At):=by
 have a:=z.v;refine T.loop (λs=>∃k:Nat,k<=D.V.length/\s.2.2=(k:Int)/\s.2.1=(D.V.take k).filter (λv=> !Je o v)/\((s.1=o.At/\∀v∈D.V.take k,Je o v=false)\/∃(j:Nat) (v:G4),j<k/\D.V[j]?=some v/\Je o v=true/\s.1=iI o.At v.At)) (λs=>D.V.length-s.2.2.toNat) (by grind) cq ?_;rintro⟨b,acc,i⟩ ⟨k,hk,rfl,ha,hm⟩;dsimp only at ha hm;subst ha;unfold nj;dsimp only;rcases HE k D.V.length with hlt|hge
 .obtain⟨v,hv,_⟩:=dk hlt;have hla:((D.V.take k).filter (λv=> !Je o v)).length<=k:=by grind
  have ew:=aq (show k<2305843009213693952 by omega);have e:(D.V.take (k+1)).filter (λv=> !Je o v)=(D.V.take k).filter (λv=> !Je o v)++(if Je o v=true then[] else[v]):=by rw[Rb hv,Qn];cases c:Je o v<;>simp[c]
  simp only[eA hlt,ax,au,hv,aL];refine .bind (T.mono (Q:=λq=>q=Je o v) (by grind [Je,T.some]) λq hq=>?_)
  subst hq;cases c:Je o v with
  |true=>
   rw[c,Bx rfl,MG] at e;rw[ax];refine .some ⟨⟨k+1,aa,ew,e.symm,.inr ⟨k,v,aa,hv,c,?_⟩⟩,by rw[ew];simp;omega⟩;rcases hm with⟨rfl,_⟩|⟨j,w,hj,hw,hc,_⟩
   .rfl
   .have kc:∀u:G4,Je o u=true->(u.Of,u.By,u.Device)=(o.Of,o.By,o.Device):=by grind [Je]
    have e1:(D.V.map λv=>(v.Of,v.By,v.Device))[j]?=some (o.Of,o.By,o.Device):=by grind
    have e2:(D.V.map λv=>(v.Of,v.By,v.Device))[k]?=some (o.Of,o.By,o.Device):=by grind
    have:=Md h.vnd e1 e2;omega
  |false=>rw[c,BA aC] at e;rw[Be];refine .bind (.app cq (.some ⟨⟨k+1,aa,ew,e.symm,?_⟩,by rw[ew];simp;omega⟩));grind [Rb]
 .obtain rfl:k=D.V.length:=aa;rw[eF,Be];rw[EQ] at hm⊢;refine .some ⟨rfl,?_⟩;grind
theorem Adr(h:Rr R D)(hR:Bj R){x:Az}{g g2:Cd}{a:Int}{M:FM Int Az}(hx:R.members.get m=some x)(hg:x.guard=some g)(hid:g.id=o.Of)(e2:∀y,Mr x y->Mr ⟨x.role,some g2⟩ y)(ei:g2.id=g.id)(hM:∀q,M.get q=if q=m then some ⟨x.role,some g2⟩else R.members.get q)(hv:∀q,g2.vouches.get q=if q=VC o then some a else g.vouches.get q):Rr {R with members:=M} {D with V:=D.V.filter (λv=> !Je o v)++[⟨o.Of,o.By,o.Device,a⟩]} where
 card:=h.card
 nd:=h.nd
 in_:=h.in_
 was:=h.was
 w0:=h.w0
 ln:=h.ln
 no q hq y hy:=by grind [Rr.no]
 mem q z hq:=by grind [Rr.mem]
 vou q z g' hq hg':=by
  have hq:M.get q=some z:=hq;intro b d c;have hkb:∀v:G4,(!Je o v)=true↔¬(v.Of=o.Of/\v.By=o.By/\v.Device=o.Device):=by grind [Adq]
  have hV:∀i,AfD (D.V.filter (λv=> !Je o v)++[⟨o.Of,o.By,o.Device,a⟩]) i b d c↔(i=o.Of/\b=o.By/\d=o.Device/\c=a)\/(¬(i=o.Of/\b=o.By/\d=o.Device)/\AfD D.V i b d c):=λi=>by
   constructor
   .rintro⟨v,hv,e1,e2,e3,e4⟩;rcases Jk.1 hv with hv|hv
    .rw[Hk,hkb,e1,e2,e3] at hv;exact .inr ⟨hv.2,v,hv.1,e1,e2,e3,e4⟩
    grind
   .rintro(⟨rfl,rfl,rfl,rfl⟩|⟨hne,v,hv,e1,e2,e3,e4⟩)
    .exact⟨_,Jk.2 (.inr (List.mem_singleton.2 rfl)),rfl,rfl,rfl,rfl⟩
    .exact⟨v,(by grind),e1,e2,e3,e4⟩
  show _↔AfD (D.V.filter (λv=> !Je o v)++[⟨o.Of,o.By,o.Device,a⟩]) g'.id b d c;rw[hV];rw[hM] at hq;split at hq
  .grind [Rr.vou]
  .rename_i hne;rw[h.vou q z g' hq hg'];have hd:g'.id≠o.Of:=by grind [Bj]
   grind
 vof v e:=by grind [Rr.vof]
 vnd:=by show((D.V.filter (λv=> !Je o v)++[(⟨o.Of,o.By,o.Device,a⟩:G4)]).map λv=>(v.Of,v.By,v.Device)).Nodup;rw[List.map_append,E7,List.map_nil,List.perm_append_comm.nodup_iff,List.singleton_append,LS];refine⟨λhh=>?_,h.vnd.sublist (List.filter_sublist.map _)⟩;grind [Je]
 back:=h.back
theorem Alz(z:Sy D)(h:Rr R D)(hR:Bj R)(o:Bp):T (o8 D o) (Rr (XQ R o)):=by
 have c:=z.v;unfold o8;refine .bind ((Y1 z.z h hR o).mono λv hv=>?_);rw[hv.1];cases hf:R.members.es.find? λe=>Lm e.2.1 o.Of with
 |none=>grind [C7,XQ,T.some]
 |some e=>
  obtain⟨hx,_⟩:=hR.mem (List.mem_of_find?_eq_some hf);have hge:Lm e.2.1 o.Of=true:=by have:=List.find?_some hf;exact this
  obtain⟨q,⟨role,gd⟩,n⟩:=e;dsimp only at hx hge;cases gd with
  |none=>cases hge
  |some g=>
  have hid:g.id=o.Of:=DL hge;have e1:C7 R o=bif g.guards.any (λy=>decide (o.By=y))then(q,0)else(0,14):=by unfold C7;rw[hf]
  have e2:XQ R o=bif(g.guards.any λy=>decide (o.By=y))&&aah g o then HD R q ⟨role,some (Abo g o)⟩else R:=by unfold XQ;rw[hf]
  rw[e1,e2];cases hb:g.guards.any λy=>decide (o.By=y) with
  |false=>exact .some h
  |true=>
  rw[ax,Bool.true_and];refine .bind ((Aly z h o).mono λx hx2=>?_);obtain⟨b,V'⟩:=x;obtain⟨h1,h2⟩:=hx2;dsimp only at h1 h2;subst h1;have hfl:(D.V.filter λv=> !Je o v).length<=D.V.length:=Mj _ _;refine .bind (.app cq (.some ?_));have key:∀a,g.vouches.get (VC o)=some a↔∃v∈D.V,Je o v=true/\v.At=a:=λa=>by
   rw[show VC o=⟨o.By,o.Device⟩ from rfl,h.vou q _ g hx rfl];constructor
   .rintro⟨v,hv,k1,k2,k3,d⟩;grind [Je]
   .rintro⟨v,hv,k1,k2⟩;unfold Je at k1;simp only[bA,decide_eq_true_eq] at k1;exact⟨v,hv,k1.1.trans hid.symm,k1.2.1,k1.2.2,k2⟩
  have keep:g.vouches.get (VC o)=some b->Rr R {D with V:=D.V.filter (λv=> !Je o v)++[⟨o.Of,o.By,o.Device,b⟩]}:=λhk=>Adr (M:=R.members) (g2:=g) (a:=b) h hR hx rfl hid (λy hy=>hy) rfl (by grind) (by grind);have new:b=o.At->Rr (HD R q ⟨role,some (Abo g o)⟩) {D with V:=D.V.filter (λv=> !Je o v)++[⟨o.Of,o.By,o.Device,b⟩]}:=λhk=>Adr (M:=C3 R.members q ⟨role,some (Abo g o)⟩) (g2:=Abo g o) (a:=b) h hR hx rfl hid (by grind [Mr]) rfl (λp=>by rw[Bz]) (by grind [Bz]);cases hg:g.vouches.get (VC o) with
  |none=>
   have hN:aah g o=true:=by unfold aah;rw[hg]
   rw[hN];rcases h2 with⟨h2,_⟩|⟨v,hv,h3,h4⟩
   .exact new h2
   .have:=(key v.At).2 ⟨v,hv,h3,rfl⟩;rw[hg] at this;cases this
  |some a=>
   have hN:aah g o=decide (o.At<a):=by unfold aah;rw[hg]
   obtain⟨w,hw,k1,k2⟩:=(key a).1 hg;have hmn:b=iI o.At a:=by
    rcases h2 with⟨_,h2⟩|⟨v,hv,h3,h4⟩
    .rw[h2 w hw] at k1;cases k1
    .have:=(key v.At).2 ⟨v,hv,h3,rfl⟩;grind
   grind [iI]
theorem AlA(z:Sy D)(h:Rr R D)(hR:Bj R)(o:Bp):T ((bif 0<ah D.In then(some true)else(bif 0<ah D.Gone then(some true)else((gE D o.By).bind λa=>some (decide (a=0))))).bind λb=>bif b then(some D)else((nX D o.By 3).bind λc=>some ({c with Back:=o.Need}))) (Rr (AaA R o)):=by
 have hw:=h.w0;unfold AaA;rw[ofE z.z,<-h.card,aL];unfold ah;rcases Nat.eq_zero_or_pos D.In.length with c1|c1
 .rcases Nat.eq_zero_or_pos D.Gone.length with c2|c2
  .have hi:D.In=[]:=List.eq_nil_of_length_eq_zero c1;have hg:D.Gone=[]:=List.eq_nil_of_length_eq_zero c2;have hf:DY R o.By=decide (0<Dq R o.By):=by grind [Rr.was,DY,Hg]
   rw[c1,c2,hw,c1,c2,hf];have h0:=(hR.c3 o.By).1;have h0:0<=Dq R o.By:=h0;rw[show decide ((0:Int)<((0:Nat):Int))=false from rfl,Be,Be,aL,show decide ((((0+0:Nat)):Int)=0)=true from rfl,Bool.true_and];by_cases c3:Dq R o.By=0
   .rw[CO c3,c3];exact .some h
   .rw[C6 c3,show decide (0<Dq R o.By)=true from CO aa,Be,ax];refine .bind ((AaY z h hR o.By 3).mono λD' hD=> .some ?_);have h1:=hD.1;exact⟨h1.card,h1.nd,h1.in_,h1.was,h1.w0,h1.ln,h1.no,h1.mem,h1.vou,h1.vof,h1.vnd,rfl⟩
  grind [T.some]
 grind [T.some]
theorem AlB(z:Sy D)(h:Rr R D)(o:Bp){a:Int}(hv:match R.members.get (Dq R o.By) with
  |none=>a= -1
  |some x=>∃(k:Nat) (y:D3),a=(k:Int)/\D.L[k]?=some y/\y.N=Dq R o.By/\Mr x y):T ((bif 0<=a then((aS D.L (Fv a 0)).bind λc=>bif c.Is then((aS D.L (Fv a 0)).bind λd=>some (decide (d.ID=o.Of)))else(some false))else(some false)).bind λf=>bif f then((aS D.L a).bind λb=>(o6 D.L a ({b with Objected:=true,Last:=Fv b.Last o.At})).bind λi=>some ({D with L:=i}))else(some D)) (Rr (VB R o)):=by
 have j:=z.l
 cases hx:R.members.get (Dq R o.By) with
 |none=>
  grind [VB,T.some]
 |some x=>
  rw[hx] at hv
  obtain⟨k,y,rfl,hy,hn,hM⟩:=hv
  have hk:=(cr hy).1
  have hmx:Fv (k:Int) 0=(k:Int):=by unfold Fv;rw[BA aa]
  rw[show decide ((0:Int)<=(k:Int))=true from CO aa,ax,hmx,au,hy,aL,aL]
  obtain⟨role,gd⟩:=x
  cases gd with
  |none=>
   grind [VB,Mr.no,T.some]
  |some g=>
   have h1:=hM.gd g rfl
   have e:VB R o=bif g.id=o.Of then HD R (Dq R o.By) ⟨role,some {g with objected:=true,last:=Fv g.last o.At}⟩else R:=by unfold VB;rw[hx]
   rw[e,h1.1,h1.2.1,ax,aL]
   cases decide (g.id=o.Of) with
   |false=>exact .some h
   |true=>
    rw[ax,ax,aL]
    unfold o6
    refine .bind (.bind (.app cq (.bind (.set aa cq (.some (.some ?_))))))
    rw[M1,Fs]
    refine Adp h hx hy hn hn (by grind [Mr]) (λm hg'=>?_) (by grind)
    all_goals grind
theorem AlC(z:Sy D)(hb:D.In.length+D.Gone.length<=1999/\D.L.length<=1999)(h:Rr R D)(hR:Bj R)(o:Bp):T ((jN D o.Of).bind λb=>(bif 0<=b then((fb D.In o.Old).bind λj=>bif j then((gE D o.Old).bind λm=>(aS D.L (Fv b 0)).bind λn=>bif m=n.N then((gE D o.Device).bind λp=>(aS D.L (Fv b 0)).bind λq=>some (decide (p=q.N)))else(some false))else(some false))else(some false)).bind λr=>bif r then((gE D o.Device).bind λd=>(se D d).bind λf=>(nX D o.Device f).bind λi=>(sh i o.Old).bind λa=>some a)else(some D)) (Rr (aal R o)):=by
 refine .bind ((AjC z.z h hR o.Of).mono λv hv=>?_);have fin:T (bif Abp R o then((gE D o.Device).bind λd=>(se D d).bind λf=>(nX D o.Device f).bind λi=>(sh i o.Old).bind λa=>some a)else(some D)) (Rr (aal R o)):=by
  unfold aal;cases Abp R o with
  |false=>exact .some h
  |true=>rw[ax,ax,ofE z.z,aL,<-h.card,Ag3 z.z h,aL];refine .bind ((AaY z h hR _ _).mono λD' hD=>?_);have g1:=hD.2.dev;have g2:=hD.2.l;refine .bind (by grind [T.mono,Ag4,Sy,Gw.c,Gw.v,IH,T.some])
 cases hf:R.members.es.find? λe=>Lm e.2.1 o.Of with
 |none=>grind [Abp,Hs]
 |some e=>
  rw[hf] at hv;obtain⟨k,y,g,rfl,hy,hn,_,_,_,hx⟩:=hv;have hw:Hs R o.Of=e.1:=by unfold Hs;rw[hf]
  have h3:=hR.m3 e (List.mem_of_find?_eq_some hf);have hB:Abp R o=bif OI R o.Old then(bif Dq R o.Old=e.1 then decide (Dq R o.Device=e.1)else false)else false:=by grind [Abp]
  have hmx:Fv (k:Int) 0=(k:Int):=by unfold Fv;rw[BA aa]
  rw[show decide ((0:Int)<=(k:Int))=true from CO aa,ax,inE z.z h,aL,hmx,au,hy];grind [ofE,Sy.z,Rr.card]
theorem doE(z:Sy D)(hb:D.In.length+D.Gone.length<=1999/\D.L.length<=1999)(h:Rr R D)(hR:Bj R){o:Bp}{i:Ab}(hf:o.Kind=9->NoG R i):T (DM D o i) (Rr (Ug R o i)):=by
 unfold DM;refine .eqb (ofE z.z o.By) ?_;rw[<-h.card];refine .bind ((Xj z.z h (Dq R o.By)).mono λa hv=>?_);unfold Ug;refine .dec (λk1=>?_) λk1=>?_
 .grind [AlA]
 rw[BA k1];refine .dec (λk2=>?_) λk2=>?_
 .rw[Bx k2];exact .bind (by grind [T.mono,AaY,T.some])
 rw[BA k2];refine .dec (λk3=>?_) λk3=>?_
 .rw[Bx k3];by_cases c:o.Device=0
  .rw[Bx c,CO c,ax,Alu z o rfl,aL,aL];exact .bind ((Alv z h hR o).mono λD' hD=> .some hD)
  .rw[BA c,C6 c,Be,aL];exact .bind (by grind [T.mono,Ag5,T.some])
 rw[BA k3];refine .dec (λk5=>?_) λk5=>?_
 .rw[Bx k5];exact AjG z h o
 rw[BA k5];refine .dec (λk9=>?_) λk9=>?_
 .grind [Alx]
 grind [Alz,T.some,AlB,AlC]
theorem AjL(hc:∀d,Dq (Hf cs) d=Xi cs d):T (AV cs) (Rr (Hf cs)):=by
 refine .some ⟨hc,.nil,λd=>?_,λd=>?_,rfl,.nil,(by grind),λm x hm=>(by cases hm),λm x g hm=>(by cases hm),λv hv=>(by cases hv),.nil,rfl⟩
 .rw[BA aC];rfl
 .rw[BA aC];rfl
end
theorem T.and{α:Type}{x:Option α}{P Q:α->Prop}(h1:T x P)(h2:T x Q):T x λv=>P v/\Q v:=by obtain⟨v,e,p⟩:=h1;obtain⟨w,e2,q⟩:=h2;rw[e] at e2;cases e2;exact⟨v,e,p,q⟩
def Gs(R:Ad)(S:Bc):Prop:=∀q z g,R.members.get q=some z->z.guard=some g->g.id∈S
section
variable {R:Ad} {S:Bc}
theorem Gs.up(h:Gs R S)(i:Ab):Gs R (S++[i]):=λq z g h1 h2=>by simp[h q z g h1 h2]
theorem UI(h:Gs R S){M:FM Int Az}{k:Int}{x:Az}(hM:∀q,M.get q=if q=k then some x else R.members.get q)(hx:∀g,x.guard=some g->g.id∈S){Q:Ad}(hQ:Q.members=M):Gs Q S:=λq z g h1 h2=>by
 rw[hQ,hM] at h1;split at h1
 .cases h1;exact hx g h2
 .exact h q z g h1 h2
theorem UJ(h:Gs R S)(d role:Int):Gs (I6 R d role) S:=by
 unfold I6;cases DY R d with
 |false=>exact h
 |true=>
  cases hm:(R.members.get (Dq R d)).isSome with
  |true=>exact λq z g h1 h2=>h q z g (by grind) h2
  |false=>exact UI h (M:=C3 R.members (Dq R d) ⟨role,none⟩) (λq=>Bz _ q) (λg hg=>by cases hg) (by rw[ax];simp[hm])
theorem Y6(h:Gs R S)(hR:Bj R)(d:Int):Gs (GV R d) S:=by
 unfold GV;cases OI R d with
 |false=>exact h
 |true=>
  cases LP (IK R d) (Dq R d) with
  |true=>exact h
  |false=>
   intro q z g h1 h2;have h1:(RY R.members (Dq R d)).get q=some z:=h1;rw[Nk hR.cm] at h1;split at h1
   .cases h1
   .exact h q z g h1 h2
theorem AhL(h:Gs R S)(hR:Bj R)(m:Int):∀l:Bk,Gs (l.foldl (SB m) R) S:=λl=>by induction l generalizing R<;>grind [Ack,SB,Y6]
theorem Ag6(h:Gs R S)(hR:Bj R)(o:Bp)(i:Ab):Gs (Ug R o i) (S++[i]):=by
 unfold Ug;split
 .unfold AaA;cases decide ((R.was.es.length:Int)=0)&&DY R o.By with
  |false=>exact h.up i
  |true=>exact(UJ h o.By 3).up i
 split
 .exact(UJ h _ _).up i
 split
 .split
  .exact(AhL h hR _ _).up i
  .exact(Y6 h hR _).up i
 split
 .refine Gs.up ?_ i;unfold Uf;split
  .exact h
  .rename_i x hx;exact UI h (x:=⟨o.Role,x.guard⟩) (λq=>Bz _ q) (λg hg=>h _ x g hx hg) rfl
 split
 .unfold aaj;split
  .exact h.up i
  .exact UI (h.up i) (λq=>Bz _ q) (by grind) rfl
 split
 .refine Gs.up ?_ i;unfold XQ;split
  .rename_i k role g n hf;have hx:=(hR.mem (List.mem_of_find?_eq_some hf)).1;cases(g.guards.any λy=>decide (o.By=y))&&aah g o with
   |false=>exact h
   |true=>exact UI h (λq=>Bz _ q) (λa hg=>by cases hg;exact h _ _ g hx rfl) rfl
  .exact h
 split
 .refine Gs.up ?_ i;unfold VB;split
  .rename_i role g hx;cases decide (g.id=o.Of) with
   |false=>exact h
   |true=>exact UI h (λq=>Bz _ q) (λa hg=>by cases hg;exact h _ _ g hx rfl) rfl
  .exact h
 grind [Gs.up,aal,Y6,UJ,IH]
end
structure Pg (g:A7) (m:JI) (N:JH):Prop where
 w:Fo g
 p:NP g m N
 od:∀(i:Nat) (o:Bp) (x:Ab),g.L[i]?=some o->g.IDs[i]?=some x->UH o x
 dv:∀(i:Nat) (o:Bp) (x:Ab),g.L[i]?=some o->g.IDs[i]?=some x->∃c∈g.Cards,c.Device=o.By
 cd:Ac2 g.Cards
 cn:(g.Cards.map (·.Device)).Nodup
section
variable {g:A7} {m:JI} {N:JH} (P:Pg g m N)
include P
theorem Pg.op{i:Nat}{o:Bp}{x:Ab}(ho:g.L[i]?=some o)(hx:g.IDs[i]?=some x):(C4 g m N).op x=some o/\(C4 g m N).o x=o:=by
 have e:(C4 g m N).op x=some o:=by rw[Ae8 P.w P.p,Mh P.w hx];exact ho
 grind [Gi.o]
theorem Pg.bef{i k:Nat}{x y:Ab}(hx:g.IDs[i]?=some x)(hy:g.IDs[k]?=some y):(C4 g m N).bef x y=O9 g k i:=by rw[AiJ P.w P.p,Mh P.w hx,Mh P.w hy]
theorem Pg.new(d:Int):Dq (Hf g.Cards) d=Xi g.Cards d:=by
 have key:∀(l:LQ) (M:FM Int DH),(l.map (·.Device)).Nodup->(∀c∈l,M.get c.Device=none)->(l.foldl (λm c=>C3 m c.Device c) M).get d=match l.find? λc=>decide (c.Device=d) with|some c=>some c|none=>M.get d:=by
  intro l;induction l with
  |nil=>exact λM _ _=>rfl
  |cons c r ih=>grind [Bz]
 unfold Dq Xi Hf Aiz;rw[key g.Cards ⟨[],0⟩ P.cn λc _=>rfl];cases g.Cards.find? λc=>decide (c.Device=d)<;>rfl
theorem abn{D:C5}{n:Nat}(h:Jo g n D)(hn:n<=1000):Sy D:=by grind [Pg,Jo,Sy,Fo.nC]
theorem AlE(hi:EF g l)(hl:l.length<=1000)(hnd:(I4 g l).Nodup){id:Ab}(hk:g.IDs[k]?=some id):T (Fg g l (k:Int)) λD=>Rr (VX (C4 g m N) (I4 g l) id) D/\Bj (VX (C4 g m N) (I4 g l) id)/\Jo g 1000 D:=by
 have w:=P.w;have nL:=w.nL;have nI:=w.nI;have hkl:k<g.L.length:=by grind
 obtain⟨d,e0,f⟩:=AjL (P.new);unfold Fg;rw[e0,aL];have hD0:d=⟨g.Cards,[],[],[],0,[]⟩:=(Bf e0).symm;subst hD0;refine .bind (T.mono (Q:=λD=>Rr (VX (C4 g m N) (I4 g l) id) D/\Bj (VX (C4 g m N) (I4 g l) id)/\Jo g 1000 D) (T.forA l.length (λj D=>(Rr (((I4 g l).take j).foldl (SF (C4 g m N) id) (Hf g.Cards)) D/\Bj (((I4 g l).take j).foldl (SF (C4 g m N) id) (Hf g.Cards))/\Gs (((I4 g l).take j).foldl (SF (C4 g m N) id) (Hf g.Cards)) ((I4 g l).take j))/\Jo g j D) aa ⟨⟨f,Lw P.cd.r,λq z g h=>by cases h⟩,Mv g⟩ (λj D hj hr=>?_) λD hr=>?_) λD hr=> .some hr)
 .obtain⟨y,hy,hm⟩:=dk hj;obtain⟨i,x,rfl,hil,hx,a⟩:=OO w hi hy;obtain⟨o,ho,so,t⟩:=w.op hil;obtain⟨row,b,hrow,hb⟩:=w.cell hkl hil;obtain⟨⟨h1,h2,h3⟩,h4⟩:=hr;have hod:=P.od i o x ho hx;have c:=(P.op ho hx).2;have hbf:(C4 g m N).bef x id=b:=by rw[P.bef hx hk];grind [O9]
  have et:((I4 g l).take (j+1)).foldl (SF (C4 g m N) id) (Hf g.Cards)=bif b then Ug (((I4 g l).take j).foldl (SF (C4 g m N) id) (Hf g.Cards)) o x else((I4 g l).take j).foldl (SF (C4 g m N) id) (Hf g.Cards):=by rw[Rb a,On,List.foldl_cons,List.foldl_nil];unfold SF;rw[hbf,c]
  have hxS:x∉(I4 g l).take j:=by grind [Gu,Md]
  rw[et,Rb a];generalize ((I4 g l).take j).foldl (SF (C4 g m N) id) (Hf g.Cards)=R at h1 h2 h3⊢;unfold xx;simp only[eA hj,ax,au,hy,ho,hx,hrow,hb,aL];have z:=abn P h4 aa;have p:=h4.dev;have s:=h4.nL;cases b with
  |true=>exact .bind ((T.and (doE z ⟨aa,aa⟩ h1 h2 λ_ q z n k1 k2 e=>by have:=h3 q z n k1 k2;rw[e] at this;exact hxS this) (Gc w aa h4 so x)).mono λv hv=> .some (by constructor<;>grind [aq,Q5,Ag6]))
  |false=>exact .some (by constructor<;>grind [aq,Gs.up,Jo.up])
 .unfold xx;dsimp only;rw[eF,Be];have hl2:(I4 g l).length=l.length:=Hl ..;rw[<-hl2,EQ] at hr;exact .some ⟨hr.1.1,hr.1.2.1,hr.2.up aa⟩
end
structure Lr (g:A7) (dl:JR) (al:AQ):Prop where
 row:EF g dl.Row
 nm:I4 g dl.Row=al.row
 nd:al.row.Nodup
 nr:dl.Row.length<=1000
 nv:dl.Void.length=g.L.length
 nc:dl.Decided.length=g.L.length
 vd:∀(p:Nat) (x:Ab),g.IDs[p]?=some x->dl.Void[p]?=some (Ba (al.void.get x))
section
variable {g:A7} {m:JI} {N:JH} (P:Pg g m N)
include P
theorem Ag7(h:Lr g dl al):T (R6 g dl) λr=>EF g r/\r.length<=1000/\I4 g r=JQ (C4 g m N) al/\(I4 g r).Sublist al.row:=by
 have w:=P.w;have nL:=w.nL;have hr:=h.nr;unfold R6 JQ;refine .bind (T.mono (Q:=λr=>EF g r/\r.length<=1000/\I4 g r=al.row.foldl (Lq (C4 g m N) al.void) []/\(I4 g r).Sublist al.row) (T.forA dl.Row.length (λj r=>EF g r/\r.length<=j/\I4 g r=(al.row.take j).foldl (Lq (C4 g m N) al.void) []/\(I4 g r).Sublist (al.row.take j)) aa ⟨.nil,aC,by simp[I4],by simp[I4]⟩ (λk acc hk hj=>?_) λr a=>?_) λr a=> .some a)
 .obtain⟨y,hy,hm⟩:=dk hk;obtain⟨i,x,rfl,hil,hx,b⟩:=OO w h.row hy;rw[h.nm] at b;obtain⟨o,ho,so,q⟩:=w.op hil;obtain⟨l,p,n,d⟩:=hj;have f:=(P.op ho hx).2;have hod:=P.od i o x ho hx;have hv:=h.vd i x hx;have hnd:(I4 g acc).Nodup:=(h.nd.sublist (List.take_sublist k _)).sublist d;rw[Rb b,On,List.foldl_cons,List.foldl_nil,<-n];unfold um;simp only[eA hk,ax,au,hy,ho,hx,hv,aL];have keep:(I4 g acc).Sublist (al.row.take k++[x]):=d.trans (List.sublist_append_left _ _);unfold Lq;rw[f];cases hc:Ba (al.void.get x) with
  |true=>exact .some (by constructor<;>grind [aq])
  |false=>
   rw[Be,Be];refine .bind ((AlE P l aa hnd hx).mono λD hD=>?_);rw[AjE (abn P hD.2.2 aa).z hD.1 hD.2.1 hod.g x,aL];refine .dec (λc=>?_) λc=>?_
   .rw[CO c,ax];have e:I4 g (acc++[(i:Int)])=I4 g acc++[x]:=by simp[I4,hx]
    exact .bind (.app cq (.some ⟨aq aa,l.snoc hil,by simp;omega,e,e▸d.append (.refl _)⟩))
   .rw[C6 c,Be];exact .some (by constructor<;>grind [aq])
 .unfold um;dsimp only;rw[eF,Be];have hl2:al.row.length=dl.Row.length:=by rw[<-h.nm,Hl]
  rw[<-hl2,EQ] at a;exact .some ⟨a.1,aa,a.2.2.1,a.2.2.2⟩
theorem AfE(d:Int):nT g d=some (match(C4 g m N).card d with|some c=>c.Member|none=>0):=by have nC:=P.w.nC;unfold nT;rw[Cw aa,aL];unfold mZ;show _=some (match g.Cards.find? (λc=>decide (c.Device=d)) with|some c=>c.Member|none=>0);grind
theorem Pg.same{i k:Nat}{x y:Ab}(hx:g.IDs[i]?=some x)(hy:g.IDs[k]?=some y):x=y↔(i:Int)=(k:Int):=by grind [Pg,Md,Fo.nd]
theorem Ads{i:Nat}{y:Ab}(hi:i<g.L.length)(hk:k<g.L.length)(hx:g.IDs[i]?=some x)(hy:g.IDs[k]?=some y):n9 g (i:Int) (k:Int)=some (Ja (C4 g m N) x y):=by
 have w:=P.w;obtain⟨a,ha,j,f⟩:=w.op hi;obtain⟨b,hb,h,l⟩:=w.op hk;obtain⟨row,u,hrow,hu⟩:=w.cell hi hk;obtain⟨e,v,c,hv⟩:=w.cell hk hi;have ea:=P.op ha hx;have eb:=P.op hb hy;have e1:(C4 g m N).bef y x=u:=by rw[P.bef hy hx];grind [O9]
 have e2:(C4 g m N).bef x y=v:=by rw[P.bef hx hy];grind [O9]
 have d:=P.same hx hy;unfold n9 Ja;simp only[au,ha,hb,hrow,hu,c,hv,aL,ea.1,eb.1,ea.2,eb.2,e1,e2,Option.isSome_some,Bool.true_and];have hd:decide (x=y)=decide ((i:Int)=(k:Int)):=decide_eq_decide.2 d;rw[hd];cases decide ((i:Int)=(k:Int)) with
 |true=>rfl
 |false=>
 cases u with
 |true=>cases v<;>rfl
 |false=>
 cases v with
 |true=>rfl
 |false=>
 simp only[Be,aL,Bool.not_false,Bool.true_and];unfold AiD AaH;rw[AfE P];by_cases k3:a.Kind=3
 .rw[k3];simp only[Int.reduceEq,decide_true,decide_false,ax,Be];by_cases hD:a.Device=0
  .have hm:=T1 f.numbers|>.k3 k3;grind [C6]
  grind
 grind
theorem Adt(h:Lr g dl al){i:Nat}{y:Ab}(hi:i<g.L.length)(hk:k<g.L.length)(hx:g.IDs[i]?=some x)(hy:g.IDs[k]?=some y):qW g dl (i:Int) (k:Int)=some (DW (C4 g m N) al.row x y):=by
 have w:=P.w;have hr:=h.nr;have b:=P.same hx hy;unfold qW DW;rw[show decide (x=y)=decide ((i:Int)=(k:Int)) from decide_eq_decide.2 b];cases decide ((i:Int)=(k:Int)) with
 |true=>rfl
 |false=>
 rw[Be,Bool.not_false,Bool.true_and];refine T.eq (.bind ((T.search dl.Row (λz=>Wg (C4 g m N) x y ((g.IDs[z.toNat]?).getD ⟨0,0,0⟩)) (λk _=>true) aa (λj z hz hj=>?_) ?_).mono ?_))
 .obtain⟨q,v,rfl,a,hv,_⟩:=OO w h.row hz;obtain⟨row,u,hrow,hu⟩:=w.cell hi a;have e1:(C4 g m N).bef v x=u:=by rw[P.bef hv hx];grind [O9]
  have hvx:decide (v=x)=decide ((q:Int)=(i:Int)):=decide_eq_decide.2 (P.same hv hx);unfold qV Wg;rw[eA hj,ax,au,hz,aL,Fs,hv,M2,aq aa,e1,hvx,Ads P hk a hy hv];grind [au]
 .unfold qV;rw[eF,Be]
 .have hmap:∀z∈dl.Row,((g.IDs[z.toNat]?).getD ⟨0,0,0⟩)∈al.row:=by grind [Lr.nm]
  rintro r (⟨rfl,hn⟩|⟨j,z,hz,hp,rfl,hn⟩)
  .refine .some ?_;grind [Lr.nm]
  .refine .some ?_;grind
end
theorem abo(c:EZ o)(h:AaL o=some d):1<=d/\d<=12:=by have f:=T1 c.numbers;grind [NN,AaL]
theorem Adu(o:Bp):LJ o=some ((AaL o).getD 0):=by grind [LJ,AaL]
theorem AlF(hd:l.Nodup)(h:∀x∈l,1<=x/\x<=12):l.length<=12:=by
 have hs:∀x∈l.map Int.toNat,x∈List.range' 1 12:=by grind
 have hn:(l.map Int.toNat).Nodup:=Y2 (g:=id) (by rw[List.map_id];exact hd) (by grind);have:=PN hn hs;rwa [Hl,List.length_range'] at this
theorem AbL{I:Gi}:∀{l:Bc} {acc:Bk},acc.Nodup->(l.foldl (SH I) acc).Nodup
 |[],acc,h=>h
 |x::r,acc,h=>by refine AbL (l:=r) ?_;grind [SH]
theorem abp{I:Gi}{Q:Int->Prop}:∀{l:Bc} {acc:Bk},(∀x∈l,∀d,AaL (I.o x)=some d->Q d)->(∀d∈acc,Q d)->∀d∈l.foldl (SH I) acc,Q d
 |[],acc,_,h=>h
 |x::r,acc,hx,h=>by refine abp (l:=r) (by grind) ?_;grind [SH]
theorem AbM{m:FM Int Int}{s:Bk}(hn:s.Nodup){d:Int}:∀k,k<=s.length->(∀j:Nat,j<k->s[j]?=some d->(Uu m s k).get d=some (j:Int))/\((∀j:Nat,j<k->s[j]?≠some d)->(Uu m s k).get d=m.get d)
 |0,_=>⟨λj h=>aa,λ_=>rfl⟩
 |k+1,hk=>by
  have ih:=AbM (m:=m) hn (d:=d) k aa;obtain⟨x,hx,_⟩:=dk (l:=s) (k:=k) aa;have e:Uu m s (k+1)=C3 (Uu m s k) x (k:Int):=by show(match s[k]? with|some d=>_|none=>_)=_;rw[hx]
  rw[e,Bz];refine⟨λj hj hd=>?_,λhne=>?_⟩
  .grind [Md]
  grind
theorem AbN{d:Int}:∀{cs:LQ} {m:FM Int Int},(∃c∈cs,c.Device=d)\/m.get d=some 12->(cs.foldl (λm c=>C3 m c.Device 12) m).get d=some 12
 |[],m,h=>by grind
 |c::r,m,h=>by refine AbN (cs:=r) ?_;grind [Bz]
def snD(s:Bk)(d:Int):Int:=match bu d s with
 |some j=>(j:Int)
 |none=>(s.length:Int)
theorem Za{s:Bk}(hn:s.length<=1000)(d:Int):oa s d=some (snD s d):=by
 unfold oa;refine T.eq (.bind ((T.search s (λx=>decide (x=d)) (λk _=>(k:Int)) aa (λk x hx hk=>?_) ?_).mono ?_))
 .grind [ph,eA,au,aq]
 .unfold ph;rw[eF,Be]
 .rintro r (⟨rfl,h⟩|⟨k,x,hx,hp,rfl,h⟩)
  .have:bu d s=none:=by grind [jv]
   refine .some ?_;unfold snD;rw[this];rfl
  .have hp:=DL hp;subst hp;have:bu x s=some k:=by grind [y0]
   refine .some ?_;unfold snD;rw[this]
theorem AhM{s:Bk}(hn:s.Nodup)(hl:s.length<=12){e:Int}(hd:∃c∈cs,c.Device=d)(he:∃c∈cs,c.Device=e):decide (R2 (Ou cs s) d<R2 (Ou cs s) e)=decide (snD s d<snD s e):=by
 have at_:∀d,(∃c∈cs,c.Device=d)->(∃j:Nat,j<s.length/\R2 (Ou cs s) d=(j:Int)/\snD s d=(j:Int))\/(R2 (Ou cs s) d=12/\snD s d=(s.length:Int)):=λd hd=>by have h:=AbM (m:=SG cs) hn (d:=d) s.length (DC _);unfold R2 Ou snD;grind [gb,jv,SG,AbN]
 grind
section
variable {g:A7} {m:JI} {N:JH} (P:Pg g m N)
include P
theorem abq{ids row:Bc}(ho:n8 g ids=some row)(hn:row.length<=1000)(hm:∀x∈row,x∈g.IDs):jn g ids=some (NS (C4 g m N) row):=by
 have w:=P.w;have nL:=w.nL;have nI:=w.nI;unfold jn;rw[ho,aL];refine T.eq (.bind (T.mono (Q:=λr=>r=NS (C4 g m N) row) (T.forA row.length (λk acc=>acc=(row.take k).foldl (SH (C4 g m N)) []) aa rfl (λk acc hk hj=>?_) λacc hj=>?_) λr hr=> .some hr))
 .obtain⟨x,hx,hmx⟩:=dk hk;obtain⟨i,hi⟩:=Gu (hm x hmx);have hil:i<g.L.length:=by grind
  obtain⟨o,a,so,c⟩:=w.op hil;have hpz:gO g x=(i:Int):=by unfold gO;rw[Mh w hi]
  have b:=(P.op a hi).2;have hal:=Wy (I:=C4 g m N) (l:=row.take k) (acc:=[]);rw[Nv,List.length_nil,<-hj] at hal;rw[Rb hx,On,List.foldl_cons,List.foldl_nil,<-hj];unfold SH;rw[b];unfold nk;simp only[eA hk,ax,au,hx,aL,qR,dC (show g.IDs.length<=1000000 by omega),hpz,a,Adu];cases hc:AaL o with
  |none=>exact .some ⟨aq aa,rfl⟩
  |some d=>
   have hd:=abo c hc;rw[M2,show decide (0<d)=true from CO aa,ax,cX aa,aL];have hb:QF acc d=acc.any (λy=>decide (d=y)):=by grind [Ju]
   rw[hb,aL];dsimp only;cases acc.any (λy=>decide (d=y)) with
   |true=>exact .some ⟨aq aa,rfl⟩
   |false=>exact .bind (.app cq (.some ⟨aq aa,rfl⟩))
 .unfold nk;dsimp only;rw[eF,Be];refine .some (show acc=_ from ?_);rw[hj,EQ];rfl
end
def XI(lt:Ab->Ab->Bool)(b:Option Ab)(x:Ab):Option Ab:=match b with
 |none=>some x
 |some y=>bif lt x y then some x else some y
theorem AlG{I:Gi}{row l:Bc}{sen:FM Int Int}(hl:l.length<=1000):T (AA (Ae2 I row l sen) (0,-1)) λr=>(∃(i:Nat) (x:Ab),r=(i:Int)/\l[i]?=some x/\(l.find? (λx=> !l.any (DW I row x))=some x\/(l.find? (λx=> !l.any (DW I row x))=none/\l.foldl (XI λx y=>decide (R2 sen x.By<R2 sen y.By)) none=some x)))\/(l=[]/\r= -1):=by
 refine T.loop (λs=>s.1<=l.length/\(∀y∈l.take s.1,(!l.any (DW I row y))=false)/\((s.1=0/\s.2= -1)\/∃(i:Nat) (x:Ab),s.2=(i:Int)/\l[i]?=some x/\(l.take s.1).foldl (XI λx y=>decide (R2 sen x.By<R2 sen y.By)) none=some x)) (λs=>l.length-s.1) (by grind) (by show l.length-0<_;omega) ?_;rintro⟨k,b⟩ ⟨hk,hw,hb⟩;dsimp only at hk hw hb;unfold Ae2;dsimp only;cases hx:l[k]? with
 |none=>
  have hge:l.length<=k:=List.getElem?_eq_none_iff.1 hx;obtain rfl:k=l.length:=aa;rw[EQ] at hw hb;dsimp only;rw[Nat.beq_refl,ax];refine .some ?_;rcases hb with⟨h1,h2⟩|⟨i,x,h1,h2,h3⟩
  .exact .inr ⟨List.length_eq_zero_iff.1 h1,h2⟩
  .exact .inl (by grind)
 |some x=>
  have hlt:=(cr hx).1;dsimp only;refine .ite (λha=>?_) λha=> .some (.inl ⟨k,x,rfl,hx,.inl ?_⟩)
  .have hw':∀y∈l.take (k+1),(!l.any (DW I row y))=false:=λy hy=>by rw[Rb hx] at hy;grind
   have ef:(l.take (k+1)).foldl (XI λx y=>decide (R2 sen x.By<R2 sen y.By)) none=XI (λx y=>decide (R2 sen x.By<R2 sen y.By)) ((l.take k).foldl (XI λx y=>decide (R2 sen x.By<R2 sen y.By)) none) x:=by rw[Rb hx,On];rfl
   unfold upB;rcases hb with⟨rfl,rfl⟩|⟨i,y,rfl,hi,hf⟩
   .refine .some ⟨⟨aa,hw',.inr ⟨0,x,rfl,hx,?_⟩⟩,by show l.length-1<l.length-0;omega⟩;rw[ef];rfl
   .rw[hf] at ef;rw[show decide ((i:Int)<0)=false from C6 aa,Be,au,hi,aL];cases hc:decide (R2 sen x.By<R2 sen y.By) with
    |true=>exact .some ⟨⟨by show k+1<=_;omega,hw',.inr ⟨k,x,rfl,hx,by rw[ef];show(bif R2 sen x.By<R2 sen y.By then some x else some y)=_;rw[hc];rfl⟩⟩,by grind⟩
    |false=>exact .some ⟨⟨by show k+1<=_;omega,hw',.inr ⟨i,y,rfl,hi,by rw[ef];show(bif R2 sen x.By<R2 sen y.By then some x else some y)=_;rw[hc];rfl⟩⟩,by grind⟩
  .rw[List.find?_eq_some_iff_getElem];obtain⟨h1,h2⟩:=cr hx;refine⟨by rw[ha];rfl,k,h1,h2,λj hj=>?_⟩;have hj':l[j]?=some (l[j]'aa):=DR _;have:=hw _ (bO (i:=j) (by rw[List.getElem?_take,Bx hj];exact hj'));rw[this];simp
abbrev NxQ(g:A7)(m:JI)(N:JH)(al:AQ)(l:Bc)(lt:Ab->Ab->Bool)(nx:Int):Prop:=(∃(p:Nat) (x:Ab),nx=(p:Int)/\g.IDs[p]?=some x/\x∈l/\(l.find? (λx=> !l.any (DW (C4 g m N) al.row x))=some x\/(l.find? (λx=> !l.any (DW (C4 g m N) al.row x))=none/\l.foldl (XI lt) none=some x)))\/(l=[]/\nx= -1)
section
variable {g:A7} {m:JI} {N:JH} (P:Pg g m N)
include P
theorem AjM(h:Lr g dl al){l:Bc}{s:Bk}{lt:Ab->Ab->Bool}(hs:s.length<=1000)(hlf:l=al.row.filter λx=>decide (x∈l))(j:∀(p:Nat) (x:Ab),g.IDs[p]?=some x->x∈al.row->Nu g dl (p:Int)=some (decide (x∈l)))(hlt:∀x∈al.row,∀y∈al.row,lt x y=decide (snD s ((C4 g m N).o x).By<snD s ((C4 g m N).o y).By)):T (vL g dl s) λnx=>NxQ g m N al l lt nx:=by
 have w:=P.w;have hr:=h.nr;have inner:∀{i:Nat} {x:Ab},i<g.L.length->g.IDs[i]?=some x->AA (ut g dl (i:Int)) (true,0)=some (!l.any (DW (C4 g m N) al.row x)):=λ{i x} hi hx=>by
  refine T.eq (T.forA dl.Row.length (λk b=>b= !((al.row.take k).any λy=>decide (y∈l)&&DW (C4 g m N) al.row x y)) aa rfl (λk b hk hb=>?_) λb hb=>?_)
  .obtain⟨z,hz,_⟩:=dk hk;obtain⟨q,v,rfl,d,hv,a⟩:=OO w h.row hz;rw[h.nm] at a;unfold ut;simp only[eA hk,ax,au,hz,aL,j q v hv (bO a),Adt P h hi d hx hv];have e:((al.row.take (k+1)).any λy=>decide (y∈l)&&DW (C4 g m N) al.row x y)=(((al.row.take k).any λy=>decide (y∈l)&&DW (C4 g m N) al.row x y)||(decide (v∈l)&&DW (C4 g m N) al.row x v)):=by rw[Rb a,List.any_append];simp
   rw[e];cases decide (v∈l) with
   |false=>exact .some ⟨aq aa,by simpa using hb⟩
   |true=>
    cases DW (C4 g m N) al.row x v with
    |false=>exact .some ⟨aq aa,by simpa using hb⟩
    |true=>exact .some ⟨aq aa,aC⟩
  .unfold ut;dsimp only;rw[eF,Be];refine .some (show b=_ from ?_);grind [Lr.nm,Hl]
 unfold vL;refine .bind ((T.forA (Q:=λr:Int⊕Int=>(∃(p:Nat) (x:Ab),r= .inr (p:Int)/\g.IDs[p]?=some x/\x∈l/\l.find? (λx=> !l.any (DW (C4 g m N) al.row x))=some x)\/(∃(p:Nat) (x:Ab),r= .inl (p:Int)/\g.IDs[p]?=some x/\x∈l/\l.find? (λx=> !l.any (DW (C4 g m N) al.row x))=none/\l.foldl (XI lt) none=some x)\/(l=[]/\r= .inl (-1))) dl.Row.length (λk b=>(∀y∈al.row.take k,y∈l->(!l.any (DW (C4 g m N) al.row y))=false)/\((b= -1/\((al.row.take k).filter λx=>decide (x∈l))=[])\/∃(p:Nat) (x:Ab),b=(p:Int)/\p<g.L.length/\g.IDs[p]?=some x/\x∈l/\((al.row.take k).filter λx=>decide (x∈l)).foldl (XI lt) none=some x)) aa ⟨λy hy=>(by cases hy),.inl ⟨rfl,rfl⟩⟩ (λk b hk hb=>?_) λb hb=>?_).mono ?_)
 .obtain⟨z,hz,_⟩:=dk hk;obtain⟨q,v,rfl,d,hv,a⟩:=OO w h.row hz;rw[h.nm] at a;have n:=bO a;obtain⟨hb1,hb2⟩:=hb;have ef:(al.row.take (k+1)).filter (λx=>decide (x∈l))=(al.row.take k).filter (λx=>decide (x∈l))++(if v∈l then[v] else[]):=by rw[Rb a,Qn];grind
  unfold uu;simp only[eA hk,ax,au,hz,aL,j q v hv n];by_cases c:v∈l
  .rw[Bx c] at ef;rw[CO c,Bool.not_true,Be,inner d hv,aL];cases hany:l.any (DW (C4 g m N) al.row v) with
   |false=>
    refine .some (.inl ⟨q,v,rfl,hv,c,?_⟩);have hkl:(al.row.take k).filter (λx=>decide (x∈l))++[v]++(al.row.drop (k+1)).filter (λx=>decide (x∈l))=l:=by grind [OQ]
    have:l.find? (λx=> !l.any (DW (C4 g m N) al.row x))=((al.row.take k).filter (λx=>decide (x∈l))++[v]++(al.row.drop (k+1)).filter (λx=>decide (x∈l))).find? (λx=> !l.any (DW (C4 g m N) al.row x)):=by rw[hkl]
    rw[this,List.append_assoc,List.find?_append,List.find?_eq_none.2 λy hy=>by rw[Hk] at hy;rw[hb1 y hy.1 (DL hy.2)];simp]
    rw[List.singleton_append,List.find?_cons,hany];rfl
   |true=>
    rw[Bool.not_true,Be];have hb1':∀y∈al.row.take (k+1),y∈l->(!l.any (DW (C4 g m N) al.row y))=false:=λy hy f=>by
     rw[Rb a] at hy;rcases Jk.1 hy with hy|hy
     .exact hb1 y hy f
     .simp at hy;subst hy;rw[hany];rfl
    obtain⟨o,ho,so,u⟩:=w.op d;rcases hb2 with⟨rfl,he⟩|⟨p,y,rfl,hpl,hp,f,hf⟩
    .rw[show decide ((-1:Int)<0)=true from rfl,ax,aL,ax];refine .some ⟨aq aa,hb1',.inr ⟨q,v,rfl,d,hv,c,?_⟩⟩;rw[ef,he];rfl
    .obtain⟨t,ho2,_⟩:=w.op hpl;have hmx:Fv (p:Int) 0=(p:Int):=by unfold Fv;rw[BA aa]
     have hyr:y∈al.row:=by grind
     rw[show decide ((p:Int)<0)=false from C6 aa,Be,hmx];simp only[au,ho,ho2,aL,Za hs];have hl1:=hlt v n y hyr;rw[(P.op ho hv).2,(P.op ho2 hp).2] at hl1;rw[<-hl1];have ef2:((al.row.take (k+1)).filter λx=>decide (x∈l)).foldl (XI lt) none=XI lt (some y) v:=by rw[ef,On,hf];rfl
     cases hc:lt v y with
     |true=>exact .some ⟨aq aa,hb1',.inr ⟨q,v,rfl,d,hv,c,by rw[ef2];show(bif lt v y then some v else some y)=_;rw[hc];rfl⟩⟩
     |false=>exact .some ⟨aq aa,hb1',.inr ⟨p,y,rfl,hpl,hp,f,by rw[ef2];show(bif lt v y then some v else some y)=_;rw[hc];rfl⟩⟩
  .rw[BA c,MG] at ef;rw[C6 c,Bool.not_false,ax];refine .some ⟨aq aa,λy hy f=>?_,by rw[ef];exact hb2⟩;rw[Rb a] at hy;grind
 .unfold uu;dsimp only;rw[eF,Be];have hl2:al.row.length=dl.Row.length:=by rw[<-h.nm,Hl]
  rw[<-hl2,EQ,<-hlf] at hb;refine .some ?_;obtain⟨hb1,hb2⟩:=hb;rcases hb2 with⟨rfl,he⟩|⟨p,x,rfl,_,hp,hx,hf⟩
  .exact .inr (.inr ⟨he,rfl⟩)
  .refine .inr (.inl ⟨p,x,rfl,hp,hx,List.find?_eq_none.2 λy hy=>?_,hf⟩);have hyr:y∈al.row:=by rw[hlf] at hy;exact(Hk.1 hy).1
   rw[hb1 y hyr hy];simp
 .rintro r (⟨p,x,rfl,hp,hx,h1⟩|⟨p,x,rfl,hp,hx,h1⟩|⟨h1,rfl⟩)
  .exact .some (.inl ⟨p,x,rfl,hp,hx,.inl h1⟩)
  .exact .some (.inl ⟨p,x,rfl,hp,hx,.inr h1⟩)
  .exact .some (.inr ⟨h1,rfl⟩)
end
theorem AaZ{α:Type}[DecidableEq α]:∀{l row:List α},l.Sublist row->row.Nodup->l=row.filter λx=>decide (x∈l)
 |_,_,.slnil,_=>rfl
 |l,_,.cons (l₂:=r) a h,hn=>by rw[LS] at hn;rw[List.filter_cons_of_neg (by grind)];exact AaZ h hn.2
 |_,_,.cons_cons (l₁:=l) (l₂:=r) a h,hn=>by rw[LS] at hn;rw[List.filter_cons_of_pos aC];have e:=AaZ h hn.2;grind [List.filter_congr]
theorem AfF:Ba ((ofV vs).get x)=decide (x∈vs):=by
 have key:∀(l:Bc) (M:FM Ab Bool),Ba ((l.foldl (λm x=>C3 m x true) M).get x)=(Ba (M.get x)||decide (x∈l)):=by intro l;induction l<;>grind [Bz,Ba]
 unfold ofV;rw[key];rfl
theorem AbO{I:Gi}{row left:Bc}{x y:Ab}:∀{l:Bc} {v:FM Ab Bool},Ba ((l.foldl (vFu I row left x) v).get y)=(Ba (v.get y)||(decide (y∈l)&&(Ja I x y||(left.any (λz=>decide (y=z))&&DW I row x y))))
 |[],v=>aC
 |a::r,v=>by
  rw[List.foldl_cons,AbO (l:=r)];have e:Ba ((vFu I row left x v a).get y)=(Ba (v.get y)||(decide (y=a)&&(Ja I x y||(left.any (λz=>decide (y=z))&&DW I row x y)))):=by unfold vFu;grind [Bz,Ba]
  grind
section
variable {g:A7} {m:JI} {N:JH} (P:Pg g m N)
include P
theorem AjN(hi:GJ g ids)(ho:n8 g ids=some row)(hrn:row.Nodup)(hr:row.length<=1000)(hrm:∀x∈row,x∈g.IDs)(hv:vJ ids=some vs)(d:vs.length<=1000)(hvm:∀x∈vs,x∈g.IDs):T (Aa g ids) λc=>Lr g c (Xd ⟨g.Cards,m,N⟩ row vs)/\c.Decided=List.replicate g.L.length false:=by
 have w:=P.w;have nL:=w.nL;have nI:=w.nI;unfold Aa;rw[ho,aL];have hmk:rP 1 (false:Bool) (ah g.L)=some (List.replicate g.L.length false):=T.eq (.make (by unfold ah;omega) (by unfold ah;omega) (by unfold ah;omega) (by unfold ah;rw[Fs]));rw[hmk,aL,aL,aL];have pz:∀x∈g.IDs,∃i:Nat,g.IDs[i]?=some x/\i<g.L.length/\fC g x=some (i:Int):=λx hx=>by obtain⟨i,hi⟩:=Gu hx;have:=(cr hi).1;exact⟨i,hi,aa,by rw[dC aa];unfold gO;rw[Mh w hi]⟩
 refine .bind ((T.forA row.length (λk acc=>EF g acc/\acc.length=k/\I4 g acc=row.take k) aa ⟨.nil,rfl,rfl⟩ (λk acc hk hj=>?_) λacc hj=>?_).mono (Q:=λacc=>EF g acc/\acc.length=row.length/\I4 g acc=row) λb h10=>?_)
 .obtain⟨x,hx,hmx⟩:=dk hk;obtain⟨i,hi,hil,hp⟩:=pz x (hrm x hmx);unfold uq;simp only[eA hk,ax,au,hx,aL,hp];refine .bind (.app cq (.some ⟨aq aa,hj.1.snoc hil,by simp;omega,?_⟩));grind [Rb]
 .unfold uq;dsimp only;rw[eF,Be];rw[EQ] at hj;exact .some hj
 .rw[hv,aL];refine .bind ((T.loop (Q:=λr:List Bool×List Bool=>r.1.length=g.L.length/\∀(p:Nat) (x:Ab),g.IDs[p]?=some x->r.1[p]?=some (decide (x∈vs))) (λs=>∃k:Nat,k<=vs.length/\s.2.2=(k:Int)/\s.1.length=g.L.length/\s.2.1.length=g.L.length/\∀(p:Nat) (x:Ab),g.IDs[p]?=some x->s.1[p]?=some (decide (x∈vs.take k))) (λs=>vs.length-s.2.2.toNat) ⟨0,aa,rfl,aC,aC,λp x hp=>?_⟩ cq ?_).mono λr a=>?_)
  .have:=(cr hp).1;show(List.replicate g.L.length false)[p]?=_;rw[List.getElem?_replicate,Bx aa];simp
  .rintro⟨V,F,i⟩ ⟨k,hk,rfl,h1,h2,h3⟩;dsimp only at h1 h2 h3;unfold uo;dsimp only;rcases HE k vs.length with hlt|hge
   .obtain⟨x,hx,hmx⟩:=dk hlt;obtain⟨q,hq,e,hp⟩:=pz x (hvm x hmx);rw[eA hlt,ax,au,hx,aL,hp,aL];have ew:=aq (show k<2305843009213693952 by omega);refine .bind (.set aa aa (.bind (.set aa aa (.some ⟨⟨k+1,aa,ew,by simp;omega,by simp;omega,λp y hy=>?_⟩,by rw[ew];simp;omega⟩))));dsimp only;rw[Fs,List.getElem?_set,Rb hx];grind [Md,Fo.nd]
   .obtain rfl:k=vs.length:=aa;rw[eF,Be];rw[EQ] at h3;exact .some ⟨h1,h3⟩
  .refine .some ⟨⟨h10.1,h10.2.2,hrn,by show b.length<=1000;omega,a.1,aC,λp x hp=>?_⟩,rfl⟩;show r.1[p]?=some (Ba ((ofV vs).get x));rw[AfF];exact a.2 p x hp
structure RDb (g:A7) (I:Gi) (dl:JR) (al:AQ) (a:Bc×FM Ab Bool) (V D:List Bool):Prop where
 lr:Lr g {dl with Void:=V,Decided:=D} (wV al a.2)
 sub:a.1.Sublist al.row
 kil:∀x∈a.1,JF (I.o x).Kind=true
 dec:∀(p:Nat) (x:Ab),g.IDs[p]?=some x->x∈al.row->JF (I.o x).Kind=true->Ba (a.2.get x)=false->D[p]?=some (!decide (x∈a.1))
structure RDc (g:A7) (I:Gi) (dl:JR) (al:AQ) (s:Bk) (a:Bc×FM Ab Bool) (b:List Bool×List Bool×Int):Prop extends RDb g I dl al a b.1 b.2.1 where
 nx:vL g {dl with Void:=b.1,Decided:=b.2.1} s=some b.2.2
theorem Ag9(h:RDb g (C4 g m N) dl al a V D)(hp:g.IDs[p]?=some x)(hx:x∈al.row):Nu g {dl with Void:=V,Decided:=D} (p:Int)=some (decide (x∈a.1.filter λx=> !Ba (a.2.get x))):=by
 have w:=P.w;have nI:=w.nI;have hpl:p<g.L.length:=by grind
 obtain⟨o,ho,so,c⟩:=w.op hpl;have b:=(P.op ho hp).2;have hv:=h.lr.vd p x hp;have hv:V[p]?=some (Ba (a.2.get x)):=hv;have hdl:=h.lr.nc;grind [Nu,au,JF,RDb.kil,RDb.dec,Bf]
end
theorem AlH{js:Bk}(hj:js.length<=1000)(hi:∀z∈js,∃q:Nat,z=(q:Int)/\q<V.length):T (AA (ng js) (V,0)) λW=>W.length=V.length/\∀(q:Nat) (b:Bool),V[q]?=some b->W[q]?=some (b||decide ((q:Int)∈js)):=by
 refine T.forA js.length (λk W=>W.length=V.length/\∀(q:Nat) (b:Bool),V[q]?=some b->W[q]?=some (b||decide ((q:Int)∈js.take k))) aa (by grind) (λk W hk a=>?_) λW a=>?_
 .obtain⟨z,hz,c⟩:=dk hk;obtain⟨p,rfl,hp⟩:=hi z c;unfold ng;simp only[eA hk,ax,au,hz,aL];refine .bind (.set aa (by rw[a.1];omega) (.some ⟨aq aa,by rw[List.length_set];exact a.1,λq b h=>?_⟩));rw[Fs,List.getElem?_set,Rb hz];grind
 .unfold ng;dsimp only;rw[eF,Be];rw[EQ] at a;exact .some a
theorem abr{σ1 σ2 ρ1 ρ2:Type}{s1:σ1->Option (σ1⊕ρ1)}{s2:σ2->Option (σ2⊕ρ2)}(R:σ1->σ2->Prop)(Q:ρ1->ρ2->Prop)(μ:σ1->Nat)(h:∀a b,R a b->∃u v,s1 a=some u/\s2 b=some v/\Sim (λa' b'=>R a' b'/\μ a'<μ a) Q u v):∀(n:Nat) (a:σ1) (b:σ2),μ a<n->R a b->∃q r,KN s1 n a=some q/\KN s2 n b=some r/\Q q r
 |0,a,b,hm,_=>absurd hm (Nat.not_lt_zero _)
 |n+1,a,b,hm,hR=>by
  obtain⟨u,v,e1,e2,hs⟩:=h a b hR;unfold KN;rw[e1,e2];cases u with
  |inl a'=>
   cases v with
   |inl b'=>exact abr R Q μ h n a' b' (by have:=hs.2;omega) hs.1
   |inr b'=>exact hs.elim
  |inr a'=>
   cases v with
   |inl b'=>exact hs.elim
   |inr b'=>exact⟨_,_,rfl,rfl,hs⟩
section
variable {g:A7} {m:JI} {N:JH} (P:Pg g m N)
include P
theorem Adv(hi:EF g l)(hp:g.IDs[p]?=some x):(p:Int)∈l↔x∈I4 g l:=by grind [Gu,OO,Pg.w,Md,Fo.nd]
theorem AjP{s:Bk}(h:RDc g (C4 g m N) dl al s a b){p:Nat}{x:Ab}(hp:g.IDs[p]?=some x)(hb:b.2.2=(p:Int)):AA (nh g dl b) ([],0)=some (dl.Row.filter λz=>(λy=>Ja (C4 g m N) x y||(decide (y∈a.1.filter λx=> !Ba (a.2.get x))&&DW (C4 g m N) al.row x y)) ((g.IDs[z.toNat]?).getD ⟨0,0,0⟩)):=by
 have w:=P.w;have nI:=w.nI;have hr:dl.Row.length<=1000:=h.lr.nr;have hpl:p<g.L.length:=by grind
 generalize hf:(λy=>Ja (C4 g m N) x y||(decide (y∈a.1.filter λx=> !Ba (a.2.get x))&&DW (C4 g m N) al.row x y))=f;refine T.eq (T.forA dl.Row.length (λk acc=>acc=(dl.Row.take k).filter λz=>f ((g.IDs[z.toNat]?).getD ⟨0,0,0⟩)) aa aC (λk acc hk hj=>?_) λacc hj=>?_)
 .obtain⟨z,hz,_⟩:=dk hk;have hrow:EF g dl.Row:=h.lr.row;obtain⟨q,y,rfl,d,hq,i⟩:=OO w hrow hz;have hnm:I4 g dl.Row=al.row:=h.lr.nm;rw[hnm] at i;have hyr:=bO i;have hal:acc.length<=k:=by grind
  have e:(dl.Row.take (k+1)).filter (λz=>f ((g.IDs[z.toNat]?).getD ⟨0,0,0⟩))=acc++(if f y=true then[(q:Int)] else[]):=by rw[Rb hz,Qn,<-hj];cases hfy:f y<;>simp[hq,hfy]
  have hw:=Adt P h.lr hpl d hp hq;unfold nh;simp only[eA hk,ax,au,hz,aL,hb,Ads P hpl d hp hq,Ag9 P h.toRDb hq hyr];refine .bind (T.mono (Q:=λc=>c=f y) ?_ λc hc=>?_)
  .rw[<-hf];dsimp only;cases Ja (C4 g m N) x y<;>grind [T.some]
  .subst hc;cases hfy:f y with
   |true=>rw[hfy,Bx rfl] at e;exact .bind (.app cq (.some ⟨aq aa,e.symm⟩))
   |false=>rw[hfy,BA aC,MG] at e;exact .some ⟨aq aa,e.symm⟩
 .unfold nh;dsimp only;rw[eF,Be];refine .some (show acc=_ from ?_);rw[hj,EQ]
theorem ltE{s:Bk}(hsn:s.Nodup)(hsl:s.length<=12)(h:Lr g dl al):∀x∈al.row,∀y∈al.row,decide (R2 (Ou g.Cards s) x.By<R2 (Ou g.Cards s) y.By)=decide (snD s ((C4 g m N).o x).By<snD s ((C4 g m N).o y).By):=by
 have w:=P.w;have pos:∀x∈al.row,∃q:Nat,q<g.L.length/\g.IDs[q]?=some x:=λx hx=>by rw[<-h.nm] at hx;obtain⟨z,hz,e⟩:=EP.1 hx;obtain⟨j,hj⟩:=Gu hz;obtain⟨n,y,rfl,hn,hy,_⟩:=OO w h.row hj;grind
 intro x hx y hy;obtain⟨p,hp,a⟩:=pos x hx;obtain⟨q,hq,b⟩:=pos y hy;obtain⟨o,ho,_⟩:=w.op hp;obtain⟨c,ho2,_⟩:=w.op hq;rw[(P.op ho a).2,(P.op ho2 b).2,<-(P.od p o x ho a).i,<-(P.od q c y ho2 b).i];refine AhM hsn hsl ?_ ?_
 .rw[(P.od p o x ho a).i];exact P.dv p o x ho a
 .rw[(P.od q c y ho2 b).i];exact P.dv q c y ho2 b
theorem nxE{s:Bk}(hsn:s.Nodup)(hsl:s.length<=12)(h:RDb g (C4 g m N) dl al a V D):T (vL g {dl with Void:=V,Decided:=D} s) λnx=>NxQ g m N (wV al a.2) (a.1.filter λx=> !Ba (a.2.get x)) (λx y=>decide (R2 (Ou g.Cards s) x.By<R2 (Ou g.Cards s) y.By)) nx:=AjM P h.lr (show s.length<=1000 by omega) (AaZ (List.filter_sublist.trans h.sub) h.lr.nd) (λ_ _ hp hx=>Ag9 P h hp hx) (ltE P hsn hsl h.lr)
theorem AjQ{s:Bk}(hsn:s.Nodup)(hsl:s.length<=12)(h:RDc g (C4 g m N) dl al s a b):∃u v,Ae9 (C4 g m N) al (Ou g.Cards s) a=some u/\tw g dl s b=some v/\Sim (λa' b'=>RDc g (C4 g m N) dl al s a' b'/\a'.1.length<a.1.length) (λ(v:FM Ab Bool) (r:List Bool×List Bool)=>Lr g {dl with Void:=r.1,Decided:=r.2} (wV al v)) u v:=by
 have w:=P.w;have nL:=w.nL;have nI:=w.nI;have hrow:EF g dl.Row:=h.lr.row;have hnm:I4 g dl.Row=al.row:=h.lr.nm;have hnd:al.row.Nodup:=h.lr.nd;have hnr:dl.Row.length<=1000:=h.lr.nr;have hrl:al.row.length=dl.Row.length:=by rw[<-hnm,Hl]
 obtain⟨nx,e1,t⟩:=nxE P hsn hsl h.toRDb;obtain⟨v0,hv⟩:∃v0,tw g dl s b=v0:=⟨_,rfl⟩;rw[hv];have D:=Mj (λx=> !Ba (a.2.get x)) a.1;have hkl:=λp x hp hb=>AjP P h (p:=p) (x:=x) hp hb;have hl1s:(a.1.filter λx=> !Ba (a.2.get x)).Sublist al.row:=List.filter_sublist.trans h.sub;have hlen:a.1.length<=1000:=by have:=h.sub.length_le;omega
 have hmem:∀y,y∈(a.1.filter λx=> !Ba (a.2.get x))↔y∈a.1/\Ba (a.2.get y)=false:=by grind
 unfold Ae9;rw[CO hlen,ax];dsimp only;generalize (a.1.filter λx=> !Ba (a.2.get x))=l1 at*;have hl1n:l1.Nodup:=hnd.sublist hl1s;have hl1l:l1.length<=1000:=by have:=hl1s.length_le;omega
 rw[h.nx] at e1;obtain rfl:=Bf e1;obtain⟨r,e2,hr⟩:=AlG (I:=C4 g m N) (row:=al.row) (sen:=Ou g.Cards s) hl1l;rw[e2];rcases t with⟨p,x,f,hp,hxl,hx⟩|⟨h0,hb⟩
 .obtain⟨i,J,rfl,hi,hx'⟩:=hr.resolve_right (by grind);obtain rfl:x=J:=by grind
  have hil:=(cr hi).1;have F:=hl1s.subset hxl;have hpl:p<g.L.length:=by grind
  rw[show decide (ah l1=0)=false from C6 (by unfold ah;omega),Be,aL,au,hi,aL,Fs];obtain⟨gd,e3,g1,g2,H,M⟩:=Ag7 P h.lr;have hgood:QF gd (p:Int)=(JQ (C4 g m N) (wV al a.2)).any (λz=>decide (x=z)):=by rw[Ju,Bool.eq_iff_iff,List.any_eq_true,decide_eq_true_iff,Adv P g1 hp,H];constructor<;>grind
  have hlp:∀y,y∈l1.eraseIdx i↔y∈l1/\y≠x:=λy=>by
   have hsp:l1=l1.take i++x::l1.drop (i+1):=by grind [List.drop_eq_getElem_cons,OQ]
   have A:=hl1n;rw[hsp,List.perm_middle.nodup_iff,LS] at A;rw[List.eraseIdx_eq_take_drop_succ];constructor
   .intro hy;constructor<;>grind [List.mem_of_mem_drop]
   .rintro⟨hy,hne⟩;rw[hsp] at hy;rcases Jk.1 hy with hy|hy
    .exact Jk.2 (.inl hy)
    grind
  have hvl:b.1.length=g.L.length:=h.lr.nv;have hdl:b.2.1.length=g.L.length:=h.lr.nc;have key:∀(o:Bk) (d:FM Ab Bool),o.length<=1000->(∀z∈o,∃q:Nat,z=(q:Int)/\q<b.1.length)->(∀(q:Nat) (y:Ab),g.IDs[q]?=some y->Ba (d.get y)=(Ba (a.2.get y)||decide ((q:Int)∈o)))->T ((ji b.2.1 b.2.2 true).bind λj=>(AA (ng o) (b.1,0)).bind λk=>(vL g ({dl with Void:=k,Decided:=j}) s).bind λB=>some (.inl (k,j,B))) λ(v:(List Bool×List Bool×Int)⊕(List Bool×List Bool))=>Sim (λa' b'=>RDc g (C4 g m N) dl al s a' b'/\a'.1.length<a.1.length) (λ(v:FM Ab Bool) (r:List Bool×List Bool)=>Lr g {dl with Void:=r.1,Decided:=r.2} (wV al v)) (.inl (l1.eraseIdx i,d)) v:=λo d hjl C l=>by
   rw[f];refine .bind (.set aa aa (.bind ((AlH hjl C).mono λW E=>?_)));rw[Fs];have hL:Lr g {dl with Void:=W,Decided:=b.2.1.set p true} (wV al d):=⟨hrow,hnm,hnd,hnr,E.1.trans hvl,by grind,λq y hq=>by show W[q]?=some (Ba (d.get y));rw[l q y hq];exact E.2 q _ (h.lr.vd q y hq)⟩
   have hb:RDb g (C4 g m N) dl al (l1.eraseIdx i,d) W (b.2.1.set p true):=by
    refine⟨hL,(List.eraseIdx_sublist l1 i).trans hl1s,(by grind [RDb.kil,h.toRDb]),λq y hq hy hk n=>?_⟩;dsimp only at n⊢;rw[l q y hq] at n;have hvy1:Ba (a.2.get y)=false:=by grind
    rw[List.getElem?_set];by_cases c:p=q
    .grind
    .have hne:y≠x:=λe=>c (by rw[e] at hq;exact Md w.nd hp hq);rw[BA c,h.dec q y hq hy hk hvy1];grind
   obtain⟨K,e4,_⟩:=nxE P hsn hsl hb;rw[e4,aL];exact .some ⟨⟨hb,e4⟩,by show(l1.eraseIdx i).length<_;rw[List.length_eraseIdx_of_lt hil];omega⟩
  unfold tw at hv;rw[f,show decide ((0:Int)<=(p:Int))=true from CO aa,ax,e3,aL,cX aa,aL,hkl p x hp f,aL,hgood] at hv;rw[<-f] at hv;cases hg:(JQ (C4 g m N) (wV al a.2)).any (λz=>decide (x=z)) with
  |true=>
   rw[hg,Bool.not_true,Be,aL] at hv;rw[ax];obtain⟨v',ev,hs⟩:=key (dl.Row.filter λz=>(λy=>Ja (C4 g m N) x y||(decide (y∈l1)&&DW (C4 g m N) al.row x y)) ((g.IDs[z.toNat]?).getD ⟨0,0,0⟩)) (vAl (C4 g m N) al.row (l1.eraseIdx i) x a.2) (LD (Mj _ _) hnr) (λz hz=>by
    obtain⟨q,e,hq⟩:=hrow.nat (Hk.1 hz).1;exact⟨q,e,aa⟩) λq y hq=>by
    unfold vAl;rw[AbO];congr 1;have h1:decide ((q:Int)∈dl.Row.filter λz=>(λy=>Ja (C4 g m N) x y||(decide (y∈l1)&&DW (C4 g m N) al.row x y)) ((g.IDs[z.toNat]?).getD ⟨0,0,0⟩))=(decide (y∈al.row)&&(Ja (C4 g m N) x y||(decide (y∈l1)&&DW (C4 g m N) al.row x y))):=by rw[Bool.eq_iff_iff,decide_eq_true_iff,Hk,bA,decide_eq_true_iff,Adv P hrow hq,hnm,Fs,hq,M2]
    rw[h1];congr 2;have h2:(l1.eraseIdx i).any (λz=>decide (y=z))=decide (y∈l1/\y≠x):=by rw[Bool.eq_iff_iff,List.any_eq_true,decide_eq_true_iff,<-hlp];constructor<;>grind
    rw[h2];by_cases c:y=x
    .subst c;unfold DW;simp
    .simp[c]
   exact⟨_,v',rfl,by rw[<-hv,ev],hs⟩
  |false=>
   rw[hg,Bool.not_false,ax,aL] at hv;rw[Be];obtain⟨v',ev,hs⟩:=key [b.2.2] (C3 a.2 x true) aC (by grind) λq y hq=>by
    rw[Bz,f];by_cases c:y=x
    .subst c;have:q=p:=Md w.nd hq hp;rw[Bx rfl,this];simp[Ba]
    .have:¬((q:Int)=(p:Int)):=λe=>c (by have:q=p:=aa;grind)
     rw[BA c];simp[this]
   exact⟨_,v',rfl,by rw[<-hv,ev],hs⟩
 .rw[h0,show decide (ah ([]:Bc)=0)=true from rfl,ax];unfold tw at hv;rw[hb,show decide ((0:Int)≤-1)=false from rfl,Be] at hv;exact⟨_,_,rfl,hv.symm,h.lr⟩
include P
theorem Aha(hrm:∀x∈row,x∈g.IDs):(NS (C4 g m N) row).Nodup/\(NS (C4 g m N) row).length<=12:=by have h1:(NS (C4 g m N) row).Nodup:=AbL .nil;refine⟨h1,AlF h1 ?_⟩;refine abp (Q:=λd=>1<=d/\d<=12) (λx hx d hd=>?_) (by grind);obtain⟨i,hi⟩:=Gu (hrm x hx);have:=(cr hi).1;obtain⟨o,ho,so,a⟩:=P.w.op (i:=i) (by have:=P.w.nI;omega);rw[(P.op ho hi).2] at hd;exact abo a hd
theorem Adw(hi:GJ g ids)(ho:n8 g ids=some row)(hrn:row.Nodup)(hr:row.length<=1000)(hrm:∀x∈row,x∈g.IDs)(hv:vJ ids=some vs)(c:vs.length<=1000)(hvm:∀x∈vs,x∈g.IDs):T (oR g ids) λd=>∃v,Afa (C4 g m N) (Xd ⟨g.Cards,m,N⟩ row vs) (Ou g.Cards (NS (C4 g m N) row))=some v/\Lr g d (wV (Xd ⟨g.Cards,m,N⟩ row vs) v):=by
 unfold oR;refine .bind ((AjN P hi ho hrn hr hrm hv c hvm).mono λb ⟨hL,hD⟩=>?_);rw[abq P ho hr hrm,aL];obtain⟨s1,s2⟩:=Aha P hrm;have hR:RDb g (C4 g m N) b (Xd ⟨g.Cards,m,N⟩ row vs) (row.filter (λx=> !!JF ((C4 g m N).o x).Kind),(Xd ⟨g.Cards,m,N⟩ row vs).void) b.Void b.Decided:=⟨hL,List.filter_sublist,(by grind),λp x hp hx hk _=>by have hpl:=(cr hp).1;have hm:x∈row.filter (λx=> !!JF ((C4 g m N).o x).Kind):=Hk.2 ⟨hx,by rw[hk];rfl⟩;grind [Lr]⟩
 obtain⟨nx,e3,_⟩:=nxE P s1 s2 hR;rw[show vL g b (NS (C4 g m N) row)=some nx from e3,aL];obtain⟨v,r,h1,h2,h3⟩:=abr (s1:=Ae9 (C4 g m N) (Xd ⟨g.Cards,m,N⟩ row vs) (Ou g.Cards (NS (C4 g m N) row))) (s2:=tw g b (NS (C4 g m N) row)) (RDc g (C4 g m N) b (Xd ⟨g.Cards,m,N⟩ row vs) (NS (C4 g m N) row)) (λ(v:FM Ab Bool) (r:List Bool×List Bool)=>Lr g {b with Void:=r.1,Decided:=r.2} (wV (Xd ⟨g.Cards,m,N⟩ row vs) v)) (λa=>a.1.length) (by grind [AjQ]) FU _ (b.Void,b.Decided,nx) (by grind [FU]) ⟨hR,e3⟩;rw[show AA (tw g b (NS (C4 g m N) row)) (b.Void,b.Decided,nx)=some r from h2,aL];exact .some ⟨v,h1,h3⟩
theorem AjR(hi:EF g l)(hl:l.length<=1000)(hnd:(I4 g l).Nodup):T (AA (tQ g l) (⟨g.Cards,[],[],[],0,[]⟩,0)) λD=>Rr (YD (C4 g m N) (I4 g l)) D/\Bj (YD (C4 g m N) (I4 g l))/\Jo g 1000 D:=by
 have w:=P.w;have nI:=w.nI;obtain⟨b,e0,c⟩:=AjL (P.new);have hD0:b=⟨g.Cards,[],[],[],0,[]⟩:=(Bf e0).symm;subst hD0;refine T.forA l.length (λj D=>(Rr (((I4 g l).take j).foldl (Nl (C4 g m N)) (Hf g.Cards)) D/\Bj (((I4 g l).take j).foldl (Nl (C4 g m N)) (Hf g.Cards))/\Gs (((I4 g l).take j).foldl (Nl (C4 g m N)) (Hf g.Cards)) ((I4 g l).take j))/\Jo g j D) aa ⟨⟨c,Lw P.cd.r,λq z g h=>by cases h⟩,Mv g⟩ (λj D hj hr=>?_) λD hr=>?_
 .obtain⟨y,hy,hm⟩:=dk hj;obtain⟨i,x,rfl,hil,hx,a⟩:=OO w hi hy;obtain⟨o,ho,so,p⟩:=w.op hil;obtain⟨⟨h1,h2,h3⟩,h4⟩:=hr;have hod:=P.od i o x ho hx;have d:=(P.op ho hx).2;have et:((I4 g l).take (j+1)).foldl (Nl (C4 g m N)) (Hf g.Cards)=Ug (((I4 g l).take j).foldl (Nl (C4 g m N)) (Hf g.Cards)) o x:=by rw[Rb a,On,List.foldl_cons,List.foldl_nil];grind [Nl]
  have hxS:x∉(I4 g l).take j:=by grind [Gu,Md]
  rw[et,Rb a];generalize ((I4 g l).take j).foldl (Nl (C4 g m N)) (Hf g.Cards)=R at h1 h2 h3⊢;unfold tQ;simp only[eA hj,ax,au,hy,ho,hx,aL];have z:=abn P h4 aa;have k:=h4.dev;have n:=h4.nL;exact .bind ((T.and (doE z (by grind) h1 h2 λ_ q z f k1 k2 e=>by have:=h3 q z f k1 k2;grind) (Gc w aa h4 so x)).mono λv hv=> .some (by constructor<;>grind [aq,Q5,Ag6]))
 .unfold tQ;dsimp only;rw[eF,Be];have hl2:(I4 g l).length=l.length:=Hl ..;rw[<-hl2,EQ] at hr;exact .some ⟨hr.1.1,hr.1.2.1,hr.2.up aa⟩
theorem AlJ{ids row vs:Bc}(hi:GJ g ids)(ho:n8 g ids=some row)(hrn:row.Nodup)(hr:row.length<=1000)(hrm:∀x∈row,x∈g.IDs)(hv:vJ ids=some vs)(a:vs.length<=1000)(hvm:∀x∈vs,x∈g.IDs):T (zY g ids) λD=>∃cs,Afd (C4 g m N) (Xd ⟨g.Cards,m,N⟩ row vs) (NS (C4 g m N) row)=some cs/\cs.Sublist row/\Rr (YD (C4 g m N) cs) D/\Bj (YD (C4 g m N) cs)/\Jo g 1000 D:=by
 unfold zY AV;rw[aL];refine .bind ((Adw P hi ho hrn hr hrm hv a hvm).mono λe hdl=>?_);obtain⟨v,h1,h2⟩:=hdl;refine .bind ((Ag7 P h2).mono λr b=>?_);obtain⟨g1,g2,d,c⟩:=b;have hcs:Afd (C4 g m N) (Xd ⟨g.Cards,m,N⟩ row vs) (NS (C4 g m N) row)=some (I4 g r):=by unfold Afd;rw[show(C4 g m N).cards=g.Cards from rfl,h1,d];rfl
 refine .bind ((AjR P g1 g2 (hrn.sublist c)).mono λD hD=> .some ⟨I4 g r,hcs,c,hD⟩)
end
theorem AjS{R:Ad}{D:C5}(z:Sz D)(h:Rr R D)(hR:Bj R):lu D=some (He R):=by
 obtain⟨a,b,_⟩:=Lo hR;unfold lu;refine T.eq (.bind ((Adl z.i).mono λv hv=> .some ?_));refine abm (hv.1.trans (List.Perm.trans ?_ b.symm)) hv.2 a;refine(List.perm_ext_iff_of_nodup (List.nodup_append.1 h.nd).1 hR.ci.kd).2 λe=>?_;have hi:=h.in_ e;constructor
 .grind [G9]
 .intro he;obtain⟨q,hq,rfl⟩:=EP.1 he;have hg:=IX hR.ci (k:=q.1) (v:=q.2.1) (n:=q.2.2) hq;grind
theorem Uc:fg prog 115=some true:=aH
section
variable (gl:CB)
theorem M7:Aac prog gl Bt (λx=>[.agg (Bt x)]) 134:=λs f fi_f fa_f fc_f a=>
 cy func134 λK=>N8 1101 (λg=>sg [] []) (λs1=>sf [] [(7,iG (ah s)),(8,iG s1)]) [hc (a.im)] K (λg=>rv K) λs1 k5 h k6=>aF 9 (B5 14 Bi.ixZ 15 (Bi.ptZ Hm) λd=>ak λi e=>kV (λb=>aw [hz 16 [] (cS (a.cs (c:=0) e (aY (aG 20 (.agg (Bt d)) aH) (bf))) b)]<|aP c3 k6 []) λb=>aw [hz 16 [] (cS (a.cs (c:=0) e (aY (aG 20 (.agg (Bt d)) aH) (bf))) b)]<|cj k5 [hc (a.im)])<|aA c2 h []
theorem LO:Aa5 prog gl Bt (λx=>[.agg (Bt x)]) 67:=λs f fi_f fa_f fc_f a=>
 cy func67 λK=>ak λb e2=>aw [hz 7 [] (jf (c:=0) aH (M7 gl (a) e2) (aY (aG 20 (aE Bt s) aH) (aY (a.im) (bf))))]<|rv K
def JB(f:Bh)(a1:Bp):Fl:=
 (bif f.Device=a1.By then(some (decide (f.Seq<=a1.Seq)))else(some false)).bind λa=>some a
theorem Uq{f a1}:DF prog gl (JB f a1) 69 [.agg (Bt f),.ptr (aJ a1) 0] bG:=
 cy func69 λK=>cN [1,0] (so [0] [(2,.ref 0 0)] [ob 0 123 (Bt f)] 1) []<|cC [1,0] (λa=>sk [] [(3,bG a)] [] 0) (λa=>rv K) λa k3=>aF 8 (rx k3)<|rx k3
def ZW(a:Ad)(device:Int):Fl:=
 some (Hg (a.in_.get device))
theorem Ur{r_ device}:DF prog gl (ZW r_ device) 75 [.ptr (CA r_) 0,iG device] bG:=
 cy func75 λK=>aw [hm 10 (Sb r_.in_ device)]<|rv K
def Ss(d:Int)(a1:Bk):Fl:=
 (Aa6 a1 d).bind λa=>some (!a)
theorem Us{d a1}:DF prog gl (Ss d a1) 76 [iG d,.ptr [aE cZ a1] 0] bG:=
 cy func76 λK=>BB 6 (Dk gl) λa=>rv K
end
section
variable {gl:CB}
abbrev InV(gl:CB)(fi:FuncId)(fa fc:Bn)(p:Int->Bool):Prop:=SP prog gl fi fa fc (λx:Int=>[iG x]) (λx:Bool=>bG x) (λk=>some (p k))
theorem Ab3{p:Int->Bool}{fi:FuncId}{fa fc:Bn}(hv:InV gl fi fa fc p){l:Bk}(hn:l.length<=1000000):iV prog gl 73 [aE cZ l,.clo (.func fi) fa fc] 3 (l.filter p).length ((l.filter p).flatMap cZ):=by
 refine OW func73 ?_;refine pN (λk:Nat=>(s0 23 gl [(1,.clo (.func fi) fa fc),(5,.rsl 0 0 ((l.take k).filter p).length),(8,aE cZ l),(9,iG (ah l)),(10,iG (k:Int))] [(0,Ke ((l.take k).filter p))] 1 0)) 1110122 (EO (n:=l.length) aa) [] [hc hv.im,hc (rZ.imm [])] (λB k w hs k5 a=>?_) [3] [(0,0)] [(0,.row)];unfold Ko at hs;split at hs
 .rename_i hlt;obtain rfl:=Bf hs;obtain⟨x,hx⟩:∃x,l[k]?=some x:=⟨_,DR hlt⟩;have hz:=Bg hx;have k5:=k5 _ rfl;have hl:((l.take k).filter p).length<=k:=LD (Mj _ _) (by rw[Nv];omega);rw[JJ,hx,Option.toList_some,Qn] at k5;generalize (l.take k).filter p=q at k5 hl⊢;have hcs:=hv.cs (c:=1) (x:=x) rfl (aY (aG 20 (iG x) aH) bf);cases hp:p x with
  |true=>rw[hp] at hcs;rw[List.filter_cons_of_pos hp,List.filter_nil] at k5;exact jw [hr 11 (Dd hx),AB 12 (rZ.ixZ hz),AB 13 (rZ.p1Z tZ hz),Go.Proofs.YtghphhhpagagbaaGreatDoor.hz 16 [] hcs,Tn 20 rZ 8 q x aa,hbb 21 (Xl (q:=k) aa)] [hc hv.im,hc (el (q++[x])),hc (rZ.imm (q++[x]))] k5 [] [(0,2)] [(0,.row)]
  |false=>rw[hp] at hcs;rw[List.filter_cons_of_neg (by simp[hp]),List.filter_nil,MG] at k5;exact jw [hr 11 (Dd hx),AB 12 (rZ.ixZ hz),AB 13 (rZ.p1Z tZ hz),Go.Proofs.YtghphhhpagagbaaGreatDoor.hz 16 [] hcs,hbb 21 (Xl (q:=k) aa)] [hc hv.im,hc (el q),hc (rZ.imm q)] k5 [] [(0,0)] [(0,.row)]
 .split at hs
  .rename_i he;subst he;rw[EQ];exact EI [hr 11 (DZ (s:=l))] (rZ.imm (l.filter p))
  .cases hs
end
def UC(p:Nat->Bool)(N:JH):Bc:=(N.zipIdx.filter λq=>p q.2).map (·.1.id)
theorem Ad4{p:Nat->Bool}{x:CY}(h:N[k]?=some x):UC p (N.take (k+1))=UC p (N.take k)++bif p k then[x.id] else[]:=by grind [UC,JJ]
theorem Ab4{p:Nat->Bool}:(UC p N).length<=N.length:=by grind [UC,List.length_zipIdx]
section
variable {gl:CB}
theorem AfX(a b:Ab):ba prog gl 123 [.agg (aj a),.agg (aj b)] (iG (GK a b)):=by
 have h1:=SI (gl:=gl) a b;have h2:=SI (gl:=gl) b a;unfold GK;refine Gh func123 ?_;cases c1:dt a b with
 |true=>rw[c1] at h1;exact Ar [hf 8 h1] []
 |false=>
  rw[c1] at h1;cases c2:dt b a with
  |true=>rw[c2] at h2;exact Ar [hf 8 h1,hf 12 h2] []
  |false=>rw[c2] at h2;exact Ar [hf 8 h1,hf 12 h2] []
theorem Aid:CmV gl 123 [] [] GK:=⟨aH,bf,bf,(by grind [AfX])⟩
abbrev NmV(gl:CB)(fi:FuncId)(fa fc:Bn)(p:Nat->Bool):Prop:=SP prog gl fi fa fc (λx:Nat=>[iG (x:Int)]) (λx:Bool=>bG x) (λk=>bif k<200 then some (p k)else none)
theorem Aao(hn:gg.nodes.length<=14){p:Nat->Bool}{fi:FuncId}{fa fc:Bn}(hv:NmV gl fi fa fc p)(h:Ow GK (UC p gg.nodes)=some r)(hle:r.length=(UC p gg.nodes).length):iV prog gl 61 [.ptr (Ag gg) 0,.clo (.func fi) fa fc] 25 r.length (r.flatMap aj):=by
 rw[hle];refine OW func61 ?_;refine pN (λk:Nat=>(s0 30 gl [(1,.clo (.func fi) fa fc),(5,.rsl 0 0 (UC p (gg.nodes.take k)).length),(11,aE d7 gg.nodes),(12,iG (ah gg.nodes)),(13,iG (k:Int))] [(0,Bw (UC p (gg.nodes.take k)))] 1 0)) 1110122 (EO (n:=gg.nodes.length) aa) [] [hc hv.im,hc (ac.imm [])] (λB k w hs k5 a=>?_) [25] [(0,0)] [(0,.row)];unfold Ko at hs;split at hs
 .rename_i hlt;obtain rfl:=Bf hs;obtain⟨x,hx⟩:∃x,gg.nodes[k]?=some x:=by simp_all
  have hz:=Bg hx;have k5:=k5 _ rfl;have hl:(UC p (gg.nodes.take k)).length<=k:=by grind [Ab4]
  rw[Ad4 hx] at k5;generalize UC p (gg.nodes.take k)=l at k5 hl⊢;have hcs:=hv.cs (c:=2) (x:=k) (by rw[CO (by grind)];rfl) (aY (aG 20 (iG (k:Int)) aH) bf);cases hp:p k with
  |true=>rw[hp] at k5 hcs;exact jw [hr 14 (Dd hx),AB 16 (az.ixZ hz),AB 17 (az.ptZ Uc hz),Go.Proofs.YtghphhhpagagbaaGreatDoor.hz 20 [] hcs,Tn 25 ac 24 l x.id aa,hbb 26 (Xl (q:=k) aa)] [hc hv.im,hc (el (l++[x.id])),hc (ac.imm (l++[x.id]))] k5 [] [(0,3)] [(0,.row)]
  |false=>rw[hp] at k5 hcs;rw[Be,MG] at k5;exact jw [hr 14 (Dd hx),AB 16 (az.ixZ hz),AB 17 (az.ptZ Uc hz),Go.Proofs.YtghphhhpagagbaaGreatDoor.hz 20 [] hcs,hbb 26 (Xl (q:=k) aa)] [hc hv.im,hc (el l),hc (ac.imm l)] k5 [] [(0,0)] [(0,.row)]
 .split at hs
  .rename_i he;subst he;rw[EQ];exact EI [hr 14 (DZ (s:=gg.nodes)),hso (gl:=gl) 28 1 Aid (LD Ab4 hn) h] (ac.imm r)
  .cases hs
theorem AfY(k:Nat):ba prog gl 62 [iG (k:Int)] (bG true):=by refine Gh func62 ?_;exact Ar [] []
theorem AfZ{gg:Aj}(hn:gg.nodes.length<=14)(h:Ow GK (UC (λ_=>true) gg.nodes)=some r)(hle:r.length=(UC (λ_=>true) gg.nodes).length):ba prog gl 24 [.ptr (Ag gg) 0] (aE aj r):=by have hN:=(Aao (gl:=gl) hn (fi:=62) (fa:=[]) (fc:=[]) ⟨aH,bf,bf,(by grind [AfY])⟩ h hle).fn ac.sz (ac.len _) (ac.imm _);refine Gh func24 ?_;exact Ar [hf 4 hN] []
def Pp(gg:Aj)(l:Bc):N4:=l.foldl (λs x=>match MY gg x with|some y=>Qs s y.past|none=>s) z4
theorem Ad5(hg:Tz gg)(hn:ids.length<=1000000):ba prog gl 83 [.ptr (Ag gg) 0,aE aj ids] (.agg (FSq (Pp gg ids))):=by
 refine Gh func83 ?_;refine pN (λk:Nat=>(s0 37 gl [(0,.ptr (Ag gg) 0),(4,.ref 0 0),(5,.ref 1 0),(10,aE aj ids),(11,iG (ah ids)),(12,iG (k:Int))] [(0,oA z4),(1,oA (Pp gg (ids.take k)))] 2 0)) 1110122 (EO (n:=ids.length) aa) [] [] (λB k w hs k5 a=>?_) [] [(0,0),(1,1)] [];unfold Ko at hs;split at hs
 .rename_i hlt;obtain rfl:=Bf hs;obtain⟨x,hx⟩:∃x,ids[k]?=some x:=by simp_all
  have hz:=Bg hx;have k5:=k5 _ rfl;have e:Pp gg (ids.take (k+1))=match MY gg x with|some y=>Qs (Pp gg (ids.take k)) y.past|none=>Pp gg (ids.take k):=by unfold Pp;rw[JJ,hx,Option.toList_some,On];rfl
  rw[e] at k5;generalize Pp gg (ids.take k)=s at k5⊢;have hk:=H7 gg.at_ x;cases em:gg.at_.get x with
  |none=>rw[em] at hk;rw[Wq em] at k5;exact jw [hr 13 (Dd hx),AB 14 (ac.ixZ hz),AB 15 (ac.ptZ aW hz),hm 22 hk,hbb 35 (Xl (q:=k) aa)] [] k5 [] [(0,0),(1,1)] []
  |some n=>rw[em] at hk;obtain⟨j,y,rfl,hy,e2,_⟩:=TB hg em;rw[e2] at k5;exact jw [hr 13 (Dd hx),AB 14 (ac.ixZ hz),AB 15 (ac.ptZ aW hz),hm 22 hk,AB 31 (az.ixZ hy),AB 33 (az.fsZ aap aaq 30 BX hy),tN 34 [1] 3 [(1,oA s)] [.ref 1 0,.agg (FSq y.past)] [(0,oA (Qs s y.past))] (TX gl s y.past) ⟨⟨rfl,.inl rfl⟩,trivial⟩ ⟨⟨rfl,.inl rfl⟩,trivial⟩,hbb 35 (Xl (q:=k) aa)] [] k5 [] [(0,0),(1,1)] []
 .split at hs
  .rename_i he;subst he;rw[EQ];exact Ar [hr 13 (DZ (s:=ids))] []
  .cases hs
end
end Go.Proofs.YtghphhhpagagbaaGreatDoor
