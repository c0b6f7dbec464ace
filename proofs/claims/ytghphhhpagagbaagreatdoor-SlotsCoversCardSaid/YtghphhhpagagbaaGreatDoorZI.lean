/- Texts. -/
import Derived.Test.YtghphhhpagagbaaGreatDoorQE
namespace Go.Proofs.YtghphhhpagagbaaGreatDoor
set_option linter.unusedSectionVars false
set_option linter.unusedVariables false
set_option linter.unusedSimpArgs false
open Go.RowKit Tryz
attribute [local irreducible] Tr dz Gp
variable {α:Type}{I:Gi}{gg:Aj}{ids l l0 r row:Ba}{pv x y:Ab}{a b j k m p u v w:Nat}{d:Int}{s:FM Bh Int×FM Int Int}{L:Bk}{gl:CM}
abbrev oS(al:A3)(sen:FM Int Int):List HP:=mLs al++[hc (AjN sen)]
abbrev ρ5:DH:=[(0,0),(1,1),(2,2),(3,3),(4,4)]
abbrev ρ6:DH:=ρ5++[(5,5)]
abbrev ρ7:DH:=ρ6++[(6,6)]
abbrev kd5:List (Nat×Rk):=[(5,.row)]
abbrev stM(al:A3)(sen:FM Int Int)(s:Ba×FM Ab Bool):St:=(s0 115 fI [(1,.ref 3 0),(2,.mref 4),(7,.rsl 5 0 s.1.length)] (σ6 (wV al s.2) sen s.1) 6 3)
abbrev oMn(al:A3)(sen:FM Int Int)(s:Ba×FM Ab Bool)(n:Nat)(h:n=s.1.length):List HP:=hc h::oS (wV al s.2) sen++[hc (ac.imm s.1)]
abbrev stV(al:A3)(sen:FM Int Int)(l:Ba)(x:Ab)(v:FM Ab Bool)(k:Nat):St:=(s0 115 fI [(1,.ref 3 0),(2,.mref 4),(7,.rsl 5 0 l.length),(9,.ref 6 0),(85,aE aj al.row),(86,iG (ah al.row)),(87,iG (k:Int))] (σ6 (wV al v) sen l++[(6,XS x)]) 7 3)
theorem Ad6{al:A3}(h:AfW fI al I){s:Bb}(hS:ba prog fI 74 [.ptr (Ag al.g) 0,aE aj al.row] (aE cZ s))(hsn:s.length<=1000){v:FM Ab Bool}(hv0:Af7 I al (O5 I.cards s)=some v):UM prog fI 153 [.ref 0 0] (σ3 al) 3 3 (.tup []) (σ3 (wV al v)):=by
 have hn:=h.n;have hcn:=h.c.n;have hcl:cU al.row=some al.row:=by unfold cU aT;rw[Bu cq];rfl
 unfold Af7 at hv0;refine dFP func153 ?_;refine pN (λk:Nat=>(s0 115 fI [(1,.ref 3 0),(2,.mref 4),(17,aE bv I.cards),(18,iG (ah I.cards)),(19,iG (k:Int))] (σ5 al (TF (I.cards.take k))) 5 3)) 1110122 (Fw (n:=I.cards.length) aa) [hf 17 h.g.cards] (oS al (TF (I.cards.take 0))) (λB k w hs k5 r=>?_) [] ρ5 [];unfold LC at hs;split at hs
 .rename_i hlt;obtain rfl:=Bj hs;obtain⟨x,hx⟩:∃x,I.cards[k]?=some x:=⟨_,DS hlt⟩;have hz:=Be hx;have k5:=k5 _ rfl;unfold TF at k5⊢;rw[JI,hx,Option.toList_some,O0,List.foldl_cons,List.foldl_nil] at k5;generalize (I.cards.take k).foldl (λ(m:FM Int Int) (c:DQ)=>C5 m c.Device (12:Int)) ⟨[],0⟩=m at k5⊢;exact jw [hr 20 (Dl hx),AA 21 (bT.ixZ hz),AA 22 (bT.ptZ E2 hz),hmp 6 (Air (σ:=(ob 5 78 (bv x))::σ5 al m) m rfl x.Device 12),hbb 26 (Xl (q:=k) aa)] (oS al (C5 m x.Device 12)) k5 [] ρ5 []
 split at hs
 .rename_i he;subst he;clear r k5 hs;rw[EZ];refine yl (Bs':=[]) [1,1,0,1] (J:=(s0 115 fI [(1,.ref 3 0),(2,.mref 4)] (σ5 al (TF I.cards)) 5 3)) [hr 20 (Ef (s:=I.cards))] (oS al (TF I.cards)) ?_;refine pN (λk:Nat=>(s0 115 fI [(1,.ref 3 0),(2,.mref 4),(35,aE cZ s),(36,iG (ah s)),(37,iG (k:Int))] (σ5 al (UU (TF I.cards) s k)) 5 3)) 11110122 (Fw (n:=s.length) aa) [hf 35 hS] (oS al (TF I.cards)) (λt k A hs k5 r=>?_) [] ρ5 [];unfold LC at hs;split at hs
  .rename_i hlt;obtain rfl:=Bj hs;obtain⟨x,hx⟩:∃x,s[k]?=some x:=⟨_,DS hlt⟩;have hz:=Be hx;have k5:=k5 _ rfl;have e:UU (TF I.cards) s (k+1)=C5 (UU (TF I.cards) s k) x (k:Int):=by show(match s[k]? with|some d=>_|none=>_)=_;rw[hx]
   rw[e] at k5;generalize UU (TF I.cards) s k=m at k5⊢;exact jw [hr 38 (Dl hx),AA 40 (rZ.ixZ hz),AA 41 (rZ.p1Z tZ hz),hmp 5 (Air (σ:=σ5 al m) m rfl x (k:Int)),hbb 45 (Xl (q:=k) aa)] (oS al (C5 m x (k:Int))) k5 [] ρ5 []
  split at hs
  .rename_i he;subst he;clear r k5 hs;rw[show UU (TF I.cards) s s.length=O5 I.cards s from rfl];generalize O5 I.cards s=sen at hv0⊢;refine yl (Bs':=[]) [1,1,1,0,1] (J:=(s0 115 fI [(1,.ref 3 0),(2,.mref 4)] (σ5 al sen) 5 3)) [hr 38 (Ef (s:=s))] (oS al sen) ?_;refine pN (stM al sen) [1,1,1,1,1,2,2] hv0 [ho 50 [aE aj al.row] [] (jY fI hcl) (Zy _),hdl 52 6 (al:=al) (fi:=240) (del:=λx=> !JM (I.o x).Kind) aH (λx=>AhG h.g x) (l:=al.row) hn rfl] (oMn al sen (al.row.filter (λx=> !!JM (I.o x).Kind),al.void) _ rfl) (λC z D hs k5 r=>?_) [] ρ6 kd5;obtain⟨l,vd⟩:=z;unfold Af6 at hs;dsimp only at hs;cases b0:decide (l.length<=1000) with
   |false=>rw[b0] at hs;cases hs
   |true=>
   rw[b0,ax] at hs;have hln:=DR b0;have h':AfW fI (wV al vd) I:=⟨h.g,h.c,h.o,h.n⟩;have hkl:=λx y=>ZH h.g x y;generalize e1:(l.filter λx=> !Bf (vd.get x))=l1 at hs;have hl1:l1.length<=1000:=by rw[<-e1];exact MG (Np _ _) hln
   rcases bC hs with⟨b1,hs⟩|⟨b1,hs⟩
   .obtain rfl:=Bj hs;obtain rfl:=r _ rfl;exact ZT [hdl 55 6 (gl:=fI) (al:=wV al vd) (fi:=242) (del:=λx=>Bf (vd.get x)) aH (λx=>Aat x) (l:=l) hln e1,hr 58 b1] (mLs (wV al vd)) [(0,0),(1,1),(2,2)] []
   .obtain⟨i,ei,hs⟩:=bS hs;obtain⟨x,ex,hs⟩:=bS hs;obtain⟨k,rfl⟩:∃k:Nat,i=(k:Int):=by
     unfold aS at ex;split at ex
     .exact⟨i.toNat,aa⟩
     .cases ex
    have hkx:l1[k]?=some x:=by rw[<-au];exact ex
    have f:=(cr hkx).1;rw[FF] at hs;have hle:l1.length-1=(l1.eraseIdx k).length:=by rw[List.length_eraseIdx,Bu f]
    have hF:=Af0 h'.g h'.n hl1 ei;have hg:=Adq h';have hgn:(JU I (wV al vd)).length<=1000:=MG Xg.2 (by simpa using hn);cases c2:(JU I (wV al vd)).any (λz=>decide (x=z)) with
    |false=>rw[c2,A9] at hs;obtain rfl:=Bj hs;have j:=Aax (gl:=fI) (l:=JU I (wV al vd)) (x:=x) (i:=7) (c:=8) hgn;rw[c2] at j;exact jw [hdl 55 6 (gl:=fI) (al:=wV al vd) (fi:=242) (del:=λx=>Bf (vd.get x)) aH (λx=>Aat x) (l:=l) hln e1,hr 58 b1,hz 62 [0,1,2,3,4,5] (AbC (c:=6) hF),AA 65 (ac.ixrZ 5 ex),AA 66 (ac.pt0Z aW ex),hbb 70 (Xl (q:=k) aa),tN 71 [5] 7 [(5,Bz l1)] [.rsl 5 0 l1.length,iG (k:Int),iG ((k+1:Nat):Int)] [(0,Bz (l1.eraseIdx k))] (ZJ fI hl1 f) ⟨⟨rfl,.inr ⟨rfl,ac.imm l1⟩⟩,trivial⟩ ⟨⟨rfl,.inr ⟨rfl,ac.imm _⟩⟩,trivial⟩,hz 73 [0,1,2] (Aaw (c:=7) hg),hz 75 [7] j,hmr 8 (AjM (σ:=[(1,Xj vd)]) (i:=1) vd rfl x)] (oMn al sen (l1.eraseIdx k,C5 vd x true) _ hle) (k5 _ rfl) [] ρ6 kd5
    |true=>
     rw[c2,ax] at hs;obtain rfl:=Bj hs;have k5:=k5 _ rfl;have j:=Aax (gl:=fI) (l:=JU I (wV al vd)) (x:=x) (i:=7) (c:=8) hgn;rw[c2] at j;refine pN (λq:Nat=>stV al sen (l1.eraseIdx k) x ((al.row.take q).foldl (vFu I al.row (l1.eraseIdx k) x) vd) q) [1,1,1,1,1,2,2,2,1,1,1,1,1,1,1,2,2] (Fw (n:=al.row.length) aa) [hdl 55 6 (gl:=fI) (al:=wV al vd) (fi:=242) (del:=λx=>Bf (vd.get x)) aH (λx=>Aat x) (l:=l) hln e1,hr 58 b1,hz 62 [0,1,2,3,4,5] (AbC (c:=6) hF),AA 65 (ac.ixrZ 5 ex),AA 66 (ac.pt0Z aW ex),hbb 70 (Xl (q:=k) aa),tN 71 [5] 7 [(5,Bz l1)] [.rsl 5 0 l1.length,iG (k:Int),iG ((k+1:Nat):Int)] [(0,Bz (l1.eraseIdx k))] (ZJ fI hl1 f) ⟨⟨rfl,.inr ⟨rfl,ac.imm l1⟩⟩,trivial⟩ ⟨⟨rfl,.inr ⟨rfl,ac.imm _⟩⟩,trivial⟩,hz 73 [0,1,2] (Aaw (c:=7) hg),hz 75 [7] j] (oMn al sen (l1.eraseIdx k,vd) _ hle) (λE q F hs b H=>?_) [] ρ7 kd5;have hl2:(l1.eraseIdx k).length<=1000:=aa;generalize l1.eraseIdx k=l2 at k5 b hl2⊢;unfold LC at hs;split at hs
     .rename_i hlt;obtain rfl:=Bj hs;obtain⟨y,hy⟩:∃y,al.row[q]?=some y:=⟨_,DS hlt⟩;have a:=Be hy;have b:=b _ rfl;rw[JI,hy,Option.toList_some,O0,List.foldl_cons,List.foldl_nil] at b;generalize (al.row.take q).foldl (vFu I al.row l2 x) vd=u at b⊢;have hk:=hkl x y;unfold vFu at b;cases kk:Jk I x y with
      |true=>rw[kk] at hk b;exact jw [hr 88 (Dl hy),AA 89 (ac.ixZ a),AA 90 (ac.ptZ aW a),hf 97 hk,hmr 8 (AjM (σ:=[(1,Xj u)]) (i:=1) u rfl y),hbb 114 (Xl (q:=q) aa)] (oMn al sen (l2,C5 u y true) _ rfl) b [] ρ7 kd5
      |false=>
       rw[kk,A9] at b;rw[kk] at hk;have p:=Aax (gl:=fI) (l:=l2) (x:=y) (i:=5) (c:=8) hl2;cases cc:l2.any (λz=>decide (y=z)) with
       |false=>rw[cc] at p b;exact jw [hr 88 (Dl hy),AA 89 (ac.ixZ a),AA 90 (ac.ptZ aW a),hf 97 hk,hz 101 [5] p,hbb 114 (Xl (q:=q) aa)] (oMn al sen (l2,u) _ rfl) b [] ρ7 kd5
       |true=>
        have hw:=Af9 (al:=wV al u) (c:=8) h.g h.n x y;rw[show(wV al u).row=al.row from rfl] at hw;rw[cc,Bool.true_and] at b;rw[cc] at p;cases ww:D4 I al.row x y with
        |false=>rw[ww] at hw b;exact jw [hr 88 (Dl hy),AA 89 (ac.ixZ a),AA 90 (ac.ptZ aW a),hf 97 hk,hz 101 [5] p,hz 106 [0,1,2] hw,hbb 114 (Xl (q:=q) aa)] (oMn al sen (l2,u) _ rfl) b [] ρ7 kd5
        |true=>rw[ww] at hw b;exact jw [hr 88 (Dl hy),AA 89 (ac.ixZ a),AA 90 (ac.ptZ aW a),hf 97 hk,hz 101 [5] p,hz 106 [0,1,2] hw,hmr 8 (AjM (σ:=[(1,Xj u)]) (i:=1) u rfl y),hbb 114 (Xl (q:=q) aa)] (oMn al sen (l2,C5 u y true) _ rfl) b [] ρ7 kd5
     .split at hs
      .rename_i he;subst he;unfold vAl at k5;rw[EZ];generalize al.row.foldl (vFu I al.row l2 x) vd=u at k5⊢;exact jw [hr 88 (Ef (s:=al.row))] (oMn al sen (l2,u) _ rfl) k5 [] ρ6 kd5
      .cases hs
  .cases hs
 .cases hs
theorem AjP{K V:Type}:RW (⟨[],0⟩:FM K V):=by grind [RW,FxOk]
def ofV(vs:Ba):FM Ab Bool:=vs.foldl (λm x=>C5 m x true) ⟨[],0⟩
theorem AjQ{vs:Ba}:RW (ofV vs):=by
 have key:∀(l:Ba) (m:FM Ab Bool),RW m->RW (l.foldl (λm x=>C5 m x true) m):=by intro l;induction l<;>grind [OI]
 exact key vs _ AjP
def XT(gg:Aj)(row vs:Ba):A3:=⟨gg,row,ofV vs,ofV vs⟩
abbrev hsI(d i c:Nat){m:FM Ab Bool}(k:Ab):HP:=hme d [i] c (Ajr (P:=prog) (σ:=[(i,Xj m)]) (t:=tMI) (t':=tMI) (et:=4) (v0:=false) jt Ais aH aH (k:=k) (gk:= .agg (aj k)) rfl R3)
abbrev AlG(d i c:Nat){m:FM Ab Bool}(k:Ab)(h:FxOk m):HP:=hms d [i] c (Ajs (σ:=[(i,some (Nl tMI ga bG (C5 m k ((m.get k).getD false))))]) (i:=i) (t':=tMI) (kv:=ga) (vg:=bG) (m:=m) (k:=k) (v0:=(m.get k).getD false) h R3 true)
theorem AlH{vs:Ba}(hO:ba prog gl 47 [.ptr (Ag gg) 0,aE aj ids] (aE aj row))(hV:ba prog gl 238 [.ptr (Ag gg) 0,aE aj ids] (aE aj vs))(hn:vs.length<=1000):UM prog gl 152 [.ptr (Ag gg) 0,aE aj ids] [] 0 0 (.ref 0 0) (σ3 (XT gg row vs)):=by
 refine dFP func152 ?_;refine pN (λk:Nat=>(s0 40 gl [(5,.ref 0 0),(18,aE aj vs),(19,iG (ah vs)),(20,iG (k:Int))] (σ3 (XT gg row (vs.take k))) 3 0)) 1110122 (Fw (n:=vs.length) aa) [hf 11 hO,hf 18 hV] (mLs (XT gg row (vs.take 0))) (λB k w hs k5 a=>?_) [] [(0,2),(1,0),(2,1)] [];unfold LC at hs;split at hs
 .rename_i hlt;obtain rfl:=Bj hs;obtain⟨x,hx⟩:∃x,vs[k]?=some x:=⟨_,DS hlt⟩;have hz:=Be hx;have k5:=k5 _ rfl;have e:XT gg row (vs.take (k+1))=⟨gg,row,C5 (ofV (vs.take k)) x true,C5 (ofV (vs.take k)) x true⟩:=by unfold XT ofV;rw[JI,hx,Option.toList_some,O0];rfl
  have hm:=AjQ (vs:=vs.take k);rw[e] at k5;unfold XT;generalize ofV (vs.take k)=m at k5 hm⊢;exact jw [hr 21 (Dl hx),AA 22 (ac.ixZ hz),AA 23 (ac.ptZ aW hz),hsI 34 1 4 (m:=m) x,AlG 35 1 4 x hm.1,hsI 36 2 4 (m:=m) x,AlG 37 2 4 x hm.1,hbb 38 (Xl (q:=k) aa)] (mLs ⟨gg,row,C5 m x true,C5 m x true⟩) k5 [] [(0,0),(1,1),(2,2)] []
 .split at hs
  .rename_i he;subst he;rw[EZ];exact ZT [hr 21 (Ef (s:=vs))] (mLs (XT gg row vs)) [(0,0),(1,1),(2,2)] []
  .cases hs
def Aga(I:Gi)(al:A3)(s:Bb):Option Ba:=(Af7 I al (O5 I.cards s)).map λv=>JU I (wV al v)
theorem AlI{κ:Nat->Fu}{al:A3}(h0:κ 0=some 0)(h1:κ 1=some 1)(h2:κ 2=some 2):Aa5 κ (σ3 al) (σ3 al):=λk o h=>by
 match k with
 |0=>obtain⟨a,e⟩:=Aau (v:=1) (f:=2) h1 h2 o h;exact⟨0,a,h0,e⟩
 |1=>obtain⟨a,e⟩:=PN o h;exact⟨1,a,h1,e⟩
 |2=>obtain⟨a,e⟩:=PN o h;exact⟨2,a,h2,e⟩
 |j+3=>cases h
theorem in3{al:A3}:InP (vi [0,1,2]) [0,1,2] (σ3 al) (σ3 al):=λk o h=>by
 match k with
 |0=>obtain⟨a,e⟩:=Aau (κ:=vi [0,1,2]) (v:=1) (f:=2) rfl rfl o h;exact⟨0,a,rfl,e⟩
 |1=>obtain⟨a,e⟩:=PN (κ:=vi [0,1,2]) o h;exact⟨1,a,rfl,e⟩
 |2=>obtain⟨a,e⟩:=PN (κ:=vi [0,1,2]) o h;exact⟨2,a,rfl,e⟩
 |j+3=>cases h
theorem Ad7{I:Gi}{ids row vs:Ba}{s:Bb}{r:Ba}(h:AfW fI (XT gg row vs) I)(hO:ba prog fI 47 [.ptr (Ag gg) 0,aE aj ids] (aE aj row))(hV:ba prog fI 238 [.ptr (Ag gg) 0,aE aj ids] (aE aj vs))(hn:vs.length<=1000)
  (hS:ba prog fI 74 [.ptr (Ag gg) 0,aE aj row] (aE cZ s)) (hsn:s.length<=1000) (hr:Aga I (XT gg row vs) s=some r):ba prog fI 82 [.ptr (Ag gg) 0,aE aj ids] (aE aj r):=by
 unfold Aga at hr
 cases hd:Af7 I (XT gg row vs) (O5 I.cards s) with
 |none=>rw[hd] at hr;cases hr
 |some v=>
  rw[hd] at hr
  obtain rfl:=Bj hr
  have h':AfW fI (wV (XT gg row vs) v) I:=⟨h.g,h.c,h.o,h.n⟩
  have hg:=Adq h'
  have hof:=AlH hO hV hn
  have a:=Ad6 h hS hsn hd
  generalize XT gg row vs=al at*
  refine Gh func82 ?_
  exact Ar [hfm 8 [] 0 3 0 [] [.ptr (Ag gg) 0,aE aj ids] (σ3 al) hof AfV (AlI rfl rfl rfl),hfm 10 [0,1,2] 3 0 3 (σ3 al) [.ref 0 0] (σ3 (wV al v)) a in3 (AlI rfl rfl rfl),hz 12 [0,1,2] (Aaw (al:=wV al v) (c:=3) hg)] [hc (ac.al (JU I (wV al v)))]
def AbD(o:Bp):JP:=bif o.Kind=1 then some o.By else bif o.Kind=2 then some o.Device else bif o.Kind=13 then some o.Device else none
def TG(I:Gi)(acc:Bb)(x:Ab):Bb:=match AbD (I.o x) with
 |none=>acc
 |some d=>bif acc.any (λy=>decide (d=y))then acc else acc++[d]
def ON(I:Gi)(row:Ba):Bb:=row.foldl (TG I) []
theorem Agb{I:Gi}{acc:Bb}:(TG I acc x).length<=acc.length+1:=by grind [TG]
theorem XJ{I:Gi}:∀{l:Ba} {acc:Bb},(l.foldl (TG I) acc).length<=acc.length+l.length
 |[],acc=>Dx _
 |x::r,acc=>by have h1:=XJ (I:=I) (l:=r) (acc:=TG I acc x);grind [Agb]
section
variable {gl:CM} {gg:Aj}
abbrev AjR(gg:Aj)(ids:Ba):G:= .clo (.func 237) [] [.ptr [.ptr (Ag gg) 0] 0,.ptr [aE aj ids] 0]
theorem AhN(ids:Ba):ba prog gl 148 [.ptr (Ag gg) 0,aE aj ids] (AjR gg ids):=by refine Gh func148 ?_;refine pO [1,0] (s0 6 gl [(2,.ptr [.ptr (Ag gg) 0] 0),(3,.ptr [aE aj ids] 0)] [] 0 0) [] [hc (eB (gs:=[.ptr (Ag gg) 0]) aH),hc (aY (aG 20 (aE aj ids) aH) bf)] ?_;exact Ar [] []
noncomputable abbrev cSe:Code:=bq 111012 (ai Tryz.f74)
noncomputable abbrev U0(st:LoopState):Option Ob:=some ⟨0,[],some (.loop st none 22 [(5,.ref 0 0)] (Dy cSe) (Dz cSe) (DA cSe))⟩
abbrev AlJ(gg:Aj)(row:Ba)(k:Nat):Fr:=[(0,.yld 1),(1,.ptr [.ptr (Ag gg) 0] 0),(11,aE aj row),(12,iG (ah row)),(13,iG (k:Int))]
noncomputable abbrev σCa(acc:Bb):aQ:=[(0,bxI (.rsl 2 0 acc.length)),(1,U0 .ready),(2,KS acc)]
noncomputable abbrev AjS(gl:CM)(gg:Aj)(row:Ba)(k:Nat)(acc:Bb):St:=(s0 40 gl (AlJ gg row k) (σCa acc) 3 2)
noncomputable abbrev YD(gl:CM)(gg:Aj)(row:Ba)(k:Nat)(acc:Bb)(x:Ab)(d:Int):St:=(s0 40 gl ((5,.ref 3 0)::(8,iG d)::AlJ gg row k) (σCa acc++[(3,XS x)]) 4 2)
abbrev ρC3:DH:=[(0,0),(1,1),(2,2)]
abbrev ρC4:DH:=[(0,0),(1,1),(2,2),(3,3)]
theorem Agc{l:Bb}{d:Int}{i c:Nat}(hn:l.length<=1000000):oJ prog gl 77 [.rsl i 0 l.length,iG d] [(i,KS l)] c (bG (l.any λy=>decide (d=y))) [] c:=
 PG aH (Dq gl (Td aa d)) (lR _) rfl λst h j y z h1 h2=>by
  match j with
  |0=>cases h1;cases h2;have ho:ag st.σ i=KS l:=h i _ (by rw[Bc,Bu rfl]);exact FD (s:=1) ho aH (by grind [AH.len,rZ]) (rZ.len l) (by grind [jB,AH.imm,rZ])
  |1=>grind [jB,mN]
  |j+2=>cases h1
theorem XK(h:RX gl gg I){ids row:Ba}(hO:ba prog gl 47 [.ptr (Ag gg) 0,aE aj ids] (aE aj row))(hn:row.length<=1000):ba prog gl 74 [.ptr (Ag gg) 0,aE aj ids] (aE cZ (ON I row)):=by
 refine Gh func74 ?_;refine YR [1,1,0,1,2] (s0 22 gl [(5,.ref 0 0),(10,AjR gg ids)] [(0,bxI (.lit (.slice none 0 0)))] 1 0) [hf 10 (AhN (gl:=gl) (gg:=gg) ids)] ?_;refine Xt (fst:=[]) (cap:=[.ptr [.ptr (Ag gg) 0] 0,.ptr [aE aj ids] 0]) Tryz.f237 func237 ?_;refine pN (λk:Nat=>AjS gl gg row k ((row.take k).foldl (TG I) [])) [1,2,2] (Fw (n:=row.length) aa) [hf 11 hO] [hc (rZ.imm [])] (λB k w hs k5 g=>?_) (vs:=[3]) (ρ:=ρC3) (kd:=[(2,.row)]);unfold LC at hs;split at hs
 .rename_i hlt;obtain rfl:=Bj hs;obtain⟨x,hx⟩:∃x,row[k]?=some x:=⟨_,DS hlt⟩;have e:=Be hx;have k5:=k5 _ rfl;have hal:=XJ (I:=I) (l:=row.take k) (acc:=[]);rw[MH,List.length_nil] at hal;rw[JI,hx,Option.toList_some,O0,List.foldl_cons,List.foldl_nil] at k5;generalize (row.take k).foldl (TG I) []=acc at k5 hal⊢;have ho:=h.op x;have hb2:k<1000000:=aa;have fin:∀d,B (AjS gl gg row (k+1) (bif acc.any (λy=>decide (d=y))then acc else acc++[d]))->Gp prog Tryz.f237 (sI prog (s0 22 gl [(5,.ref 0 0),(10,AjR gg ids)] [(0,bxI (.lit (.slice none 0 0)))] 1 0) (dz prog (bE [1,1,0,1,2] (ai Tryz.f74) [] []) (tH prog Tryz.f74 (aE cZ (ON I row))))) [B] false [1,2,2,1,1,0,2,1,1,1,1,0] (YD gl gg row k acc x d):=λd hB=>by
   have f:=Agc (gl:=gl) (l:=acc) (d:=d) (i:=2) (c:=4) aa;cases cc:acc.any (λy=>decide (d=y)) with
   |true=>
    rw[cc] at hB f;refine Xw (i:=1) (j:=3) (n:=22) (t:=0) (t2:=0) (pe:=none) (fr:=[(5,.ref 0 0)]) (ps:=Dy cSe) (a:=Dz cSe) (b:=DA cSe) (s1:=(s0 40 gl ([(36,iG d),(35,.agg (aj x)),(34,.yld 1)]++(YD gl gg row k acc x d).fr) ((YD gl gg row k acc x d).σ) 4 2))
     (s3:=(s0 40 gl ([(38,bG false),(37,bG true),(36,iG d),(35,.agg (aj x)),(34,.yld 1)]++(YD gl gg row k acc x d).fr) ((1,U0 .ready)::[(0,bxI (.rsl 2 0 acc.length)),(1,U0 .busy),(2,KS acc)]) 4 2))
     [(0,bxI (.rsl 2 0 acc.length)),(1,U0 .busy),(2,KS acc)] 4 (.loop .ready none 22 [(5,.ref 0 0)] (Dy cSe) (Dz cSe) (DA cSe)) [] [] ?_ ?_
    .refine C9 .normal ⟨22,gl,[(5,.ref 0 0),(7,iG d)],[(0,bxI (.rsl 2 0 acc.length)),(1,U0 .ready),(2,KS acc)],4,4,true⟩ [] [hc (rfl:acc.length=acc.length),hc (rZ.imm acc)] (Xv Tryz.f74 ?_ rfl) (ρ:=ρC4) (kd:=[(2,.row)]);exact C9 .normal ⟨22,gl,[],[(0,bxI (.rsl 2 0 acc.length)),(1,U0 .busy),(2,KS acc)],4,4,true⟩ [hz 15 [2] f] [hc (rfl:acc.length=acc.length),hc (rZ.imm acc)] (by grind [jy]) (ρ:=ρC4) (kd:=[(2,.row)])
    .exact jw [hbb 39 (Xl (q:=k) aa)] [hc (rfl:acc.length=acc.length),hc (rZ.imm acc)] hB [] ρC3 [(2,.row)]
   |false=>
    rw[cc] at hB f;refine Xw (i:=1) (j:=3) (n:=22) (t:=0) (t2:=0) (pe:=none) (fr:=[(5,.ref 0 0)]) (ps:=Dy cSe) (a:=Dz cSe) (b:=DA cSe) (s1:=(s0 40 gl ([(36,iG d),(35,.agg (aj x)),(34,.yld 1)]++(YD gl gg row k acc x d).fr) ((YD gl gg row k acc x d).σ) 4 2))
     (s3:=(s0 40 gl ([(38,bG false),(37,bG true),(36,iG d),(35,.agg (aj x)),(34,.yld 1)]++(YD gl gg row k acc x d).fr) ((1,U0 .ready)::[(0,bxI (.rsl 4 0 (acc++[d]).length)),(1,U0 .busy),(4,KS (acc++[d]))]) 5 2))
     [(0,bxI (.rsl 4 0 (acc++[d]).length)),(1,U0 .busy),(4,KS (acc++[d]))] 5 (.loop .ready none 22 [(5,.ref 0 0)] (Dy cSe) (Dz cSe) (DA cSe)) [] [] ?_ ?_
    .refine C9 .normal ⟨22,gl,[(5,.ref 0 0),(7,iG d)],[(0,bxI (.rsl 2 0 acc.length)),(1,U0 .ready),(2,KS acc)],4,4,true⟩ [] [hc (rfl:acc.length=acc.length),hc (rZ.imm acc)] (Xv Tryz.f74 ?_ rfl) (ρ:=ρC4) (kd:=[(2,.row)]);exact C9 .normal ⟨22,gl,[],[(0,bxI (.rsl 4 0 (acc++[d]).length)),(1,U0 .busy),(4,KS (acc++[d]))],5,4,true⟩ [hz 15 [2] f,Tn 20 rZ 8 acc d aa] [hc (el (acc++[d])),hc (rZ.imm (acc++[d]))] (by grind [jy]) (ρ:=rI 4++[(4,5)]) (kd:=[(4,.row)])
    .exact jw [hbb 39 (Xl (q:=k) aa)] [hc (el (acc++[d])),hc (rZ.imm (acc++[d]))] hB [] [(0,0),(1,1),(2,4)] [(2,.row)]
  unfold TG at k5;generalize I.o x=o at ho k5;unfold AbD at k5;cases b1:decide (o.Kind=1) with
  |true=>rw[b1] at k5;exact pO 1122110211110 (YD gl gg row k acc x o.By) [hr 14 (Dl hx),AA 15 (ac.ixZ e),AA 16 (ac.ptZ aW e),hf 20 ho,hr 26 b1] [hc (rfl:acc.length=acc.length),hc (rZ.imm acc)] (fin _ k5) [] ρC4 [(2,.row)]
  |false=>
   rw[b1,A9] at k5;cases b2:decide (o.Kind=2) with
   |true=>rw[b2] at k5;exact pO 1122110211110 (YD gl gg row k acc x o.Device) [hr 14 (Dl hx),AA 15 (ac.ixZ e),AA 16 (ac.ptZ aW e),hf 20 ho,hr 26 b1,hr 30 b2] [hc (rfl:acc.length=acc.length),hc (rZ.imm acc)] (fin _ k5) [] ρC4 [(2,.row)]
   |false=>
    rw[b2,A9] at k5;cases b3:decide (o.Kind=13) with
    |true=>rw[b3] at k5;exact pO 1122110211110 (YD gl gg row k acc x o.Device) [hr 14 (Dl hx),AA 15 (ac.ixZ e),AA 16 (ac.ptZ aW e),hf 20 ho,hr 26 b1,hr 30 b2,hr 31 b3] [hc (rfl:acc.length=acc.length),hc (rZ.imm acc)] (fin _ k5) [] ρC4 [(2,.row)]
    |false=>rw[b3] at k5;exact jw [hr 14 (Dl hx),AA 15 (ac.ixZ e),AA 16 (ac.ptZ aW e),hf 20 ho,hr 26 b1,hr 30 b2,hr 31 b3,hbb 39 (Xl (q:=k) aa)] [hc (rfl:acc.length=acc.length),hc (rZ.imm acc)] k5 [] ρC3 [(2,.row)]
 .split at hs
  .rename_i he;subst he;rw[EZ];show Gp _ _ _ _ _ _ (AjS gl gg row row.length (ON I row));generalize ON I row=acc;refine C9 .normal (s0 40 gl [] [(0,bxI (.rsl 2 0 acc.length)),(1,U0 .ready),(2,KS acc)] 3 2) [hr 14 (Ef (s:=row))] [hc (rfl:acc.length=acc.length),hc (rZ.imm acc)] (Xu ?_ rfl) (ρ:=ρC3) (kd:=[(2,.row)]);exact Ar [] [hc (rZ.al acc)]
  .cases hs
end
abbrev CmV(gl:CM)(fi:FuncId)(fa fc:Bk)(cmp:Ab->Ab->Int):Prop:=Ue prog gl fi fa fc (λp:Ab×Ab=>[.agg (aj p.1),.agg (aj p.2)]) (λz:Int=>iG z) (λp=>some (cmp p.1 p.2))
abbrev Sr(fi:FuncId)(fa fc:Bk):G:= .clo (.func fi) fa fc
theorem imP(p:Ab×Ab):∀g∈([.agg (aj p.1),.agg (aj p.2)]:Bk),bB g:=aY (aG 20 (.agg (aj p.1)) aH) (aY (aG 20 (.agg (aj p.2)) aH) bf)
abbrev hcp(d c:Nat){gl:CM}{fi:FuncId}{fa fc:Bk}{cmp:Ab->Ab->Int}(hv:CmV gl fi fa fc cmp)(x y:Ab):HP:=hz d [] (hv.cs (c:=c) (x:=(x,y)) rfl (imP (x,y)))
def Aay{α:Type}(cmp:α->α->Int)(a:Int)(s:List α×Int):Option ((List α×Int)⊕List α):=
 bif a<s.2 then(aS s.1 s.2).bind λx=>(aS s.1 (wI (s.2-1))).bind λy=>bif cmp x y<0 then(ji s.1 s.2 y).bind λb=>(ji b (wI (s.2-1)) x).bind λc=>some (.inl (c,wI (s.2-1)))else some (.inr s.1)else some (.inr s.1)
def Aaz{α:Type}(cmp:α->α->Int)(a b:Int)(s:List α×Int):Option ((List α×Int)⊕List α):=
 bif s.2<b then(AB (Aay cmp a) (s.1,s.2)).bind λl=>some (.inl (l,wI (s.2+1)))else some (.inr s.1)
def inI{α:Type}(cmp:α->α->Int)(a b:Int)(l:List α):Option (List α):=AB (Aaz cmp a b) (l,wI (a+1))
theorem Aiw{c d:Ba}{i j:Int}{a b:Ab}(h1:ji l i b=some c)(h2:ji c j a=some d):fh prog 29 (.rsl 0 0 l.length) j=some (.ref 0 (0+j.toNat*3)):=by rw[hZ h1];exact ac.ixsZ 0 h2
section
variable {gl:CM} {fi:FuncId} {fa fc:Bk} {cmp:Ab->Ab->Int} (hv:CmV gl fi fa fc cmp)
include hv
theorem Adu{a b:Int}(h:inI cmp a b l=some r):jg prog gl 267 [.rsl 0 0 l.length,iG a,iG b,Sr fi fa fc] [(0,Bz l)] 1 (.tup []) [(0,Bz r)] 1:=by
 unfold inI at h;refine pP func267 ?_;refine pN (λs:Ba×Int=>(s0 53 gl [(0,.rsl 0 0 s.1.length),(1,iG a),(2,iG b),(3,Sr fi fa fc),(8,iG s.2)] [(0,Bz s.1)] 1 1)) 1122 h [] [hc (el l),hc hv.im,hc (ac.imm l)] (λB s w hs k5 f=>?_) [] [(0,0)] [(0,.row)];obtain⟨l1,i⟩:=s;unfold Aaz at hs;dsimp only at hs;rcases bC hs with⟨b1,hs⟩|⟨b1,hs⟩
 .obtain⟨l2,e2,hs⟩:=bS hs;obtain rfl:=Bj hs;refine Ix 11221021 (s0 53 gl [(0,.rsl 0 0 l2.length),(1,iG a),(2,iG b),(3,Sr fi fa fc),(8,iG i)] [(0,Bz l2)] 1 1) ?_ λkk=>?_
  .exact jw [] [hc (el l2),hc hv.im,hc (ac.imm l2)] (k5 _ rfl) [] [(0,0)] [(0,.row)]
  refine pN (λs:Ba×Int=>(s0 53 gl [(0,.rsl 0 0 s.1.length),(1,iG a),(2,iG b),(3,Sr fi fa fc),(8,iG i),(9,iG s.2)] [(0,Bz s.1)] 1 1)) 1122102122 e2 [hr 14 b1] [hc (el l1),hc hv.im,hc (ac.imm l1)] (λm z v hz g d=>?_) [] [(0,0)] [(0,.row)];obtain⟨l3,j⟩:=z;unfold Aay at hz;dsimp only at hz;rcases bC hz with⟨b2,hz⟩|⟨b2,hz⟩
  .obtain⟨x,ex,hz⟩:=bS hz;obtain⟨y,c,hz⟩:=bS hz;rcases bC hz with⟨b3,hz⟩|⟨b3,hz⟩
   .obtain⟨k,e1,hz⟩:=bS hz;obtain⟨e,e3,hz⟩:=bS hz;obtain rfl:=Bj hz;exact jw [hr 20 b2,AA 25 (ac.ixrZ 0 ex),AA 26 (ac.pt0Z aW ex),AA 30 (ac.ixrZ 0 c),AA 31 (ac.pt0Z aW c),hcp 32 1 hv x y,hr 33 b3,AA 45 (ac.ixrZ 0 c),AA 46 (ac.pt0Z aW c),AA 49 (ac.ixrZ 0 ex),AA 50 (ac.pt0Z aW ex),AA 51 (ac.ixsZ 0 e1),hw 51 (k.flatMap aj) (ac.putZ e1),AA 52 (Aiw e1 e3),hw 52 (e.flatMap aj) (ac.putZ e3)] [hc ((hZ e1).trans (hZ e3)),hc hv.im,hc (ac.imm e)] (g _ rfl) [] [(0,0)] [(0,.row)]
   .obtain rfl:=Bj hz;obtain rfl:=d _ rfl;exact yl 11221021 [hr 20 b2,AA 25 (ac.ixrZ 0 ex),AA 26 (ac.pt0Z aW ex),AA 30 (ac.ixrZ 0 c),AA 31 (ac.pt0Z aW c),hcp 32 1 hv x y,hr 33 b3] [hc (el l3),hc hv.im,hc (ac.imm l3)] kk [] [(0,0)] [(0,.row)]
  .obtain rfl:=Bj hz;obtain rfl:=d _ rfl;exact yl 11221021 [hr 20 b2] [hc (el l3),hc hv.im,hc (ac.imm l3)] kk [] [(0,0)] [(0,.row)]
 .obtain rfl:=Bj hs;obtain rfl:=f _ rfl;exact mt .normal (s0 53 gl [] [(0,Bz l1)] 1 1) [] [hr 14 b1] [hc (ac.imm l1)] (ρ:=[(0,0)]) (kd:=[(0,.row)])
omit hv
def swZ{α:Type}(l:List α)(i j:Nat):Option (List α):=(l[i]?).bind λx=>(l[j]?).bind λy=>some ((l.set i y).set j x)
theorem I5{l r:List α}{i j:Nat}(h:swZ l i j=some r):∃x y,l[i]?=some x/\l[j]?=some y/\r=(l.set i y).set j x:=by grind [swZ]
theorem stZ{l:List α}{i:Nat}{y x:α}(h:l[i]?=some y):ji l (i:Int) x=some (l.set i x):=by grind [ji]
theorem AhP{l:List α}{i j:Nat}{y x z w:α}(h:l[j]?=some y):ji (l.set i z) (j:Int) x=some ((l.set i z).set j x):=by grind [ji]
theorem Ut{i:Nat}:l.length=((l.set i y).set j x).length:=by rw[List.length_set,List.length_set]
abbrev hsw(a b c d:Nat){l w:Ba}{i j:Nat}{x y:Ab}(hx:l[i]?=some x)(hy:l[j]?=some y)(e:w=(l.set i y).set j x):List HP:=[AA a (ac.ixrZ 0 (Be hy)),AA (a+1) (ac.pt0Z aW (Be hy)),AA b (ac.ixrZ 0 (Be hx)),AA (b+1) (ac.pt0Z aW (Be hx)),AA c (ac.ixsZ 0 (stZ (x:=y) hx)),hw c ((l.set i y).flatMap aj) (ac.putZ (stZ (x:=y) hx)),AA d (Aiw (stZ (x:=y) hx) (AhP (w:=x) (x:=x) (z:=y) (i:=i) hy)),hw d (w.flatMap aj) (e▸ac.putZ (AhP (w:=x) (x:=x) (z:=y) (i:=i) hy))]
theorem Hs{c:Bool}{x:Option α}{v:α}(h:(bif c then x else none)=some v):c=true/\x=some v:=by grind
theorem Agd(h:Nat.blt 0 j=true):∃k,j=k+1:=by simp_all
theorem Age{v:Nat⊕α}(h:(bif Nat.blt 0 j then some (.inl (j-1))else none)=some v):∃k,j=k+1/\v= .inl k:=by
 cases j with
 |zero=>cases h
 |succ k=>grind
def scU(cmp:Ab->Ab->Int)(l:Ba)(a j i:Nat):Option (Nat⊕Nat):=bif (i:Int)<=(j:Int)then(l[i]?).bind λx=>(l[a]?).bind λy=>bif cmp x y<0 then some (.inl (i+1))else some (.inr i)else some (.inr i)
def scD(cmp:Ab->Ab->Int)(l:Ba)(a i j:Nat):Option (Nat⊕Nat):=bif (i:Int)<=(j:Int)then(l[j]?).bind λx=>(l[a]?).bind λy=>bif cmp x y<0 then some (.inr j)else bif Nat.blt 0 j then some (.inl (j-1))else none else some (.inr j)
def paT(cmp:Ab->Ab->Int)(a:Nat)(s:Ba×Nat×Nat):Option ((Ba×Nat×Nat)⊕(Ba×Nat)):=
 bif s.1.length<=1000 then(AB (scU cmp s.1 a s.2.2) s.2.1).bind λi=>(AB (scD cmp s.1 a i) s.2.2).bind λj=>bif (j:Int)<(i:Int)then some (.inr (s.1,j))else bif Nat.blt 0 j then(swZ s.1 i j).bind λl=>some (.inl (l,i+1,j-1))else none else none
def paS(cmp:Ab->Ab->Int)(a b p:Nat)(l:Ba):Option (Nat×Bool×Ba):=
 (
  swZ l a p).bind λl0=>(AB (scU cmp l0 a (b-1)) (a+1)).bind λi=>(AB (scD cmp l0 a i) (b-1)).bind λj=>
  bif (j:Int)<(i:Int)then(swZ l0 j a).bind λr=>some (j,true,r)else bif Nat.blt 0 j then(swZ l0 i j).bind λl1=>(AB (paT cmp a) (l1,i+1,j-1)).bind λs=>(swZ s.1 s.2 a).bind λr=>some (s.2,false,r)else none
include hv
abbrev AaA(gl:CM)(fi:FuncId)(fa fc:Bk)(a b:Nat)(l:Ba)(i j:Nat):St:=(s0 178 gl [(0,.rsl 0 0 l.length),(1,iG (a:Int)),(2,iG (b:Int)),(4,Sr fi fa fc),(12,iG (i:Int)),(13,iG (j:Int))] [(0,Bz l)] 1 1)
theorem Q2{a b p:Nat}{f:Bool}(hl:l.length<=1000)(ha:a<1000)(hb1:1<=b)(hb2:b<=1000)(h:paS cmp a b p l=some (m,f,r)):jg prog gl 274 [.rsl 0 0 l.length,iG (a:Int),iG (b:Int),iG (p:Int),Sr fi fa fc] [(0,Bz l)] 1 (.tup [iG (m:Int),bG f]) [(0,Bz r)] 1:=by
 obtain⟨b,rfl⟩:∃q,b=q+1:=⟨b-1,aa⟩;unfold paS at h;rw[Nat.add_sub_cancel] at h;obtain⟨l0,e0,h⟩:=bS h;obtain⟨i,ei,h⟩:=bS h;obtain⟨j,ej,h⟩:=bS h;obtain⟨C,D,h1,h2,e0⟩:=I5 e0;have hl0:l.length=l0.length:=by rw[e0];exact Ut
 refine pP func274 ?_;refine Ix 11110 (AaA gl fi fa fc a (b+1) l0 i b) ?_ λkk=>?_;rotate_left
 .have hl2:l0.length<=1000:=aa;refine pN (λq:Nat=>AaA gl fi fa fc a (b+1) l0 q b) [1,1,1,0,2,2] ei (hsw 20 24 26 27 h1 h2 e0++[hbb 29 (Xl (q:=a) aa),hbb 31 (dec (q:=b) aa)]) [hc hl0,hc hv.im,hc (ac.imm l0)] (λt q v hz g d=>?_) [] [(0,0)] [(0,.row)];unfold scU at hz;rcases bC hz with⟨b2,hz⟩|⟨b2,hz⟩
  .obtain⟨x,ex,hz⟩:=bS hz;obtain⟨y,c,hz⟩:=bS hz;have hq:=(cr ex).1;rcases bC hz with⟨b3,hz⟩|⟨b3,hz⟩
   .obtain rfl:=Bj hz;exact jw [hr 34 b2,AA 39 (ac.ixrZ 0 (Be ex)),AA 40 (ac.pt0Z aW (Be ex)),AA 43 (ac.ixrZ 0 (Be c)),AA 44 (ac.pt0Z aW (Be c)),hcp 45 1 hv x y,hr 46 b3,hbb 49 (Xl (q:=q) aa)] [hc (rfl:l0.length=l0.length),hc hv.im,hc (ac.imm l0)] (g _ rfl) [] [(0,0)] [(0,.row)]
   .obtain rfl:=Bj hz;obtain rfl:=d _ rfl;exact yl 11110 [hr 34 b2,AA 39 (ac.ixrZ 0 (Be ex)),AA 40 (ac.pt0Z aW (Be ex)),AA 43 (ac.ixrZ 0 (Be c)),AA 44 (ac.pt0Z aW (Be c)),hcp 45 1 hv x y,hr 46 b3] [hc (rfl:l0.length=l0.length),hc hv.im,hc (ac.imm l0)] kk [] [(0,0)] [(0,.row)]
  .obtain rfl:=Bj hz;obtain rfl:=d _ rfl;exact yl 11110 [hr 34 b2] [hc (rfl:l0.length=l0.length),hc hv.im,hc (ac.imm l0)] kk [] [(0,0)] [(0,.row)]
 have hl0:l0.length<=1000:=aa;clear e0 h1 h2 hl ei;refine Ix 111110 (AaA gl fi fa fc a (b+1) l0 i j) ?_ λkk=>?_;rotate_left
 .skip;refine pN (λq:Nat=>AaA gl fi fa fc a (b+1) l0 i q) [1,1,1,1,0,2,2] ej [] [hc (rfl:l0.length=l0.length),hc hv.im,hc (ac.imm l0)] (λt q v hz g d=>?_) [] [(0,0)] [(0,.row)];unfold scD at hz;rcases bC hz with⟨b2,hz⟩|⟨b2,hz⟩
  .obtain⟨x,ex,hz⟩:=bS hz;obtain⟨y,c,hz⟩:=bS hz;have hq:=(cr ex).1;rcases bC hz with⟨b3,hz⟩|⟨b3,hz⟩
   .obtain rfl:=Bj hz;obtain rfl:=d _ rfl;exact yl 111110 [hr 52 b2,AA 57 (ac.ixrZ 0 (Be ex)),AA 58 (ac.pt0Z aW (Be ex)),AA 61 (ac.ixrZ 0 (Be c)),AA 62 (ac.pt0Z aW (Be c)),hcp 63 1 hv x y,hr 64 b3] [hc (rfl:l0.length=l0.length),hc hv.im,hc (ac.imm l0)] kk [] [(0,0)] [(0,.row)]
   .obtain⟨k,rfl,rfl⟩:=Age hz;exact jw [hr 52 b2,AA 57 (ac.ixrZ 0 (Be ex)),AA 58 (ac.pt0Z aW (Be ex)),AA 61 (ac.ixrZ 0 (Be c)),AA 62 (ac.pt0Z aW (Be c)),hcp 63 1 hv x y,hr 64 b3,hbb 68 (dec (q:=k) aa)] [hc (rfl:l0.length=l0.length),hc hv.im,hc (ac.imm l0)] (g _ rfl) [] [(0,0)] [(0,.row)]
  .obtain rfl:=Bj hz;obtain rfl:=d _ rfl;exact yl 111110 [hr 52 b2] [hc (rfl:l0.length=l0.length),hc hv.im,hc (ac.imm l0)] kk [] [(0,0)] [(0,.row)]
 clear ej;rcases bC h with⟨b1,h⟩|⟨b1,h⟩
 .obtain⟨r',u,h⟩:=bS h;simp only[Fm,Gq] at h;obtain⟨rfl,rfl,rfl⟩:=h;obtain⟨x,y,hx,hy,e⟩:=I5 u;exact mt .ret (s0 178 gl [(10,iG (j:Int)),(11,bG true)] [(0,Bz r')] 1 1) [iG (j:Int),bG true] (hr 71 b1::hsw 78 82 84 85 hx hy e) [hc (ac.imm r')] (ρ:=[(0,0)]) (kd:=[(0,.row)])
 obtain⟨hj,h⟩:=Hs h;obtain⟨j,rfl⟩:=Agd hj;rw[Nat.add_sub_cancel] at h;obtain⟨l1,e1,h⟩:=bS h;obtain⟨s,es,h⟩:=bS h;obtain⟨r',u,h⟩:=bS h;simp only[Fm,Gq] at h;obtain⟨rfl,rfl,rfl⟩:=h;obtain⟨x,y,hx,hy,e1⟩:=I5 e1;have hli:=(cr hx).1;have n:=(cr hy).1;have hl1:l0.length=l1.length:=by rw[e1];exact Ut
 refine pN (λz:Ba×Nat×Nat=>AaA gl fi fa fc a (b+1) z.1 z.2.1 z.2.2) [1,1,1,1,1,1,1,1,1,0,2,2] es (hr 71 b1::hsw 93 97 99 100 hx hy e1++[hbb 102 (Xl (q:=i) aa),hbb 104 (dec (q:=j) aa)]) [hc hl1,hc hv.im,hc (ac.imm l1)] (λB z w hs k5 A=>?_) [] [(0,0)] [(0,.row)];clear hx hy e1 hli n hl1 b1 hl0;obtain⟨l1,i,j⟩:=z;unfold paT at hs;dsimp only at hs;cases b0:decide (l1.length<=1000) with
 |false=>rw[b0] at hs;cases hs
 |true=>
 rw[b0,ax] at hs;have hl1:=DR b0;obtain⟨i1,ei,hs⟩:=bS hs;obtain⟨o,ej,hs⟩:=bS hs;refine Ix 111111111102220 (AaA gl fi fa fc a (b+1) l1 i1 j) ?_ λkk=>?_;rotate_left
 .skip;refine pN (λq:Nat=>AaA gl fi fa fc a (b+1) l1 q j) [1,1,1,1,1,1,1,1,1,0,2,2,2,0,2,2] ei [] [hc (rfl:l1.length=l1.length),hc hv.im,hc (ac.imm l1)] (λt q v hz g d=>?_) [] [(0,0)] [(0,.row)];unfold scU at hz;rcases bC hz with⟨b2,hz⟩|⟨b2,hz⟩
  .obtain⟨x,ex,hz⟩:=bS hz;obtain⟨y,c,hz⟩:=bS hz;have hq:=(cr ex).1;rcases bC hz with⟨b3,hz⟩|⟨b3,hz⟩
   .obtain rfl:=Bj hz;exact jw [hr 107 b2,AA 112 (ac.ixrZ 0 (Be ex)),AA 113 (ac.pt0Z aW (Be ex)),AA 116 (ac.ixrZ 0 (Be c)),AA 117 (ac.pt0Z aW (Be c)),hcp 118 1 hv x y,hr 119 b3,hbb 122 (Xl (q:=q) aa)] [hc (rfl:l1.length=l1.length),hc hv.im,hc (ac.imm l1)] (g _ rfl) [] [(0,0)] [(0,.row)]
   .obtain rfl:=Bj hz;obtain rfl:=d _ rfl;exact yl 111111111102220 [hr 107 b2,AA 112 (ac.ixrZ 0 (Be ex)),AA 113 (ac.pt0Z aW (Be ex)),AA 116 (ac.ixrZ 0 (Be c)),AA 117 (ac.pt0Z aW (Be c)),hcp 118 1 hv x y,hr 119 b3] [hc (rfl:l1.length=l1.length),hc hv.im,hc (ac.imm l1)] kk [] [(0,0)] [(0,.row)]
  .obtain rfl:=Bj hz;obtain rfl:=d _ rfl;exact yl 111111111102220 [hr 107 b2] [hc (rfl:l1.length=l1.length),hc hv.im,hc (ac.imm l1)] kk [] [(0,0)] [(0,.row)]
 clear ei;refine Ix 1111111111022210 (AaA gl fi fa fc a (b+1) l1 i1 o) ?_ λkk=>?_;rotate_left
 .skip;refine pN (λq:Nat=>AaA gl fi fa fc a (b+1) l1 i1 q) [1,1,1,1,1,1,1,1,1,0,2,2,2,1,0,2,2] ej [] [hc (rfl:l1.length=l1.length),hc hv.im,hc (ac.imm l1)] (λt q v hz g d=>?_) [] [(0,0)] [(0,.row)];unfold scD at hz;rcases bC hz with⟨b2,hz⟩|⟨b2,hz⟩
  .obtain⟨x,ex,hz⟩:=bS hz;obtain⟨y,c,hz⟩:=bS hz;have hq:=(cr ex).1;rcases bC hz with⟨b3,hz⟩|⟨b3,hz⟩
   .obtain rfl:=Bj hz;obtain rfl:=d _ rfl;exact yl 1111111111022210 [hr 125 b2,AA 130 (ac.ixrZ 0 (Be ex)),AA 131 (ac.pt0Z aW (Be ex)),AA 134 (ac.ixrZ 0 (Be c)),AA 135 (ac.pt0Z aW (Be c)),hcp 136 1 hv x y,hr 137 b3] [hc (rfl:l1.length=l1.length),hc hv.im,hc (ac.imm l1)] kk [] [(0,0)] [(0,.row)]
   .obtain⟨k,rfl,rfl⟩:=Age hz;exact jw [hr 125 b2,AA 130 (ac.ixrZ 0 (Be ex)),AA 131 (ac.pt0Z aW (Be ex)),AA 134 (ac.ixrZ 0 (Be c)),AA 135 (ac.pt0Z aW (Be c)),hcp 136 1 hv x y,hr 137 b3,hbb 141 (dec (q:=k) aa)] [hc (rfl:l1.length=l1.length),hc hv.im,hc (ac.imm l1)] (g _ rfl) [] [(0,0)] [(0,.row)]
  .obtain rfl:=Bj hz;obtain rfl:=d _ rfl;exact yl 1111111111022210 [hr 125 b2] [hc (rfl:l1.length=l1.length),hc hv.im,hc (ac.imm l1)] kk [] [(0,0)] [(0,.row)]
 clear ej;rcases bC hs with⟨b1,hs⟩|⟨b1,hs⟩
 .obtain rfl:=Bj hs;obtain rfl:=A _ rfl;obtain⟨x,y,hx,hy,e⟩:=I5 u;exact mt .ret (s0 178 gl [(10,iG (o:Int)),(11,bG false)] [(0,Bz r')] 1 1) [iG (o:Int),bG false] (hr 144 b1::hsw 169 173 175 176 hx hy e) [hc (ac.imm r')] (ρ:=[(0,0)]) (kd:=[(0,.row)])
 .obtain⟨hj,hs⟩:=Hs hs;obtain⟨o,rfl⟩:=Agd hj;rw[Nat.add_sub_cancel] at hs;obtain⟨l2,e2,hs⟩:=bS hs;obtain rfl:=Bj hs;obtain⟨x,y,hx,hy,e2⟩:=I5 e2;have hli:=(cr hx).1;have n:=(cr hy).1;have hl2:l1.length=l2.length:=by rw[e2];exact Ut
  exact jw (hr 144 b1::hsw 151 155 157 158 hx hy e2++[hbb 160 (Xl (q:=i1) aa),hbb 162 (dec (q:=o) aa)]) [hc hl2,hc hv.im,hc (ac.imm l2)] (k5 _ rfl) [] [(0,0)] [(0,.row)]
end
abbrev oLs(l:JX):Option Ob:=some ⟨22,l.flatMap Jc,none⟩
def AdF(s:JX×Nat×Nat):Option ((JX×Nat×Nat)⊕JX):=bif (s.2.1:Int)<(s.2.2:Int)-1 then(bif Nat.ble s.1.length 4000 then(swZ s.1 s.2.1 (s.2.2-1)).bind λw=>some (.inl (w,s.2.1+1,s.2.2-1))else none)else some (.inr s.1)
theorem AkW{q:Nat}(h:q<1000000):lD .sub (iG (q:Int)) (iG 1)=some (iG ((q:Int)-1)):=by grind [sb]
theorem Ai1{l r:JX}(hn:l.length<=4000)(h:AB AdF (l,0,l.length)=some r):jg prog gl 131 [.rsl 0 0 l.length] [(0,oLs l)] 1 (.tup []) [(0,oLs r)] 1:=by
 refine pP func131 ?_;refine pN (λs:JX×Nat×Nat=>(s0 28 gl [(0,.rsl 0 0 s.1.length),(2,iG (s.2.1:Int)),(3,iG ((s.2.2:Int)-1))] [(0,oLs s.1)] 1 1)) 1122 h [hbb 6 (AkW (q:=l.length) aa)] [hc (el l),hc (nH.imm l)] (λB s w hs k5 b=>?_) [] [(0,0)] [(0,.row)];obtain⟨l1,i,j⟩:=s;unfold AdF at hs;dsimp only at hs;rcases bC hs with⟨b1,hs⟩|⟨b1,hs⟩
 .rcases bC hs with⟨b2,hs⟩|⟨b2,hs⟩;rotate_left;· cases hs
  obtain⟨a,e0,hs⟩:=bS hs;obtain rfl:=Bj hs;obtain⟨j,rfl⟩:∃c,j=c+1:=⟨j-1,by have:=DR b1;omega⟩;rw[Nat.add_sub_cancel] at e0 k5;obtain⟨x,y,hx,hy,e1⟩:=I5 e0;have hw1:l1.length=a.length:=by rw[e1,List.length_set,List.length_set]
  have hi:=(cr hx).1;have hj:=(cr hy).1;have hl:=Fe b2;rw[show((j+1:Nat):Int)-1=(j:Int) by omega] at b1⊢;exact jw [hr 9 b1,AA 20 (nH.ixrZ 0 (Be hy)),AA 21 (nH.p10Z Vs (Be hy)),AA 24 (nH.ixrZ 0 (Be hx)),AA 25 (nH.p10Z Vs (Be hx)),AA 26 (nH.ixsZ 0 (stZ (x:=y) hx)),hw 26 ((l1.set i y).flatMap Jc) (nH.putZ (stZ (x:=y) hx)),AA 27 (nH.ixsZ 0 (stZ (x:=x) hy)),hw 27 (a.flatMap Jc) (e1▸nH.putZ (AhP (w:=x) (x:=x) (z:=y) (i:=i) hy)),hbb 11 (Xl (q:=i) aa),hbb 13 (AkW (q:=j) aa)] [hc hw1,hc (nH.imm a)] (k5 _ rfl) [] [(0,0)] [(0,.row)]
 .obtain rfl:=Bj hs;obtain rfl:=b _ rfl;exact mt .normal (s0 28 gl [] [(0,oLs l1)] 1 1) [] [hr 9 b1] [hc (nH.imm l1)] (ρ:=[(0,0)]) (kd:=[(0,.row)])
def LU(s:JX):Option JX:=aT 24 [] s
theorem SM{s:JX}:LK prog gl (LU s) 130 [aE Jc s] 22 Jc:=λr h=>by
 unfold LU at h;refine OW func130 ?_;refine pO 1100 (s0 8 gl [(0,aE Jc s)] [] 0 0) [] [] ?_;refine IA 0 3 4 30 22 rfl (Fe aH) (Fe aH) λb hb=>?_;cases b
 .exact EI [eu 7 nH h] (nH.imm _)
 .obtain rfl:=nH.isNil (hb rfl);obtain rfl:=mV h;exact EI [] (nH.imm [])
theorem AdG{l r:JX}(hn:l.length<=4000)(h:AB AdF (l,0,l.length)=some r)(hl:r.length=l.length):ba prog gl 65 [aE Jc l] (aE Jc r):=by refine Gh func65 ?_;have a:=SM (gl:=gl) (s:=l) (r:=l) (by unfold LU;grind [aT]);have hM:=Ai1 (gl:=gl) hn h;rw[<-hl] at a hM;exact Ar [hz 5 [] (Qh (c:=0) aH a (eB aH) (nH.imm l)),tN 7 [0] 1 [(0,oLs l)] [.rsl 0 0 r.length] [(0,oLs r)] hM ⟨⟨rfl,.inr ⟨rfl,nH.imm l⟩⟩,trivial⟩ ⟨⟨rfl,.inr ⟨rfl,nH.imm r⟩⟩,trivial⟩] [hc (nH.al r)]
theorem AcX{l:Bb}{a b r:JX}(hd:PB l d=some (a,b))(hn:a.length<=4000)(h:AB AdF (a,0,a.length)=some r)(hl:r.length=a.length):ba prog gl 26 [aE cZ l,iG d] (aE Jc r):=by refine Gh func26 ?_;exact Ar [hf 10 (Aa7 gl hd),hf 14 (AdG (gl:=gl) hn h hl)] []
theorem AcY(n:Int):SK n=zZ n:=by
 have:Px n=AE n:=by grind [Px,AE]
 grind [SK,zZ]
def LV(n:Nat):Nat:=((zZ (n:Int)).getD 0).toNat
theorem UB{n:Nat}(h:2<=n)(hn:n<=1000000):zZ (n:Int)=some ((LV n:Nat):Int)/\1<=LV n/\LV n<n:=by obtain⟨v,e,k,rfl,h1,h2⟩:=Oc h hn;grind [LV]
def OR:Nat->Bb->JX
 |0,_=>[]
 |n+1,l=>if l.length=0 then[]else if l.length=1 then[l]else l::(OR n (l.take (LV l.length))++OR n (l.drop (LV l.length)))
def Ya(d:Int):Nat->Bb->JX
 |0,_=>[]
 |n+1,l=>if l.length<=1 then[l]else l::(if d∈l.take (LV l.length)then Ya d n (l.take (LV l.length))else Ya d n (l.drop (LV l.length)))
theorem SN(d:Int):∀(n m:Nat) (l:Bb),l.length<n->l.length<m->l.length<=1000000->Ya d n l=Ya d m l
 |0,_,_,h,_,_=>(by grind)
 |_,0,_,_,h,_=>(by grind)
 |n+1,m+1,l,h,h',hl=>by
  unfold Ya;split
  .rfl
  .obtain⟨_,k1,k2⟩:=UB (n:=l.length) aa hl;rw[SN d n m (l.take (LV l.length)) cq cq cq,SN d n m (l.drop (LV l.length)) cq cq cq]
theorem aac:∀(nn:Nat) (l:Bb),l.length<nn->l.length<=1000000->KX nn l=some (OR nn l)/\(OR nn l).length<=2*l.length-1
 |0,_,h,_=>absurd h (Nat.not_lt_zero _)
 |nn+1,l,h,hl=>by
  unfold KX OR;by_cases h0:l.length=0
  .simp[ah,h0]
  by_cases h1:l.length=1
  .simp[ah,h1]
  obtain⟨e,k1,k2⟩:=UB (n:=l.length) aa hl;obtain⟨e2,n2⟩:=aac nn (l.take (LV l.length)) cq cq;obtain⟨e3,a⟩:=aac nn (l.drop (LV l.length)) cq cq;rw[show decide (ah l=0)=false from C6 (by unfold ah;omega),show decide (ah l=1)=false from C6 (by unfold ah;omega),A9,A9,show ah l=(l.length:Int) from rfl,e,aL,Bt h0,Bt h1];rw[MH] at n2;rw[List.length_drop] at a;constructor
  .refine T.eq (.bind (.pre aa aa ?_));rw[FF,e2,aL];refine .bind (.app (by simp only[List.length_singleton];omega) (.bind (.suf aa aa ?_)));rw[FF,e3,aL];exact .bind (.app (by simp only[Rf,List.length_singleton];omega) (.some aC))
  grind
theorem Uh:∀(nn:Nat) (l:Bb),∀s∈OR nn l,∀x∈s,x∈l
 |0,_=>by simp[OR]
 |nn+1,l=>by
  intro s hs x hx;unfold OR at hs;split at hs
  .cases hs
  split at hs
  .grind
  .rcases EQ.1 hs with rfl|hs
   .exact hx
   rcases I9.1 hs with hs|hs
   .exact List.mem_of_mem_take (Uh nn _ s hs x hx)
   .exact List.mem_of_mem_drop (Uh nn _ s hs x hx)
theorem aad(d:Int):∀(nn:Nat) (l:Bb),l.length<nn->l.length<=1000000->l.Nodup->(OR nn l).filter (λs=>decide (d∈s))=if d∈l then Ya d nn l else[]
 |0,_,h,_,_=>(by grind)
 |nn+1,l,h,hl,hnd=>by
  by_cases hd:d∈l
  .rw[Bu hd];have hp:0<l.length:=List.length_pos_of_mem hd;unfold OR Ya;rw[Bt aa];by_cases h1:l.length=1
   .grind
   rw[Bt h1,Bt aa];obtain⟨_,k1,k2⟩:=UB (n:=l.length) aa hl;generalize LV l.length=k at k1 k2;have e2:=aad d nn (l.take k) cq cq (by grind);have e3:=aad d nn (l.drop k) cq cq (by grind);grind [Pm]
  grind [List.filter_eq_nil_iff,Uh]
theorem AeJ{l:JX}(hl:l.length<=4000):AB AdF (l,0,l.length)=some l.reverse:=by
 refine T.eq (T.loop (λs=>s.2.1+s.2.2=l.length/\s.1.length=l.length/\∀k,k<l.length->s.1[k]?=if s.2.1<=k/\k<s.2.2 then l[k]? else l.reverse[k]?) (λs=>s.2.2) (by grind) (by grind) ?_);rintro⟨w,i,j⟩ ⟨h1,h2,h3⟩;simp only at h1 h2 h3;unfold AdF;refine .dec (λh0=>?_) λh0=> .some (show w=l.reverse from ?_)
 .have h0:(i:Int)<(j:Int)-1:=h0;rw[show Nat.ble (w,i,j).1.length 4000=true from(by grind [Q9]),ax];have hi:i<w.length:=aa;have hj:j-1<w.length:=aa;have e:swZ w i (j-1)=some ((w.set i (w[j-1]'hj)).set (j-1) (w[i]'hi)):=by grind [swZ]
  show T ((swZ w i (j-1)).bind _) _;rw[e,aL];refine .some ⟨⟨by grind,by simp[h2],λk hk=>?_⟩,by grind⟩;have ei:=h3 i aa;have ej:=h3 (j-1) aa;have ek:=h3 k hk;rw[Bu (by grind)] at ei;rw[Bu (by grind)] at ej;show((w.set i _).set (j-1) _)[k]?=if i+1<=k/\k<j-1 then _ else _
  rw[List.getElem?_set,List.getElem?_set];by_cases k1:j-1=k
  .grind
  grind
 .have h0:¬(i:Int)<(j:Int)-1:=h0;refine List.ext_getElem? λk=>?_;grind
theorem AgK{l:Bb}(hl:l.length<=3000)(hd:d∈l):∃b,PB l d=some (Ya d (l.length+1) l,b):=by
 unfold PB;rw[Td aa,aL,show(l.any λy=>decide (d=y))=true from(by grind),Bool.not_true,A9];obtain⟨R,hR⟩:∃R,Ya d (l.length+1) l=R:=⟨_,rfl⟩;rw[hR];have key:T (AB (PA d) (l,[],[])) λv=>∃b,v= .inr (R,b):=by
  refine T.loop (λs:Bb×JX×JX=>d∈s.1/\s.1.length<=3000/\s.2.1.length+s.1.length<=6000/\s.2.2.length+s.1.length<=6000/\s.2.1++Ya d (s.1.length+1) s.1=R) (λs=>s.1.length) (by grind) (by grind) ?_;rintro⟨c,a,f⟩ ⟨h1,h2,h3,h4,h5⟩;simp only at h1 h2 h3 h4 h5;have hp:0<c.length:=List.length_pos_of_mem h1;unfold PA fF;dsimp only;refine .bind (.app (by grind) (.bind (.app (by grind) ?_)));rw[MJ];unfold Ya at h5;by_cases hc:c.length<2
  .rw[show LT c=some ([],[]) by grind [LT,ah],aL];rw[Bu aa] at h5;exact .some ⟨f,by rw[<-h5]⟩
  obtain⟨e,k1,k2⟩:=UB (n:=c.length) aa aa;rw[Bt aa] at h5;generalize LV c.length=k at e k1 k2 h5;have eK:LT c=some (c.take k,c.drop k):=by unfold LT fF;rw[C6 (by grind [ah]),A9,show ah c=(c.length:Int) from rfl,AcY,e,aL];refine T.eq (.bind (.pre aa aa ?_));grind [T.bind,T.app,T.suf,T.some]
  have lt:(c.take k).length=k:=by grind
  have ld:(c.drop k).length=c.length-k:=List.length_drop;rw[eK,aL];dsimp only;rw[show decide (ah (c.drop k)=0)=false from(by grind [ah]),A9,Td aa,aL];have hx:d∈c.take k\/d∈c.drop k:=by grind [Pm]
  rw[SN d c.length ((c.take k).length+1) (c.take k) aa aa aa,SN d c.length ((c.drop k).length+1) (c.drop k) aa aa aa] at h5;by_cases ht:d∈c.take k
  .rw[show((c.take k).any λy=>decide (d=y))=true from(by grind),ax];rw[Bu ht] at h5;refine .bind (.app (by grind) (.some (by constructor<;>grind)));all_goals grind
  .rw[show((c.take k).any λy=>decide (d=y))=false from(by grind),A9];rw[Bt ht] at h5;refine .bind (.app (by grind) (.some (by constructor<;>grind)));all_goals grind
 obtain⟨v,e,b,rfl⟩:=key;rw[e];exact⟨b,rfl⟩
def RnF(l:Bk):Prop:=∀κ,l.map (qg κ 19)=l
abbrev oN1(s:Nat):Option Ob:=some ⟨3,[iG (s:Int)],none⟩
def o2S(cmp:Ab->Ab->Int)(l:Ba)(a b s:Nat):Option (Nat×Nat×Nat):=(l[b]?).bind λy=>(l[a]?).bind λx=>bif cmp y x<0 then some (b,a,s+1)else some (a,b,s)
def meS(cmp:Ab->Ab->Int)(l:Ba)(a b c s:Nat):Option (Nat×Nat):=(o2S cmp l a b s).bind λd=>(o2S cmp l d.2.1 c d.2.2).bind λe=>(o2S cmp l d.1 e.1 e.2.2).bind λf=>some (f.2.1,f.2.2)
def chS(cmp:Ab->Ab->Int)(l:Ba)(a:Nat):Option (Nat×Bool):=(meS cmp l (a+3) (a+6) (a+9) 0).bind λr=>bif r.2<=3 then some (r.1,decide ((r.2:Int)=0))else none
def scS(cmp:Ab->Ab->Int)(l:Ba)(b k:Nat):Option (Nat⊕Nat):=bif ((k+1:Nat):Int)<(b:Int)then(l[k+1]?).bind λx=>(l[k]?).bind λy=>bif cmp x y<0 then some (.inr k)else some (.inl (k+1))else some (.inr k)
def piS(cmp:Ab->Ab->Int)(l:Ba)(a b:Nat):Fo:=(AB (scS cmp l b) a).bind λk=>some (decide (((k+1:Nat):Int)=(b:Int)))
section
variable {gl:CM} {fi:FuncId} {fa fc:Bk} {cmp:Ab->Ab->Int} (hv:CmV gl fi fa fc cmp)
include hv
theorem AhQ{s:Nat}(hs:s<1000)(h:o2S cmp l a b s=some (u,v,w)):jg prog gl 376 [.rsl 0 0 l.length,iG (a:Int),iG (b:Int),.ref 1 0,Sr fi fa fc] [(0,Bz l),(1,oN1 s)] 2 (.tup [iG (u:Int),iG (v:Int)]) [(0,Bz l),(1,oN1 w)] 2:=by
 unfold o2S at h;obtain⟨y,hy,h⟩:=bS h;obtain⟨x,hx,h⟩:=bS h;refine pP func376 ?_;rcases bC h with⟨b1,h⟩|⟨b1,h⟩
 .simp only[Fm,Gq] at h;obtain⟨rfl,rfl,rfl⟩:=h;exact mt .ret (s0 32 gl [(10,iG (b:Int)),(11,iG (a:Int))] [(0,Bz l),(1,oN1 (s+1))] 2 2) [iG (b:Int),iG (a:Int)] [AA 15 (ac.ixrZ 0 (Be hy)),AA 16 (ac.pt0Z aW (Be hy)),AA 19 (ac.ixrZ 0 (Be hx)),AA 20 (ac.pt0Z aW (Be hx)),hcp 21 2 hv y x,hr 22 b1,hbb 26 (Xl (q:=s) aa)] [hc (ac.imm l)] (ρ:=[(0,0),(1,1)]) (kd:=[(0,.row)])
 .simp only[Fm,Gq] at h;obtain⟨rfl,rfl,rfl⟩:=h;exact mt .ret (s0 32 gl [(10,iG (a:Int)),(11,iG (b:Int))] [(0,Bz l),(1,oN1 s)] 2 2) [iG (a:Int),iG (b:Int)] [AA 15 (ac.ixrZ 0 (Be hy)),AA 16 (ac.pt0Z aW (Be hy)),AA 19 (ac.ixrZ 0 (Be hx)),AA 20 (ac.pt0Z aW (Be hx)),hcp 21 2 hv y x,hr 22 b1] [hc (ac.imm l)] (ρ:=[(0,0),(1,1)]) (kd:=[(0,.row)])
variable (ra:RnF fa) (rc:RnF fc)
include ra rc
theorem rn5{κ:Nat->Fu}{a b c d:G}{e f g h:G}(h1:qg κ 20 a=e)(h2:qg κ 20 b=f)(h3:qg κ 20 c=g)(h4:qg κ 20 d=h):[a,b,c,d,Sr fi fa fc].map (qg κ 20)=[e,f,g,h,Sr fi fa fc]:=by show[qg κ 20 a,qg κ 20 b,qg κ 20 c,qg κ 20 d,.clo (.func fi) (fa.map (qg κ 19)) (fc.map (qg κ 19))]=_;rw[h1,h2,h3,h4,ra κ,rc κ]
abbrev ho2(d:Nat){l:Ba}{a b s u v w:Nat}(hs:s<1000)(h:o2S cmp l a b s=some (u,v,w)):HP:=tN d [0,1] 2 [(0,Bz l),(1,oN1 s)] [.rsl 0 0 l.length,iG (a:Int),iG (b:Int),.ref 1 0,Sr fi fa fc] [(0,Bz l),(1,oN1 w)] (AhQ hv hs h) ⟨⟨rfl,.inr ⟨rfl,ac.imm l⟩⟩,⟨rfl,.inl rfl⟩,trivial⟩ ⟨⟨rfl,.inr ⟨rfl,ac.imm l⟩⟩,⟨rfl,.inl rfl⟩,trivial⟩ (hgs:=rn5 hv ra rc rfl rfl rfl rfl)
theorem AlN{s:Nat}(h:o2S cmp l a b s=some (u,v,w)):w<=s+1/\((u=a/\v=b)\/(u=b/\v=a)):=by grind [o2S]
theorem AjU{c s:Nat}(hs:s<100)(h:meS cmp l a b c s=some (m,w)):jg prog gl 346 [.rsl 0 0 l.length,iG (a:Int),iG (b:Int),iG (c:Int),.ref 1 0,Sr fi fa fc] [(0,Bz l),(1,oN1 s)] 2 (iG (m:Int)) [(0,Bz l),(1,oN1 w)] 2:=by unfold meS at h;obtain⟨⟨u1,f,g⟩,e1,h⟩:=bS h;obtain⟨⟨i,j,k⟩,e2,h⟩:=bS h;obtain⟨⟨n,d,e⟩,e3,h⟩:=bS h;simp only[Fm,Gq] at h;obtain⟨rfl,rfl⟩:=h;have k1:=(AlN hv ra rc e1).1;have k2:=(AlN hv ra rc e2).1;dsimp only at e2 e3 k2;refine pP func346 ?_;exact mt .ret (s0 41 gl [(12,iG (d:Int))] [(0,Bz l),(1,oN1 e)] 2 2) [iG (d:Int)] [ho2 hv ra rc 19 aa e1,ho2 hv ra rc 28 aa e2,ho2 hv ra rc 37 aa e3] [hc (ac.imm l)] (ρ:=[(0,0),(1,1)]) (kd:=[(0,.row)])
def Big(a b:Nat):Prop:=(a=0/\b=13)\/(a=0/\b=14)\/(a=1/\b=14)
abbrev AlO(d:Nat){l:Ba}{a b c m w:Nat}(h:meS cmp l a b c 0=some (m,w)):HP:=tN d [0,1] 2 [(0,Bz l),(1,oN1 0)] [.rsl 0 0 l.length,iG (a:Int),iG (b:Int),iG (c:Int),.ref 1 0,Sr fi fa fc] [(0,Bz l),(1,oN1 w)] (AjU hv ra rc B5 h) ⟨⟨rfl,.inr ⟨rfl,ac.imm l⟩⟩,⟨rfl,.inl rfl⟩,trivial⟩ ⟨⟨rfl,.inr ⟨rfl,ac.imm l⟩⟩,⟨rfl,.inl rfl⟩,trivial⟩ (hgs:=congrArg (G.rsl 0 0 l.length::·) (rn5 hv ra rc rfl rfl rfl rfl))
theorem AjV{l:Ba}{a b m:Nat}{f:Bool}(hB:Big a b)(h:chS cmp l a=some (m,f)):jg prog gl 270 [.rsl 0 0 l.length,iG (a:Int),iG (b:Int),Sr fi fa fc] [(0,Bz l)] 1 (.tup [iG (m:Int),iG (bif f then 1 else 0)]) [(0,Bz l)] 1:=by
 unfold chS at h;obtain⟨⟨c,w⟩,e,h⟩:=bS h;obtain⟨hw,h⟩:=Hs h;have hw:=DR hw;dsimp only at hw;simp only[Fm,Gq] at h;obtain⟨rfl,rfl⟩:=h;have hn:decide ((w:Int)=12)=false:=C6 aa;refine pP func270 ?_;cases b1:decide ((w:Int)=0) with
 |true=>
  rcases hB with⟨rfl,rfl⟩|⟨rfl,rfl⟩|⟨rfl,rfl⟩
  all_goals exact mt .ret (s0 63 gl [(8,iG (c:Int)),(9,iG 1)] [(0,Bz l)] 1 1) [iG (c:Int),iG 1] [AlO hv ra rc 54 e,hr 58 b1] [hc (ac.imm l)] (ρ:=[(0,0)]) (kd:=[(0,.row)])
 |false=>
  rcases hB with⟨rfl,rfl⟩|⟨rfl,rfl⟩|⟨rfl,rfl⟩
  all_goals exact mt .ret (s0 63 gl [(8,iG (c:Int)),(9,iG 0)] [(0,Bz l)] 1 1) [iG (c:Int),iG 0] [AlO hv ra rc 54 e,hr 58 b1,hr 61 hn] [hc (ac.imm l)] (ρ:=[(0,0)]) (kd:=[(0,.row)])
omit ra rc
theorem AjW{l:Ba}{a b:Nat}{f:Bool}(hl:l.length<=1000)(ha:a<1000)(hb:b<=1000)(g:b-a<50)(h:piS cmp l a b=some f):jg prog gl 272 [.rsl 0 0 l.length,iG (a:Int),iG (b:Int),Sr fi fa fc] [(0,Bz l)] 1 (bG f) [(0,Bz l)] 1:=by
 unfold piS at h;obtain⟨k,ek,h⟩:=bS h;obtain rfl:=Bj h;refine pP func272 ?_;refine pN (λ_:Unit=>(s0 141 gl [(0,.rsl 0 0 l.length),(1,iG (a:Int)),(2,iG (b:Int)),(3,Sr fi fa fc),(9,iG ((a+1:Nat):Int)),(10,iG 0)] [(0,Bz l)] 1 1)) 1110122 Lg [hbb 14 (Xl (q:=a) aa)] [hc (el l),hc hv.im,hc (ac.imm l)] (λB z w hz2 e c=>?_) [] [(0,0)] [(0,.row)];clear e c hz2;refine Ix 11101221020 (s0 141 gl [(0,.rsl 0 0 l.length),(1,iG (a:Int)),(2,iG (b:Int)),(3,Sr fi fa fc),(9,iG ((k+1:Nat):Int)),(10,iG 0)] [(0,Bz l)] 1 1) ?_ λkk=>?_;rotate_left
 .refine pN (λk:Nat=>(s0 141 gl [(0,.rsl 0 0 l.length),(1,iG (a:Int)),(2,iG (b:Int)),(3,Sr fi fa fc),(9,iG ((k+1:Nat):Int)),(10,iG 0)] [(0,Bz l)] 1 1)) 1110122102022 ek [] [hc (el l),hc hv.im,hc (ac.imm l)] (λi k v hz e c=>?_) [] [(0,0)] [(0,.row)];unfold scS at hz;rcases bC hz with⟨b2,hz⟩|⟨b2,hz⟩
  .obtain⟨x,ex,hz⟩:=bS hz;obtain⟨y,d,hz⟩:=bS hz;have hq:=(cr ex).1;rcases bC hz with⟨b3,hz⟩|⟨b3,hz⟩
   .obtain rfl:=Bj hz;obtain rfl:=c _ rfl;exact yl 11101221020 [hr 21 b2,AA 26 (ac.ixrZ 0 (Be ex)),AA 27 (ac.pt0Z aW (Be ex)),hbb 30 (dec (q:=k) aa),AA 31 (ac.ixrZ 0 (Be d)),AA 32 (ac.pt0Z aW (Be d)),hcp 33 1 hv x y,hr 34 b3] [hc (el l),hc hv.im,hc (ac.imm l)] kk [] [(0,0)] [(0,.row)]
   .obtain rfl:=Bj hz;exact jw [hr 21 b2,AA 26 (ac.ixrZ 0 (Be ex)),AA 27 (ac.pt0Z aW (Be ex)),hbb 30 (dec (q:=k) aa),AA 31 (ac.ixrZ 0 (Be d)),AA 32 (ac.pt0Z aW (Be d)),hcp 33 1 hv x y,hr 34 b3,hbb 38 (Xl (q:=k+1) aa)] [hc (el l),hc hv.im,hc (ac.imm l)] (e _ rfl) [] [(0,0)] [(0,.row)]
  .obtain rfl:=Bj hz;obtain rfl:=c _ rfl;exact yl 11101221020 [hr 21 b2] [hc (el l),hc hv.im,hc (ac.imm l)] kk [] [(0,0)] [(0,.row)]
 clear ek;cases b1:decide (((k+1:Nat):Int)=(b:Int)) with
 |true=>exact mt .ret (s0 141 gl [(8,bG true)] [(0,Bz l)] 1 1) [bG true] [hr 41 b1] [hc (ac.imm l)] (ρ:=[(0,0)]) (kd:=[(0,.row)])
 |false=>exact mt .ret (s0 141 gl [(8,bG false)] [(0,Bz l)] 1 1) [bG false] [hr 41 b1,hbb 44 (sb (a:=(b:Int)) (b:=(a:Int)) (z:=(b:Int)-(a:Int)) rfl aa),hr 45 (show decide ((b:Int)-(a:Int)<50)=true from C3 aa)] [hc (ac.imm l)] (ρ:=[(0,0)]) (kd:=[(0,.row)])
omit hv
abbrev oXs(s:Nat):Option Ob:=some ⟨367,[uG (s:Int)],none⟩
def rnX:Nat->Nat
 |0=>13
 |1=>14069506893
 |2=>14988908846326605643
 |_=>3428281591454193221
theorem AaB(j:Nat)(h:j<3):jg prog gl 344 [.ref 0 0] [(0,oXs (rnX j))] 1 (uG (rnX (j+1):Int)) [(0,oXs (rnX (j+1)))] 1:=by
 refine pP func344 ?_;rcases(by omega:j=0\/j=1\/j=2) with rfl|rfl|rfl
 .exact mt .ret (s0 33 gl [(2,uG 14069506893)] [(0,oXs 14069506893)] 1 1) [uG 14069506893] [] []
 .exact mt .ret (s0 33 gl [(2,uG 14988908846326605643)] [(0,oXs 14988908846326605643)] 1 1) [uG 14988908846326605643] [] []
 .exact mt .ret (s0 33 gl [(2,uG 3428281591454193221)] [(0,oXs 3428281591454193221)] 1 1) [uG 3428281591454193221] [] []
theorem AjX:ba prog gl 343 [iG 13] (uG 16):=by have h:=RC gl (n:=13) B5;refine Gh func343 ?_;exact Ar [hf 5 h] []
end
theorem dJa{P:Br}{fn:Func}{Q:Exit->St->Prop}{Bs:List (St->Prop)}{m:Bool}{p:Bq}{st:St}(q:Bq)(J:St)(kk:Gp P fn Q Bs false q J)(h:Gp P fn Q Bs false q J->Gp P fn Q Bs m p st):Gp P fn Q Bs m p st:=h kk
def brT(s:Nat×Ba):Option ((Nat×Ba)⊕Ba):=match s.1 with
 |0=>(swZ s.2 6 1).bind λl=>some (.inl (1,l))
 |1=>(swZ s.2 7 12).bind λl=>some (.inl (2,l))
 |2=>(swZ s.2 8 6).bind λl=>some (.inl (3,l))
 |3=>some (.inr s.2)
 |_=>none
def brG(l:Ba)(a b c:Nat)(d:Bool):Option (Ba×Nat):=bif d then some (l,c)else bif Nat.beq a 1&&Nat.beq b 14 then(AB brT (0,l)).bind λr=>bif Nat.beq l.length r.length then some (r,c-1)else none else none
def agG(cmp:Ab->Ab->Int)(l:Ba)(a p:Nat):Fo:=bif Nat.blt 0 a then(l[a-1]?).bind λy=>(l[p]?).bind λx=>some (decide (cmp y x<0))else some true
def AhR(a b:Nat):Bool:=(Nat.beq a 0&&Nat.beq b 13)||((Nat.beq a 0&&Nat.beq b 14)||(Nat.beq a 1&&Nat.beq b 14))
theorem AhS(h:AhR a b=true):Big a b:=by
 unfold AhR at h;simp only[Bool.or_eq_true,bA] at h;rcases h with⟨h1,h2⟩|⟨h1,h2⟩|⟨h1,h2⟩
 .exact .inl ⟨bc h1,bc h2⟩
 .exact .inr (by grind [bc])
 .exact .inr (by grind [bc])
abbrev PdS:Type:=Ba×Nat×Nat×Nat×Bool×Bool
def pdN(cmp:Ab->Ab->Int)(a b c:Nat)(m:Nat)(f:Bool)(l:Ba):Option (PdS⊕Ba):=
 bif a<=m/\m<b then(bif (m:Int)-(a:Int)<(b:Int)-(m:Int)then(inI cmp (a:Int) (m:Int) l).bind λl3=>bif Nat.beq l.length l3.length then some (.inl (l3,m+1,b,c,decide ((1:Int)<=(m:Int)-(a:Int)),f))else none
  else(inI cmp ((m+1:Nat):Int) (b:Int) l).bind λl3=>bif Nat.beq l.length l3.length then some (.inl (l3,a,m,c,decide ((1:Int)<=(b:Int)-(m:Int)),f))else none)else none
def pdT(cmp:Ab->Ab->Int)(s:PdS):Option (PdS⊕Ba):=
 bif s.1.length<=1000/\s.2.1<=100/\s.2.2.1<=100 then
 bif (s.2.2.1:Int)-(s.2.1:Int)<=12 then(inI cmp (s.2.1:Int) (s.2.2.1:Int) s.1).bind λr=>some (.inr r)
 else bif AhR s.2.1 s.2.2.1&&(Nat.blt 0 s.2.2.2.1&&Nat.ble s.2.2.2.1 100) then
  (brG s.1 s.2.1 s.2.2.1 s.2.2.2.1 s.2.2.2.2.1).bind λq=>bif q.1.length<=1000 then(chS cmp q.1 s.2.1).bind λc=>(bif s.2.2.2.2.1&&s.2.2.2.2.2&&c.2 then piS cmp q.1 s.2.1 s.2.2.1 else some false).bind λd=>bif d then some (.inr q.1) else
  (agG cmp q.1 s.2.1 c.1).bind λok=>bif ok then(paS cmp s.2.1 s.2.2.1 c.1 q.1).bind λr=>bif Nat.beq q.1.length r.2.2.length then pdN cmp s.2.1 s.2.2.1 q.2 r.1 r.2.1 r.2.2 else none else none else none
 else none else none
section
variable {gl:CM} {fi:FuncId} {fa fc:Bk} {cmp:Ab->Ab->Int} (hv:CmV gl fi fa fc cmp)
include hv
theorem AjZ(h:AB brT (0,l)=some r):jg prog gl 269 [.rsl 0 0 l.length,iG 1,iG 14,Sr fi fa fc] [(0,Bz l)] 1 (.tup []) [(0,Bz r)] 1:=by
 have hn:=AjX (gl:=gl);have h0:=AaB (gl:=gl) 0 B5;have h1:=AaB (gl:=gl) 1 B5;have h2:=AaB (gl:=gl) 2 B5;refine pP func269 ?_;refine pN (λs:Nat×Ba=>(s0 67 gl [(0,.rsl 0 0 s.2.length),(1,iG 1),(8,iG 13),(9,.ref 1 0),(10,uG 16),(11,iG ((6+s.1:Nat):Int))] [(0,Bz s.2),(1,oXs (rnX s.1))] 2 1)) 111311122 h [hf 21 hn] [hc (el l),hc (ac.imm l)] (λB s w hs k5 a=>?_) [] [(0,0),(1,1)] [(0,.row)];obtain⟨j,l⟩:=s;unfold brT at hs;dsimp only at hs;split at hs
 .obtain⟨l1,e1,hs⟩:=bS hs;obtain rfl:=Bj hs;obtain⟨x,y,hx,hy,e⟩:=I5 e1;have hl:l.length=l1.length:=by rw[e];exact Ut
  exact jw (tN 38 [1] 2 [(1,oXs (rnX 0))] [.ref 1 0] [(0,oXs (rnX 1))] h0 ⟨⟨rfl,.inl rfl⟩,trivial⟩ ⟨⟨rfl,.inl rfl⟩,trivial⟩::hsw 59 63 65 66 hx hy e) [hc hl,hc (ac.imm l1)] (k5 _ rfl) [] [(0,0),(1,1)] [(0,.row)]
 .obtain⟨l1,e1,hs⟩:=bS hs;obtain rfl:=Bj hs;obtain⟨x,y,hx,hy,e⟩:=I5 e1;have hl:l.length=l1.length:=by rw[e];exact Ut
  exact jw (tN 38 [1] 2 [(1,oXs (rnX 1))] [.ref 1 0] [(0,oXs (rnX 2))] h1 ⟨⟨rfl,.inl rfl⟩,trivial⟩ ⟨⟨rfl,.inl rfl⟩,trivial⟩::hsw 59 63 65 66 hx hy e) [hc hl,hc (ac.imm l1)] (k5 _ rfl) [] [(0,0),(1,1)] [(0,.row)]
 .obtain⟨l1,e1,hs⟩:=bS hs;obtain rfl:=Bj hs;obtain⟨x,y,hx,hy,e⟩:=I5 e1;have hl:l.length=l1.length:=by rw[e];exact Ut
  exact jw (tN 38 [1] 2 [(1,oXs (rnX 2))] [.ref 1 0] [(0,oXs (rnX 3))] h2 ⟨⟨rfl,.inl rfl⟩,trivial⟩ ⟨⟨rfl,.inl rfl⟩,trivial⟩::hsw 59 63 65 66 hx hy e) [hc hl,hc (ac.imm l1)] (k5 _ rfl) [] [(0,0),(1,1)] [(0,.row)]
 .obtain rfl:=Bj hs;obtain rfl:=a _ rfl;exact mt .normal (s0 67 gl [] [(0,Bz l)] 1 1) [] [] [hc (ac.imm l)] (ρ:=[(0,0)]) (kd:=[(0,.row)])
 .cases hs
variable (ra:RnF fa) (rc:RnF fc)
include ra rc
theorem rnA{κ:Nat->Fu}{x y:G}(h1:qg κ 20 x=y)(h:L.map (qg κ 20)=L):(x::(L++[Sr fi fa fc])).map (qg κ 20)=y::(L++[Sr fi fa fc]):=by rw[Fi,List.map_append,h1,h];show y::(L++[.clo (.func fi) (fa.map (qg κ 19)) (fc.map (qg κ 19))])=_;rw[ra κ,rc κ]
abbrev hI(d:Nat)(L:Bk){f:FuncId}{l r:Ba}{res:G}(hM:jg prog gl f (.rsl 0 0 l.length::(L++[Sr fi fa fc])) [(0,Bz l)] 1 res [(0,Bz r)] 1)(hL:L.map (qg (vi [0]) 20)=L):HP:=tN d [0] 1 [(0,Bz l)] (.rsl 0 0 l.length::(L++[Sr fi fa fc])) [(0,Bz r)] hM ⟨⟨rfl,.inr ⟨rfl,ac.imm l⟩⟩,trivial⟩ ⟨⟨rfl,.inr ⟨rfl,ac.imm r⟩⟩,trivial⟩ (hgs:=rnA hv ra rc rfl hL)
omit hv ra rc in
theorem mcL{f:FuncId}{res:G}{n:Nat}(e:n=l.length)(hM:jg prog gl f (.rsl 0 0 l.length::L) [(0,Bz l)] 1 res [(0,Bz r)] 1):jg prog gl f (.rsl 0 0 n::L) [(0,Bz l)] 1 res [(0,Bz r)] 1:=e▸hM
abbrev hI2(d:Nat)(L:Bk){f:FuncId}{l r:Ba}{res:G}{n:Nat}(e:n=l.length)(hM:jg prog gl f (.rsl 0 0 l.length::(L++[Sr fi fa fc])) [(0,Bz l)] 1 res [(0,Bz r)] 1)(hL:L.map (qg (vi [0]) 20)=L):HP:=tN d [0] 1 [(0,Bz l)] (.rsl 0 0 n::(L++[Sr fi fa fc])) [(0,Bz r)] (mcL e hM) ⟨⟨rfl,.inr ⟨rfl,ac.imm l⟩⟩,trivial⟩ ⟨⟨rfl,.inr ⟨rfl,ac.imm r⟩⟩,trivial⟩ (hgs:=rnA hv ra rc rfl hL)
theorem Q4{a b:Nat}(ha:a<=1000)(hb:b<=1000)(c:(b:Int)-(a:Int)<=12)(h:inI cmp (a:Int) (b:Int) l=some r)(k:Int):jg prog gl 192 [.rsl 0 0 l.length,iG (a:Int),iG (b:Int),iG k,Sr fi fa fc] [(0,Bz l)] 1 (.tup []) [(0,Bz r)] 1:=by have hs:=sb (a:=(b:Int)) (b:=(a:Int)) (z:=(b:Int)-(a:Int)) rfl aa;have hd:=C3 c;refine pP func192 ?_;refine pN (λ_:Unit=>(s0 148 gl [(0,.rsl 0 0 l.length),(1,iG (a:Int)),(2,iG (b:Int)),(3,iG k),(4,Sr fi fa fc)] [(0,Bz l)] 1 1)) 11122 Lg [] [hc (el l),hc hv.im,hc (ac.imm l)] (λd z v hz2 e f=>?_) [] [(0,0)] [(0,.row)];exact mt .ret (s0 148 gl [] [(0,Bz r)] 1 1) [] [hbb 23 hs,hr 25 hd,hI hv ra rc 30 [iG (a:Int),iG (b:Int)] (Adu hv h) rfl] [hc (ac.imm r)] (ρ:=[(0,0)]) (kd:=[(0,.row)])
abbrev AnA(gl:CM)(fi:FuncId)(fa fc:Bk)(s:PdS):St:=(s0 148 gl [(0,.rsl 0 0 s.1.length),(1,iG (s.2.1:Int)),(2,iG (s.2.2.1:Int)),(3,iG (s.2.2.2.1:Int)),(4,Sr fi fa fc),(10,bG s.2.2.2.2.1),(11,bG s.2.2.2.2.2)] [(0,Bz s.1)] 1 1)
theorem Aj0{s:PdS}(h:AB (pdT cmp) s=some r)(h1:s.2.2.2.2=(true,true)):jg prog gl 192 [.rsl 0 0 s.1.length,iG (s.2.1:Int),iG (s.2.2.1:Int),iG (s.2.2.2.1:Int),Sr fi fa fc] [(0,Bz s.1)] 1 (.tup []) [(0,Bz r)] 1:=by
 refine pP func192 ?_;obtain⟨l,a,b,g,j,par⟩:=s;obtain⟨rfl,rfl⟩:=Prod.mk.inj h1;clear h1;refine pN (AnA gl fi fa fc) [1,1,2,2] h [] [hc (el l),hc hv.im,hc (ac.imm l)] (λB s w hs k5 C=>?_) [] [(0,0)] [(0,.row)];clear h l a b g;obtain⟨l,a,b,g,j,par⟩:=s;unfold pdT at hs;dsimp only at hs;obtain⟨hg,hs⟩:=Hs hs;obtain⟨hl,ha,hb⟩:=DR hg;have o:=sb (a:=(b:Int)) (b:=(a:Int)) (z:=(b:Int)-(a:Int)) rfl aa;rcases bC hs with⟨b1,hs⟩|⟨b1,hs⟩
 .obtain⟨r',A,hs⟩:=bS hs;obtain rfl:=Bj hs;obtain rfl:=C _ rfl;exact mt .ret (s0 148 gl [] [(0,Bz r')] 1 1) [] [hbb 23 o,hr 25 b1,hI hv ra rc 30 [iG (a:Int),iG (b:Int)] (Adu hv A) rfl] [hc (ac.imm r')] (ρ:=[(0,0)]) (kd:=[(0,.row)])
 obtain⟨u,hs⟩:=Hs hs;simp only[bA] at u;obtain⟨hB,hl1,hl2⟩:=u;have hB:=AhS hB;have hlim:0<g:=Fe hl1;have hlim2:g<=100:=Fe hl2;clear hl1 hl2;obtain⟨⟨l1,c⟩,k,hs⟩:=bS hs;dsimp only at hs;obtain⟨v,hs⟩:=Hs hs;have hll:=DR v;obtain⟨⟨p,Xl⟩,D,hs⟩:=bS hs;dsimp only at hs;obtain⟨d,ed,hs⟩:=bS hs;refine dJa [1,1,2,2,2,1,1,1,1,0] (s0 148 gl [(0,.rsl 0 0 l1.length),(1,iG (a:Int)),(2,iG (b:Int)),(3,iG (c:Int)),(4,Sr fi fa fc),(10,bG j),(11,bG par),(12,iG ((b:Int)-(a:Int)))] [(0,Bz l1)] 1 1) ?_ λkk=>?_;rotate_left
 .have hn0:decide ((g:Int)=0)=false:=C6 aa;unfold brG at k;cases j with
  |true=>obtain⟨rfl,rfl⟩:=Prod.mk.inj (Bj k);exact pO 11122211110 _ [hbb 23 o,hr 25 b1,hr 32 hn0] [hc (el l),hc hv.im,hc (ac.imm l)] kk [] [(0,0)] [(0,.row)]
  |false=>obtain⟨t,k⟩:=Hs k;rw[bA] at t;obtain rfl:=bc t.1;obtain rfl:=bc t.2;obtain⟨r',A,k⟩:=bS k;obtain⟨hle,k⟩:=Hs k;have hle:=bc hle;obtain⟨q,rfl⟩:∃q,g=q+1:=⟨g-1,aa⟩;rw[Nat.add_sub_cancel] at k;obtain⟨rfl,rfl⟩:=Prod.mk.inj (Bj k);exact pO 11122211110 _ [hbb 23 o,hr 25 b1,hr 32 hn0,hI hv ra rc 44 [iG 1,iG 14] (AjZ hv A) rfl,hbb 46 (dec (q:=q) aa)] [hc hle,hc hv.im,hc (ac.imm r')] kk [] [(0,0)] [(0,.row)]
 clear k b1 o hlim hlim2;have i:=AjV hv ra rc (b:=b) hB D;have hpi:=λe=>AjW hv (l:=l1) (a:=a) (b:=b) (f:=d) hll aa aa (by rcases hB with⟨rfl,rfl⟩|⟨rfl,rfl⟩|⟨rfl,rfl⟩<;>decide) e;cases d with
 |true=>
  obtain rfl:=Bj hs;obtain rfl:=C _ rfl;cases j with
  |false=>cases ed
  |true=>cases par with
   |false=>cases ed
   |true=>cases Xl with
    |false=>cases ed
    |true=>
     have hpi:=hpi ed
     exact mt .ret (s0 148 gl [] [(0,Bz l1)] 1 1) [] [hI hv ra rc 52 [iG (a:Int),iG (b:Int)] i rfl,hI hv ra rc 80 [iG (a:Int),iG (b:Int)] hpi rfl] [hc (ac.imm l1)] (ρ:=[(0,0)]) (kd:=[(0,.row)])
 |false=>
 refine dJa [1,1,2,2,2,1,1,1,1,1,1,1,0,0] (s0 148 gl [(0,.rsl 0 0 l1.length),(1,iG (a:Int)),(2,iG (b:Int)),(3,iG (c:Int)),(4,Sr fi fa fc),(12,iG ((b:Int)-(a:Int))),(13,iG (p:Int))] [(0,Bz l1)] 1 1) ?_ λkk=>?_;rotate_left
 .cases j with
  |false=>cases par<;>cases Xl<;>exact pO 111222111111100 _ [hI hv ra rc 52 [iG (a:Int),iG (b:Int)] i rfl] [hc (el l1),hc hv.im,hc (ac.imm l1)] kk [] [(0,0)] [(0,.row)]
  |true=>cases par with
   |false=>cases Xl<;>exact pO 111222111111100 _ [hI hv ra rc 52 [iG (a:Int),iG (b:Int)] i rfl] [hc (el l1),hc hv.im,hc (ac.imm l1)] kk [] [(0,0)] [(0,.row)]
   |true=>cases Xl with
    |false=>exact pO 111222111111100 _ [hI hv ra rc 52 [iG (a:Int),iG (b:Int)] i rfl] [hc (el l1),hc hv.im,hc (ac.imm l1)] kk [] [(0,0)] [(0,.row)]
    |true=>
     have hpi:=hpi ed
     exact pO 111222111111100 _ [hI hv ra rc 52 [iG (a:Int),iG (b:Int)] i rfl,hI hv ra rc 80 [iG (a:Int),iG (b:Int)] hpi rfl] [hc (el l1),hc hv.im,hc (ac.imm l1)] kk [] [(0,0)] [(0,.row)]
 clear i hpi ed D;rw[A9] at hs;obtain⟨ok,n,hs⟩:=bS hs;rcases hB with⟨rfl,rfl⟩|⟨rfl,rfl⟩|⟨rfl,rfl⟩
 .clear n;obtain⟨hok,hs⟩:=Hs hs;subst hok;obtain⟨⟨m,f,l2⟩,ep,hs⟩:=bS hs;dsimp only at hs;obtain⟨h2,hs⟩:=Hs hs;have h2:=bc h2;unfold pdN at hs;obtain⟨hm,hs⟩:=Hs hs;have hm:=DR hm;rcases bC hs with⟨b2,hs⟩|⟨b2,hs⟩
  .have b3:=DR b2;obtain⟨l3,e3,hs⟩:=bS hs;obtain⟨h3,hs⟩:=Hs hs;have h3:=h2.trans (bc h3);obtain rfl:=Bj hs;exact jw [hI hv ra rc 111 [iG ((0:Nat):Int),iG ((13:Nat):Int),iG (p:Int)] (Q2 hv hll aa aa aa ep) rfl,hbb 117 (sb (a:=(m:Int)) (b:=((0:Nat):Int)) (z:=(m:Int)-((0:Nat):Int)) rfl aa),hbb 120 (sb (a:=((13:Nat):Int)) (b:=(m:Int)) (z:=((13:Nat):Int)-(m:Int)) rfl aa),hr 125 b2,hI2 hv ra rc 134 [iG ((0:Nat):Int),iG (m:Int),iG (c:Int)] h2 (Q4 hv ra rc aa aa aa e3 (c:Int)) rfl,hbb 136 (Go.Proofs.YtghphhhpagagbaaGreatDoor.Xl (q:=m) aa)] [hc h3,hc hv.im,hc (ac.imm l3)] (k5 _ rfl) [] [(0,0)] [(0,.row)]
  .have b3:=Mj b2;obtain⟨l3,e3,hs⟩:=bS hs;obtain⟨h3,hs⟩:=Hs hs;have h3:=h2.trans (bc h3);obtain rfl:=Bj hs;exact jw [hI hv ra rc 111 [iG ((0:Nat):Int),iG ((13:Nat):Int),iG (p:Int)] (Q2 hv hll aa aa aa ep) rfl,hbb 117 (sb (a:=(m:Int)) (b:=((0:Nat):Int)) (z:=(m:Int)-((0:Nat):Int)) rfl aa),hbb 120 (sb (a:=((13:Nat):Int)) (b:=(m:Int)) (z:=((13:Nat):Int)-(m:Int)) rfl aa),hr 125 b2,hbb 142 (Go.Proofs.YtghphhhpagagbaaGreatDoor.Xl (q:=m) aa),hI2 hv ra rc 146 [iG ((m+1:Nat):Int),iG ((13:Nat):Int),iG (c:Int)] h2 (Q4 hv ra rc aa aa aa e3 (c:Int)) rfl] [hc h3,hc hv.im,hc (ac.imm l3)] (k5 _ rfl) [] [(0,0)] [(0,.row)]
 .clear n;obtain⟨hok,hs⟩:=Hs hs;subst hok;obtain⟨⟨m,f,l2⟩,ep,hs⟩:=bS hs;dsimp only at hs;obtain⟨h2,hs⟩:=Hs hs;have h2:=bc h2;unfold pdN at hs;obtain⟨hm,hs⟩:=Hs hs;have hm:=DR hm;rcases bC hs with⟨b2,hs⟩|⟨b2,hs⟩
  .have b3:=DR b2;obtain⟨l3,e3,hs⟩:=bS hs;obtain⟨h3,hs⟩:=Hs hs;have h3:=h2.trans (bc h3);obtain rfl:=Bj hs;exact jw [hI hv ra rc 111 [iG ((0:Nat):Int),iG ((14:Nat):Int),iG (p:Int)] (Q2 hv hll aa aa aa ep) rfl,hbb 117 (sb (a:=(m:Int)) (b:=((0:Nat):Int)) (z:=(m:Int)-((0:Nat):Int)) rfl aa),hbb 120 (sb (a:=((14:Nat):Int)) (b:=(m:Int)) (z:=((14:Nat):Int)-(m:Int)) rfl aa),hr 125 b2,hI2 hv ra rc 134 [iG ((0:Nat):Int),iG (m:Int),iG (c:Int)] h2 (Q4 hv ra rc aa aa aa e3 (c:Int)) rfl,hbb 136 (Go.Proofs.YtghphhhpagagbaaGreatDoor.Xl (q:=m) aa)] [hc h3,hc hv.im,hc (ac.imm l3)] (k5 _ rfl) [] [(0,0)] [(0,.row)]
  .have b3:=Mj b2;obtain⟨l3,e3,hs⟩:=bS hs;obtain⟨h3,hs⟩:=Hs hs;have h3:=h2.trans (bc h3);obtain rfl:=Bj hs;exact jw [hI hv ra rc 111 [iG ((0:Nat):Int),iG ((14:Nat):Int),iG (p:Int)] (Q2 hv hll aa aa aa ep) rfl,hbb 117 (sb (a:=(m:Int)) (b:=((0:Nat):Int)) (z:=(m:Int)-((0:Nat):Int)) rfl aa),hbb 120 (sb (a:=((14:Nat):Int)) (b:=(m:Int)) (z:=((14:Nat):Int)-(m:Int)) rfl aa),hr 125 b2,hbb 142 (Go.Proofs.YtghphhhpagagbaaGreatDoor.Xl (q:=m) aa),hI2 hv ra rc 146 [iG ((m+1:Nat):Int),iG ((14:Nat):Int),iG (c:Int)] h2 (Q4 hv ra rc aa aa aa e3 (c:Int)) rfl] [hc h3,hc hv.im,hc (ac.imm l3)] (k5 _ rfl) [] [(0,0)] [(0,.row)]
 .obtain⟨y,hy,n⟩:=bS (show((l1[0]?).bind λy=>(l1[p]?).bind λx=>some (decide (cmp y x<0)))=some ok from n);obtain⟨x,hx,n⟩:=bS n;have n:=Bj n;obtain⟨hok,hs⟩:=Hs hs;subst hok;obtain⟨⟨m,f,l2⟩,ep,hs⟩:=bS hs;dsimp only at hs;obtain⟨h2,hs⟩:=Hs hs;have h2:=bc h2;unfold pdN at hs;obtain⟨hm,hs⟩:=Hs hs;have hm:=DR hm;rcases bC hs with⟨b2,hs⟩|⟨b2,hs⟩
  .have b3:=DR b2;obtain⟨l3,e3,hs⟩:=bS hs;obtain⟨h3,hs⟩:=Hs hs;have h3:=h2.trans (bc h3);obtain rfl:=Bj hs;exact jw [AA 88 (ac.ixrZ 0 (Be hy)),AA 89 (ac.pt0Z aW (Be hy)),AA 92 (ac.ixrZ 0 (Be hx)),AA 93 (ac.pt0Z aW (Be hx)),hcp 94 1 hv y x,hr 95 n,hI hv ra rc 111 [iG ((1:Nat):Int),iG ((14:Nat):Int),iG (p:Int)] (Q2 hv hll aa aa aa ep) rfl,hbb 117 (sb (a:=(m:Int)) (b:=((1:Nat):Int)) (z:=(m:Int)-((1:Nat):Int)) rfl aa),hbb 120 (sb (a:=((14:Nat):Int)) (b:=(m:Int)) (z:=((14:Nat):Int)-(m:Int)) rfl aa),hr 125 b2,hI2 hv ra rc 134 [iG ((1:Nat):Int),iG (m:Int),iG (c:Int)] h2 (Q4 hv ra rc aa aa aa e3 (c:Int)) rfl,hbb 136 (Go.Proofs.YtghphhhpagagbaaGreatDoor.Xl (q:=m) aa)] [hc h3,hc hv.im,hc (ac.imm l3)] (k5 _ rfl) [] [(0,0)] [(0,.row)]
  .have b3:=Mj b2;obtain⟨l3,e3,hs⟩:=bS hs;obtain⟨h3,hs⟩:=Hs hs;have h3:=h2.trans (bc h3);obtain rfl:=Bj hs;exact jw [AA 88 (ac.ixrZ 0 (Be hy)),AA 89 (ac.pt0Z aW (Be hy)),AA 92 (ac.ixrZ 0 (Be hx)),AA 93 (ac.pt0Z aW (Be hx)),hcp 94 1 hv y x,hr 95 n,hI hv ra rc 111 [iG ((1:Nat):Int),iG ((14:Nat):Int),iG (p:Int)] (Q2 hv hll aa aa aa ep) rfl,hbb 117 (sb (a:=(m:Int)) (b:=((1:Nat):Int)) (z:=(m:Int)-((1:Nat):Int)) rfl aa),hbb 120 (sb (a:=((14:Nat):Int)) (b:=(m:Int)) (z:=((14:Nat):Int)-(m:Int)) rfl aa),hr 125 b2,hbb 142 (Go.Proofs.YtghphhhpagagbaaGreatDoor.Xl (q:=m) aa),hI2 hv ra rc 146 [iG ((m+1:Nat):Int),iG ((14:Nat):Int),iG (c:Int)] h2 (Q4 hv ra rc aa aa aa e3 (c:Int)) rfl] [hc h3,hc hv.im,hc (ac.imm l3)] (k5 _ rfl) [] [(0,0)] [(0,.row)]
end
structure OrN {α:Type} (cmp:α->α->Int) (D:α->Prop):Prop where
 tr:∀x y z,cmp x y<0->cmp y z<0->cmp x z<0
 tt:∀x y,D x->D y->x≠y->cmp x y<0\/cmp y x<0
def Rg{α:Type}(a b:Nat)(l r:List α):Prop:=r.Perm l/\∀q,(q<a\/b<=q)->r[q]?=l[q]?
def SoR{α:Type}(cmp:α->α->Int)(a b:Nat)(l:List α):Prop:=∀p q x y,a<=p->p<q->q<b->l[p]?=some x->l[q]?=some y->cmp x y<0
def OrX{α:Type}(cmp:α->α->Int)(a b:Nat)(l:List α):Prop:=∀p q x y,p<q->¬(a<=p/\q<b)->l[p]?=some x->l[q]?=some y->cmp x y<0
theorem Rg.refl{α:Type}{a b:Nat}(l:List α):Rg a b l l:=⟨.refl _,λ_ _=>rfl⟩
theorem Rg.trans{α:Type}{a b:Nat}{l r s:List α}(h:Rg a b l r)(k:Rg a b r s):Rg a b l s:=⟨k.1.trans h.1,λq hq=>(k.2 q hq).trans (h.2 q hq)⟩
theorem Rg.mono{α:Type}{a b a' b':Nat}{l r:List α}(h:Rg a b l r)(ha:a'<=a)(hb:b<=b'):Rg a' b' l r:=⟨h.1,λq hq=>h.2 q aa⟩
theorem Rg.len{α:Type}{a b:Nat}{l r:List α}(h:Rg a b l r):r.length=l.length:=h.1.length_eq
theorem M4{l:List α}(h:l.Nodup){q:Nat}{x:α}(h1:l[p]?=some x)(h2:l[q]?=some x):p=q:=by grind [List.getElem?_inj]
theorem Rg.src{α:Type}{a b:Nat}{l r:List α}(h:Rg a b l r)(hn:l.Nodup){q:Nat}{y:α}(h1:a<=q)(h2:q<b)(hy:r[q]?=some y):∃c,a<=c/\c<b/\l[c]?=some y:=by
 obtain⟨c,hq⟩:=Hd (h.1.mem_iff.1 (bO hy));refine⟨c,?_⟩;rcases(by omega:(c<a\/b<=c)\/(a<=c/\c<b)) with h3|h3
 .have:=M4 (h.1.nodup_iff.2 hn) hy ((h.2 c h3).trans hq);omega
 .exact⟨h3.1,h3.2,hq⟩
theorem OrX.rg{α:Type}{cmp:α->α->Int}{a b:Nat}{l r:List α}(h:OrX cmp a b l)(k:Rg a b l r)(hn:l.Nodup):OrX cmp a b r:=by
 have src:∀q y,r[q]?=some y->∃c,l[c]?=some y/\(c=q\/(a<=q/\q<b/\a<=c/\c<b)):=λq y hy=>by
  rcases(by omega:(q<a\/b<=q)\/(a<=q/\q<b)) with h3|h3
  .exact⟨q,(k.2 q h3).symm.trans hy,.inl rfl⟩
  grind [Rg.src]
 intro p q x y e hb hx hy;obtain⟨f,hx',hp⟩:=src p x hx;obtain⟨c,d,hq⟩:=src q y hy;exact h f c x y aa aa hx' d
theorem AcF{l:List α}{i j:Nat}(hi:i<l.length)(hj:j<l.length):∃r,swZ l i j=some r/\r.Perm l/\∀q,r[q]?=if q=j then l[i]? else if q=i then l[j]? else l[q]? :=by refine⟨(l.set i l[j]).set j l[i],?_,List.set_set_perm hi hj,λq=>?_⟩;all_goals grind [swZ]
theorem XL{a b i j:Nat}{l r:List α}(h:r.Perm l)(hq:∀q,r[q]?=if q=j then l[i]? else if q=i then l[j]? else l[q]?)(h1:a<=i)(h2:i<b)(h3:a<=j)(h4:j<b):Rg a b l r:=by constructor<;>grind
section
variable {α:Type} {cmp:α->α->Int} {D:α->Prop} (hO:OrN cmp D)
include hO
theorem OrN.lt{l:List α}(hn:l.Nodup)(hD:∀z∈l,D z){p q:Nat}{x y:α}(hx:l[p]?=some x)(hy:l[q]?=some y)(a:p≠q)(h:¬cmp y x<0):cmp x y<0:=by grind [OrN,M4]
theorem SoR.all{a b:Nat}{l:List α}(h:SoR cmp a b l)(k:OrX cmp a b l):SoR cmp 0 l.length l:=λp q x y _ c _ hx hy=>by
 by_cases hh:a<=p/\q<b
 .exact h p q x y hh.1 c hh.2 hx hy
 .exact k p q x y c hh hx hy
theorem AaC{a b:Nat}{l:List α}(hn:l.Nodup)(hD:∀z∈l,D z)(ha:a<=1000)(hb:b<=l.length)(hl:l.length<=1000):T (inI cmp (a:Int) (b:Int) l) λr=>Rg a b l r/\SoR cmp a b r:=by
 unfold inI;rw[show wI ((a:Int)+1)=wI ((a:Nat)+1) from rfl];rw[aq aa];refine T.loop (λs=>∃i:Nat,s.2=(i:Int)/\a+1<=i/\(i<=b\/i=a+1)/\Rg a b l s.1/\SoR cmp a i s.1) (λs=>b-s.2.toNat) ⟨a+1,rfl,Dx _,.inr rfl,.refl l,λp q x y h1 h2 h3=>aa⟩ (by show b-_<_;omega) ?_;rintro⟨l1,A⟩ ⟨i,e,h1,h2,h3,h4⟩;dsimp only at e h3 h4;subst e;have f:=h3.1.nodup_iff.2 hn;have hl1:=h3.len;unfold Aaz;dsimp only;refine .dec (λhlt=>?_) λhge=> .some ⟨h3,λp q x y k1 k2 k3=>h4 p q x y k1 k2 aa⟩;have hib:i<b:=aa;refine .bind ((T.loop (λs=>∃j:Nat,s.2=(j:Int)/\a<=j/\j<=i/\Rg a b l1 s.1/\∀p q x y,a<=p->p<q->q<=i->q≠j->s.1[p]?=some x->s.1[q]?=some y->cmp x y<0) (λs=>s.2.toNat) (Q:=λr=>Rg a b l1 r/\SoR cmp a (i+1) r) ⟨i,rfl,aa,Dx _,.refl l1,λp q x y k1 k2 k3 d=>h4 p q x y k1 k2 aa⟩ (by show((i:Int)).toNat<_;omega) ?_).mono λr hr=> .some ⟨⟨i+1,aq aa,aa,.inl aa,h3.trans hr.1,hr.2⟩,?_⟩)
 .rintro⟨l2,B⟩ ⟨j,e,k1,k2,k3,d⟩;dsimp only at e k3 d;subst e;have g:=k3.1.nodup_iff.2 f;have hl2:=k3.len;unfold Aay;dsimp only;refine .dec (λh=>?_) λh=> .some ⟨k3,λp q x y m1 m2 m3=>d p q x y m1 m2 aa aa⟩;obtain⟨k,rfl⟩:∃k,j=k+1:=⟨j-1,aa⟩;have ew:wI (((k+1:Nat):Int)-1)=(k:Int):=by grind [bM]
  have gx:l2[k+1]?=some (l2[k+1]'aa):=DS _;have gy:l2[k]?=some (l2[k]'aa):=DS _;generalize l2[k+1]'aa=x at gx;generalize l2[k]'aa=y at gy;rw[ew,au,au,gx,gy,aL,aL];refine .dec (λhc=>?_) λhc=> .some ⟨k3,λp q u v m1 m2 m3 hu hv=>?_⟩
  .obtain⟨r,t,pr,m⟩:=AcF (l:=l2) (i:=k+1) (j:=k) aa aa;obtain⟨C,E,hx',c,n⟩:=I5 t;rw[gx] at hx';rw[gy] at c;cases hx';cases c;rw[stZ (x:=y) gx,aL,AhP (w:=x) (x:=x) (z:=y) (i:=k+1) gy,aL,<-n];refine .some ⟨⟨k,rfl,aa,aa,k3.trans (XL pr m aa aa aa aa),λp q u v m1 m2 m3 o hu hv=>?_⟩,by simp_all⟩;rw[m p] at hu;rw[m q] at hv;rw[Bt o] at hv;by_cases c1:q=k+1
   .subst c1;rw[Bu rfl,gy] at hv;cases hv;by_cases c2:p=k
    .grind
    .rw[Bt c2,Bt aa] at hu;grind
   .rw[Bt c1] at hv;by_cases c2:p=k
    .grind
    .rw[Bt c2] at hu;by_cases c3:p=k+1;all_goals grind
  .have hyx:=hO.lt g (λz hz=>hD z (h3.1.mem_iff.1 (k3.1.mem_iff.1 hz))) gy gx aa hc;by_cases c1:q=k+1
   .subst c1;rw[gx] at hv;cases hv;by_cases c2:p=k
    .grind
    .exact hO.tr _ _ _ (d p k u y m1 aa aa aa hu gy) hyx
   grind
 .show b-((wI ((i:Int)+1))).toNat<b-((i:Int)).toNat;rw[aq aa];omega
end
section
variable {cmp:Ab->Ab->Int} (hO:OrN cmp λ_=>True)
include hO
structure PI (cmp:Ab->Ab->Int) (l0:Ba) (a b:Nat) (pv:Ab) (l:Ba) (i j:Nat):Prop where
 rg:Rg a b l0 l
 gp:l[a]?=some pv
 hi:a+1<=i
 hj:j<b
 hij:i<=j+1
 lo:∀q x,a<q->q<i->l[q]?=some x->cmp x pv<0
 up:∀q x,j<q->q<b->l[q]?=some x->¬cmp x pv<0
omit hO in
theorem Agg{i:Nat}{β:Type}{K:Nat->Nat->Option β}{Q:β->Prop}(h:PI cmp l0 a b pv l i j)(hb:b<=l.length)(hl:l.length<=1000)
  (hK:∀e d,PI cmp l0 a b pv l e d->d<=j->(d<e\/(e<d/\(∃x,l[e]?=some x/\¬cmp x pv<0)/\∃y,l[d]?=some y/\cmp y pv<0))->T (K e d) Q):
  T ((AB (scU cmp l a j) i).bind λe=>(AB (scD cmp l a e) j).bind λd=>K e d) Q:=by
 have hj:=h.hj
 refine .bind ((T.loop (λe=>PI cmp l0 a b pv l e j) (λe=>j+1-e) (Q:=λe=>PI cmp l0 a b pv l e j/\(j<e\/∃x,l[e]?=some x/\¬cmp x pv<0)) h aa λe h'=>?_).mono λe hi=>?_)
 .unfold scU
  refine .dec (λhc=>?_) λhc=> .some ⟨h',.inl aa⟩
  have gx:l[e]?=some (l[e]'aa):=DS _
  generalize l[e]'aa=x at gx
  rw[gx,h'.gp,aL,aL]
  refine .dec (λhx=> .some ⟨⟨h'.rg,h'.gp,Nat.le_succ_of_le h'.hi,h'.hj,aa,λq y k1 k2 hy=>?_,h'.up⟩,aa⟩) λhx=> .some ⟨h',.inr ⟨x,gx,hx⟩⟩
  grind [PI.lo]
 .obtain⟨hi,hx⟩:=hi
  refine .bind ((T.loop (λd=>PI cmp l0 a b pv l e d/\d<=j) (λd=>d) (Q:=λd=>(PI cmp l0 a b pv l e d/\d<=j)/\(d<e\/∃y,l[d]?=some y/\cmp y pv<0)) ⟨hi,Dx _⟩ aa λd ⟨h',f⟩=>?_).mono λd hj'=>?_)
  .unfold scD
   refine .dec (λhc=>?_) λhc=> .some ⟨⟨h',f⟩,.inl aa⟩
   have:=h'.hi
   have:=h'.hj
   have gx:l[d]?=some (l[d]'aa):=DS _
   generalize l[d]'aa=y at gx
   rw[gx,h'.gp,aL,aL]
   refine .dec (λhy=> .some ⟨⟨h',f⟩,.inr ⟨y,gx,hy⟩⟩) λhy=>?_
   rw[show Nat.blt 0 d=true from Q9 aa,ax]
   refine .some ⟨⟨⟨h'.rg,h'.gp,h'.hi,aa,aa,h'.lo,λq x k1 k2 hx=>?_⟩,aa⟩,aa⟩
   by_cases c:q=d
   .grind
   .exact h'.up q x aa k2 hx
  grind
omit hO in
theorem Aiy{i:Nat}(h:PI cmp l0 a b pv l i j)(hb:b<=l.length)(hij:i<j)(gx:l[i]?=some x)(hx:¬cmp x pv<0)(gy:l[j]?=some y)(hy:cmp y pv<0):∃r,swZ l i j=some r/\PI cmp l0 a b pv r (i+1) (j-1)/\0<j:=by
 have h1:=h.hi;have h2:=h.hj;obtain⟨r,e,pr,d⟩:=AcF (l:=l) (i:=i) (j:=j) aa aa;refine⟨r,e,⟨h.rg.trans (XL pr d aa aa aa aa),?_,aa,aa,aa,λq z k1 k2 hz=>?_,λq z k1 k2 hz=>?_⟩,aa⟩
 .grind [PI.gp]
 .grind [PI.lo]
 .rw[d q] at hz;by_cases c:q=j
  .grind
  .rw[Bt c,Bt aa] at hz;exact h.up q z aa k2 hz
def Prt(cmp:Ab->Ab->Int)(a b m:Nat)(l:Ba):Prop:=a<=m/\m<b/\∃c,l[m]?=some c/\(∀q x,a<=q->q<m->l[q]?=some x->cmp x c<0)/\∀q x,m<q->q<b->l[q]?=some x->¬cmp x c<0
omit hO in
theorem Agh{i:Nat}(h:PI cmp l0 a b pv l i j)(hb:b<=l.length)(hij:j<i):∃r,swZ l j a=some r/\Rg a b l0 r/\Prt cmp a b j r:=by
 have h1:=h.hi;have h2:=h.hj;have h3:=h.hij;obtain⟨r,c,pr,d⟩:=AcF (l:=l) (i:=j) (j:=a) aa aa;refine⟨r,c,h.rg.trans (XL pr d aa aa aa aa),aa,aa,pv,?_,λq x k1 k2 hx=>?_,λq x k1 k2 hx=>?_⟩
 .grind [PI.gp]
 .grind [PI]
 grind [PI.up]
theorem AlS(hl:l.length<=1000)(hb:b<=l.length)(hap:a<=p)(c:p<b):T (paS cmp a b p l) λr=>Rg a b l r.2.2/\Prt cmp a b r.1 r.2.2:=by
 obtain⟨l0,e0,d,q0⟩:=AcF (l:=l) (i:=a) (j:=p) aa aa;have hl0:=d.length_eq;have g:=XL (a:=a) (b:=b) d q0 (Dx _) aa hap c;unfold paS;refine .eqb e0 ?_;have gp:l0[a]?=some (l0[a]'aa):=DS _;generalize l0[a]'aa=pv at gp;have h0:PI cmp l a b pv l0 (a+1) (b-1):=by grind [PI]
 refine Agg h0 aa aa λi j h1 _ h2=>?_;refine .dec (λhc=>?_) λhc=>?_
 .grind [Agh,T.some]
 .rcases h2 with h2|⟨h2,⟨x,gx,hx⟩,y,gy,hy⟩
  .omega
  obtain⟨l1,e1,k1,k2⟩:=Aiy h1 aa h2 gx hx gy hy;rw[show Nat.blt 0 j=true from Q9 k2,ax];refine .eqb e1 (.bind ((T.loop (λs=>PI cmp l a b pv s.1 s.2.1 s.2.2) (λs=>s.2.2) (Q:=λs=>∃i,PI cmp l a b pv s.1 i s.2/\s.2<i) k1 (by grind) ?_).mono λs hs=>?_))
  .rintro⟨l2,h,e⟩ h3;dsimp only at h3;have hl2:=h3.rg.len;unfold paT;dsimp only;rw[C3 aa,ax];refine Agg h3 aa aa λi j h4 f h5=>?_;refine .dec (λhc=> .some ⟨i,h4,by show j<i;omega⟩) λhc=>?_;rcases h5 with h5|⟨h5,⟨x,gx,hx⟩,y,gy,hy⟩
   .omega
   obtain⟨l3,e3,m1,m2⟩:=Aiy h4 aa h5 gx hx gy hy;rw[show Nat.blt 0 j=true from Q9 m2,ax];refine .eqb e3 (.some ⟨m1,?_⟩);show j-1<e;omega
  .obtain⟨i,h3,h4⟩:=hs;have:=h3.rg.len;grind [Agh,T.some]
omit hO in
theorem Aj1{x y s:Nat}(hx:x<l.length)(hy:y<l.length):T (o2S cmp l x y s) λr=>((r.1=x/\r.2.1=y)\/(r.1=y/\r.2.1=x))/\r.2.2<=s+1:=by grind [o2S,T.some]
omit hO in
theorem AnB(hB:Big a b)(hb:b<=l.length):T (chS cmp l a) λr=>a<=r.1/\r.1<b:=by
 have h9:a+9<b:=by rcases hB with⟨rfl,rfl⟩|⟨rfl,rfl⟩|⟨rfl,rfl⟩<;>omega
 unfold chS meS;refine .bind (.bind ((Aj1 aa aa).mono λd h1=> .bind ((Aj1 aa aa).mono λe h2=> .bind ((Aj1 aa aa).mono λc h3=> .some ?_))));dsimp only at*;rw[C3 (show c.2.2<=3 by omega),ax];exact .some (show a<=c.2.1/\c.2.1<b by omega)
theorem AnC(hn:l.Nodup)(hb:b<=l.length)(d:a<b)(hl:l.length<=1000):T (piS cmp l a b) λf=>f=true->SoR cmp a b l:=by
 have adj:∀k,(∀q x y,a<=q->q<k->l[q]?=some x->l[q+1]?=some y->cmp x y<0)->SoR cmp a (k+1) l:=λk h=>by
  have key:∀n p x y,a<=p->p+n+1<=k->l[p]?=some x->l[p+n+1]?=some y->cmp x y<0:=by
   intro n;induction n with
   |zero=>grind
   |succ n ih=>intro p x y h1 h2 hx hy;have hlt:=(cr hy).1;have hz:l[p+n+1]?=some (l[p+n+1]'aa):=DS _;exact hO.tr _ _ _ (ih p x _ h1 aa hx hz) (h (p+n+1) _ y aa aa hz hy)
  intro p q x y h1 h2 h3 hx hy;obtain⟨n,rfl⟩:∃n,q=p+n+1:=⟨q-p-1,aa⟩;exact key n p x y h1 aa hx hy
 unfold piS;refine .bind ((T.loop (λk=>a<=k/\k<b/\∀q x y,a<=q->q<k->l[q]?=some x->l[q+1]?=some y->cmp x y<0) (λk=>b-k) (Q:=λk=>k<b/\∀q x y,a<=q->q<k->l[q]?=some x->l[q+1]?=some y->cmp x y<0) (by grind) aa λk hk=>?_).mono λk hk=> .some λhf=>?_)
 .obtain⟨h1,h2,h3⟩:=hk;unfold scS;refine .dec (λhc=>?_) λhc=> .some ⟨h2,h3⟩;have gx:l[k+1]?=some (l[k+1]'aa):=DS _;have gy:l[k]?=some (l[k]'aa):=DS _;generalize l[k+1]'aa=x at gx;generalize l[k]'aa=y at gy;rw[gx,gy,aL,aL];refine .dec (λhx=> .some ⟨h2,h3⟩) λhx=> .some ⟨⟨aa,aa,λq u v k1 k2 hu hv=>?_⟩,aa⟩;by_cases c:q=k
  .subst c;grind [OrN.lt]
  grind
 .have hf:=DR hf;have:=adj k hk.2;grind
omit hO in
theorem AnD(hl:l.length=14):T (AB brT (0,l)) λr=>Rg 1 14 l r:=by
 refine T.loop (λs=>s.1<=3/\Rg 1 14 l s.2) (λs=>3-s.1) ⟨Nat.zero_le _,.refl l⟩ (show 3-0<4611686018427387904 by decide) ?_;rintro⟨j,r⟩ ⟨h1,h2⟩;dsimp only at h1 h2;have hr:=h2.len;unfold brT;rcases(by omega:j=0\/j=1\/j=2\/j=3) with rfl|rfl|rfl|rfl
 .obtain⟨r',e,p,q⟩:=AcF (l:=r) (i:=6) (j:=1) aa aa;exact .eqb e (.some ⟨⟨show 1<=3 by decide,h2.trans (XL p q B5 B5 B5 B5)⟩,show 3-1<3-0 by decide⟩)
 .obtain⟨r',e,p,q⟩:=AcF (l:=r) (i:=7) (j:=12) aa aa;exact .eqb e (.some ⟨⟨show 2<=3 by decide,h2.trans (XL p q B5 B5 B5 B5)⟩,show 3-2<3-1 by decide⟩)
 .obtain⟨r',e,p,q⟩:=AcF (l:=r) (i:=8) (j:=6) aa aa;exact .eqb e (.some ⟨⟨show 3<=3 by decide,h2.trans (XL p q B5 B5 B5 B5)⟩,show 3-3<3-2 by decide⟩)
 .exact .some h2
structure PdI (cmp:Ab->Ab->Int) (l0:Ba) (s:PdS):Prop where
 pm:s.1.Perm l0
 ab:s.2.1<=s.2.2.1
 bn:s.2.2.1<=l0.length
 ox:OrX cmp s.2.1 s.2.2.1 s.1
 lm:12<s.2.2.1-s.2.1->4<=s.2.2.2.1+(14-(s.2.2.1-s.2.1))
 lh:s.2.2.2.1<=100
 bl:s.2.2.2.2.1=false->s.2.2.1-s.2.1<=12\/(s.2.1=1/\s.2.2.1=14)
theorem AlT(hn:l0.Nodup)(hl:l0.length<=14){s:PdS}(h0:PdI cmp l0 s):T (AB (pdT cmp) s) λr=>r.Perm l0/\SoR cmp 0 r.length r:=by
 refine T.loop (PdI cmp l0) (λs=>s.2.2.1-s.2.1) h0 (by grind [PdI]) ?_;rintro⟨l,a,b,n,A,par⟩ ⟨pm,ab,bn,ox,lm,lh,bl⟩;dsimp only at pm ab bn ox lm lh bl;have hll:=pm.length_eq;have hnl:=pm.nodup_iff.2 hn;unfold pdT;dsimp only;rw[C3 (by grind),ax];refine .dec (λhc=>?_) λhc=>?_
 .refine .bind ((AaC hO hnl (λ_ _=>trivial) aa aa aa).mono λr hr=> .some ⟨hr.1.1.trans pm,?_⟩);grind [SoR.all,OrX.rg]
 have hbig:12<b-a:=aa;have lm:=lm hbig;have hB:Big a b:=by
  rcases(by omega:(a=0/\b=13)\/(a=0/\b=14)\/(a=1/\b=14)) with⟨rfl,rfl⟩|⟨rfl,rfl⟩|⟨rfl,rfl⟩
  .exact .inl ⟨rfl,rfl⟩
  .exact .inr (.inl ⟨rfl,rfl⟩)
  .exact .inr (.inr ⟨rfl,rfl⟩)
 have hBb:AhR a b=true:=by rcases hB with⟨rfl,rfl⟩|⟨rfl,rfl⟩|⟨rfl,rfl⟩<;>rfl
 rw[hBb,show Nat.blt 0 n=true from Q9 aa,show Nat.ble n 100=true from Q9 lh];simp only[Bool.and_self,ax];have hbr:T (brG l a b n A) λq=>Rg a b l q.1/\n<=q.2+1/\q.2<=n:=by grind [brG,T.some,Rg.refl,T.bind,T.mono,AnD,Rg.len,Nat.beq_refl]
 refine .bind (hbr.mono ?_);rintro⟨l1,e⟩ ⟨i,m1,m2⟩;dsimp only at i m1 m2⊢;have hl1:=i.len;have z:=i.1.nodup_iff.2 hnl;have ox1:=ox.rg i hnl;rw[C3 (show l1.length<=1000 by omega),ax];refine .bind ((AnB hB aa).mono ?_);rintro⟨p,B⟩ ⟨hp1,hp2⟩;dsimp only at hp1 hp2⊢;have hpi:T (bif A&&par&&B then piS cmp l1 a b else some false) λf=>f=true->SoR cmp a b l1:=by grind [AnC,T.some]
 refine .bind (hpi.mono λd hd=> .ite (λC=> .some ⟨i.1.trans pm,SoR.all hO (hd C) ox1⟩) λ_=>?_);have hag:agG cmp l1 a p=some true:=by
  unfold agG;cases hza:Nat.blt 0 a with
  |false=>rfl
  |true=>have hza:=Fe hza;have g1:l1[a-1]?=some (l1[a-1]'aa):=DS _;have g2:l1[p]?=some (l1[p]'aa):=DS _;rw[ax,g1,g2,aL,aL,C3 (ox1 (a-1) p _ _ aa aa g1 g2)]
 refine .eqb hag ?_;rw[ax];refine .bind ((AlS hO aa aa hp1 hp2).mono ?_);rintro⟨m,f,l2⟩ ⟨j,F,H,w,o,lo,up⟩;dsimp only at j F H o lo up⊢;have hl2:=j.len;have g:=j.1.nodup_iff.2 z;have ox2:=ox1.rg j z;rw[show Nat.beq l1.length l2.length=true by rw[hl2];exact Nat.beq_refl _,ax];unfold pdN;rw[C3 ⟨F,H⟩,ax];have pvx:∀q x,m<q->q<b->l2[q]?=some x->cmp w x<0:=λq x h1 h2 hx=>hO.lt g (λ_ _=>trivial) o hx aa (up q x h1 h2 hx);refine .dec (λE=>?_) λE=>?_
 .refine .bind ((AaC hO g (λ_ _=>trivial) (a:=a) (b:=m) aa aa aa).mono λl3 ⟨c,so3⟩=>?_);have rg3':=c.mono (a':=a) (b':=b) (Dx _) aa;have hl3:=c.len;rw[show Nat.beq l2.length l3.length=true by rw[hl3];exact Nat.beq_refl _,ax];have gp3:l3[m]?=some w:=(c.2 m (.inr (Dx _))).trans o;have lo3:∀q x,a<=q->q<m->l3[q]?=some x->cmp x w<0:=λq x h1 h2 hx=>by obtain⟨I,k1,k2,k3⟩:=c.src g h1 h2 hx;exact lo I x k1 k2 k3
  have up3:∀q x,m<q->q<b->l3[q]?=some x->cmp w x<0:=λq x h1 h2 hx=>pvx q x h1 h2 ((c.2 q (.inr aa)).symm.trans hx);have ox3:=ox2.rg rg3' g;refine .some ⟨⟨c.1.trans (j.1.trans (i.1.trans pm)),by show m+1<=b;omega,bn,λu v x y k hh hx hy=>?_,λt=>by show 4<=e+_;have:12<b-(m+1):=t;show 4<=e+(14-(b-(m+1)));omega,by show e<=100;omega,λhbal=>?_⟩,by show b-(m+1)<b-a;omega⟩
  .have hh:¬(m+1<=u/\v<b):=hh;by_cases c0:a<=u/\v<b
   .rcases(by omega:v<m\/v=m\/(u=m/\m<v)\/(u<m/\m<v)) with h|rfl|⟨rfl,h⟩|⟨h1,h2⟩
    .exact so3 u v x y c0.1 k h hx hy
    .grind
    .grind
    .exact hO.tr _ _ _ (lo3 u x c0.1 h1 hx) (up3 v y h2 c0.2 hy)
   .exact ox3 u v x y k c0 hx hy
  .have hbal:decide ((1:Int)<=(m:Int)-(a:Int))=false:=hbal;have:=Mj hbal;show b-(m+1)<=12\/(m+1=1/\b=14);omega
 .refine .bind ((AaC hO g (λ_ _=>trivial) (a:=m+1) (b:=b) aa aa aa).mono λl3 ⟨c,so3⟩=>?_);have rg3':=c.mono (a':=a) (b':=b) aa (Dx _);have hl3:=c.len;rw[show Nat.beq l2.length l3.length=true by rw[hl3];exact Nat.beq_refl _,ax];have gp3:l3[m]?=some w:=(c.2 m (.inl aa)).trans o;have lo3:∀q x,a<=q->q<m->l3[q]?=some x->cmp x w<0:=λq x h1 h2 hx=>lo q x h1 h2 ((c.2 q (.inl aa)).symm.trans hx);have up3:∀q x,m<q->q<b->l3[q]?=some x->cmp w x<0:=λq x h1 h2 hx=>by obtain⟨I,k1,k2,k3⟩:=c.src g aa h2 hx;grind
  have ox3:=ox2.rg rg3' g;refine .some ⟨⟨c.1.trans (j.1.trans (i.1.trans pm)),F,by show m<=l0.length;omega,λu v x y k hh hx hy=>?_,λt=>by have:12<m-a:=t;show 4<=e+(14-(m-a));omega,by show e<=100;omega,λhbal=>?_⟩,by show m-a<b-a;omega⟩
  .have hh:¬(a<=u/\v<m):=hh;by_cases c0:a<=u/\v<b
   .rcases(by omega:m+1<=u\/(u=m/\m<v)\/(u<m/\v=m)\/(u<m/\m<v)) with h|⟨rfl,h⟩|⟨h,rfl⟩|⟨h1,h2⟩
    .exact so3 u v x y h k c0.2 hx hy
    .grind
    .grind
    .exact hO.tr _ _ _ (lo3 u x c0.1 h1 hx) (up3 v y h2 c0.2 hy)
   .exact ox3 u v x y k c0 hx hy
  grind
end
def O6(cmp:Ab->Ab->Int)(l:Ba):Option Ba:=AB (pdT cmp) (l,0,l.length,WZ l.length,true,true)
theorem Ss{cmp:Ab->Ab->Int}(hO:OrN cmp λ_=>True){l:Ba}(hn:l.Nodup)(hl:l.length<=14):T (O6 cmp l) λr=>r.Perm l/\r.Pairwise λx y=>cmp x y<0:=by
 refine(AlT hO hn hl (s:=(l,0,l.length,WZ l.length,true,true)) ⟨.refl _,Nat.zero_le _,Dx _,λp q x y h1 h2 hx hy=>?_,λh=>?_,?_,λh=>by cases h⟩).mono λr hr=>⟨hr.1,?_⟩
 .grind
 .have h:12<l.length-0:=h;show 4<=WZ l.length+(14-(l.length-0));rcases(by omega:l.length=13\/l.length=14) with e|e<;>rw[e]<;>decide
 .show WZ l.length<=100;generalize l.length=n at hl;rcases(by omega:n=0\/n=1\/n=2\/n=3\/n=4\/n=5\/n=6\/n=7\/n=8\/n=9\/n=10\/n=11\/n=12\/n=13\/n=14) with rfl|rfl|rfl|rfl|rfl|rfl|rfl|rfl|rfl|rfl|rfl|rfl|rfl|rfl|rfl<;>decide
 .rw[List.pairwise_iff_getElem];intro p q hp hq a;exact hr.2 p q _ _ (Nat.zero_le _) a hq (DS hp) (DS hq)
section
variable {gl:CM} {fi:FuncId} {fa fc:Bk} {cmp:Ab->Ab->Int}
theorem AbE(hv:CmV gl fi fa fc cmp)(a:RnF fa)(b:RnF fc)(hl:l.length<=14)(h:O6 cmp l=some r):jg prog gl 103 [.rsl 0 0 l.length,Sr fi fa fc] [(0,Bz l)] 1 (.tup []) [(0,Bz r)] 1:=by
 have e:wU (ah l)=l.length:=by unfold ah;rw[gP];omega
 have hb:ba prog gl 193 [uG (wU (ah l):Int)] (iG (WZ l.length:Int)):=by grind [RC]
 have hp:=Aj0 hv a b h rfl;dsimp only at hp;refine pP func103 ?_;exact mt .normal (s0 14 gl [] [(0,Bz r)] 1 1) [] [AA 10 (C8 (ah l)),hf 11 hb,hI hv a b 13 [iG ((0:Nat):Int),iG (l.length:Int),iG (WZ l.length:Int)] hp rfl] [hc (ac.imm r)] (ρ:=[(0,0)]) (kd:=[(0,.row)])
theorem AbF(h:Uq gg):CmV gl 87 [.agg (Nt ⟨gg⟩)] [] (Nk (RY gg)):=⟨aH,aY (aG 20 (.agg (Nt ⟨gg⟩)) aH) bf,bf,(by grind [AhK])⟩
theorem Agi(h:Uq gg)(hn:ids.length<=14)(hr:O6 (Nk (RY gg)) ids=some row)(hle:row.length=ids.length):iV prog gl 47 [.ptr (Ag gg) 0,aE aj ids] 25 row.length (row.flatMap aj):=by
 have hcl:cU ids=some ids:=by grind [cU,aT]
 rw[hle];refine OW func47 ?_;exact EI [ho 7 [aE aj ids] [] (jY gl hcl) (Zy _),hI (gl:=gl) (AbF h) (λκ=>rfl) (λκ=>rfl) 12 [] (AbE (gl:=gl) (AbF h) (λκ=>rfl) (λκ=>rfl) hn hr) rfl] (ac.imm row)
theorem XM(h:Uq gg)(hn:ids.length<=14)(hr:O6 (Nk (RY gg)) ids=some row)(hle:row.length=ids.length):ba prog gl 47 [.ptr (Ag gg) 0,aE aj ids] (aE aj row):=(Agi h hn hr hle).fn ac.sz (ac.len _) (ac.imm _)
theorem TH(a b:Ab):ba prog gl 124 [.agg (aj a),.agg (aj b)] (bG (dt a b)):=Nu gl (EW a b)
theorem AhT(a b:Ab):ba prog gl 357 [.agg (aj a),.agg (aj b)] (iG (GR a b)):=by
 have h1:=TH (gl:=gl) a b;have h2:=TH (gl:=gl) b a;unfold GR;refine Gh func357 ?_;cases c1:dt a b with
 |true=>rw[c1] at h1;exact Ar [hf 7 h1] []
 |false=>
  rw[c1] at h1;cases c2:dt b a with
  |true=>rw[c2] at h2;exact Ar [hf 7 h1,hf 10 h2] []
  |false=>rw[c2] at h2;exact Ar [hf 7 h1,hf 10 h2] []
abbrev hso(d c:Nat){l r:Ba}{fi:FuncId}{cmp:Ab->Ab->Int}(hv:CmV gl fi [] [] cmp)(hl:l.length<=14)(h:O6 cmp l=some r)(hlt:[0].all (λk=>Nat.blt k c)=true:=by kernel_rfl):HP:=tN d [0] c [(0,Bz l)] [.rsl 0 0 l.length,.clo (.func fi) [] []] [(0,Bz r)] (AbE hv (λκ=>rfl) (λκ=>rfl) hl h) ⟨⟨rfl,.inr ⟨rfl,ac.imm l⟩⟩,trivial⟩ ⟨⟨rfl,.inr ⟨rfl,ac.imm r⟩⟩,trivial⟩ hlt
theorem Aj2:CmV gl 357 [] [] GR:=⟨aH,bf,bf,(by grind [AhT])⟩
theorem Ad8(hl:l.length<=14)(h:O6 GR l=some r):jg prog gl 300 [.rsl 0 0 l.length] [(0,Bz l)] 1 (.rsl 0 0 l.length) [(0,Bz r)] 1:=by refine pP func300 ?_;exact mt .ret (s0 6 gl [(2,.rsl 0 0 l.length)] [(0,Bz r)] 1 1) [.rsl 0 0 l.length] [hso (gl:=gl) 4 1 Aj2 hl h] [hc (el l),hc (ac.imm r)]
def YF(d a b:Int)(x:Ab):Bool:=bif x.By=d then(bif a<=x.Seq then decide (x.Seq<=b)else false)else false
abbrev hsm(d c:Nat){l r:Ba}(hl:l.length<=14)(h:O6 GR l=some r)(hlt:[0].all (λk=>Nat.blt k c)=true:=by kernel_rfl):HP:=tN d [0] c [(0,Bz l)] [.rsl 0 0 l.length] [(0,Bz r)] (Ad8 (gl:=gl) hl h) ⟨⟨rfl,.inr ⟨rfl,ac.imm l⟩⟩,trivial⟩ ⟨⟨rfl,.inr ⟨rfl,ac.imm r⟩⟩,trivial⟩ hlt
theorem Aj3{a b:Int}(hn:ids.length<=14)(h:O6 GR (ids.filter (YF d a b))=some r)(hle:r.length=(ids.filter (YF d a b)).length):iV prog gl 299 [aE aj ids,iG d,iG a,iG b] 25 r.length (r.flatMap aj):=by
 rw[hle];refine OW func299 ?_;refine pN (λk:Nat=>(s0 41 gl [(1,iG d),(2,iG a),(3,iG b),(9,.rsl 0 0 ((ids.take k).filter (YF d a b)).length),(12,aE aj ids),(13,iG (ah ids)),(14,iG (k:Int))] [(0,Bz ((ids.take k).filter (YF d a b)))] 1 0)) 1110122 (Fw (n:=ids.length) aa) [] [hc (ac.imm [])] (λB k w hs k5 f=>?_) [25] [(0,0)] [(0,.row)];unfold LC at hs;split at hs
 .rename_i hlt;obtain rfl:=Bj hs;obtain⟨x,hx⟩:∃x,ids[k]?=some x:=⟨_,DS hlt⟩;have c:=Be hx;have k5:=k5 _ rfl;have hl:=Np (YF d a b) (ids.take k);rw[MH] at hl;have e:(ids.take (k+1)).filter (YF d a b)=(ids.take k).filter (YF d a b)++(bif YF d a b x then[x] else[]):=by grind [JI]
  rw[e] at k5;generalize (ids.take k).filter (YF d a b)=l at k5 hl⊢;unfold YF at k5;cases b1:decide (x.By=d) with
  |false=>rw[b1,A9,A9,KY] at k5;exact jw [hr 15 (Dl hx),AA 16 (ac.ixZ c),AA 17 (ac.ptZ aW c),hr 21 b1,hbb 38 (Xl (q:=k) aa)] [hc (el l),hc (ac.imm l)] k5 [] [(0,0)] [(0,.row)]
  |true=>
   rw[b1,ax] at k5;cases b2:decide (a<=x.Seq) with
   |false=>rw[b2,A9,A9,KY] at k5;exact jw [hr 15 (Dl hx),AA 16 (ac.ixZ c),AA 17 (ac.ptZ aW c),hr 21 b1,hr 26 b2,hbb 38 (Xl (q:=k) aa)] [hc (el l),hc (ac.imm l)] k5 [] [(0,0)] [(0,.row)]
   |true=>
    rw[b2,ax] at k5;cases b3:decide (x.Seq<=b) with
    |false=>rw[b3,A9,KY] at k5;exact jw [hr 15 (Dl hx),AA 16 (ac.ixZ c),AA 17 (ac.ptZ aW c),hr 21 b1,hr 26 b2,hr 32 b3,hbb 38 (Xl (q:=k) aa)] [hc (el l),hc (ac.imm l)] k5 [] [(0,0)] [(0,.row)]
    |true=>rw[b3,ax] at k5;exact jw [hr 15 (Dl hx),AA 16 (ac.ixZ c),AA 17 (ac.ptZ aW c),hr 21 b1,hr 26 b2,hr 32 b3,Tn 37 ac 24 l x aa,hbb 38 (Xl (q:=k) aa)] [hc (el (l++[x])),hc (ac.imm (l++[x]))] k5 [] [(0,3)] [(0,.row)]
 .split at hs
  .rename_i he;subst he;rw[EZ];have hl:=Np (YF d a b) ids;exact EI [hr 15 (Ef (s:=ids)),hsm (gl:=gl) 40 1 aa h] (ac.imm r)
  .cases hs
theorem Aj4{a b:Int}(hn:ids.length<=14)(h:O6 GR (ids.filter (YF d a b))=some r)(hle:r.length=(ids.filter (YF d a b)).length):ba prog gl 299 [aE aj ids,iG d,iG a,iG b] (aE aj r):=(Aj3 hn h hle).fn ac.sz (ac.len _) (ac.imm _)
end
def K3(x:Bh):List Value:=[.int .i64 x.Device,.int .i64 x.Seq]
theorem AaD(d:Nat)(i j:Bh):bt prog (Op.equalIn (d+3) 123 (.agg (K3 i).toArray) (.agg (K3 j).toArray))=some (decide (i=j)):=by obtain⟨a0,a1⟩:=i;obtain⟨b0,b1⟩:=j;unfold K3;rw[xV (fs:= #[⟨ "Device",3,0,false, "", "",0⟩,⟨ "Seq",3,1,false, "", "",8⟩]) aH aH];simp only[Array.toList];rw[uJ (k:= .i64) (k':= .i64) (a:=a0) (b:=b0) B5 aH aH aH];rw[uJ (k:= .i64) (k':= .i64) (a:=a1) (b:=b1) B5 aH aH aH];grind [Bh.mk.injEq,Op.eqFields,bz]
def EG(x:Bh):Value:= .agg (K3 x).toArray
theorem OO:MZ prog 123 EG:=Qw (d:= .struct #[⟨ "Device",3,0,false, "", "",0⟩,⟨ "Seq",3,1,false, "", "",8⟩]) aH (λb k=>by cases b<;>(show _=_;kernel_rfl)) (λa b=>rfl) (λa b=>AaD 9997 a b)
theorem AlU(k:Bh):Instr.sameBits 10000 (EG k) (EG k)=true:=by(unfold EG K3;simp[Instr.sameBits])
abbrev tMk:Bo:=189
abbrev oMk(m:FM Bh Int):Option Ob:=some (Nl tMk EG iG m)
abbrev tMy:Bo:=190
abbrev oMy(m:FM Int Int):Option Ob:=some (Nl tMy JR iG m)
abbrev ZK(l:List Bh):Option Ob:=some ⟨123,l.flatMap Bv,none⟩
def U1(a b:Bh):Int:=AbB a.Device b.Device
theorem AhX(a b:Bh):ba prog gl 136 [.agg (Bv a),.agg (Bv b)] (iG (U1 a b)):=VC gl (by unfold Uw;rw[Adr];rfl)
abbrev cmK:G:= .clo (.func 136) [] []
abbrev hcF(d:Nat)(x y:Bh):HP:=hf d (AhX (gl:=gl) x y)
theorem AlV{l c d:List Bh}{i j:Int}{a b:Bh}(h1:ji l i b=some c)(h2:ji c j a=some d):fh prog 121 (.rsl 0 0 l.length) j=some (.ref 0 (0+j.toNat*2)):=by rw[hZ h1];exact Bi.ixsZ 0 h2
theorem AhY{a b:Int}{l r:List Bh}(h:inI U1 a b l=some r):jg prog gl 285 [.rsl 0 0 l.length,iG a,iG b,cmK] [(0,ZK l)] 1 (.tup []) [(0,ZK r)] 1:=by
 unfold inI at h;refine pP func285 ?_;refine pN (λs:List Bh×Int=>(s0 53 gl [(0,.rsl 0 0 s.1.length),(1,iG a),(2,iG b),(3,cmK),(8,iG s.2)] [(0,ZK s.1)] 1 1)) 1122 h [] [hc (el l),hc (aG 20 cmK aH),hc (Bi.imm l)] (λB s w hs k5 f=>?_) [] [(0,0)] [(0,.row)];obtain⟨l1,i⟩:=s;unfold Aaz at hs;dsimp only at hs;rcases bC hs with⟨b1,hs⟩|⟨b1,hs⟩
 .obtain⟨l2,e2,hs⟩:=bS hs;obtain rfl:=Bj hs;refine Ix 11221021 (s0 53 gl [(0,.rsl 0 0 l2.length),(1,iG a),(2,iG b),(3,cmK),(8,iG i)] [(0,ZK l2)] 1 1) ?_ λkk=>?_
  .exact jw [] [hc (el l2),hc (aG 20 cmK aH),hc (Bi.imm l2)] (k5 _ rfl) [] [(0,0)] [(0,.row)]
  refine pN (λs:List Bh×Int=>(s0 53 gl [(0,.rsl 0 0 s.1.length),(1,iG a),(2,iG b),(3,cmK),(8,iG i),(9,iG s.2)] [(0,ZK s.1)] 1 1)) 1122102122 e2 [hr 14 b1] [hc (el l1),hc (aG 20 cmK aH),hc (Bi.imm l1)] (λm z v hz g d=>?_) [] [(0,0)] [(0,.row)];obtain⟨l3,j⟩:=z;unfold Aay at hz;dsimp only at hz;rcases bC hz with⟨b2,hz⟩|⟨b2,hz⟩
  .obtain⟨x,ex,hz⟩:=bS hz;obtain⟨y,c,hz⟩:=bS hz;rcases bC hz with⟨b3,hz⟩|⟨b3,hz⟩
   .obtain⟨k,e1,hz⟩:=bS hz;obtain⟨e,e3,hz⟩:=bS hz;obtain rfl:=Bj hz;exact jw [hr 20 b2,AA 25 (Bi.ixrZ 0 ex),AA 26 (Bi.pt0Z Hl ex),AA 30 (Bi.ixrZ 0 c),AA 31 (Bi.pt0Z Hl c),hcF (gl:=gl) 32 x y,hr 33 b3,AA 45 (Bi.ixrZ 0 c),AA 46 (Bi.pt0Z Hl c),AA 49 (Bi.ixrZ 0 ex),AA 50 (Bi.pt0Z Hl ex),AA 51 (Bi.ixsZ 0 e1),hw 51 (k.flatMap Bv) (Bi.putZ e1),AA 52 (AlV e1 e3),hw 52 (e.flatMap Bv) (Bi.putZ e3)] [hc ((hZ e1).trans (hZ e3)),hc (aG 20 cmK aH),hc (Bi.imm e)] (g _ rfl) [] [(0,0)] [(0,.row)]
   .obtain rfl:=Bj hz;obtain rfl:=d _ rfl;exact yl 11221021 [hr 20 b2,AA 25 (Bi.ixrZ 0 ex),AA 26 (Bi.pt0Z Hl ex),AA 30 (Bi.ixrZ 0 c),AA 31 (Bi.pt0Z Hl c),hcF (gl:=gl) 32 x y,hr 33 b3] [hc (el l3),hc (aG 20 cmK aH),hc (Bi.imm l3)] kk [] [(0,0)] [(0,.row)]
  .obtain rfl:=Bj hz;obtain rfl:=d _ rfl;exact yl 11221021 [hr 20 b2] [hc (el l3),hc (aG 20 cmK aH),hc (Bi.imm l3)] kk [] [(0,0)] [(0,.row)]
 .obtain rfl:=Bj hs;obtain rfl:=f _ rfl;exact mt .normal (s0 53 gl [] [(0,ZK l1)] 1 1) [] [hr 14 b1] [hc (Bi.imm l1)] (ρ:=[(0,0)]) (kd:=[(0,.row)])
theorem AhZ{l r:List Bh}(hl:l.length<=12)(h:inI U1 ((0:Nat):Int) (l.length:Int) l=some r)(k:Int):jg prog gl 218 [.rsl 0 0 l.length,iG 0,iG (l.length:Int),iG k,cmK] [(0,ZK l)] 1 (.tup []) [(0,ZK r)] 1:=by have hs:=sb (a:=(l.length:Int)) (b:=((0:Nat):Int)) (z:=(l.length:Int)-((0:Nat):Int)) rfl aa;have hd:decide ((l.length:Int)-((0:Nat):Int)<=12)=true:=C3 aa;refine pP func218 ?_;refine pN (λ_:Unit=>(s0 148 gl [(0,.rsl 0 0 l.length),(1,iG ((0:Nat):Int)),(2,iG (l.length:Int)),(3,iG k),(4,cmK)] [(0,ZK l)] 1 1)) 11122 Lg [] [hc (el l),hc (aG 20 cmK aH),hc (Bi.imm l)] (λc z v hz2 d e=>?_) [] [(0,0)] [(0,.row)];exact mt .ret (s0 148 gl [] [(0,ZK r)] 1 1) [] [hbb 23 hs,hr 25 hd,tN 30 [0] 1 [(0,ZK l)] [.rsl 0 0 l.length,iG ((0:Nat):Int),iG (l.length:Int),cmK] [(0,ZK r)] (AhY (gl:=gl) h) ⟨⟨rfl,.inr ⟨rfl,Bi.imm l⟩⟩,trivial⟩ ⟨⟨rfl,.inr ⟨rfl,Bi.imm r⟩⟩,trivial⟩] [hc (Bi.imm r)] (ρ:=[(0,0)]) (kd:=[(0,.row)])
theorem Agj{l r:List Bh}(hl:l.length<=12)(h:inI U1 ((0:Nat):Int) (l.length:Int) l=some r):jg prog gl 135 [.rsl 0 0 l.length,cmK] [(0,ZK l)] 1 (.tup []) [(0,ZK r)] 1:=by
 have e:wU (ah l)=l.length:=by unfold ah;rw[gP];omega
 have hb:ba prog gl 193 [uG (wU (ah l):Int)] (iG (WZ l.length:Int)):=by grind [RC]
 refine pP func135 ?_;exact mt .normal (s0 14 gl [] [(0,ZK r)] 1 1) [] [AA 10 (C8 (ah l)),hf 11 hb,tN 13 [0] 1 [(0,ZK l)] [.rsl 0 0 l.length,iG 0,iG (l.length:Int),iG (WZ l.length:Int),cmK] [(0,ZK r)] (AhZ (gl:=gl) hl h (WZ l.length:Int)) ⟨⟨rfl,.inr ⟨rfl,Bi.imm l⟩⟩,trivial⟩ ⟨⟨rfl,.inr ⟨rfl,Bi.imm r⟩⟩,trivial⟩] [hc (Bi.imm r)] (ρ:=[(0,0)]) (kd:=[(0,.row)])
def fkT(s:FM Bh Int×FM Int Int)(x:Ab):FM Bh Int×FM Int Int:=
 (C5 s.1 ⟨x.By,x.Seq⟩ (wI ((s.1.get ⟨x.By,x.Seq⟩).getD 0+1)),bif wI ((s.1.get ⟨x.By,x.Seq⟩).getD 0+1)<2 then s.2 else bif(s.2.get x.By).isSome then(bif x.Seq<(s.2.get x.By).getD 0 then C5 s.2 x.By x.Seq else s.2)else C5 s.2 x.By x.Seq)
def Uu(ids:Ba):FM Bh Int×FM Int Int:=ids.foldl fkT (⟨[],0⟩,⟨[],0⟩)
theorem Aj6(h:RW s.1/\RW s.2):RW (fkT s x).1/\RW (fkT s x).2:=by grind [fkT,OI]
theorem XN(ids:Ba):RW (Uu ids).1/\RW (Uu ids).2:=by
 have key:∀(l:Ba) (s:FM Bh Int×FM Int Int),RW s.1/\RW s.2->RW (l.foldl fkT s).1/\RW (l.foldl fkT s).2:=by intro l;induction l<;>grind [Aj6]
 exact key ids _ ⟨AjP,AjP⟩
theorem AbH(hx:ids[k]?=some x):Uu (ids.take (k+1))=fkT (Uu (ids.take k)) x:=by grind [Uu,JI]
theorem lkF(m:FM Bh Int)(k:Bh){v:Int}(h:(m.get k).getD 0=v):bL prog [(0,oMk m)] tMk false (.mref 0) (.agg (Bv k))=some (iG v):=h▸(Tk (et:=3) OO aH (k:=k) rfl R3).trans (FM.look1 (et:=3) (v0:=0) OO aH aH m k rfl _)
theorem lkY(m:FM Int Int)(k:Int){v:Int}{b:Bool}(h:(m.get k).getD 0=v)(hb:(m.get k).isSome=b):bL prog [(1,oMy m)] tMy true (.mref 1) (iG k)=some (.tup [iG v,bG b]):=h▸hb▸(Tk (et:=3) Pv aH (k:=k) rfl R3).trans (FM.look (et:=3) (v0:=0) Pv aH aH m k rfl _)
def hnl(d:Nat){P:Br}{σ:aQ}{t:Bo}{ok:Bool}{i:Nat}{gk g:G}(ck:aQ->Bool)(h:bL P [(i,ag σ i)] t ok (.mref i) gk=some g/\∀W,ck W=true->bL P [(i,ag (W++σ) i)] t ok (.mref i) gk=some g):HP:=⟨some (.n d g ck),bL P [(i,ag σ i)] t ok (.mref i) gk=some g/\∀W,ck W=true->bL P [(i,ag (W++σ) i)] t ok (.mref i) gk=some g,h⟩
def hnk(ck:aQ->Bool)(U:aQ)(h:ck U=true):HP:=⟨some (.v 999999996 (.lit undef)),ck U=true,h⟩
noncomputable def ckE(V:aQ):aQ->Bool:=λW=> @decide (W=V) (Classical.propDecidable _)
theorem Agk{V W:aQ}:ckE V W=true↔W=V:= @decide_eq_true_iff _ (Classical.propDecidable _)
theorem mkI(m:FM Bh Int):∀e∈mEs EG iG m,bB e.2.1:=QL λv=>mN _
theorem myI(m:FM Int Int):∀e∈mEs JR iG m,bB e.2.1:=QL λv=>mN _
abbrev AlW(clock:Nat)(seen:Bq):Option Ob:=some ⟨tMy,[],some (.iter (some 0) clock seen clock)⟩
abbrev mkF(e:Int×Int×Nat):Bh:=⟨e.1,e.2.1⟩
abbrev stF(gl:CM)(l:FM Int Int)(seen:Bq)(a:List Bh):St:=(s0 75 gl [(12,.rsl 2 0 a.length),(60,.ref 1 0)] [(0,oMy l),(1,AlW l.clk seen),(2,ZK a)] 3 0)
abbrev fr4(ids:Ba)(k:Nat):Fr:=[(5,.mref 0),(6,.mref 1),(17,aE aj ids),(18,iG (ah ids)),(19,iG (k:Int))]
theorem AbJ{gg:Aj}{ids:Ba}{r:List Bh}{n:Nat}(hn:ids.length<=1000)(h12:(Uu ids).2.es.length<=12)(he:(Uu ids).2.es.length=n)(hs:∀l:List Bh,l.Perm ((Uu ids).2.es.map mkF)->inI U1 ((0:Nat):Int) (l.length:Int) l=some r):iV prog gl 68 [.ptr (Ag gg) 0,aE aj ids] 123 n (r.flatMap Bv):=by
 refine OW func68 ?_;refine pN (λk:Nat=>(s0 75 gl (fr4 ids k) [(0,oMk (Uu (ids.take k)).1),(1,oMy (Uu (ids.take k)).2)] 2 0)) 11110122 (Fw (n:=ids.length) aa) [] [hc (mkI (Uu (ids.take 0)).1),hc (myI (Uu (ids.take 0)).2)] (λB k w hs k5 j=>?_) [] [(0,0),(1,1)] [];unfold LC at hs;split at hs
 .rename_i hlt;obtain rfl:=Bj hs;obtain⟨x,hx⟩:∃x,ids[k]?=some x:=⟨_,DS hlt⟩;have hz:=Be hx;have k5:=k5 _ rfl;obtain⟨h1,h2⟩:=XN (ids.take k);rw[AbH hx] at k5;generalize Uu (ids.take k)=s at k5 h1 h2⊢;obtain⟨m,l⟩:=s;unfold fkT at k5;dsimp only at k5 h1 h2⊢;generalize hv1:(m.get ⟨x.By,x.Seq⟩).getD 0=v at k5;have h36:((C5 m ⟨x.By,x.Seq⟩ (wI (v+1))).get ⟨x.By,x.Seq⟩).getD 0=wI (v+1):=by rw[BB,Bu rfl];rfl
  refine pO 111101221102110 (s0 75 gl ([(8,.ref 2 0),(9,.ref 3 0)]++fr4 ids k) [(0,oMk m),(1,oMy l),ob 2 25 (aj x),ob 3 123 (Bv ⟨x.By,x.Seq⟩)] 4 0) [hr 20 (Dl hx),AA 21 (ac.ixZ hz),AA 22 (ac.ptZ aW hz)] [hc (mkI m),hc (myI l)] ?_ [] [(0,0),(1,1),(2,2),(3,3)] [];refine pO 11110122110211100 (s0 75 gl ([(8,.ref 2 0),(9,.ref 3 0)]++fr4 ids k) [(0,oMk (C5 m ⟨x.By,x.Seq⟩ (wI (v+1)))),(1,oMy l),ob 2 25 (aj x),ob 3 123 (Bv ⟨x.By,x.Seq⟩)] 4 0) [hnl 30 (σ:=[(0,oMk m),(1,oMy l),ob 2 25 (aj x),ob 3 123 (Bv ⟨x.By,x.Seq⟩)]) (ckE [(0,some (Nl tMk EG iG (C5 m ⟨x.By,x.Seq⟩ ((m.get ⟨x.By,x.Seq⟩).getD 0))))]) ⟨lkF m ⟨x.By,x.Seq⟩ hv1,λW o=>by rw[Agk.1 o];exact lkF (C5 m ⟨x.By,x.Seq⟩ ((m.get ⟨x.By,x.Seq⟩).getD 0)) ⟨x.By,x.Seq⟩ (by rw[BB,Bu rfl];exact hv1)⟩,hnk (ckE [(0,some (Nl tMk EG iG (C5 m ⟨x.By,x.Seq⟩ ((m.get ⟨x.By,x.Seq⟩).getD 0))))]) [(0,some (Nl tMk EG iG (C5 m ⟨x.By,x.Seq⟩ ((m.get ⟨x.By,x.Seq⟩).getD 0))))] (Agk.2 rfl),hme 32 [0] 4 (Ajr (P:=prog) (σ:=[(0,oMk m)]) (t:=tMk) (t':=tMk) (et:=3) (v0:=0) OO AlU aH aH (k:=⟨x.By,x.Seq⟩) (gk:= .agg (Bv ⟨x.By,x.Seq⟩)) rfl R3),hms 33 [0] 4 (Ajs (σ:=[(0,some (Nl tMk EG iG (C5 m ⟨x.By,x.Seq⟩ ((m.get ⟨x.By,x.Seq⟩).getD 0))))]) (i:=0) (t':=tMk) (kv:=EG) (vg:=iG) (m:=m) (k:=⟨x.By,x.Seq⟩) (v0:=(m.get ⟨x.By,x.Seq⟩).getD 0) h1.1 R3 (wI (v+1)))] [hc (mkI (C5 m ⟨x.By,x.Seq⟩ (wI (v+1)))),hc (myI l)] ?_ [] [(0,0),(1,1),(2,2),(3,3)] [];generalize C5 m ⟨x.By,x.Seq⟩ (wI (v+1))=m' at k5 h36⊢;generalize wI (v+1)=v' at k5 h36⊢;skip;clear hv1 h1;cases c1:decide (v'<2) with
  |true=>rw[c1,ax] at k5;exact jw [hlk 36 (lkF m' ⟨x.By,x.Seq⟩ h36),hr 37 c1,hbb 58 (Xl (q:=k) aa)] [hc (mkI m'),hc (myI l)] k5 [] [(0,0),(1,1)] []
  |false=>
   rw[c1,A9] at k5;have hput:=AfE (P:=prog) (σ:=[(0,oMk m'),(1,oMy l),ob 2 25 (aj x),ob 3 123 (Bv ⟨x.By,x.Seq⟩)]) (i:=1) (t:=tMy) (t':=tMy) (et:=3) (vg:=iG) Pv Ade aH (k:=x.By) (gk:=iG x.By) rfl (m:=l) rfl x.Seq;cases c2:(l.get x.By).isSome with
   |false=>rw[c2,A9] at k5;exact jw [hlk 36 (lkF m' ⟨x.By,x.Seq⟩ h36),hr 37 c1,hlk 42 (lkY l x.By rfl c2),hmp 4 hput,hbb 58 (Xl (q:=k) aa)] [hc (mkI m'),hc (myI (C5 l x.By x.Seq))] k5 [] [(0,0),(1,1)] []
   |true=>
    rw[c2,ax] at k5;generalize hw:(l.get x.By).getD 0=w at k5;cases c3:decide (x.Seq<w) with
    |true=>rw[c3,ax] at k5;exact jw [hlk 36 (lkF m' ⟨x.By,x.Seq⟩ h36),hr 37 c1,hlk 42 (lkY l x.By hw c2),hr 51 c3,hmp 4 hput,hbb 58 (Xl (q:=k) aa)] [hc (mkI m'),hc (myI (C5 l x.By x.Seq))] k5 [] [(0,0),(1,1)] []
    |false=>rw[c3,A9] at k5;exact jw [hlk 36 (lkF m' ⟨x.By,x.Seq⟩ h36),hr 37 c1,hlk 42 (lkY l x.By hw c2),hr 51 c3,hbb 58 (Xl (q:=k) aa)] [hc (mkI m'),hc (myI l)] k5 [] [(0,0),(1,1)] []
 .split at hs
  .rename_i d;subst d;clear j k5 hs;rw[EZ];obtain⟨h1,h2⟩:=XN ids;generalize Uu ids=s at h1 h2 h12 he hs⊢;obtain⟨m,l⟩:=s;dsimp only at h1 h2 h12 he hs⊢;refine yl (Bs':=[]) [1,1,1,0,1] (J:=(s0 75 gl [(6,.mref 0)] [(0,oMy l)] 1 0)) [hr 20 (Ef (s:=ids))] [hc (myI l)] ?_;refine pO 11111100 (s0 75 gl [(6,.mref 0),(12,Iy)] [(0,oMy l)] 1 0) [] [hc (myI l)] ?_ [] [(0,0)] [];refine yl (Bs':=[]) [1,1,1,1,1,0,0] (J:=stF gl l [] []) [] [hc (myI l),hc (Bi.imm [])] ?_;refine dNx 11111101 ?_;refine dMw 60 61 62 2 (iti:=1) (mi:=0) (clock:=l.clk) (since:=l.clk) (T:=tMy) (ty:=tMy) (es:=mEs JR iG l) (λseen=>stF gl l seen ((eQ l seen).map mkF)) (KsQ l) Aao (λe he=>by obtain⟨x,hx,rfl⟩:=Fq.1 he;exact h2.lt x hx) rfl (Le.refl _) (λseen=>rfl) (λseen=>rfl) (by grind) (λB seen k g nn hI hme hns c=>?_) (λseen hI f=>?_)
   .obtain⟨e,b,h⟩:=Fq.1 hme;simp only[Gq] at h;obtain⟨rfl,rfl,rfl⟩:=h;have c:=c (Aap hI b hns);rw[AfR h2.1 b,List.map_append] at c;have hal:((eQ l seen).map mkF).length<=12:=by rw[Hv];have:=Adk hI;have h3:(eQ l seen).length<=seen.length:=List.length_filterMap_le _ _;have h4:=QN hI.1 hI.2;rw[Hv] at h4;omega
    generalize (eQ l seen).map mkF=a at c hal⊢;have hge:jr ((1,AlW l.clk (seen++[e.2.2]))::(stF gl l seen a).σ) (.ref 1 0)=some (.tup [db (JR e.1),iG e.2.1]):=yo (iti:=1) (mi:=0) (since:=l.clk) (clock:=l.clk) (T:=tMy) (ty:=tMy) (seen:=seen) rfl rfl (by rw[IH];exact h2.nd) hme;exact jw [YT 63 hge,Tn 71 Bi 16 a (mkF e) aa] [hc (el (a++[mkF e])),hc (myI l),hc (Bi.imm (a++[mkF e]))] c [] [(0,0),(1,1),(2,4)] [(2,.row)]
   .have hp:=(Adn h2.1 hI λe he=>f _ (Fq.2 ⟨e,he,rfl⟩)).map mkF;have hi:=hs _ hp;have hla:((eQ l seen).map mkF).length=n:=by rw[hp.length_eq,Hv,he]
    generalize (eQ l seen).map mkF=a at hi hla⊢;subst hla;exact EI [tN 73 [2] 3 [(2,ZK a)] [.rsl 2 0 a.length,cmK] [(0,ZK r)] (Agj (gl:=gl) aa hi) ⟨⟨rfl,.inr ⟨rfl,Bi.imm a⟩⟩,trivial⟩ ⟨⟨rfl,.inr ⟨rfl,Bi.imm r⟩⟩,trivial⟩] (Bi.imm r)
  .cases hs
theorem Q5{a b:Ab}:GR a b<0↔dt a b=true:=by grind [GR]
theorem PO:OrN GR λ_=>True:=by grind [OrN,Q5,dt,EX]
theorem AbK{x y:Int}:AbB x y<0↔x<y:=by grind [AbB]
theorem T0{cmp:α->α->Int}(tr:∀x y z,cmp x y<0->cmp y z<0->cmp x z<0)(a:∀x,¬cmp x x<0){l r:List α}(hp:l.Perm r)(h1:l.Pairwise λx y=>cmp x y<0)(h2:r.Pairwise λx y=>cmp x y<0):l=r:=
 by grind [List.Perm.eq_of_pairwise]
def OY(ids:Ba)(f:Bh):Nat:=(ids.filter λx=>decide (x.By=f.Device)&&decide (x.Seq=f.Seq)).length
theorem T9(p:Ba)(x:Ab)(f:Bh):OY (p++[x]) f=OY p f+if(⟨x.By,x.Seq⟩:Bh)=f then 1 else 0:=by unfold OY;rw[Re,Rf];obtain⟨d,s⟩:=f;grind
theorem Agm(p:Ba)(f:Bh):OY p f<=p.length:=Np _ _
structure FkI (p:Ba) (s:FM Bh Int×FM Int Int):Prop where
 n:∀f,(s.1.get f).getD 0=(OY p f:Int)
 a:∀d v,s.2.get d=some v->2<=OY p ⟨d,v⟩
 b:∀d v,2<=OY p ⟨d,v⟩->∃w,s.2.get d=some w/\w<=v
theorem AlX{p:Ba}(h:FkI p s)(hp:p.length<=1000):FkI (p++[x]) (fkT s x):=by
 have hle:=Agm p ⟨x.By,x.Seq⟩;have hw:wI ((s.1.get ⟨x.By,x.Seq⟩).getD 0+1)=((OY p ⟨x.By,x.Seq⟩+1:Nat):Int):=by grind [FkI.n,bM]
 have hset:∀(l:FM Int Int),l=C5 s.2 x.By x.Seq->1<=OY p ⟨x.By,x.Seq⟩->(∀w,s.2.get x.By=some w->x.Seq<=w)->(∀d v,l.get d=some v->2<=OY (p++[x]) ⟨d,v⟩)/\(∀d v,2<=OY (p++[x]) ⟨d,v⟩->∃w,l.get d=some w/\w<=v):=by grind [BB,T9,FkI.a,FkI.b]
 have hold:∀(l:FM Int Int),l=s.2->(1<=OY p ⟨x.By,x.Seq⟩->∃w,s.2.get x.By=some w/\w<=x.Seq)->(∀d v,l.get d=some v->2<=OY (p++[x]) ⟨d,v⟩)/\(∀d v,2<=OY (p++[x]) ⟨d,v⟩->∃w,l.get d=some w/\w<=v):=by grind [T9,FkI.a,FkI.b]
 have key:(∀d v,(fkT s x).2.get d=some v->2<=OY (p++[x]) ⟨d,v⟩)/\(∀d v,2<=OY (p++[x]) ⟨d,v⟩->∃w,(fkT s x).2.get d=some w/\w<=v):=by
  unfold fkT;dsimp only;rw[hw];cases c1:decide (((OY p ⟨x.By,x.Seq⟩+1:Nat):Int)<2) with
  |true=>grind
  |false=>
   have h1:=Mj c1;rw[A9];cases c2:s.2.get x.By with
   |none=>grind
   |some w=>rw[Option.isSome_some,ax,Nr];cases c3:decide (x.Seq<w)<;>grind
 refine⟨λf=>?_,key.1,key.2⟩;grind [fkT,BB,T9,FkI.n]
theorem Agn(ids:Ba)(hn:ids.length<=1000):FkI ids (Uu ids):=by
 have key:∀k,k<=ids.length->FkI (ids.take k) (Uu (ids.take k)):=by
  intro k;induction k with
  |zero=>exact λ_=>⟨λf=>rfl,λd v h=>(by cases h),λd v h=>absurd h (by show¬2<=0;omega)⟩
  |succ k ih=>intro hk;have hx:ids[k]?=some (ids[k]'aa):=DS _;rw[AbH hx,JI,hx,Option.toList_some];grind [AlX]
 grind [EZ]
theorem Adx{α:Type}(p:α->Bool):∀l:List α,l.length=(l.filter p).length+(l.filter λx=> !p x).length
 |[]=>rfl
 |a::r=>by have:=Adx p r;grind
theorem AbL:∀{ds:Bb} {ids:Ba},ds.Nodup->(∀d∈ds,2<=(ids.filter λx=>decide (x.By=d)).length)->2*ds.length<=ids.length
 |[],ids,_,_=>aC
 |d::r,ids,hd,h=>by
  rw[MI] at hd;have ih:=AbL (ids:=ids.filter λx=> !decide (x.By=d)) hd.2 λe he=>by have:=h e (by simp[he]);rw[List.filter_filter];grind
  have h1:=h d aC;grind [Adx]
theorem AaE{ids:Ba}(hn:ids.length<=1000):2*(Uu ids).2.es.length<=ids.length:=by have hk:=(XN ids).2;have hI:=Agn ids hn;rw[<-Hv (f:=λe:Int×Int×Nat=>e.1)];refine AbL hk.kd λd hd=>?_;obtain⟨e,he,rfl⟩:=Fq.1 hd;have hg:=JL hk (k:=e.1) (v:=e.2.1) (n:=e.2.2) he;have h2:=hI.a _ _ hg;refine MG h2 ?_;unfold OY;rw[<-List.filter_filter];exact(List.Sublist.filter _ List.filter_sublist).length_le
theorem Ua{ids:Ba}{f:Bh}:f∈(Uu ids).2.es.map mkF↔(Uu ids).2.get f.Device=some f.Seq:=by grind [XN,JL,Hr]
theorem Aiz(ids:Ba):OrN U1 λf=>f∈(Uu ids).2.es.map mkF:=by grind [OrN,U1,AbK,Ua]
theorem Ago{ids:Ba}:((Uu ids).2.es.map mkF).Nodup:=List.Pairwise.of_map (S:=λa b:Int=>a≠b) (λf:Bh=>f.Device) (by grind) (by rw[IH];exact(XN ids).2.kd)
theorem AiA{ids:Ba}(hn:ids.length<=14):∃r:List Bh,r.Perm ((Uu ids).2.es.map mkF)/\∀l:List Bh,l.Perm ((Uu ids).2.es.map mkF)->inI U1 ((0:Nat):Int) (l.length:Int) l=some r:=by
 have hl:=AaE (ids:=ids) aa;have go:∀l:List Bh,l.Perm ((Uu ids).2.es.map mkF)->∃r,inI U1 ((0:Nat):Int) (l.length:Int) l=some r/\r.Perm ((Uu ids).2.es.map mkF)/\r.Pairwise λx y=>U1 x y<0:=λl hp=>by obtain⟨r,e,h1,h2⟩:=AaC (Aiz ids) (a:=0) (b:=l.length) (hp.nodup_iff.2 Ago) (λz hz=>hp.mem_iff.1 hz) aa (Dx _) (by rw[hp.length_eq,Hv];omega);refine⟨r,e,h1.1.trans hp,?_⟩;rw[List.pairwise_iff_getElem];intro p q hp' c d;exact h2 p q _ _ (Nat.zero_le _) d (by rw[<-h1.len];exact c) (DS hp') (DS c)
 obtain⟨r,_,h2,h3⟩:=go _ (.refl _);refine⟨r,h2,λl hp=>?_⟩;obtain⟨r',e,k2,k3⟩:=go l hp;rw[e,T0 (cmp:=U1) (Aiz ids).tr (by grind [U1,AbK]) (k2.trans h2.symm) k3 h3]
def voP(ids:Ba)(x:Ab):Bool:=ids.any λy=>decide (y.By=x.By/\y.Seq<=x.Seq/\2<=OY ids ⟨y.By,y.Seq⟩)
theorem Ah0{fs:List Bh}{R:Bh->Ba}(hF:ba prog gl 68 [.ptr (Ag gg) 0,aE aj ids] (aE Bv fs))(hfl:fs.length<=1000)(hR:∀f∈fs,ba prog gl 299 [aE aj ids,iG f.Device,iG f.Seq,iG 4611686018427387904] (aE aj (R f)))(hl:(fs.flatMap R).length<=14)(h:O6 GR (fs.flatMap R)=some r)(hle:r.length=(fs.flatMap R).length):iV prog gl 238 [.ptr (Ag gg) 0,aE aj ids] 25 r.length (r.flatMap aj):=by
 rw[hle];refine OW func238 ?_;refine pN (λk:Nat=>(s0 27 gl [(1,aE aj ids),(5,.rsl 0 0 ((fs.take k).flatMap R).length),(10,aE Bv fs),(11,iG (ah fs)),(12,iG (k:Int))] [(0,Bz ((fs.take k).flatMap R))] 1 0)) 1110122 (Fw (n:=fs.length) aa) [hf 10 hF] [hc (ac.imm [])] (λB k w hs k5 a=>?_) [25] [(0,0)] [(0,.row)];unfold LC at hs;split at hs
 .rename_i hlt;obtain rfl:=Bj hs;obtain⟨x,hx⟩:∃x,fs[k]?=some x:=⟨_,DS hlt⟩;have hz:=Be hx;have k5:=k5 _ rfl;have e:(fs.take (k+1)).flatMap R=(fs.take k).flatMap R++R x:=by grind [JI]
  have hll:((fs.take k).flatMap R++R x).length<=14:=by grind [Pm]
  rw[e] at k5;generalize (fs.take k).flatMap R=l at k5 hll⊢;rw[Rf] at hll;exact jw [hr 13 (Dl hx),AA 14 (Bi.ixZ hz),AA 15 (Bi.ptZ Hl hz),hf 22 (hR x (bO hx)),AkR 23 ac 24 l (R x) aa,hbb 24 (Xl (q:=k) aa)] [hc (el (l++R x)),hc (ac.imm (l++R x))] k5 [] [(0,2)] [(0,.row)]
 .split at hs
  .rename_i he;subst he;rw[EZ];exact EI [hr 13 (Ef (s:=fs)),hsm (gl:=gl) 26 1 hl h] (ac.imm r)
  .cases hs
theorem XP{α β:Type}{f:α->List β}:∀{l:List α},l.Nodup->(∀x∈l,(f x).Nodup)->(∀x∈l,∀y∈l,x≠y->∀z∈f x,z∉f y)->(l.flatMap f).Nodup
 |[],_,_,_=> .nil
 |a::r,hn,h1,h2=>by rw[MI] at hn;rw[List.flatMap_cons,List.nodup_append];refine⟨h1 a aC,XP hn.2 (by grind) (by grind),λz hz w hw e=>?_⟩;grind
theorem Ah1{gl:CM}{gg:Aj}(hn:ids.length<=14)(hd:ids.Nodup)(hs:∀x∈ids,x.Seq<=4611686018427387904):∃r,ba prog gl 238 [.ptr (Ag gg) 0,aE aj ids] (aE aj r)/\r.Perm (ids.filter (voP ids))/\r.Pairwise λx y=>GR x y<0:=by
 obtain⟨fs,hp,hi⟩:=AiA hn;have hl:=AaE (ids:=ids) aa;have hI:=Agn ids aa;have hF:=(AbJ (gl:=gl) (gg:=gg) (ids:=ids) (r:=fs) (n:=fs.length) aa aa (by rw[hp.length_eq,Hv]) hi).fn Bi.sz (Bi.len _) (Bi.imm _);have hof:∀f:Bh,∃r,O6 GR (ids.filter (YF f.Device f.Seq 4611686018427387904))=some r/\r.Perm (ids.filter (YF f.Device f.Seq 4611686018427387904)):=λf=>by have h1:=Np (YF f.Device f.Seq 4611686018427387904) ids;obtain⟨r,e,h2,h3⟩:=Ss PO (l:=ids.filter (YF f.Device f.Seq 4611686018427387904)) (hd.sublist List.filter_sublist) aa;exact⟨r,e,h2⟩
 let R:Bh->Ba:=λf=>(O6 GR (ids.filter (YF f.Device f.Seq 4611686018427387904))).getD [];have hRp:∀f,O6 GR (ids.filter (YF f.Device f.Seq 4611686018427387904))=some (R f)/\(R f).Perm (ids.filter (YF f.Device f.Seq 4611686018427387904)):=λf=>by obtain⟨r,e,h2⟩:=hof f;grind
 have hRm:∀f x,x∈R f↔x∈ids/\x.By=f.Device/\f.Seq<=x.Seq:=λf x=>by rw[(hRp f).2.mem_iff,HC];grind [YF]
 clear_value R;have hfd:∀x∈fs,∀y∈fs,x≠y->x.Device≠y.Device:=by grind [Ua]
 have hfn:(fs.flatMap R).Nodup:=XP (hp.nodup_iff.2 Ago) (by grind) (by grind);have hperm:(fs.flatMap R).Perm (ids.filter (voP ids)):=by
  refine(List.perm_ext_iff_of_nodup hfn (hd.sublist List.filter_sublist)).2 λx=>?_;rw[List.mem_flatMap,HC];unfold voP;rw[List.any_eq_true];refine⟨λ⟨f,hf,hx⟩=>?_,λ⟨hx,y,hy,hv⟩=>?_⟩
  .obtain⟨h1,h2,h3⟩:=(hRm f x).1 hx;have h4:=Ua.1 (hp.mem_iff.1 hf);have h5:=hI.a _ _ h4;refine⟨h1,?_⟩;have h6:0<(ids.filter λx=>decide (x.By=f.Device)&&decide (x.Seq=f.Seq)).length:=Nat.lt_of_lt_of_le Nat.zero_lt_two h5;obtain⟨y,hy⟩:=List.exists_mem_of_length_pos h6;grind
  .obtain⟨h1,h2,h3⟩:=DR hv;obtain⟨w,hw,hle⟩:=hI.b _ _ h3;refine⟨⟨y.By,w⟩,hp.mem_iff.2 (Ua.2 hw),(by grind)⟩
 have hlen:(fs.flatMap R).length<=14:=by grind [List.Perm.length_eq,Np]
 obtain⟨r,e,h2,h3⟩:=Ss PO hfn hlen;refine⟨r,(Ah0 (gl:=gl) hF (by rw[hp.length_eq,Hv];omega) (by grind [Aj4,List.Perm.length_eq]) hlen e h2.length_eq).fn ac.sz (ac.len _) (ac.imm _),h2.trans hperm,h3⟩
theorem Rb{l:List α}{x:α}(hx:l[k]?=some x):l.take (k+1)=l.take k++[x]:=by rw[JI,hx];rfl
section
variable {g:AQ} {m:Jq} {N:Ja}
abbrev Cd(g:AQ)(m:Jq)(N:Ja):Gi:=RY ⟨g.Cards,m,N⟩
theorem M5(w:Fs g){i:Nat}(h:g.IDs[i]?=some x):bu x g.IDs=some i:=by
 cases hk:bu x g.IDs with
 |none=>exact absurd (bO h) (Te hk)
 |some j=>rw[M4 w.nd (gb hk).1 h]
abbrev I6(g:AQ)(l:Bb):Ba:=l.map λp=>(g.IDs[p.toNat]?).getD ⟨0,0,0⟩
theorem Pa(w:Fs g){l:Bb}(h:EF g l){z:Int}(hz:l[j]?=some z):∃(n:Nat) (y:Ab),z=(n:Int)/\n<g.L.length/\g.IDs[n]?=some y/\(I6 g l)[j]?=some y:=by obtain⟨n,rfl,hn⟩:=h.nat (bO hz);have nI:=w.nI;obtain⟨y,hy,_⟩:=dk (l:=g.IDs) (k:=n) aa;refine⟨n,y,rfl,hn,hy,?_⟩;rw[M7,hz,Option.map_some,FF,hy];rfl
end
def XX(cs:Mi)(d:Int):Int:=match cs.find? λc=>decide (c.Device=d) with
 |some c=>c.Member
 |none=>0
structure Mr (x:Az) (y:EA):Prop where
 role:y.Role=x.role
 no:x.guard=none->y.Is=false
 gd:∀g,x.guard=some g->y.Is=true/\y.ID=g.id/\y.Guards=g.guards/\y.Need=g.need/\y.Wait=g.wait/\y.Objected=g.objected/\y.Last=g.last
def Agx(V:List Hb)(i:Ab)(b d a:Int):Prop:=∃v∈V,v.Of=i/\v.By=b/\v.Device=d/\v.At=a
structure Rr (R:Ad) (D:Dk):Prop where
 card:∀d,DE R d=XX D.Cards d
 nd:(D.In++D.Gone).Nodup
 in_:∀d,R.in_.get d=if d∈D.In then some true else none
 was:∀d,R.was.get d=if d∈D.In\/d∈D.Gone then some true else none
 w0:R.was.es.length=D.In.length+D.Gone.length
 ln:(D.L.map (·.N)).Nodup
 no:∀m,R.members.get m=none->∀y∈D.L,y.N≠m
 mem:∀m x,R.members.get m=some x->∃y∈D.L,y.N=m/\Mr x y
 vou:∀m x g,R.members.get m=some x->x.guard=some g->∀b d a,g.vouches.get ⟨b,d⟩=some a↔Agx D.V g.id b d a
 vof:∀v∈D.V,∃m x g,R.members.get m=some x/\x.guard=some g/\v.Of=g.id
 vnd:(D.V.map λv=>(v.Of,v.By,v.Device)).Nodup
 back:R.back=D.Back
structure Sz (D:Dk):Prop where
 c:D.Cards.length<=1000
 dev:D.In.length+D.Gone.length<=100000
 l:D.L.length<=100000
 v:D.V.length<=100000
theorem JH{l:Bb}{n:Int}:QF l n=decide (n∈l):=by grind [QF]
section
variable {R:Ad} {D:Dk}
theorem Sz.i(z:Sz D):D.In.length<=1000000:=by grind [Sz]
theorem Sz.g(z:Sz D):D.Gone.length<=1000000:=by grind [Sz]
theorem ofE(z:Sz D)(d:Int):gE D d=some (XX D.Cards d):=by
 have:=z.c;unfold gE;refine T.eq (.bind ((T.search D.Cards (λx=>decide (x.Device=d)) (λk x=>x.Member) aa (λk x hx hk=>?_) ?_).mono ?_))
 .grind [AR,eA,au,aq]
 .grind [AR,eF]
 .rintro r (⟨rfl,h⟩|⟨k,x,hx,hp,rfl,h⟩)
  .refine .some ?_;grind [XX]
  .refine .some ?_;grind [XX,List.find?_eq_some_iff_getElem]
theorem Amo(z:Sz D)(n:Int):T (dS D n) λv=>(v= -1/\∀y∈D.L,y.N≠n)\/∃(k:Nat) (y:EA),v=(k:Int)/\D.L[k]?=some y/\y.N=n:=by
 have:=z.l;unfold dS;refine .bind ((T.search D.L (λx=>decide (x.N=n)) (λk _=>(k:Int)) aa (λk x hx hk=>?_) ?_).mono ?_)
 .grind [o5,eA,au,aq]
 .grind [o5,eF]
 .rintro r (⟨rfl,h⟩|⟨k,x,hx,hp,rfl,h⟩)
  .exact .some (by grind)
  .exact .some (by grind)
theorem Rr.at_(h:Rr R D){m:Int}{x:Az}(hx:R.members.get m=some x){y:EA}(hy:y∈D.L)(hn:y.N=m):Mr x y:=by grind [mem,NS,ln]
theorem Rr.of(h:Rr R D){y:EA}(hy:y∈D.L):∃x,R.members.get y.N=some x/\Mr x y:=by cases hx:R.members.get y.N<;>grind [no,at_]
theorem X3(z:Sz D)(h:Rr R D)(n:Int):T (dS D n) λv=>match R.members.get n with
  |none=>v= -1
  |some x=>∃(k:Nat) (y:EA),v=(k:Int)/\D.L[k]?=some y/\y.N=n/\Mr x y:=by
 refine(Amo z n).mono λv hv=>?_
 grind [Rr,Rr.of]
theorem Ah2(z:Sz D)(h:Rr R D)(n:Int):se D n=some (M2 R n):=by unfold se;refine T.eq (.bind ((X3 z h n).mono λv hv=>?_));grind [M2,T.some,au,Mr.role]
theorem Rr.ins(h:Rr R D)(d:Int):Qs R d=decide (d∈D.In):=by grind [Qs,in_,Hx]
theorem inE(z:Sz D)(h:Rr R D)(d:Int):fb D.In d=some (Qs R d):=by rw[cX z.i,JH,h.ins]
theorem Amp(z:Sz D)(h:Rr R D)(d:Int):Fd D d=some (Hx (R.was.get d)):=by grind [Fd,cX,Sz.i,Sz.g,JH,Rr.was,Hx]
theorem ZL(z:Sz D)(h:Rr R D)(d:Int):nW D d=some (D5 R d):=by grind [nW,D5,Amp,ofE,Rr.card]
theorem Aku(z:Sz D)(i:Ab):T (jN D i) λv=>(v= -1/\∀y∈D.L,¬(y.Is=true/\y.ID=i))\/∃(k:Nat) (y:EA),v=(k:Int)/\D.L[k]?=some y/\y.Is=true/\y.ID=i:=by
 have:=z.l;unfold jN;refine .bind ((T.search D.L (λx=>x.Is&&decide (x.ID=i)) (λk _=>(k:Int)) aa (λk x hx hk=>?_) ?_).mono ?_)
 .grind [qQ,eA,au,aq]
 .grind [qQ,eF]
 .rintro r (⟨rfl,hn⟩|⟨k,y,hy,hp,rfl,hn⟩)
  .exact .some (by grind)
  .have hp2:y.Is=true/\y.ID=i:=by grind
   exact .some (by grind)
theorem Akv(z:Sz D)(h:Rr R D)(hR:Bn R)(i:Ab):T (jN D i) λv=>match R.members.es.find? λe=>Ly e.2.1 i with
  |none=>v= -1
  |some e=>∃(k:Nat) (y:EA) (g:CB),v=(k:Int)/\D.L[k]?=some y/\y.N=e.1/\Mr e.2.1 y/\e.2.1.guard=some g/\g.id=i/\R.members.get e.1=some e.2.1:=by
 refine(Aku z i).mono ?_
 rintro v (⟨rfl,hn⟩|⟨k,y,rfl,hy,hp2⟩)
 .cases hf:R.members.es.find? λe=>Ly e.2.1 i with
  |none=>rfl
  |some e=>obtain⟨hx,_⟩:=hR.mem (List.mem_of_find?_eq_some hf);grind [Rr.mem,Ly,Mr.gd]
 .have a:=bO hy
  obtain⟨x,hx,hm⟩:=h.of a
  cases hgd:x.guard with
  |none=>grind [Mr.no]
  |some g=>
   have h1:=hm.gd g hgd
   have hid:g.id=i:=by grind
   have hgx:Ly x i=true:=by grind [Ly]
   cases hf:R.members.es.find? λe=>Ly e.2.1 i<;>grind [Hr,Bn.mem,Bn.uni]
theorem ZM(z:Sz D)(h:Rr R D)(hR:Bn R)(o:Bp):T (nY D o) λv=>v.2=(Dd R o).2/\((Dd R o).2=0->∃(k:Nat) (y:EA) (x:Az) (g:CB),v.1=(k:Int)/\D.L[k]?=some y/\y.N=(Dd R o).1/\R.members.get (Dd R o).1=some x/\Mr x y/\x.guard=some g/\g.id=o.Of):=by
 unfold nY;refine .bind ((Akv z h hR o.Of).mono λv hv=>?_);cases hf:R.members.es.find? λe=>Ly e.2.1 o.Of with
 |none=>grind [Dd,T.some]
 |some e=>
  rw[hf] at hv;obtain⟨k,y,g,rfl,hy,a,hm,hgd,hid,hx⟩:=hv;have eS:Dd R o=bif g.guards.any λy=>decide (o.By=y)then(e.1,0)else(0,14):=by grind [Dd]
  have h1:=hm.gd g hgd;grind [Bn.gn,au,cX,JH,T.some]
end
end Go.Proofs.YtghphhhpagagbaaGreatDoor
