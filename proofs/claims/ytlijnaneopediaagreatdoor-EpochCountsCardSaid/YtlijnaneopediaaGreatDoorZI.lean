/- Texts. -/
import Derived.Test.YtlijnaneopediaaGreatDoorQE
namespace Go.Proofs.YtlijnaneopediaaGreatDoor
set_option linter.unusedSectionVars false
set_option linter.unusedVariables false
set_option linter.unusedSimpArgs false
open Go.RowKit Tryz
attribute [local irreducible] Tr dz Gp
variable {α:Type}{gg:Aj}{ids l l0 r row:A3}{pv x y:Ab}{a b j k m p u v w:Nat}{d:Int}{s:FM Bf Int×FM Int Int}{L:Bj}
abbrev oS(al:Bb)(sen:FM Int Int):List HP:=mLs al++[hc (Akb sen)]
abbrev ρ5:DD:=[(0,0),(1,1),(2,2),(3,3),(4,4)]
abbrev ρ6:DD:=ρ5++[(5,5)]
abbrev ρ7:DD:=ρ6++[(6,6)]
abbrev kd5:List (Nat×Rk):=[(5,.row)]
abbrev stM(al:Bb)(sen:FM Int Int)(s:A3×FM Ab Bool):St:=(s0 115 fI [(1,.ref 3 0),(2,.mref 4),(7,.rsl 5 0 s.1.length)] (σ6 (wV al s.2) sen s.1) 6 3)
abbrev oMn(al:Bb)(sen:FM Int Int)(s:A3×FM Ab Bool)(n:Nat)(h:n=s.1.length):List HP:=hc h::oS (wV al s.2) sen++[hc (ac.imm s.1)]
abbrev stV(al:Bb)(sen:FM Int Int)(l:A3)(x:Ab)(v:FM Ab Bool)(k:Nat):St:=(s0 115 fI [(1,.ref 3 0),(2,.mref 4),(7,.rsl 5 0 l.length),(9,.ref 6 0),(85,aE aj al.row),(86,iG (ah al.row)),(87,iG (k:Int))] (σ6 (wV al v) sen l++[(6,Xj x)]) 7 3)
theorem Zv{al:Bb}{I:Gi}(h:AbH fI al I){s:Bk}(hS:ba prog fI 120 [.ptr (Ag al.g) 0,aE aj al.row] (aE cZ s))(r:s.length<=1000){v:FM Ab Bool}(hv0:Yb I al (NR I.cards s)=some v):SE prog fI 133 [.ref 0 0] (σ3 al) 3 3 (.tup []) (σ3 (wV al v)):=by
 have hn:=h.n;have hcn:=h.c.n;have hcl:cU al.row=some al.row:=by unfold cU aT;rw[Bz cq];rfl
 unfold Yb at hv0;refine dFP func133 ?_;refine Za (l:=I.cards) aa (λk:Nat=>(s0 115 fI [(1,.ref 3 0),(2,.mref 4),(17,aE bv I.cards),(18,iG (ah I.cards)),(19,iG (k:Int))] (σ5 al (Tk (I.cards.take k))) 5 3)) 1110122 [hf 17 h.g.cards] (oS al (Tk (I.cards.take 0))) (λB k x hx hz k5=>?_) (λB=>?_) [] ρ5 []
 .have hlt:=(cr hx).1;unfold Tk at k5⊢;rw[Hr,hx,Option.toList_some,LX,List.foldl_cons,List.foldl_nil] at k5;generalize (I.cards.take k).foldl (λ(m:FM Int Int) (c:DP)=>C6 m c.Device (12:Int)) ⟨[],0⟩=m at k5⊢;exact jw [hr 20 (C3 hx),Az 21 (bT.ixZ hz),Az 22 (bT.ptZ E2 hz),hmp 6 (AiM (σ:=(ob 5 127 (bv x))::σ5 al m) m rfl x.Device 12),hbb 26 (Xl (q:=k) aa)] (oS al (C6 m x.Device 12)) k5 [] ρ5 []
 .rw[DZ];refine yl (Bs':=[]) [1,1,0,1] (J:=(s0 115 fI [(1,.ref 3 0),(2,.mref 4)] (σ5 al (Tk I.cards)) 5 3)) [hr 20 (D4 (s:=I.cards))] (oS al (Tk I.cards)) ?_;refine Za (l:=s) aa (λk:Nat=>(s0 115 fI [(1,.ref 3 0),(2,.mref 4),(35,aE cZ s),(36,iG (ah s)),(37,iG (k:Int))] (σ5 al (UF (Tk I.cards) s k)) 5 3)) 11110122 [hf 35 hS] (oS al (Tk I.cards)) (λt k x hx hz k5=>?_) (λt=>?_) [] ρ5 []
  .have hlt:=(cr hx).1;have e:UF (Tk I.cards) s (k+1)=C6 (UF (Tk I.cards) s k) x (k:Int):=by show(match s[k]? with|some d=>_|none=>_)=_;rw[hx]
   rw[e] at k5;generalize UF (Tk I.cards) s k=m at k5⊢;exact jw [hr 38 (C3 hx),Az 40 (rZ.ixZ hz),Az 41 (rZ.p1Z tZ hz),hmp 5 (AiM (σ:=σ5 al m) m rfl x (k:Int)),hbb 45 (Xl (q:=k) aa)] (oS al (C6 m x (k:Int))) k5 [] ρ5 []
  .rw[show UF (Tk I.cards) s s.length=NR I.cards s from rfl];generalize NR I.cards s=sen at hv0⊢;refine yl (Bs':=[]) [1,1,1,0,1] (J:=(s0 115 fI [(1,.ref 3 0),(2,.mref 4)] (σ5 al sen) 5 3)) [hr 38 (D4 (s:=s))] (oS al sen) ?_;refine pN (stM al sen) [1,1,1,1,1,2,2] hv0 [ho 50 [aE aj al.row] [] (jY fI hcl) (Zy _),hdl 52 6 (al:=al) (fi:=228) (del:=λx=> !Gq (I.o x).Kind) aH (λx=>Ah0 h.g x) (l:=al.row) hn rfl] (oMn al sen (al.row.filter (λx=> !!Gq (I.o x).Kind),al.void) _ rfl) (λA z C hs k5 w=>?_) [] ρ6 kd5;obtain⟨l,vd⟩:=z;unfold Aem at hs;dsimp only at hs;cases b0:decide (l.length<=1000) with
   |false=>rw[b0] at hs;cases hs
   |true=>
   rw[b0,ax] at hs;have hln:=DS b0;have h':AbH fI (wV al vd) I:=⟨h.g,h.c,h.o,h.n⟩;have hkl:=λx y=>Ub h.g x y;generalize e1:(l.filter λx=> !AB (vd.get x))=l1 at hs;have hl1:l1.length<=1000:=by rw[<-e1];exact LV (M0 _ _) hln
   rcases bC hs with⟨b1,hs⟩|⟨b1,hs⟩
   .obtain rfl:=Bo hs;obtain rfl:=w _ rfl;exact ZT [hdl 55 6 (gl:=fI) (al:=wV al vd) (fi:=230) (del:=λx=>AB (vd.get x)) aH (λx=>AaC x) (l:=l) hln e1,hr 58 b1] (mLs (wV al vd)) [(0,0),(1,1),(2,2)] []
   .obtain⟨i,ei,hs⟩:=bS hs;obtain⟨x,p,hs⟩:=bS hs;obtain⟨k,rfl⟩:∃k:Nat,i=(k:Int):=by
     unfold aS at p;split at p
     .exact⟨i.toNat,aa⟩
     .cases p
    have hkx:l1[k]?=some x:=by rw[<-au];exact p
    have f:=(cr hkx).1;rw[E0] at hs;have hle:l1.length-1=(l1.eraseIdx k).length:=by rw[List.length_eraseIdx,Bz f]
    have hF:=Agi h'.g h'.n hl1 ei;have hg:=Aay h';have hgn:(EA I (wV al vd)).length<=1000:=LV Td.2 (by simpa using hn);cases c2:(EA I (wV al vd)).any (λz=>decide (x=z)) with
    |false=>rw[c2,AQ] at hs;obtain rfl:=Bo hs;have j:=AaG (gl:=fI) (l:=EA I (wV al vd)) (x:=x) (i:=7) (c:=8) hgn;rw[c2] at j;exact jw [hdl 55 6 (gl:=fI) (al:=wV al vd) (fi:=230) (del:=λx=>AB (vd.get x)) aH (λx=>AaC x) (l:=l) hln e1,hr 58 b1,hz 62 [0,1,2,3,4,5] (AbL (c:=6) hF),Az 65 (ac.ixrZ 5 p),Az 66 (ac.pt0Z aW p),hbb 70 (Xl (q:=k) aa),tN 71 [5] 7 [(5,Bt l1)] [.rsl 5 0 l1.length,iG (k:Int),iG ((k+1:Nat):Int)] [(0,Bt (l1.eraseIdx k))] (Zu fI hl1 f) ⟨⟨rfl,.inr ⟨rfl,ac.imm l1⟩⟩,trivial⟩ ⟨⟨rfl,.inr ⟨rfl,ac.imm _⟩⟩,trivial⟩,hz 73 [0,1,2] (U1 (c:=7) hg),hz 75 [7] j,hmr 8 (Aj9 (σ:=[(1,WG vd)]) (i:=1) vd rfl x)] (oMn al sen (l1.eraseIdx k,C6 vd x true) _ hle) (k5 _ rfl) [] ρ6 kd5
    |true=>
     rw[c2,ax] at hs;obtain rfl:=Bo hs;have k5:=k5 _ rfl;have j:=AaG (gl:=fI) (l:=EA I (wV al vd)) (x:=x) (i:=7) (c:=8) hgn;rw[c2] at j;refine pN (λq:Nat=>stV al sen (l1.eraseIdx k) x ((al.row.take q).foldl (vFu I al.row (l1.eraseIdx k) x) vd) q) [1,1,1,1,1,2,2,2,1,1,1,1,1,1,1,2,2] (Aau (n:=al.row.length) aa) [hdl 55 6 (gl:=fI) (al:=wV al vd) (fi:=230) (del:=λx=>AB (vd.get x)) aH (λx=>AaC x) (l:=l) hln e1,hr 58 b1,hz 62 [0,1,2,3,4,5] (AbL (c:=6) hF),Az 65 (ac.ixrZ 5 p),Az 66 (ac.pt0Z aW p),hbb 70 (Xl (q:=k) aa),tN 71 [5] 7 [(5,Bt l1)] [.rsl 5 0 l1.length,iG (k:Int),iG ((k+1:Nat):Int)] [(0,Bt (l1.eraseIdx k))] (Zu fI hl1 f) ⟨⟨rfl,.inr ⟨rfl,ac.imm l1⟩⟩,trivial⟩ ⟨⟨rfl,.inr ⟨rfl,ac.imm _⟩⟩,trivial⟩,hz 73 [0,1,2] (U1 (c:=7) hg),hz 75 [7] j] (oMn al sen (l1.eraseIdx k,vd) _ hle) (λD q E hs b F=>?_) [] ρ7 kd5;have hl2:(l1.eraseIdx k).length<=1000:=aa;generalize l1.eraseIdx k=l2 at k5 b hl2⊢;unfold Aed at hs;split at hs
     .rename_i hlt;obtain rfl:=Bo hs;obtain⟨y,hy⟩:∃y,al.row[q]?=some y:=⟨_,Ef hlt⟩;have a:=Bp hy;have b:=b _ rfl;rw[Hr,hy,Option.toList_some,LX,List.foldl_cons,List.foldl_nil] at b;generalize (al.row.take q).foldl (vFu I al.row l2 x) vd=u at b⊢;have hk:=hkl x y;unfold vFu at b;cases kk:DG I x y with
      |true=>rw[kk] at hk b;exact jw [hr 88 (C3 hy),Az 89 (ac.ixZ a),Az 90 (ac.ptZ aW a),hf 97 hk,hmr 8 (Aj9 (σ:=[(1,WG u)]) (i:=1) u rfl y),hbb 114 (Xl (q:=q) aa)] (oMn al sen (l2,C6 u y true) _ rfl) b [] ρ7 kd5
      |false=>
       rw[kk,AQ] at b;rw[kk] at hk;have hct:=AaG (gl:=fI) (l:=l2) (x:=y) (i:=5) (c:=8) hl2;cases cc:l2.any (λz=>decide (y=z)) with
       |false=>rw[cc] at hct b;exact jw [hr 88 (C3 hy),Az 89 (ac.ixZ a),Az 90 (ac.ptZ aW a),hf 97 hk,hz 101 [5] hct,hbb 114 (Xl (q:=q) aa)] (oMn al sen (l2,u) _ rfl) b [] ρ7 kd5
       |true=>
        have hw:=Agp (al:=wV al u) (c:=8) h.g h.n x y;rw[show(wV al u).row=al.row from rfl] at hw;rw[cc,Bool.true_and] at b;rw[cc] at hct;cases ww:DQ I al.row x y with
        |false=>rw[ww] at hw b;exact jw [hr 88 (C3 hy),Az 89 (ac.ixZ a),Az 90 (ac.ptZ aW a),hf 97 hk,hz 101 [5] hct,hz 106 [0,1,2] hw,hbb 114 (Xl (q:=q) aa)] (oMn al sen (l2,u) _ rfl) b [] ρ7 kd5
        |true=>rw[ww] at hw b;exact jw [hr 88 (C3 hy),Az 89 (ac.ixZ a),Az 90 (ac.ptZ aW a),hf 97 hk,hz 101 [5] hct,hz 106 [0,1,2] hw,hmr 8 (Aj9 (σ:=[(1,WG u)]) (i:=1) u rfl y),hbb 114 (Xl (q:=q) aa)] (oMn al sen (l2,C6 u y true) _ rfl) b [] ρ7 kd5
     .split at hs
      .rename_i he;subst he;unfold vAl at k5;rw[DZ];generalize al.row.foldl (vFu I al.row l2 x) vd=u at k5⊢;exact jw [hr 88 (D4 (s:=al.row))] (oMn al sen (l2,u) _ rfl) k5 [] ρ6 kd5
      .cases hs
theorem Akd{K V:Type}:RT (⟨[],0⟩:FM K V):=by grind [RT,FxOk]
def ofV(vs:A3):FM Ab Bool:=vs.foldl (λm x=>C6 m x true) ⟨[],0⟩
theorem Ake{vs:A3}:RT (ofV vs):=by
 have key:∀(l:A3) (m:FM Ab Bool),RT m->RT (l.foldl (λm x=>C6 m x true) m):=by intro l;induction l<;>grind [Ow]
 exact key vs _ Akd
def LC(gg:Aj)(row vs:A3):Bb:=⟨gg,row,ofV vs,ofV vs⟩
abbrev hsI(d i c:Nat){m:FM Ab Bool}(k:Ab):HP:=hme d [i] c (AjP (P:=prog) (σ:=[(i,WG m)]) (t:=tMI) (t':=tMI) (et:=4) (v0:=false) jt AiN aH aH (k:=k) (gk:= .agg (aj k)) rfl R3)
abbrev AlY(d i c:Nat){m:FM Ab Bool}(k:Ab)(h:FxOk m):HP:=hms d [i] c (AjQ (σ:=[(i,some (Nh tMI ga bG (C6 m k ((m.get k).getD false))))]) (i:=i) (t':=tMI) (kv:=ga) (vg:=bG) (m:=m) (k:=k) (v0:=(m.get k).getD false) h R3 true)
section
variable {gl:Cd}
theorem AiQ{vs:A3}(hO:ba prog gl 62 [.ptr (Ag gg) 0,aE aj ids] (aE aj row))(hV:ba prog gl 227 [.ptr (Ag gg) 0,aE aj ids] (aE aj vs))(hn:vs.length<=1000):SE prog gl 132 [.ptr (Ag gg) 0,aE aj ids] [] 0 0 (.ref 0 0) (σ3 (LC gg row vs)):=by
 refine dFP func132 ?_;refine Za (l:=vs) aa (λk:Nat=>(s0 40 gl [(5,.ref 0 0),(18,aE aj vs),(19,iG (ah vs)),(20,iG (k:Int))] (σ3 (LC gg row (vs.take k))) 3 0)) 1110122 [hf 11 hO,hf 18 hV] (mLs (LC gg row (vs.take 0))) (λB k x hx hz k5=>?_) (λB=>?_) [] [(0,2),(1,0),(2,1)] []
 .have hlt:=(cr hx).1;have e:LC gg row (vs.take (k+1))=⟨gg,row,C6 (ofV (vs.take k)) x true,C6 (ofV (vs.take k)) x true⟩:=by unfold LC ofV;rw[Hr,hx,Option.toList_some,LX];rfl
  have hm:=Ake (vs:=vs.take k);rw[e] at k5;unfold LC;generalize ofV (vs.take k)=m at k5 hm⊢;exact jw [hr 21 (C3 hx),Az 22 (ac.ixZ hz),Az 23 (ac.ptZ aW hz),hsI 34 1 4 (m:=m) x,AlY 35 1 4 x hm.1,hsI 36 2 4 (m:=m) x,AlY 37 2 4 x hm.1,hbb 38 (Xl (q:=k) aa)] (mLs ⟨gg,row,C6 m x true,C6 m x true⟩) k5 [] [(0,0),(1,1),(2,2)] []
 .rw[DZ];exact ZT [hr 21 (D4 (s:=vs))] (mLs (LC gg row vs)) [(0,0),(1,1),(2,2)] []
end
def Aen(I:Gi)(al:Bb)(s:Bk):Option A3:=(Yb I al (NR I.cards s)).map λv=>EA I (wV al v)
theorem Ah6{κ:Nat->Fs}{al:Bb}(h0:κ 0=some 0)(h1:κ 1=some 1)(h2:κ 2=some 2):Abi κ (σ3 al) (σ3 al):=λk o h=>by
 match k with
 |0=>obtain⟨a,e⟩:=AaE (v:=1) (f:=2) h1 h2 o h;exact⟨0,a,h0,e⟩
 |1=>obtain⟨a,e⟩:=PR o h;exact⟨1,a,h1,e⟩
 |2=>obtain⟨a,e⟩:=PR o h;exact⟨2,a,h2,e⟩
 |j+3=>cases h
theorem in3{al:Bb}:InP (vi [0,1,2]) [0,1,2] (σ3 al) (σ3 al):=λk o h=>by
 match k with
 |0=>obtain⟨a,e⟩:=AaE (κ:=vi [0,1,2]) (v:=1) (f:=2) rfl rfl o h;exact⟨0,a,rfl,e⟩
 |1=>obtain⟨a,e⟩:=PR (κ:=vi [0,1,2]) o h;exact⟨1,a,rfl,e⟩
 |2=>obtain⟨a,e⟩:=PR (κ:=vi [0,1,2]) o h;exact⟨2,a,rfl,e⟩
 |j+3=>cases h
theorem Aeo{I:Gi}{ids row vs:A3}{s:Bk}{r:A3}(h:AbH fI (LC gg row vs) I)(hO:ba prog fI 62 [.ptr (Ag gg) 0,aE aj ids] (aE aj row))(hV:ba prog fI 227 [.ptr (Ag gg) 0,aE aj ids] (aE aj vs))(hn:vs.length<=1000)
  (hS:ba prog fI 120 [.ptr (Ag gg) 0,aE aj row] (aE cZ s)) (a:s.length<=1000) (hr:Aen I (LC gg row vs) s=some r):ba prog fI 68 [.ptr (Ag gg) 0,aE aj ids] (aE aj r):=by
 unfold Aen at hr
 cases hd:Yb I (LC gg row vs) (NR I.cards s) with
 |none=>rw[hd] at hr;cases hr
 |some v=>
  rw[hd] at hr
  obtain rfl:=Bo hr
  have h':AbH fI (wV (LC gg row vs) v) I:=⟨h.g,h.c,h.o,h.n⟩
  have hg:=Aay h'
  have hof:=AiQ hO hV hn
  have b:=Zv h hS a hd
  generalize LC gg row vs=al at*
  refine Gh func68 ?_
  exact Ar [hfm 8 [] 0 3 0 [] [.ptr (Ag gg) 0,aE aj ids] (σ3 al) hof AcI (Ah6 rfl rfl rfl),hfm 10 [0,1,2] 3 0 3 (σ3 al) [.ref 0 0] (σ3 (wV al v)) b in3 (Ah6 rfl rfl rfl),hz 12 [0,1,2] (U1 (al:=wV al v) (c:=3) hg)] [hc (ac.al (EA I (wV al v)))]
def Xc(o:Bi):JI:=bif o.Kind=1 then some o.By else bif o.Kind=2 then some o.Device else bif o.Kind=13 then some o.Device else none
def OJ(I:Gi)(acc:Bk)(x:Ab):Bk:=match Xc (I.o x) with
 |none=>acc
 |some d=>bif acc.any (λy=>decide (d=y))then acc else acc++[d]
def Mi(I:Gi)(row:A3):Bk:=row.foldl (OJ I) []
theorem Agq{I:Gi}{acc:Bk}:(OJ I acc x).length<=acc.length+1:=by grind [OJ]
theorem Xd{I:Gi}:∀{l:A3} {acc:Bk},(l.foldl (OJ I) acc).length<=acc.length+l.length
 |[],acc=>Dx _
 |x::r,acc=>by have h1:=Xd (I:=I) (l:=r) (acc:=OJ I acc x);grind [Agq]
section
variable {gl:Cd} {gg:Aj}
abbrev Akf(gg:Aj)(ids:A3):G:= .clo (.func 307) [] [.ptr [.ptr (Ag gg) 0] 0,.ptr [aE aj ids] 0]
theorem Ah7(ids:A3):ba prog gl 216 [.ptr (Ag gg) 0,aE aj ids] (Akf gg ids):=by refine Gh func216 ?_;refine pO [1,0] (s0 6 gl [(2,.ptr [.ptr (Ag gg) 0] 0),(3,.ptr [aE aj ids] 0)] [] 0 0) [] [hc (eB (gs:=[.ptr (Ag gg) 0]) aH),hc (aY (aG 20 (aE aj ids) aH) bf)] ?_;exact Ar [] []
noncomputable abbrev cSe:Code:=bq 111012 (ai Tryz.f120)
noncomputable abbrev UG(st:LoopState):Option Ob:=some ⟨0,[],some (.loop st none 22 [(5,.ref 0 0)] (Dy cSe) (Dz cSe) (DA cSe))⟩
abbrev AlZ(gg:Aj)(row:A3)(k:Nat):Fr:=[(0,.yld 1),(1,.ptr [.ptr (Ag gg) 0] 0),(11,aE aj row),(12,iG (ah row)),(13,iG (k:Int))]
noncomputable abbrev σCa(acc:Bk):aQ:=[(0,X5 (.rsl 2 0 acc.length)),(1,UG .ready),(2,JG acc)]
noncomputable abbrev Akg(gl:Cd)(gg:Aj)(row:A3)(k:Nat)(acc:Bk):St:=(s0 40 gl (AlZ gg row k) (σCa acc) 3 2)
noncomputable abbrev Yc(gl:Cd)(gg:Aj)(row:A3)(k:Nat)(acc:Bk)(x:Ab)(d:Int):St:=(s0 40 gl ((5,.ref 3 0)::(8,iG d)::AlZ gg row k) (σCa acc++[(3,Xj x)]) 4 2)
abbrev ρC3:DD:=[(0,0),(1,1),(2,2)]
abbrev ρC4:DD:=[(0,0),(1,1),(2,2),(3,3)]
theorem Ags{l:Bk}{d:Int}{i c:Nat}(hn:l.length<=1000000):oJ prog gl 123 [.rsl i 0 l.length,iG d] [(i,JG l)] c (bG (l.any λy=>decide (d=y))) [] c:=
 Ou aH (DH gl (Uw aa d)) (lR _) rfl λst h j y z h1 h2=>by
  match j with
  |0=>cases h1;cases h2;have ho:ag st.σ i=JG l:=h i _ (by rw[Bc,Bz rfl]);exact FD (s:=1) ho aH (by grind [A9.len,rZ]) (rZ.len l) (by grind [jB,A9.imm,rZ])
  |1=>grind [jB,mN]
  |j+2=>cases h1
theorem Sp{I:Gi}(h:O8 gl gg I){ids row:A3}(hO:ba prog gl 62 [.ptr (Ag gg) 0,aE aj ids] (aE aj row))(hn:row.length<=1000):ba prog gl 120 [.ptr (Ag gg) 0,aE aj ids] (aE cZ (Mi I row)):=by
 refine Gh func120 ?_;refine YR [1,1,0,1,2] (s0 22 gl [(5,.ref 0 0),(10,Akf gg ids)] [(0,X5 (.lit (.slice none 0 0)))] 1 0) [hf 10 (Ah7 (gl:=gl) (gg:=gg) ids)] ?_;refine Xt (fst:=[]) (cap:=[.ptr [.ptr (Ag gg) 0] 0,.ptr [aE aj ids] 0]) Tryz.f307 func307 ?_;refine Za (l:=row) aa (λk:Nat=>Akg gl gg row k ((row.take k).foldl (OJ I) [])) [1,2,2] [hf 11 hO] [hc (rZ.imm [])] (λB k x hx e k5=>?_) (λB=>?_) (vs:=[3]) (ρ:=ρC3) (kd:=[(2,.row)])
 .have hlt:=(cr hx).1;have hal:=Xd (I:=I) (l:=row.take k) (acc:=[]);rw[LW,List.length_nil] at hal;rw[Hr,hx,Option.toList_some,LX,List.foldl_cons,List.foldl_nil] at k5;generalize (row.take k).foldl (OJ I) []=acc at k5 hal⊢;have ho:=h.op x;have hb2:k<1000000:=aa;have fin:∀d,B (Akg gl gg row (k+1) (bif acc.any (λy=>decide (d=y))then acc else acc++[d]))->Gp prog Tryz.f307 (sI prog (s0 22 gl [(5,.ref 0 0),(10,Akf gg ids)] [(0,X5 (.lit (.slice none 0 0)))] 1 0) (dz prog (bE [1,1,0,1,2] (ai Tryz.f120) [] []) (tH prog Tryz.f120 (aE cZ (Mi I row))))) [B] false [1,2,2,1,1,0,2,1,1,1,1,0] (Yc gl gg row k acc x d):=λd hB=>by
   have f:=Ags (gl:=gl) (l:=acc) (d:=d) (i:=2) (c:=4) aa;cases cc:acc.any (λy=>decide (d=y)) with
   |true=>
    rw[cc] at hB f;refine Xw (i:=1) (j:=3) (n:=22) (t:=0) (t2:=0) (pe:=none) (fr:=[(5,.ref 0 0)]) (ps:=Dy cSe) (a:=Dz cSe) (b:=DA cSe) (s1:=(s0 40 gl ([(36,iG d),(35,.agg (aj x)),(34,.yld 1)]++(Yc gl gg row k acc x d).fr) ((Yc gl gg row k acc x d).σ) 4 2))
     (s3:=(s0 40 gl ([(38,bG false),(37,bG true),(36,iG d),(35,.agg (aj x)),(34,.yld 1)]++(Yc gl gg row k acc x d).fr) ((1,UG .ready)::[(0,X5 (.rsl 2 0 acc.length)),(1,UG .busy),(2,JG acc)]) 4 2))
     [(0,X5 (.rsl 2 0 acc.length)),(1,UG .busy),(2,JG acc)] 4 (.loop .ready none 22 [(5,.ref 0 0)] (Dy cSe) (Dz cSe) (DA cSe)) [] [] ?_ ?_
    .refine C9 .normal ⟨22,gl,[(5,.ref 0 0),(7,iG d)],[(0,X5 (.rsl 2 0 acc.length)),(1,UG .ready),(2,JG acc)],4,4,true⟩ [] [hc (rfl:acc.length=acc.length),hc (rZ.imm acc)] (Xv Tryz.f120 ?_ rfl) (ρ:=ρC4);exact C9 .normal ⟨22,gl,[],[(0,X5 (.rsl 2 0 acc.length)),(1,UG .busy),(2,JG acc)],4,4,true⟩ [hz 15 [2] f] [hc (rfl:acc.length=acc.length),hc (rZ.imm acc)] (by grind [jy]) (ρ:=ρC4) (kd:=[(2,.row)])
    .exact jw [hbb 39 (Xl (q:=k) aa)] [hc (rfl:acc.length=acc.length),hc (rZ.imm acc)] hB [] ρC3 [(2,.row)]
   |false=>
    rw[cc] at hB f;refine Xw (i:=1) (j:=3) (n:=22) (t:=0) (t2:=0) (pe:=none) (fr:=[(5,.ref 0 0)]) (ps:=Dy cSe) (a:=Dz cSe) (b:=DA cSe) (s1:=(s0 40 gl ([(36,iG d),(35,.agg (aj x)),(34,.yld 1)]++(Yc gl gg row k acc x d).fr) ((Yc gl gg row k acc x d).σ) 4 2))
     (s3:=(s0 40 gl ([(38,bG false),(37,bG true),(36,iG d),(35,.agg (aj x)),(34,.yld 1)]++(Yc gl gg row k acc x d).fr) ((1,UG .ready)::[(0,X5 (.rsl 4 0 (acc++[d]).length)),(1,UG .busy),(4,JG (acc++[d]))]) 5 2))
     [(0,X5 (.rsl 4 0 (acc++[d]).length)),(1,UG .busy),(4,JG (acc++[d]))] 5 (.loop .ready none 22 [(5,.ref 0 0)] (Dy cSe) (Dz cSe) (DA cSe)) [] [] ?_ ?_
    .refine C9 .normal ⟨22,gl,[(5,.ref 0 0),(7,iG d)],[(0,X5 (.rsl 2 0 acc.length)),(1,UG .ready),(2,JG acc)],4,4,true⟩ [] [hc (rfl:acc.length=acc.length),hc (rZ.imm acc)] (Xv Tryz.f120 ?_ rfl) (ρ:=ρC4);exact C9 .normal ⟨22,gl,[],[(0,X5 (.rsl 4 0 (acc++[d]).length)),(1,UG .busy),(4,JG (acc++[d]))],5,4,true⟩ [hz 15 [2] f,Tn 20 rZ 8 acc d aa] [hc (el (acc++[d])),hc (rZ.imm (acc++[d]))] (by grind [jy]) (ρ:=rI 4++[(4,5)]) (kd:=[(4,.row)])
    .exact jw [hbb 39 (Xl (q:=k) aa)] [hc (el (acc++[d])),hc (rZ.imm (acc++[d]))] hB [] [(0,0),(1,1),(2,4)] [(2,.row)]
  unfold OJ at k5;generalize I.o x=o at ho k5;unfold Xc at k5;cases b1:decide (o.Kind=1) with
  |true=>rw[b1] at k5;exact pO 1122110211110 (Yc gl gg row k acc x o.By) [hr 14 (C3 hx),Az 15 (ac.ixZ e),Az 16 (ac.ptZ aW e),hf 20 ho,hr 26 b1] [hc (rfl:acc.length=acc.length),hc (rZ.imm acc)] (fin _ k5) [] ρC4 [(2,.row)]
  |false=>
   rw[b1,AQ] at k5;cases b2:decide (o.Kind=2) with
   |true=>rw[b2] at k5;exact pO 1122110211110 (Yc gl gg row k acc x o.Device) [hr 14 (C3 hx),Az 15 (ac.ixZ e),Az 16 (ac.ptZ aW e),hf 20 ho,hr 26 b1,hr 30 b2] [hc (rfl:acc.length=acc.length),hc (rZ.imm acc)] (fin _ k5) [] ρC4 [(2,.row)]
   |false=>
    rw[b2,AQ] at k5;cases b3:decide (o.Kind=13) with
    |true=>rw[b3] at k5;exact pO 1122110211110 (Yc gl gg row k acc x o.Device) [hr 14 (C3 hx),Az 15 (ac.ixZ e),Az 16 (ac.ptZ aW e),hf 20 ho,hr 26 b1,hr 30 b2,hr 31 b3] [hc (rfl:acc.length=acc.length),hc (rZ.imm acc)] (fin _ k5) [] ρC4 [(2,.row)]
    |false=>rw[b3] at k5;exact jw [hr 14 (C3 hx),Az 15 (ac.ixZ e),Az 16 (ac.ptZ aW e),hf 20 ho,hr 26 b1,hr 30 b2,hr 31 b3,hbb 39 (Xl (q:=k) aa)] [hc (rfl:acc.length=acc.length),hc (rZ.imm acc)] k5 [] ρC3 [(2,.row)]
 .rw[DZ];show Gp _ _ _ _ _ _ (Akg gl gg row row.length (Mi I row));generalize Mi I row=acc;refine C9 .normal (s0 40 gl [] [(0,X5 (.rsl 2 0 acc.length)),(1,UG .ready),(2,JG acc)] 3 2) [hr 14 (D4 (s:=row))] [hc (rfl:acc.length=acc.length),hc (rZ.imm acc)] (Xu ?_ rfl) (kd:=[(2,.row)]);exact Ar [] [hc (rZ.al acc)]
end
abbrev CmV(gl:Cd)(fi:FuncId)(fa fc:Bj)(cmp:Ab->Ab->Int):Prop:=R1 prog gl fi fa fc (λp:Ab×Ab=>[.agg (aj p.1),.agg (aj p.2)]) (λz:Int=>iG z) (λp=>some (cmp p.1 p.2))
abbrev Sq(fi:FuncId)(fa fc:Bj):G:= .clo (.func fi) fa fc
theorem imP(p:Ab×Ab):∀g∈([.agg (aj p.1),.agg (aj p.2)]:Bj),bB g:=aY (aG 20 (.agg (aj p.1)) aH) (aY (aG 20 (.agg (aj p.2)) aH) bf)
abbrev hcp(d c:Nat){gl:Cd}{fi:FuncId}{fa fc:Bj}{cmp:Ab->Ab->Int}(hv:CmV gl fi fa fc cmp)(x y:Ab):HP:=hz d [] (hv.cs (c:=c) (x:=(x,y)) rfl (imP (x,y)))
def AaH{α:Type}(cmp:α->α->Int)(a:Int)(s:List α×Int):Option ((List α×Int)⊕List α):=
 bif a<s.2 then(aS s.1 s.2).bind λx=>(aS s.1 (wI (s.2-1))).bind λy=>bif cmp x y<0 then(ji s.1 s.2 y).bind λw1=>(ji w1 (wI (s.2-1)) x).bind λw2=>some (.inl (w2,wI (s.2-1)))else some (.inr s.1)else some (.inr s.1)
def AaI{α:Type}(cmp:α->α->Int)(a b:Int)(s:List α×Int):Option ((List α×Int)⊕List α):=
 bif s.2<b then(AH (AaH cmp a) (s.1,s.2)).bind λl=>some (.inl (l,wI (s.2+1)))else some (.inr s.1)
def inI{α:Type}(cmp:α->α->Int)(a b:Int)(l:List α):Option (List α):=AH (AaI cmp a b) (l,wI (a+1))
theorem AiR{w1 w2:A3}{i j:Int}{a b:Ab}(h1:ji l i b=some w1)(h2:ji w1 j a=some w2):fh prog 26 (.rsl 0 0 l.length) j=some (.ref 0 (0+j.toNat*3)):=by rw[hZ h1];exact ac.ixsZ 0 h2
section
variable {gl:Cd} {fi:FuncId} {fa fc:Bj} {cmp:Ab->Ab->Int} (hv:CmV gl fi fa fc cmp)
include hv
theorem AdE{a b:Int}(h:inI cmp a b l=some r):jg prog gl 310 [.rsl 0 0 l.length,iG a,iG b,Sq fi fa fc] [(0,Bt l)] 1 (.tup []) [(0,Bt r)] 1:=by
 unfold inI at h;refine pP func310 ?_;refine pN (λs:A3×Int=>(s0 53 gl [(0,.rsl 0 0 s.1.length),(1,iG a),(2,iG b),(3,Sq fi fa fc),(8,iG s.2)] [(0,Bt s.1)] 1 1)) 1122 h [] [hc (el l),hc hv.im,hc (ac.imm l)] (λB s w hs k5 f=>?_);obtain⟨l1,i⟩:=s;unfold AaI at hs;dsimp only at hs;rcases bC hs with⟨b1,hs⟩|⟨b1,hs⟩
 .obtain⟨l2,e2,hs⟩:=bS hs;obtain rfl:=Bo hs;refine Ix 11221021 (s0 53 gl [(0,.rsl 0 0 l2.length),(1,iG a),(2,iG b),(3,Sq fi fa fc),(8,iG i)] [(0,Bt l2)] 1 1) ?_ λkk=>?_
  .exact jw [] [hc (el l2),hc hv.im,hc (ac.imm l2)] (k5 _ rfl)
  refine pN (λs:A3×Int=>(s0 53 gl [(0,.rsl 0 0 s.1.length),(1,iG a),(2,iG b),(3,Sq fi fa fc),(8,iG i),(9,iG s.2)] [(0,Bt s.1)] 1 1)) 1122102122 e2 [hr 14 b1] [hc (el l1),hc hv.im,hc (ac.imm l1)] (λk z v hz g e=>?_);obtain⟨l3,j⟩:=z;unfold AaH at hz;dsimp only at hz;rcases bC hz with⟨b2,hz⟩|⟨b2,hz⟩
  .obtain⟨x,c,hz⟩:=bS hz;obtain⟨y,d,hz⟩:=bS hz;rcases bC hz with⟨b3,hz⟩|⟨b3,hz⟩
   .obtain⟨w1,e1,hz⟩:=bS hz;obtain⟨w2,e3,hz⟩:=bS hz;obtain rfl:=Bo hz;exact jw [hr 20 b2,Az 25 (ac.ixrZ 0 c),Az 26 (ac.pt0Z aW c),Az 30 (ac.ixrZ 0 d),Az 31 (ac.pt0Z aW d),hcp 32 1 hv x y,hr 33 b3,Az 45 (ac.ixrZ 0 d),Az 46 (ac.pt0Z aW d),Az 49 (ac.ixrZ 0 c),Az 50 (ac.pt0Z aW c),Az 51 (ac.ixsZ 0 e1),hw 51 (w1.flatMap aj) (ac.putZ e1),Az 52 (AiR e1 e3),hw 52 (w2.flatMap aj) (ac.putZ e3)] [hc ((hZ e1).trans (hZ e3)),hc hv.im,hc (ac.imm w2)] (g _ rfl)
   .obtain rfl:=Bo hz;obtain rfl:=e _ rfl;exact yl 11221021 [hr 20 b2,Az 25 (ac.ixrZ 0 c),Az 26 (ac.pt0Z aW c),Az 30 (ac.ixrZ 0 d),Az 31 (ac.pt0Z aW d),hcp 32 1 hv x y,hr 33 b3] [hc (el l3),hc hv.im,hc (ac.imm l3)] kk
  .obtain rfl:=Bo hz;obtain rfl:=e _ rfl;exact yl 11221021 [hr 20 b2] [hc (el l3),hc hv.im,hc (ac.imm l3)] kk
 .obtain rfl:=Bo hs;obtain rfl:=f _ rfl;exact mt .normal (s0 53 gl [] [(0,Bt l1)] 1 1) [] [hr 14 b1] [hc (ac.imm l1)] (kd:=[(0,.row)])
omit hv
def swZ{α:Type}(l:List α)(i j:Nat):Option (List α):=(l[i]?).bind λx=>(l[j]?).bind λy=>some ((l.set i y).set j x)
theorem I6{l r:List α}{i j:Nat}(h:swZ l i j=some r):∃x y,l[i]?=some x/\l[j]?=some y/\r=(l.set i y).set j x:=by grind [swZ]
theorem stZ{l:List α}{i:Nat}{y x:α}(h:l[i]?=some y):ji l (i:Int) x=some (l.set i x):=by grind [ji]
theorem Ah9{l:List α}{i j:Nat}{y x z w:α}(h:l[j]?=some y):ji (l.set i z) (j:Int) x=some ((l.set i z).set j x):=by grind [ji]
theorem Ug{i:Nat}:l.length=((l.set i y).set j x).length:=by rw[List.length_set,List.length_set]
abbrev hsw(a b c d:Nat){l w:A3}{i j:Nat}{x y:Ab}(hx:l[i]?=some x)(hy:l[j]?=some y)(e:w=(l.set i y).set j x):List HP:=[Az a (ac.ixrZ 0 (Bp hy)),Az (a+1) (ac.pt0Z aW (Bp hy)),Az b (ac.ixrZ 0 (Bp hx)),Az (b+1) (ac.pt0Z aW (Bp hx)),Az c (ac.ixsZ 0 (stZ (x:=y) hx)),hw c ((l.set i y).flatMap aj) (ac.putZ (stZ (x:=y) hx)),Az d (AiR (stZ (x:=y) hx) (Ah9 (w:=x) (x:=x) (z:=y) (i:=i) hy)),hw d (w.flatMap aj) (e▸ac.putZ (Ah9 (w:=x) (x:=x) (z:=y) (i:=i) hy))]
theorem Hz{c:Bool}{x:Option α}{v:α}(h:(bif c then x else none)=some v):c=true/\x=some v:=by grind
theorem Agt(h:Nat.blt 0 j=true):∃k,j=k+1:=by simp_all
theorem Agu{v:Nat⊕α}(h:(bif Nat.blt 0 j then some (.inl (j-1))else none)=some v):∃k,j=k+1/\v= .inl k:=by
 cases j with
 |zero=>cases h
 |succ k=>grind
def scU(cmp:Ab->Ab->Int)(l:A3)(a j i:Nat):Option (Nat⊕Nat):=bif (i:Int)<=(j:Int)then(l[i]?).bind λx=>(l[a]?).bind λy=>bif cmp x y<0 then some (.inl (i+1))else some (.inr i)else some (.inr i)
def scD(cmp:Ab->Ab->Int)(l:A3)(a i j:Nat):Option (Nat⊕Nat):=bif (i:Int)<=(j:Int)then(l[j]?).bind λx=>(l[a]?).bind λy=>bif cmp x y<0 then some (.inr j)else bif Nat.blt 0 j then some (.inl (j-1))else none else some (.inr j)
def paT(cmp:Ab->Ab->Int)(a:Nat)(s:A3×Nat×Nat):Option ((A3×Nat×Nat)⊕(A3×Nat)):=
 bif s.1.length<=1000 then(AH (scU cmp s.1 a s.2.2) s.2.1).bind λi=>(AH (scD cmp s.1 a i) s.2.2).bind λj=>bif (j:Int)<(i:Int)then some (.inr (s.1,j))else bif Nat.blt 0 j then(swZ s.1 i j).bind λl=>some (.inl (l,i+1,j-1))else none else none
def paS(cmp:Ab->Ab->Int)(a b p:Nat)(l:A3):Option (Nat×Bool×A3):=
 (
  swZ l a p).bind λl0=>(AH (scU cmp l0 a (b-1)) (a+1)).bind λi=>(AH (scD cmp l0 a i) (b-1)).bind λj=>
  bif (j:Int)<(i:Int)then(swZ l0 j a).bind λr=>some (j,true,r)else bif Nat.blt 0 j then(swZ l0 i j).bind λl1=>(AH (paT cmp a) (l1,i+1,j-1)).bind λs=>(swZ s.1 s.2 a).bind λr=>some (s.2,false,r)else none
include hv
abbrev AaJ(gl:Cd)(fi:FuncId)(fa fc:Bj)(a b:Nat)(l:A3)(i j:Nat):St:=(s0 178 gl [(0,.rsl 0 0 l.length),(1,iG (a:Int)),(2,iG (b:Int)),(4,Sq fi fa fc),(12,iG (i:Int)),(13,iG (j:Int))] [(0,Bt l)] 1 1)
theorem Q4{a b p:Nat}{f:Bool}(hl:l.length<=1000)(ha:a<1000)(hb1:1<=b)(hb2:b<=1000)(h:paS cmp a b p l=some (m,f,r)):jg prog gl 317 [.rsl 0 0 l.length,iG (a:Int),iG (b:Int),iG (p:Int),Sq fi fa fc] [(0,Bt l)] 1 (.tup [iG (m:Int),bG f]) [(0,Bt r)] 1:=by
 obtain⟨b,rfl⟩:∃q,b=q+1:=⟨b-1,aa⟩;unfold paS at h;rw[Nat.add_sub_cancel] at h;obtain⟨l0,e0,h⟩:=bS h;obtain⟨i,ei,h⟩:=bS h;obtain⟨j,ej,h⟩:=bS h;obtain⟨D,E,h1,h2,e0⟩:=I6 e0;have hl0:l.length=l0.length:=by rw[e0];exact Ug
 refine pP func317 ?_;refine Ix 11110 (AaJ gl fi fa fc a (b+1) l0 i b) ?_ λkk=>?_;rotate_left
 .have hl2:l0.length<=1000:=aa;refine pN (λq:Nat=>AaJ gl fi fa fc a (b+1) l0 q b) [1,1,1,0,2,2] ei (hsw 20 24 26 27 h1 h2 e0++[hbb 29 (Xl (q:=a) aa),hbb 31 (dec (q:=b) aa)]) [hc hl0,hc hv.im,hc (ac.imm l0)] (λu q v hz n g=>?_);unfold scU at hz;rcases bC hz with⟨b2,hz⟩|⟨b2,hz⟩
  .obtain⟨x,c,hz⟩:=bS hz;obtain⟨y,d,hz⟩:=bS hz;have hq:=(cr c).1;rcases bC hz with⟨b3,hz⟩|⟨b3,hz⟩
   .obtain rfl:=Bo hz;exact jw [hr 34 b2,Az 39 (ac.ixrZ 0 (Bp c)),Az 40 (ac.pt0Z aW (Bp c)),Az 43 (ac.ixrZ 0 (Bp d)),Az 44 (ac.pt0Z aW (Bp d)),hcp 45 1 hv x y,hr 46 b3,hbb 49 (Xl (q:=q) aa)] [hc (rfl:l0.length=l0.length),hc hv.im,hc (ac.imm l0)] (n _ rfl)
   .obtain rfl:=Bo hz;obtain rfl:=g _ rfl;exact yl 11110 [hr 34 b2,Az 39 (ac.ixrZ 0 (Bp c)),Az 40 (ac.pt0Z aW (Bp c)),Az 43 (ac.ixrZ 0 (Bp d)),Az 44 (ac.pt0Z aW (Bp d)),hcp 45 1 hv x y,hr 46 b3] [hc (rfl:l0.length=l0.length),hc hv.im,hc (ac.imm l0)] kk
  .obtain rfl:=Bo hz;obtain rfl:=g _ rfl;exact yl 11110 [hr 34 b2] [hc (rfl:l0.length=l0.length),hc hv.im,hc (ac.imm l0)] kk
 have hl0:l0.length<=1000:=aa;clear e0 h1 h2 hl ei;refine Ix 111110 (AaJ gl fi fa fc a (b+1) l0 i j) ?_ λkk=>?_;rotate_left
 .skip;refine pN (λq:Nat=>AaJ gl fi fa fc a (b+1) l0 i q) [1,1,1,1,0,2,2] ej [] [hc (rfl:l0.length=l0.length),hc hv.im,hc (ac.imm l0)] (λu q v hz n g=>?_);unfold scD at hz;rcases bC hz with⟨b2,hz⟩|⟨b2,hz⟩
  .obtain⟨x,c,hz⟩:=bS hz;obtain⟨y,d,hz⟩:=bS hz;have hq:=(cr c).1;rcases bC hz with⟨b3,hz⟩|⟨b3,hz⟩
   .obtain rfl:=Bo hz;obtain rfl:=g _ rfl;exact yl 111110 [hr 52 b2,Az 57 (ac.ixrZ 0 (Bp c)),Az 58 (ac.pt0Z aW (Bp c)),Az 61 (ac.ixrZ 0 (Bp d)),Az 62 (ac.pt0Z aW (Bp d)),hcp 63 1 hv x y,hr 64 b3] [hc (rfl:l0.length=l0.length),hc hv.im,hc (ac.imm l0)] kk
   .obtain⟨k,rfl,rfl⟩:=Agu hz;exact jw [hr 52 b2,Az 57 (ac.ixrZ 0 (Bp c)),Az 58 (ac.pt0Z aW (Bp c)),Az 61 (ac.ixrZ 0 (Bp d)),Az 62 (ac.pt0Z aW (Bp d)),hcp 63 1 hv x y,hr 64 b3,hbb 68 (dec (q:=k) aa)] [hc (rfl:l0.length=l0.length),hc hv.im,hc (ac.imm l0)] (n _ rfl)
  .obtain rfl:=Bo hz;obtain rfl:=g _ rfl;exact yl 111110 [hr 52 b2] [hc (rfl:l0.length=l0.length),hc hv.im,hc (ac.imm l0)] kk
 clear ej;rcases bC h with⟨b1,h⟩|⟨b1,h⟩
 .obtain⟨r',A,h⟩:=bS h;simp only[Fk,Fu] at h;obtain⟨rfl,rfl,rfl⟩:=h;obtain⟨x,y,hx,hy,e⟩:=I6 A;exact mt .ret (s0 178 gl [(10,iG (j:Int)),(11,bG true)] [(0,Bt r')] 1 1) [iG (j:Int),bG true] (hr 71 b1::hsw 78 82 84 85 hx hy e) [hc (ac.imm r')] (kd:=[(0,.row)])
 obtain⟨hj,h⟩:=Hz h;obtain⟨j,rfl⟩:=Agt hj;rw[Nat.add_sub_cancel] at h;obtain⟨l1,e1,h⟩:=bS h;obtain⟨s,es,h⟩:=bS h;obtain⟨r',A,h⟩:=bS h;simp only[Fk,Fu] at h;obtain⟨rfl,rfl,rfl⟩:=h;obtain⟨x,y,hx,hy,e1⟩:=I6 e1;have hli:=(cr hx).1;have o:=(cr hy).1;have hl1:l0.length=l1.length:=by rw[e1];exact Ug
 refine pN (λz:A3×Nat×Nat=>AaJ gl fi fa fc a (b+1) z.1 z.2.1 z.2.2) [1,1,1,1,1,1,1,1,1,0,2,2] es (hr 71 b1::hsw 93 97 99 100 hx hy e1++[hbb 102 (Xl (q:=i) aa),hbb 104 (dec (q:=j) aa)]) [hc hl1,hc hv.im,hc (ac.imm l1)] (λB z w hs k5 C=>?_);clear hx hy e1 hli o hl1 b1 hl0;obtain⟨l1,i,j⟩:=z;unfold paT at hs;dsimp only at hs;cases b0:decide (l1.length<=1000) with
 |false=>rw[b0] at hs;cases hs
 |true=>
 rw[b0,ax] at hs;have hl1:=DS b0;obtain⟨i1,ei,hs⟩:=bS hs;obtain⟨t,ej,hs⟩:=bS hs;refine Ix 111111111102220 (AaJ gl fi fa fc a (b+1) l1 i1 j) ?_ λkk=>?_;rotate_left
 .skip;refine pN (λq:Nat=>AaJ gl fi fa fc a (b+1) l1 q j) [1,1,1,1,1,1,1,1,1,0,2,2,2,0,2,2] ei [] [hc (rfl:l1.length=l1.length),hc hv.im,hc (ac.imm l1)] (λu q v hz n g=>?_);unfold scU at hz;rcases bC hz with⟨b2,hz⟩|⟨b2,hz⟩
  .obtain⟨x,c,hz⟩:=bS hz;obtain⟨y,d,hz⟩:=bS hz;have hq:=(cr c).1;rcases bC hz with⟨b3,hz⟩|⟨b3,hz⟩
   .obtain rfl:=Bo hz;exact jw [hr 107 b2,Az 112 (ac.ixrZ 0 (Bp c)),Az 113 (ac.pt0Z aW (Bp c)),Az 116 (ac.ixrZ 0 (Bp d)),Az 117 (ac.pt0Z aW (Bp d)),hcp 118 1 hv x y,hr 119 b3,hbb 122 (Xl (q:=q) aa)] [hc (rfl:l1.length=l1.length),hc hv.im,hc (ac.imm l1)] (n _ rfl)
   .obtain rfl:=Bo hz;obtain rfl:=g _ rfl;exact yl 111111111102220 [hr 107 b2,Az 112 (ac.ixrZ 0 (Bp c)),Az 113 (ac.pt0Z aW (Bp c)),Az 116 (ac.ixrZ 0 (Bp d)),Az 117 (ac.pt0Z aW (Bp d)),hcp 118 1 hv x y,hr 119 b3] [hc (rfl:l1.length=l1.length),hc hv.im,hc (ac.imm l1)] kk
  .obtain rfl:=Bo hz;obtain rfl:=g _ rfl;exact yl 111111111102220 [hr 107 b2] [hc (rfl:l1.length=l1.length),hc hv.im,hc (ac.imm l1)] kk
 clear ei;refine Ix 1111111111022210 (AaJ gl fi fa fc a (b+1) l1 i1 t) ?_ λkk=>?_;rotate_left
 .skip;refine pN (λq:Nat=>AaJ gl fi fa fc a (b+1) l1 i1 q) [1,1,1,1,1,1,1,1,1,0,2,2,2,1,0,2,2] ej [] [hc (rfl:l1.length=l1.length),hc hv.im,hc (ac.imm l1)] (λu q v hz n g=>?_);unfold scD at hz;rcases bC hz with⟨b2,hz⟩|⟨b2,hz⟩
  .obtain⟨x,c,hz⟩:=bS hz;obtain⟨y,d,hz⟩:=bS hz;have hq:=(cr c).1;rcases bC hz with⟨b3,hz⟩|⟨b3,hz⟩
   .obtain rfl:=Bo hz;obtain rfl:=g _ rfl;exact yl 1111111111022210 [hr 125 b2,Az 130 (ac.ixrZ 0 (Bp c)),Az 131 (ac.pt0Z aW (Bp c)),Az 134 (ac.ixrZ 0 (Bp d)),Az 135 (ac.pt0Z aW (Bp d)),hcp 136 1 hv x y,hr 137 b3] [hc (rfl:l1.length=l1.length),hc hv.im,hc (ac.imm l1)] kk
   .obtain⟨k,rfl,rfl⟩:=Agu hz;exact jw [hr 125 b2,Az 130 (ac.ixrZ 0 (Bp c)),Az 131 (ac.pt0Z aW (Bp c)),Az 134 (ac.ixrZ 0 (Bp d)),Az 135 (ac.pt0Z aW (Bp d)),hcp 136 1 hv x y,hr 137 b3,hbb 141 (dec (q:=k) aa)] [hc (rfl:l1.length=l1.length),hc hv.im,hc (ac.imm l1)] (n _ rfl)
  .obtain rfl:=Bo hz;obtain rfl:=g _ rfl;exact yl 1111111111022210 [hr 125 b2] [hc (rfl:l1.length=l1.length),hc hv.im,hc (ac.imm l1)] kk
 clear ej;rcases bC hs with⟨b1,hs⟩|⟨b1,hs⟩
 .obtain rfl:=Bo hs;obtain rfl:=C _ rfl;obtain⟨x,y,hx,hy,e⟩:=I6 A;exact mt .ret (s0 178 gl [(10,iG (t:Int)),(11,bG false)] [(0,Bt r')] 1 1) [iG (t:Int),bG false] (hr 144 b1::hsw 169 173 175 176 hx hy e) [hc (ac.imm r')] (kd:=[(0,.row)])
 .obtain⟨hj,hs⟩:=Hz hs;obtain⟨t,rfl⟩:=Agt hj;rw[Nat.add_sub_cancel] at hs;obtain⟨l2,e2,hs⟩:=bS hs;obtain rfl:=Bo hs;obtain⟨x,y,hx,hy,e2⟩:=I6 e2;have hli:=(cr hx).1;have o:=(cr hy).1;have hl2:l1.length=l2.length:=by rw[e2];exact Ug
  exact jw (hr 144 b1::hsw 151 155 157 158 hx hy e2++[hbb 160 (Xl (q:=i1) aa),hbb 162 (dec (q:=t) aa)]) [hc hl2,hc hv.im,hc (ac.imm l2)] (k5 _ rfl)
end
section
variable {gl:Cd}
abbrev oLs(l:M2):Option Ob:=some ⟨22,l.flatMap Jc,none⟩
def AdU(s:M2×Nat×Nat):Option ((M2×Nat×Nat)⊕M2):=bif (s.2.1:Int)<(s.2.2:Int)-1 then(bif Nat.ble s.1.length 4000 then(swZ s.1 s.2.1 (s.2.2-1)).bind λw=>some (.inl (w,s.2.1+1,s.2.2-1))else none)else some (.inr s.1)
theorem Aln{q:Nat}(h:q<1000000):lD .sub (iG (q:Int)) (iG 1)=some (iG ((q:Int)-1)):=by grind [sb]
theorem Ajt{l r:M2}(hn:l.length<=4000)(h:AH AdU (l,0,l.length)=some r):jg prog gl 320 [.rsl 0 0 l.length] [(0,oLs l)] 1 (.tup []) [(0,oLs r)] 1:=by
 refine pP func320 ?_;refine pN (λs:M2×Nat×Nat=>(s0 28 gl [(0,.rsl 0 0 s.1.length),(2,iG (s.2.1:Int)),(3,iG ((s.2.2:Int)-1))] [(0,oLs s.1)] 1 1)) 1122 h [hbb 6 (Aln (q:=l.length) aa)] [hc (el l),hc (nH.imm l)] (λB s w hs k5 a=>?_);obtain⟨l1,i,j⟩:=s;unfold AdU at hs;dsimp only at hs;rcases bC hs with⟨b1,hs⟩|⟨b1,hs⟩
 .rcases bC hs with⟨b2,hs⟩|⟨b2,hs⟩;rotate_left;· cases hs
  obtain⟨w1,e0,hs⟩:=bS hs;obtain rfl:=Bo hs;obtain⟨j,rfl⟩:∃c,j=c+1:=⟨j-1,by have:=DS b1;omega⟩;rw[Nat.add_sub_cancel] at e0 k5;obtain⟨x,y,hx,hy,e1⟩:=I6 e0;have hw1:l1.length=w1.length:=by rw[e1,List.length_set,List.length_set]
  have hi:=(cr hx).1;have hj:=(cr hy).1;have hl:=E7 b2;rw[show((j+1:Nat):Int)-1=(j:Int) by omega] at b1⊢;exact jw [hr 9 b1,Az 20 (nH.ixrZ 0 (Bp hy)),Az 21 (nH.p10Z Vs (Bp hy)),Az 24 (nH.ixrZ 0 (Bp hx)),Az 25 (nH.p10Z Vs (Bp hx)),Az 26 (nH.ixsZ 0 (stZ (x:=y) hx)),hw 26 ((l1.set i y).flatMap Jc) (nH.putZ (stZ (x:=y) hx)),Az 27 (nH.ixsZ 0 (stZ (x:=x) hy)),hw 27 (w1.flatMap Jc) (e1▸nH.putZ (Ah9 (w:=x) (x:=x) (z:=y) (i:=i) hy)),hbb 11 (Xl (q:=i) aa),hbb 13 (Aln (q:=j) aa)] [hc hw1,hc (nH.imm w1)] (k5 _ rfl)
 .obtain rfl:=Bo hs;obtain rfl:=a _ rfl;exact mt .normal (s0 28 gl [] [(0,oLs l1)] 1 1) [] [hr 9 b1] [hc (nH.imm l1)] (kd:=[(0,.row)])
def LQ(s:M2):Option M2:=aT 24 [] s
theorem SG{s:M2}:LP prog gl (LQ s) 319 [aE Jc s] 22 Jc:=λr h=>by
 unfold LQ at h;refine OW func319 ?_;refine pO 1100 (s0 8 gl [(0,aE Jc s)] [] 0 0) [] [] ?_;refine IA 0 3 4 27 22 rfl (E7 aH) (E7 aH) λb hb=>?_;cases b
 .exact EI [Hj 7 nH h] (nH.imm _)
 .obtain rfl:=nH.isNil (hb rfl);obtain rfl:=mV h;exact EI [] (nH.imm [])
theorem AdV{l r:M2}(hn:l.length<=4000)(h:AH AdU (l,0,l.length)=some r)(hl:r.length=l.length):ba prog gl 226 [aE Jc l] (aE Jc r):=by refine Gh func226 ?_;have hC:=SG (gl:=gl) (s:=l) (r:=l) (by unfold LQ;grind [aT]);have hM:=Ajt (gl:=gl) hn h;rw[<-hl] at hC hM;exact Ar [hz 5 [] (UM (c:=0) aH hC (eB aH) (nH.imm l)),tN 7 [0] 1 [(0,oLs l)] [.rsl 0 0 r.length] [(0,oLs r)] hM ⟨⟨rfl,.inr ⟨rfl,nH.imm l⟩⟩,trivial⟩ ⟨⟨rfl,.inr ⟨rfl,nH.imm r⟩⟩,trivial⟩] [hc (nH.al r)]
theorem Ada{l:Bk}{a b r:M2}(hd:PG l d=some (a,b))(hn:a.length<=4000)(h:AH AdU (a,0,a.length)=some r)(hl:r.length=a.length):ba prog gl 131 [aE cZ l,iG d] (aE Jc r):=by refine Gh func131 ?_;exact Ar [hf 10 (Abl gl hd),hf 14 (AdV (gl:=gl) hn h hl)] []
end
theorem Ahg(n:Int):SF n=zZ n:=by
 have:PD n=AE n:=by grind [PD,AE]
 grind [SF,zZ]
def lfN(n:Nat):Nat:=((zZ (n:Int)).getD 0).toNat
theorem Y0{n:Nat}(h:2<=n)(hn:n<=1000000):zZ (n:Int)=some ((lfN n:Nat):Int)/\1<=lfN n/\lfN n<n:=by obtain⟨v,e,k,rfl,h1,h2⟩:=Oc h hn;grind [lfN]
def O0:Nat->Bk->M2
 |0,_=>[]
 |n+1,l=>if l.length=0 then[]else if l.length=1 then[l]else l::(O0 n (l.take (lfN l.length))++O0 n (l.drop (lfN l.length)))
def XV(d:Int):Nat->Bk->M2
 |0,_=>[]
 |n+1,l=>if l.length<=1 then[l]else l::(if d∈l.take (lfN l.length)then XV d n (l.take (lfN l.length))else XV d n (l.drop (lfN l.length)))
theorem SH(d:Int):∀(n m:Nat) (l:Bk),l.length<n->l.length<m->l.length<=1000000->XV d n l=XV d m l
 |0,_,_,h,_,_=>(by grind)
 |_,0,_,_,h,_=>(by grind)
 |n+1,m+1,l,h,h',hl=>by
  unfold XV;split
  .rfl
  .obtain⟨_,k1,k2⟩:=Y0 (n:=l.length) aa hl;rw[SH d n m (l.take (lfN l.length)) cq cq cq,SH d n m (l.drop (lfN l.length)) cq cq cq]
theorem aad:∀(nn:Nat) (l:Bk),l.length<nn->l.length<=1000000->KF nn l=some (O0 nn l)/\(O0 nn l).length<=2*l.length-1
 |0,_,h,_=>absurd h (Nat.not_lt_zero _)
 |nn+1,l,h,hl=>by
  unfold KF O0;by_cases h0:l.length=0
  .simp[ah,h0]
  by_cases h1:l.length=1
  .simp[ah,h1]
  obtain⟨e,k1,k2⟩:=Y0 (n:=l.length) aa hl;obtain⟨e2,n2⟩:=aad nn (l.take (lfN l.length)) cq cq;obtain⟨e3,a⟩:=aad nn (l.drop (lfN l.length)) cq cq;rw[show decide (ah l=0)=false from C5 (by unfold ah;omega),show decide (ah l=1)=false from C5 (by unfold ah;omega),AQ,AQ,show ah l=(l.length:Int) from rfl,e,aL,BU h0,BU h1];rw[LW] at n2;rw[List.length_drop] at a;constructor
  .refine T.eq (.bind (.pre aa aa ?_));rw[E0,e2,aL];refine .bind (.app (by simp only[List.length_singleton];omega) (.bind (.suf aa aa ?_)));rw[E0,e3,aL];exact .bind (.app (by simp only[Sv,List.length_singleton];omega) (.some aC))
  grind
theorem T0:∀(nn:Nat) (l:Bk),∀s∈O0 nn l,∀x∈s,x∈l
 |0,_=>by simp[O0]
 |nn+1,l=>by
  intro s hs x hx;unfold O0 at hs;split at hs
  .cases hs
  split at hs
  .grind
  .rcases EH.1 hs with rfl|hs
   .exact hx
   rcases Jo.1 hs with hs|hs
   .exact List.mem_of_mem_take (T0 nn _ s hs x hx)
   .exact List.mem_of_mem_drop (T0 nn _ s hs x hx)
theorem aae(d:Int):∀(nn:Nat) (l:Bk),l.length<nn->l.length<=1000000->l.Nodup->(O0 nn l).filter (λs=>decide (d∈s))=if d∈l then XV d nn l else[]
 |0,_,h,_,_=>(by grind)
 |nn+1,l,h,hl,hnd=>by
  by_cases hd:d∈l
  .rw[Bz hd];have hp:0<l.length:=List.length_pos_of_mem hd;unfold O0 XV;rw[BU aa];by_cases h1:l.length=1
   .grind
   rw[BU h1,BU aa];obtain⟨_,k1,k2⟩:=Y0 (n:=l.length) aa hl;generalize lfN l.length=k at k1 k2;have e2:=aae d nn (l.take k) cq cq (by grind);have e3:=aae d nn (l.drop k) cq cq (by grind);grind [Pp]
  grind [List.filter_eq_nil_iff,T0]
theorem Afg{l:M2}(hl:l.length<=4000):AH AdU (l,0,l.length)=some l.reverse:=by
 refine T.eq (T.loop (λs=>s.2.1+s.2.2=l.length/\s.1.length=l.length/\∀k,k<l.length->s.1[k]?=if s.2.1<=k/\k<s.2.2 then l[k]? else l.reverse[k]?) (λs=>s.2.2) (by grind) (by grind) ?_);rintro⟨w,i,j⟩ ⟨h1,h2,h3⟩;simp only at h1 h2 h3;unfold AdU;refine .dec (λh0=>?_) λh0=> .some (show w=l.reverse from ?_)
 .have h0:(i:Int)<(j:Int)-1:=h0;rw[show Nat.ble (w,i,j).1.length 4000=true from(by grind [Re]),ax];have hi:i<w.length:=aa;have hj:j-1<w.length:=aa;have e:swZ w i (j-1)=some ((w.set i (w[j-1]'hj)).set (j-1) (w[i]'hi)):=by grind [swZ]
  show T ((swZ w i (j-1)).bind _) _;rw[e,aL];refine .some ⟨⟨by grind,by simp[h2],λk hk=>?_⟩,by grind⟩;have ei:=h3 i aa;have ej:=h3 (j-1) aa;have ek:=h3 k hk;rw[Bz (by grind)] at ei;rw[Bz (by grind)] at ej;show((w.set i _).set (j-1) _)[k]?=if i+1<=k/\k<j-1 then _ else _
  rw[List.getElem?_set,List.getElem?_set];by_cases k1:j-1=k
  .grind
  grind
 .have h0:¬(i:Int)<(j:Int)-1:=h0;refine List.ext_getElem? λk=>?_;grind
theorem Ahh{l:Bk}(hl:l.length<=3000)(hd:d∈l):∃b,PG l d=some (XV d (l.length+1) l,b):=by
 unfold PG;rw[Uw aa,aL,show(l.any λy=>decide (d=y))=true from(by grind),Bool.not_true,AQ];obtain⟨R,hR⟩:∃R,XV d (l.length+1) l=R:=⟨_,rfl⟩;rw[hR];have key:T (AH (PE d) (l,[],[])) λv=>∃b,v= .inr (R,b):=by
  refine T.loop (λs:Bk×M2×M2=>d∈s.1/\s.1.length<=3000/\s.2.1.length+s.1.length<=6000/\s.2.2.length+s.1.length<=6000/\s.2.1++XV d (s.1.length+1) s.1=R) (λs=>s.1.length) (by grind) (by grind) ?_;rintro⟨c,a,f⟩ ⟨h1,h2,h3,h4,h5⟩;simp only at h1 h2 h3 h4 h5;have hp:0<c.length:=List.length_pos_of_mem h1;unfold PE fF;dsimp only;refine .bind (.app (by grind) (.bind (.app (by grind) ?_)));rw[Nk];unfold XV at h5;by_cases hc:c.length<2
  .rw[show Ns c=some ([],[]) by grind [Ns,ah],aL];rw[Bz aa] at h5;exact .some ⟨f,by rw[<-h5]⟩
  obtain⟨e,k1,k2⟩:=Y0 (n:=c.length) aa aa;rw[BU aa] at h5;generalize lfN c.length=k at e k1 k2 h5;have eK:Ns c=some (c.take k,c.drop k):=by unfold Ns fF;rw[C5 (by grind [ah]),AQ,show ah c=(c.length:Int) from rfl,Ahg,e,aL];refine T.eq (.bind (.pre aa aa ?_));grind [T.bind,T.app,T.suf,T.some]
  have lt:(c.take k).length=k:=by grind
  have ld:(c.drop k).length=c.length-k:=List.length_drop;rw[eK,aL];dsimp only;rw[show decide (ah (c.drop k)=0)=false from(by grind [ah]),AQ,Uw aa,aL];have hx:d∈c.take k\/d∈c.drop k:=by grind [Pp]
  rw[SH d c.length ((c.take k).length+1) (c.take k) aa aa aa,SH d c.length ((c.drop k).length+1) (c.drop k) aa aa aa] at h5;by_cases ht:d∈c.take k
  .rw[show((c.take k).any λy=>decide (d=y))=true from(by grind),ax];rw[Bz ht] at h5;refine .bind (.app (by grind) (.some (by constructor<;>grind)));all_goals grind
  .rw[show((c.take k).any λy=>decide (d=y))=false from(by grind),AQ];rw[BU ht] at h5;refine .bind (.app (by grind) (.some (by constructor<;>grind)));all_goals grind
 obtain⟨v,e,b,rfl⟩:=key;rw[e];exact⟨b,rfl⟩
def RnF(l:Bj):Prop:=∀κ,l.map (qg κ 19)=l
abbrev oN1(s:Nat):Option Ob:=some ⟨3,[iG (s:Int)],none⟩
def o2S(cmp:Ab->Ab->Int)(l:A3)(a b s:Nat):Option (Nat×Nat×Nat):=(l[b]?).bind λy=>(l[a]?).bind λx=>bif cmp y x<0 then some (b,a,s+1)else some (a,b,s)
def meS(cmp:Ab->Ab->Int)(l:A3)(a b c s:Nat):Option (Nat×Nat):=(o2S cmp l a b s).bind λd=>(o2S cmp l d.2.1 c d.2.2).bind λe=>(o2S cmp l d.1 e.1 e.2.2).bind λf=>some (f.2.1,f.2.2)
def chS(cmp:Ab->Ab->Int)(l:A3)(a:Nat):Option (Nat×Bool):=(meS cmp l (a+3) (a+6) (a+9) 0).bind λr=>bif r.2<=3 then some (r.1,decide ((r.2:Int)=0))else none
def scS(cmp:Ab->Ab->Int)(l:A3)(b k:Nat):Option (Nat⊕Nat):=bif ((k+1:Nat):Int)<(b:Int)then(l[k+1]?).bind λx=>(l[k]?).bind λy=>bif cmp x y<0 then some (.inr k)else some (.inl (k+1))else some (.inr k)
def piS(cmp:Ab->Ab->Int)(l:A3)(a b:Nat):Fm:=(AH (scS cmp l b) a).bind λk=>some (decide (((k+1:Nat):Int)=(b:Int)))
section
variable {gl:Cd} {fi:FuncId} {fa fc:Bj} {cmp:Ab->Ab->Int} (hv:CmV gl fi fa fc cmp)
include hv
theorem Aia{s:Nat}(hs:s<1000)(h:o2S cmp l a b s=some (u,v,w)):jg prog gl 388 [.rsl 0 0 l.length,iG (a:Int),iG (b:Int),.ref 1 0,Sq fi fa fc] [(0,Bt l),(1,oN1 s)] 2 (.tup [iG (u:Int),iG (v:Int)]) [(0,Bt l),(1,oN1 w)] 2:=by
 unfold o2S at h;obtain⟨y,hy,h⟩:=bS h;obtain⟨x,hx,h⟩:=bS h;refine pP func388 ?_;rcases bC h with⟨b1,h⟩|⟨b1,h⟩
 .simp only[Fk,Fu] at h;obtain⟨rfl,rfl,rfl⟩:=h;exact mt .ret (s0 32 gl [(10,iG (b:Int)),(11,iG (a:Int))] [(0,Bt l),(1,oN1 (s+1))] 2 2) [iG (b:Int),iG (a:Int)] [Az 15 (ac.ixrZ 0 (Bp hy)),Az 16 (ac.pt0Z aW (Bp hy)),Az 19 (ac.ixrZ 0 (Bp hx)),Az 20 (ac.pt0Z aW (Bp hx)),hcp 21 2 hv y x,hr 22 b1,hbb 26 (Xl (q:=s) aa)] [hc (ac.imm l)] (kd:=[(0,.row)])
 .simp only[Fk,Fu] at h;obtain⟨rfl,rfl,rfl⟩:=h;exact mt .ret (s0 32 gl [(10,iG (a:Int)),(11,iG (b:Int))] [(0,Bt l),(1,oN1 s)] 2 2) [iG (a:Int),iG (b:Int)] [Az 15 (ac.ixrZ 0 (Bp hy)),Az 16 (ac.pt0Z aW (Bp hy)),Az 19 (ac.ixrZ 0 (Bp hx)),Az 20 (ac.pt0Z aW (Bp hx)),hcp 21 2 hv y x,hr 22 b1] [hc (ac.imm l)] (kd:=[(0,.row)])
variable (ra:RnF fa) (rc:RnF fc)
include ra rc
theorem rn5{κ:Nat->Fs}{a b c d:G}{e f g h:G}(h1:qg κ 20 a=e)(h2:qg κ 20 b=f)(h3:qg κ 20 c=g)(h4:qg κ 20 d=h):[a,b,c,d,Sq fi fa fc].map (qg κ 20)=[e,f,g,h,Sq fi fa fc]:=by show[qg κ 20 a,qg κ 20 b,qg κ 20 c,qg κ 20 d,.clo (.func fi) (fa.map (qg κ 19)) (fc.map (qg κ 19))]=_;rw[h1,h2,h3,h4,ra κ,rc κ]
abbrev ho2(d:Nat){l:A3}{a b s u v w:Nat}(hs:s<1000)(h:o2S cmp l a b s=some (u,v,w)):HP:=tN d [0,1] 2 [(0,Bt l),(1,oN1 s)] [.rsl 0 0 l.length,iG (a:Int),iG (b:Int),.ref 1 0,Sq fi fa fc] [(0,Bt l),(1,oN1 w)] (Aia hv hs h) ⟨⟨rfl,.inr ⟨rfl,ac.imm l⟩⟩,⟨rfl,.inl rfl⟩,trivial⟩ ⟨⟨rfl,.inr ⟨rfl,ac.imm l⟩⟩,⟨rfl,.inl rfl⟩,trivial⟩ (hgs:=rn5 hv ra rc rfl rfl rfl rfl)
theorem Al3{s:Nat}(h:o2S cmp l a b s=some (u,v,w)):w<=s+1/\((u=a/\v=b)\/(u=b/\v=a)):=by grind [o2S]
theorem Aki{c s:Nat}(hs:s<100)(h:meS cmp l a b c s=some (m,w)):jg prog gl 367 [.rsl 0 0 l.length,iG (a:Int),iG (b:Int),iG (c:Int),.ref 1 0,Sq fi fa fc] [(0,Bt l),(1,oN1 s)] 2 (iG (m:Int)) [(0,Bt l),(1,oN1 w)] 2:=by unfold meS at h;obtain⟨⟨u1,v1,w1⟩,e1,h⟩:=bS h;obtain⟨⟨f,g,w2⟩,e2,h⟩:=bS h;obtain⟨⟨i,d,e⟩,e3,h⟩:=bS h;simp only[Fk,Fu] at h;obtain⟨rfl,rfl⟩:=h;have k1:=(Al3 hv ra rc e1).1;have k2:=(Al3 hv ra rc e2).1;dsimp only at e2 e3 k2;refine pP func367 ?_;exact mt .ret (s0 41 gl [(12,iG (d:Int))] [(0,Bt l),(1,oN1 e)] 2 2) [iG (d:Int)] [ho2 hv ra rc 19 aa e1,ho2 hv ra rc 28 aa e2,ho2 hv ra rc 37 aa e3] [hc (ac.imm l)] (kd:=[(0,.row)])
def Big(a b:Nat):Prop:=(a=0/\b=13)\/(a=0/\b=14)\/(a=1/\b=14)
abbrev Al4(d:Nat){l:A3}{a b c m w:Nat}(h:meS cmp l a b c 0=some (m,w)):HP:=tN d [0,1] 2 [(0,Bt l),(1,oN1 0)] [.rsl 0 0 l.length,iG (a:Int),iG (b:Int),iG (c:Int),.ref 1 0,Sq fi fa fc] [(0,Bt l),(1,oN1 w)] (Aki hv ra rc B5 h) ⟨⟨rfl,.inr ⟨rfl,ac.imm l⟩⟩,⟨rfl,.inl rfl⟩,trivial⟩ ⟨⟨rfl,.inr ⟨rfl,ac.imm l⟩⟩,⟨rfl,.inl rfl⟩,trivial⟩ (hgs:=congrArg (G.rsl 0 0 l.length::·) (rn5 hv ra rc rfl rfl rfl rfl))
theorem Akj{l:A3}{a b m:Nat}{f:Bool}(hB:Big a b)(h:chS cmp l a=some (m,f)):jg prog gl 313 [.rsl 0 0 l.length,iG (a:Int),iG (b:Int),Sq fi fa fc] [(0,Bt l)] 1 (.tup [iG (m:Int),iG (bif f then 1 else 0)]) [(0,Bt l)] 1:=by
 unfold chS at h;obtain⟨⟨c,w⟩,e,h⟩:=bS h;obtain⟨hw,h⟩:=Hz h;have hw:=DS hw;dsimp only at hw;simp only[Fk,Fu] at h;obtain⟨rfl,rfl⟩:=h;have hn:decide ((w:Int)=12)=false:=C5 aa;refine pP func313 ?_;cases b1:decide ((w:Int)=0) with
 |true=>
  rcases hB with⟨rfl,rfl⟩|⟨rfl,rfl⟩|⟨rfl,rfl⟩
  all_goals exact mt .ret (s0 63 gl [(8,iG (c:Int)),(9,iG 1)] [(0,Bt l)] 1 1) [iG (c:Int),iG 1] [Al4 hv ra rc 54 e,hr 58 b1] [hc (ac.imm l)] (kd:=[(0,.row)])
 |false=>
  rcases hB with⟨rfl,rfl⟩|⟨rfl,rfl⟩|⟨rfl,rfl⟩
  all_goals exact mt .ret (s0 63 gl [(8,iG (c:Int)),(9,iG 0)] [(0,Bt l)] 1 1) [iG (c:Int),iG 0] [Al4 hv ra rc 54 e,hr 58 b1,hr 61 hn] [hc (ac.imm l)] (kd:=[(0,.row)])
omit ra rc
theorem Akk{l:A3}{a b:Nat}{f:Bool}(hl:l.length<=1000)(ha:a<1000)(hb:b<=1000)(i:b-a<50)(h:piS cmp l a b=some f):jg prog gl 315 [.rsl 0 0 l.length,iG (a:Int),iG (b:Int),Sq fi fa fc] [(0,Bt l)] 1 (bG f) [(0,Bt l)] 1:=by
 unfold piS at h;obtain⟨k,ek,h⟩:=bS h;obtain rfl:=Bo h;refine pP func315 ?_;refine pN (λ_:Unit=>(s0 141 gl [(0,.rsl 0 0 l.length),(1,iG (a:Int)),(2,iG (b:Int)),(3,Sq fi fa fc),(9,iG ((a+1:Nat):Int)),(10,iG 0)] [(0,Bt l)] 1 1)) 1110122 Lg [hbb 14 (Xl (q:=a) aa)] [hc (el l),hc hv.im,hc (ac.imm l)] (λB z w hz2 g d=>?_);clear g d hz2;refine Ix 11101221020 (s0 141 gl [(0,.rsl 0 0 l.length),(1,iG (a:Int)),(2,iG (b:Int)),(3,Sq fi fa fc),(9,iG ((k+1:Nat):Int)),(10,iG 0)] [(0,Bt l)] 1 1) ?_ λkk=>?_;rotate_left
 .refine pN (λk:Nat=>(s0 141 gl [(0,.rsl 0 0 l.length),(1,iG (a:Int)),(2,iG (b:Int)),(3,Sq fi fa fc),(9,iG ((k+1:Nat):Int)),(10,iG 0)] [(0,Bt l)] 1 1)) 1110122102022 ek [] [hc (el l),hc hv.im,hc (ac.imm l)] (λj k v hz g d=>?_);unfold scS at hz;rcases bC hz with⟨b2,hz⟩|⟨b2,hz⟩
  .obtain⟨x,c,hz⟩:=bS hz;obtain⟨y,e,hz⟩:=bS hz;have hq:=(cr c).1;rcases bC hz with⟨b3,hz⟩|⟨b3,hz⟩
   .obtain rfl:=Bo hz;obtain rfl:=d _ rfl;exact yl 11101221020 [hr 21 b2,Az 26 (ac.ixrZ 0 (Bp c)),Az 27 (ac.pt0Z aW (Bp c)),hbb 30 (dec (q:=k) aa),Az 31 (ac.ixrZ 0 (Bp e)),Az 32 (ac.pt0Z aW (Bp e)),hcp 33 1 hv x y,hr 34 b3] [hc (el l),hc hv.im,hc (ac.imm l)] kk
   .obtain rfl:=Bo hz;exact jw [hr 21 b2,Az 26 (ac.ixrZ 0 (Bp c)),Az 27 (ac.pt0Z aW (Bp c)),hbb 30 (dec (q:=k) aa),Az 31 (ac.ixrZ 0 (Bp e)),Az 32 (ac.pt0Z aW (Bp e)),hcp 33 1 hv x y,hr 34 b3,hbb 38 (Xl (q:=k+1) aa)] [hc (el l),hc hv.im,hc (ac.imm l)] (g _ rfl)
  .obtain rfl:=Bo hz;obtain rfl:=d _ rfl;exact yl 11101221020 [hr 21 b2] [hc (el l),hc hv.im,hc (ac.imm l)] kk
 clear ek;cases b1:decide (((k+1:Nat):Int)=(b:Int)) with
 |true=>exact mt .ret (s0 141 gl [(8,bG true)] [(0,Bt l)] 1 1) [bG true] [hr 41 b1] [hc (ac.imm l)] (kd:=[(0,.row)])
 |false=>exact mt .ret (s0 141 gl [(8,bG false)] [(0,Bt l)] 1 1) [bG false] [hr 41 b1,hbb 44 (sb (a:=(b:Int)) (b:=(a:Int)) (z:=(b:Int)-(a:Int)) rfl aa),hr 45 (show decide ((b:Int)-(a:Int)<50)=true from CM aa)] [hc (ac.imm l)] (kd:=[(0,.row)])
omit hv
abbrev oXs(s:Nat):Option Ob:=some ⟨370,[uG (s:Int)],none⟩
def rnX:Nat->Nat
 |0=>13
 |1=>14069506893
 |2=>14988908846326605643
 |_=>3428281591454193221
theorem AaK(j:Nat)(h:j<3):jg prog gl 347 [.ref 0 0] [(0,oXs (rnX j))] 1 (uG (rnX (j+1):Int)) [(0,oXs (rnX (j+1)))] 1:=by
 refine pP func347 ?_;rcases(by omega:j=0\/j=1\/j=2) with rfl|rfl|rfl
 .exact mt .ret (s0 33 gl [(2,uG 14069506893)] [(0,oXs 14069506893)] 1 1) [uG 14069506893] [] []
 .exact mt .ret (s0 33 gl [(2,uG 14988908846326605643)] [(0,oXs 14988908846326605643)] 1 1) [uG 14988908846326605643] [] []
 .exact mt .ret (s0 33 gl [(2,uG 3428281591454193221)] [(0,oXs 3428281591454193221)] 1 1) [uG 3428281591454193221] [] []
theorem Akl:ba prog gl 346 [iG 13] (uG 16):=by have h:=RC gl (n:=13) B5;refine Gh func346 ?_;exact Ar [hf 5 h] []
end
theorem dJa{P:Br}{fn:Func}{Q:Exit->St->Prop}{Bs:List (St->Prop)}{m:Bool}{p:Bq}{st:St}(q:Bq)(J:St)(kk:Gp P fn Q Bs false q J)(h:Gp P fn Q Bs false q J->Gp P fn Q Bs m p st):Gp P fn Q Bs m p st:=h kk
def brT(s:Nat×A3):Option ((Nat×A3)⊕A3):=match s.1 with
 |0=>(swZ s.2 6 1).bind λl=>some (.inl (1,l))
 |1=>(swZ s.2 7 12).bind λl=>some (.inl (2,l))
 |2=>(swZ s.2 8 6).bind λl=>some (.inl (3,l))
 |3=>some (.inr s.2)
 |_=>none
def brG(l:A3)(a b c:Nat)(d:Bool):Option (A3×Nat):=bif d then some (l,c)else bif Nat.beq a 1&&Nat.beq b 14 then(AH brT (0,l)).bind λr=>bif Nat.beq l.length r.length then some (r,c-1)else none else none
def agG(cmp:Ab->Ab->Int)(l:A3)(a p:Nat):Fm:=bif Nat.blt 0 a then(l[a-1]?).bind λy=>(l[p]?).bind λx=>some (decide (cmp y x<0))else some true
def Aib(a b:Nat):Bool:=(Nat.beq a 0&&Nat.beq b 13)||((Nat.beq a 0&&Nat.beq b 14)||(Nat.beq a 1&&Nat.beq b 14))
theorem Aic(h:Aib a b=true):Big a b:=by
 unfold Aib at h;simp only[Bool.or_eq_true,bA] at h;rcases h with⟨h1,h2⟩|⟨h1,h2⟩|⟨h1,h2⟩
 .exact .inl ⟨bc h1,bc h2⟩
 .exact .inr (by grind [bc])
 .exact .inr (by grind [bc])
abbrev PdS:Type:=A3×Nat×Nat×Nat×Bool×Bool
def pdN(cmp:Ab->Ab->Int)(a b c:Nat)(m:Nat)(f:Bool)(l:A3):Option (PdS⊕A3):=
 bif a<=m/\m<b then(bif (m:Int)-(a:Int)<(b:Int)-(m:Int)then(inI cmp (a:Int) (m:Int) l).bind λl3=>bif Nat.beq l.length l3.length then some (.inl (l3,m+1,b,c,decide ((1:Int)<=(m:Int)-(a:Int)),f))else none
  else(inI cmp ((m+1:Nat):Int) (b:Int) l).bind λl3=>bif Nat.beq l.length l3.length then some (.inl (l3,a,m,c,decide ((1:Int)<=(b:Int)-(m:Int)),f))else none)else none
def pdT(cmp:Ab->Ab->Int)(s:PdS):Option (PdS⊕A3):=
 bif s.1.length<=1000/\s.2.1<=100/\s.2.2.1<=100 then
 bif (s.2.2.1:Int)-(s.2.1:Int)<=12 then(inI cmp (s.2.1:Int) (s.2.2.1:Int) s.1).bind λr=>some (.inr r)
 else bif Aib s.2.1 s.2.2.1&&(Nat.blt 0 s.2.2.2.1&&Nat.ble s.2.2.2.1 100) then
  (brG s.1 s.2.1 s.2.2.1 s.2.2.2.1 s.2.2.2.2.1).bind λq=>bif q.1.length<=1000 then(chS cmp q.1 s.2.1).bind λc=>(bif s.2.2.2.2.1&&s.2.2.2.2.2&&c.2 then piS cmp q.1 s.2.1 s.2.2.1 else some false).bind λd=>bif d then some (.inr q.1) else
  (agG cmp q.1 s.2.1 c.1).bind λok=>bif ok then(paS cmp s.2.1 s.2.2.1 c.1 q.1).bind λr=>bif Nat.beq q.1.length r.2.2.length then pdN cmp s.2.1 s.2.2.1 q.2 r.1 r.2.1 r.2.2 else none else none else none
 else none else none
section
variable {gl:Cd} {fi:FuncId} {fa fc:Bj} {cmp:Ab->Ab->Int} (hv:CmV gl fi fa fc cmp)
include hv
theorem Akn(h:AH brT (0,l)=some r):jg prog gl 312 [.rsl 0 0 l.length,iG 1,iG 14,Sq fi fa fc] [(0,Bt l)] 1 (.tup []) [(0,Bt r)] 1:=by
 have hn:=Akl (gl:=gl);have h0:=AaK (gl:=gl) 0 B5;have h1:=AaK (gl:=gl) 1 B5;have h2:=AaK (gl:=gl) 2 B5;refine pP func312 ?_;refine pN (λs:Nat×A3=>(s0 67 gl [(0,.rsl 0 0 s.2.length),(1,iG 1),(8,iG 13),(9,.ref 1 0),(10,uG 16),(11,iG ((6+s.1:Nat):Int))] [(0,Bt s.2),(1,oXs (rnX s.1))] 2 1)) 111311122 h [hf 21 hn] [hc (el l),hc (ac.imm l)] (λB s w hs k5 a=>?_);obtain⟨j,l⟩:=s;unfold brT at hs;dsimp only at hs;split at hs
 .obtain⟨l1,e1,hs⟩:=bS hs;obtain rfl:=Bo hs;obtain⟨x,y,hx,hy,e⟩:=I6 e1;have hl:l.length=l1.length:=by rw[e];exact Ug
  exact jw (tN 38 [1] 2 [(1,oXs (rnX 0))] [.ref 1 0] [(0,oXs (rnX 1))] h0 ⟨⟨rfl,.inl rfl⟩,trivial⟩ ⟨⟨rfl,.inl rfl⟩,trivial⟩::hsw 59 63 65 66 hx hy e) [hc hl,hc (ac.imm l1)] (k5 _ rfl)
 .obtain⟨l1,e1,hs⟩:=bS hs;obtain rfl:=Bo hs;obtain⟨x,y,hx,hy,e⟩:=I6 e1;have hl:l.length=l1.length:=by rw[e];exact Ug
  exact jw (tN 38 [1] 2 [(1,oXs (rnX 1))] [.ref 1 0] [(0,oXs (rnX 2))] h1 ⟨⟨rfl,.inl rfl⟩,trivial⟩ ⟨⟨rfl,.inl rfl⟩,trivial⟩::hsw 59 63 65 66 hx hy e) [hc hl,hc (ac.imm l1)] (k5 _ rfl)
 .obtain⟨l1,e1,hs⟩:=bS hs;obtain rfl:=Bo hs;obtain⟨x,y,hx,hy,e⟩:=I6 e1;have hl:l.length=l1.length:=by rw[e];exact Ug
  exact jw (tN 38 [1] 2 [(1,oXs (rnX 2))] [.ref 1 0] [(0,oXs (rnX 3))] h2 ⟨⟨rfl,.inl rfl⟩,trivial⟩ ⟨⟨rfl,.inl rfl⟩,trivial⟩::hsw 59 63 65 66 hx hy e) [hc hl,hc (ac.imm l1)] (k5 _ rfl)
 .obtain rfl:=Bo hs;obtain rfl:=a _ rfl;exact mt .normal (s0 67 gl [] [(0,Bt l)] 1 1) [] [] [hc (ac.imm l)] (kd:=[(0,.row)])
 .cases hs
variable (ra:RnF fa) (rc:RnF fc)
include ra rc
theorem rnA{κ:Nat->Fs}{x y:G}(h1:qg κ 20 x=y)(h:L.map (qg κ 20)=L):(x::(L++[Sq fi fa fc])).map (qg κ 20)=y::(L++[Sq fi fa fc]):=by rw[Fa,List.map_append,h1,h];show y::(L++[.clo (.func fi) (fa.map (qg κ 19)) (fc.map (qg κ 19))])=_;rw[ra κ,rc κ]
abbrev hI(d:Nat)(L:Bj){f:FuncId}{l r:A3}{res:G}(hM:jg prog gl f (.rsl 0 0 l.length::(L++[Sq fi fa fc])) [(0,Bt l)] 1 res [(0,Bt r)] 1)(hL:L.map (qg (vi [0]) 20)=L):HP:=tN d [0] 1 [(0,Bt l)] (.rsl 0 0 l.length::(L++[Sq fi fa fc])) [(0,Bt r)] hM ⟨⟨rfl,.inr ⟨rfl,ac.imm l⟩⟩,trivial⟩ ⟨⟨rfl,.inr ⟨rfl,ac.imm r⟩⟩,trivial⟩ (hgs:=rnA hv ra rc rfl hL)
omit hv ra rc in
theorem mcL{f:FuncId}{res:G}{n:Nat}(e:n=l.length)(hM:jg prog gl f (.rsl 0 0 l.length::L) [(0,Bt l)] 1 res [(0,Bt r)] 1):jg prog gl f (.rsl 0 0 n::L) [(0,Bt l)] 1 res [(0,Bt r)] 1:=e▸hM
abbrev hI2(d:Nat)(L:Bj){f:FuncId}{l r:A3}{res:G}{n:Nat}(e:n=l.length)(hM:jg prog gl f (.rsl 0 0 l.length::(L++[Sq fi fa fc])) [(0,Bt l)] 1 res [(0,Bt r)] 1)(hL:L.map (qg (vi [0]) 20)=L):HP:=tN d [0] 1 [(0,Bt l)] (.rsl 0 0 n::(L++[Sq fi fa fc])) [(0,Bt r)] (mcL e hM) ⟨⟨rfl,.inr ⟨rfl,ac.imm l⟩⟩,trivial⟩ ⟨⟨rfl,.inr ⟨rfl,ac.imm r⟩⟩,trivial⟩ (hgs:=rnA hv ra rc rfl hL)
theorem Q5{a b:Nat}(ha:a<=1000)(hb:b<=1000)(c:(b:Int)-(a:Int)<=12)(h:inI cmp (a:Int) (b:Int) l=some r)(k:Int):jg prog gl 223 [.rsl 0 0 l.length,iG (a:Int),iG (b:Int),iG k,Sq fi fa fc] [(0,Bt l)] 1 (.tup []) [(0,Bt r)] 1:=by have hs:=sb (a:=(b:Int)) (b:=(a:Int)) (z:=(b:Int)-(a:Int)) rfl aa;have hd:=CM c;refine pP func223 ?_;refine pN (λ_:Unit=>(s0 148 gl [(0,.rsl 0 0 l.length),(1,iG (a:Int)),(2,iG (b:Int)),(3,iG k),(4,Sq fi fa fc)] [(0,Bt l)] 1 1)) 11122 Lg [] [hc (el l),hc hv.im,hc (ac.imm l)] (λd z v hz2 e f=>?_);exact mt .ret (s0 148 gl [] [(0,Bt r)] 1 1) [] [hbb 23 hs,hr 25 hd,hI hv ra rc 30 [iG (a:Int),iG (b:Int)] (AdE hv h) rfl] [hc (ac.imm r)] (kd:=[(0,.row)])
abbrev AnD(gl:Cd)(fi:FuncId)(fa fc:Bj)(s:PdS):St:=(s0 148 gl [(0,.rsl 0 0 s.1.length),(1,iG (s.2.1:Int)),(2,iG (s.2.2.1:Int)),(3,iG (s.2.2.2.1:Int)),(4,Sq fi fa fc),(10,bG s.2.2.2.2.1),(11,bG s.2.2.2.2.2)] [(0,Bt s.1)] 1 1)
theorem Ako{s:PdS}(h:AH (pdT cmp) s=some r)(h1:s.2.2.2.2=(true,true)):jg prog gl 223 [.rsl 0 0 s.1.length,iG (s.2.1:Int),iG (s.2.2.1:Int),iG (s.2.2.2.1:Int),Sq fi fa fc] [(0,Bt s.1)] 1 (.tup []) [(0,Bt r)] 1:=by
 refine pP func223 ?_;obtain⟨l,a,b,g,j,par⟩:=s;obtain⟨rfl,rfl⟩:=Prod.mk.inj h1;clear h1;refine pN (AnD gl fi fa fc) [1,1,2,2] h [] [hc (el l),hc hv.im,hc (ac.imm l)] (λB s w hs k5 C=>?_);clear h l a b g;obtain⟨l,a,b,g,j,par⟩:=s;unfold pdT at hs;dsimp only at hs;obtain⟨hg,hs⟩:=Hz hs;obtain⟨hl,ha,hb⟩:=DS hg;have o:=sb (a:=(b:Int)) (b:=(a:Int)) (z:=(b:Int)-(a:Int)) rfl aa;rcases bC hs with⟨b1,hs⟩|⟨b1,hs⟩
 .obtain⟨r',A,hs⟩:=bS hs;obtain rfl:=Bo hs;obtain rfl:=C _ rfl;exact mt .ret (s0 148 gl [] [(0,Bt r')] 1 1) [] [hbb 23 o,hr 25 b1,hI hv ra rc 30 [iG (a:Int),iG (b:Int)] (AdE hv A) rfl] [hc (ac.imm r')] (kd:=[(0,.row)])
 obtain⟨u,hs⟩:=Hz hs;simp only[bA] at u;obtain⟨hB,hl1,hl2⟩:=u;have hB:=Aic hB;have hlim:0<g:=E7 hl1;have hlim2:g<=100:=E7 hl2;clear hl1 hl2;obtain⟨⟨l1,c⟩,k,hs⟩:=bS hs;dsimp only at hs;obtain⟨v,hs⟩:=Hz hs;have hll:=DS v;obtain⟨⟨p,Xl⟩,D,hs⟩:=bS hs;dsimp only at hs;obtain⟨d,ed,hs⟩:=bS hs;refine dJa [1,1,2,2,2,1,1,1,1,0] (s0 148 gl [(0,.rsl 0 0 l1.length),(1,iG (a:Int)),(2,iG (b:Int)),(3,iG (c:Int)),(4,Sq fi fa fc),(10,bG j),(11,bG par),(12,iG ((b:Int)-(a:Int)))] [(0,Bt l1)] 1 1) ?_ λkk=>?_;rotate_left
 .have hn0:decide ((g:Int)=0)=false:=C5 aa;unfold brG at k;cases j with
  |true=>obtain⟨rfl,rfl⟩:=Prod.mk.inj (Bo k);exact pO 11122211110 _ [hbb 23 o,hr 25 b1,hr 32 hn0] [hc (el l),hc hv.im,hc (ac.imm l)] kk
  |false=>obtain⟨t,k⟩:=Hz k;rw[bA] at t;obtain rfl:=bc t.1;obtain rfl:=bc t.2;obtain⟨r',A,k⟩:=bS k;obtain⟨hle,k⟩:=Hz k;have hle:=bc hle;obtain⟨q,rfl⟩:∃q,g=q+1:=⟨g-1,aa⟩;rw[Nat.add_sub_cancel] at k;obtain⟨rfl,rfl⟩:=Prod.mk.inj (Bo k);exact pO 11122211110 _ [hbb 23 o,hr 25 b1,hr 32 hn0,hI hv ra rc 44 [iG 1,iG 14] (Akn hv A) rfl,hbb 46 (dec (q:=q) aa)] [hc hle,hc hv.im,hc (ac.imm r')] kk
 clear k b1 o hlim hlim2;have i:=Akj hv ra rc (b:=b) hB D;have hpi:=λe=>Akk hv (l:=l1) (a:=a) (b:=b) (f:=d) hll aa aa (by rcases hB with⟨rfl,rfl⟩|⟨rfl,rfl⟩|⟨rfl,rfl⟩<;>decide) e;cases d with
 |true=>
  obtain rfl:=Bo hs;obtain rfl:=C _ rfl;cases j with
  |false=>cases ed
  |true=>cases par with
   |false=>cases ed
   |true=>cases Xl with
    |false=>cases ed
    |true=>
     have hpi:=hpi ed
     exact mt .ret (s0 148 gl [] [(0,Bt l1)] 1 1) [] [hI hv ra rc 52 [iG (a:Int),iG (b:Int)] i rfl,hI hv ra rc 80 [iG (a:Int),iG (b:Int)] hpi rfl] [hc (ac.imm l1)] (kd:=[(0,.row)])
 |false=>
 refine dJa [1,1,2,2,2,1,1,1,1,1,1,1,0,0] (s0 148 gl [(0,.rsl 0 0 l1.length),(1,iG (a:Int)),(2,iG (b:Int)),(3,iG (c:Int)),(4,Sq fi fa fc),(12,iG ((b:Int)-(a:Int))),(13,iG (p:Int))] [(0,Bt l1)] 1 1) ?_ λkk=>?_;rotate_left
 .cases j with
  |false=>cases par<;>cases Xl<;>exact pO 111222111111100 _ [hI hv ra rc 52 [iG (a:Int),iG (b:Int)] i rfl] [hc (el l1),hc hv.im,hc (ac.imm l1)] kk
  |true=>cases par with
   |false=>cases Xl<;>exact pO 111222111111100 _ [hI hv ra rc 52 [iG (a:Int),iG (b:Int)] i rfl] [hc (el l1),hc hv.im,hc (ac.imm l1)] kk
   |true=>cases Xl with
    |false=>exact pO 111222111111100 _ [hI hv ra rc 52 [iG (a:Int),iG (b:Int)] i rfl] [hc (el l1),hc hv.im,hc (ac.imm l1)] kk
    |true=>
     have hpi:=hpi ed
     exact pO 111222111111100 _ [hI hv ra rc 52 [iG (a:Int),iG (b:Int)] i rfl,hI hv ra rc 80 [iG (a:Int),iG (b:Int)] hpi rfl] [hc (el l1),hc hv.im,hc (ac.imm l1)] kk
 clear i hpi ed D;rw[AQ] at hs;obtain⟨ok,n,hs⟩:=bS hs;rcases hB with⟨rfl,rfl⟩|⟨rfl,rfl⟩|⟨rfl,rfl⟩
 .clear n;obtain⟨hok,hs⟩:=Hz hs;subst hok;obtain⟨⟨m,f,l2⟩,ep,hs⟩:=bS hs;dsimp only at hs;obtain⟨h2,hs⟩:=Hz hs;have h2:=bc h2;unfold pdN at hs;obtain⟨hm,hs⟩:=Hz hs;have hm:=DS hm;rcases bC hs with⟨b2,hs⟩|⟨b2,hs⟩
  .have b3:=DS b2;obtain⟨l3,e3,hs⟩:=bS hs;obtain⟨h3,hs⟩:=Hz hs;have h3:=h2.trans (bc h3);obtain rfl:=Bo hs;exact jw [hI hv ra rc 111 [iG ((0:Nat):Int),iG ((13:Nat):Int),iG (p:Int)] (Q4 hv hll aa aa aa ep) rfl,hbb 117 (sb (a:=(m:Int)) (b:=((0:Nat):Int)) (z:=(m:Int)-((0:Nat):Int)) rfl aa),hbb 120 (sb (a:=((13:Nat):Int)) (b:=(m:Int)) (z:=((13:Nat):Int)-(m:Int)) rfl aa),hr 125 b2,hI2 hv ra rc 134 [iG ((0:Nat):Int),iG (m:Int),iG (c:Int)] h2 (Q5 hv ra rc aa aa aa e3 (c:Int)) rfl,hbb 136 (Go.Proofs.YtlijnaneopediaaGreatDoor.Xl (q:=m) aa)] [hc h3,hc hv.im,hc (ac.imm l3)] (k5 _ rfl)
  .have b3:=Lq b2;obtain⟨l3,e3,hs⟩:=bS hs;obtain⟨h3,hs⟩:=Hz hs;have h3:=h2.trans (bc h3);obtain rfl:=Bo hs;exact jw [hI hv ra rc 111 [iG ((0:Nat):Int),iG ((13:Nat):Int),iG (p:Int)] (Q4 hv hll aa aa aa ep) rfl,hbb 117 (sb (a:=(m:Int)) (b:=((0:Nat):Int)) (z:=(m:Int)-((0:Nat):Int)) rfl aa),hbb 120 (sb (a:=((13:Nat):Int)) (b:=(m:Int)) (z:=((13:Nat):Int)-(m:Int)) rfl aa),hr 125 b2,hbb 142 (Go.Proofs.YtlijnaneopediaaGreatDoor.Xl (q:=m) aa),hI2 hv ra rc 146 [iG ((m+1:Nat):Int),iG ((13:Nat):Int),iG (c:Int)] h2 (Q5 hv ra rc aa aa aa e3 (c:Int)) rfl] [hc h3,hc hv.im,hc (ac.imm l3)] (k5 _ rfl)
 .clear n;obtain⟨hok,hs⟩:=Hz hs;subst hok;obtain⟨⟨m,f,l2⟩,ep,hs⟩:=bS hs;dsimp only at hs;obtain⟨h2,hs⟩:=Hz hs;have h2:=bc h2;unfold pdN at hs;obtain⟨hm,hs⟩:=Hz hs;have hm:=DS hm;rcases bC hs with⟨b2,hs⟩|⟨b2,hs⟩
  .have b3:=DS b2;obtain⟨l3,e3,hs⟩:=bS hs;obtain⟨h3,hs⟩:=Hz hs;have h3:=h2.trans (bc h3);obtain rfl:=Bo hs;exact jw [hI hv ra rc 111 [iG ((0:Nat):Int),iG ((14:Nat):Int),iG (p:Int)] (Q4 hv hll aa aa aa ep) rfl,hbb 117 (sb (a:=(m:Int)) (b:=((0:Nat):Int)) (z:=(m:Int)-((0:Nat):Int)) rfl aa),hbb 120 (sb (a:=((14:Nat):Int)) (b:=(m:Int)) (z:=((14:Nat):Int)-(m:Int)) rfl aa),hr 125 b2,hI2 hv ra rc 134 [iG ((0:Nat):Int),iG (m:Int),iG (c:Int)] h2 (Q5 hv ra rc aa aa aa e3 (c:Int)) rfl,hbb 136 (Go.Proofs.YtlijnaneopediaaGreatDoor.Xl (q:=m) aa)] [hc h3,hc hv.im,hc (ac.imm l3)] (k5 _ rfl)
  .have b3:=Lq b2;obtain⟨l3,e3,hs⟩:=bS hs;obtain⟨h3,hs⟩:=Hz hs;have h3:=h2.trans (bc h3);obtain rfl:=Bo hs;exact jw [hI hv ra rc 111 [iG ((0:Nat):Int),iG ((14:Nat):Int),iG (p:Int)] (Q4 hv hll aa aa aa ep) rfl,hbb 117 (sb (a:=(m:Int)) (b:=((0:Nat):Int)) (z:=(m:Int)-((0:Nat):Int)) rfl aa),hbb 120 (sb (a:=((14:Nat):Int)) (b:=(m:Int)) (z:=((14:Nat):Int)-(m:Int)) rfl aa),hr 125 b2,hbb 142 (Go.Proofs.YtlijnaneopediaaGreatDoor.Xl (q:=m) aa),hI2 hv ra rc 146 [iG ((m+1:Nat):Int),iG ((14:Nat):Int),iG (c:Int)] h2 (Q5 hv ra rc aa aa aa e3 (c:Int)) rfl] [hc h3,hc hv.im,hc (ac.imm l3)] (k5 _ rfl)
 .obtain⟨y,hy,n⟩:=bS (show((l1[0]?).bind λy=>(l1[p]?).bind λx=>some (decide (cmp y x<0)))=some ok from n);obtain⟨x,hx,n⟩:=bS n;have n:=Bo n;obtain⟨hok,hs⟩:=Hz hs;subst hok;obtain⟨⟨m,f,l2⟩,ep,hs⟩:=bS hs;dsimp only at hs;obtain⟨h2,hs⟩:=Hz hs;have h2:=bc h2;unfold pdN at hs;obtain⟨hm,hs⟩:=Hz hs;have hm:=DS hm;rcases bC hs with⟨b2,hs⟩|⟨b2,hs⟩
  .have b3:=DS b2;obtain⟨l3,e3,hs⟩:=bS hs;obtain⟨h3,hs⟩:=Hz hs;have h3:=h2.trans (bc h3);obtain rfl:=Bo hs;exact jw [Az 88 (ac.ixrZ 0 (Bp hy)),Az 89 (ac.pt0Z aW (Bp hy)),Az 92 (ac.ixrZ 0 (Bp hx)),Az 93 (ac.pt0Z aW (Bp hx)),hcp 94 1 hv y x,hr 95 n,hI hv ra rc 111 [iG ((1:Nat):Int),iG ((14:Nat):Int),iG (p:Int)] (Q4 hv hll aa aa aa ep) rfl,hbb 117 (sb (a:=(m:Int)) (b:=((1:Nat):Int)) (z:=(m:Int)-((1:Nat):Int)) rfl aa),hbb 120 (sb (a:=((14:Nat):Int)) (b:=(m:Int)) (z:=((14:Nat):Int)-(m:Int)) rfl aa),hr 125 b2,hI2 hv ra rc 134 [iG ((1:Nat):Int),iG (m:Int),iG (c:Int)] h2 (Q5 hv ra rc aa aa aa e3 (c:Int)) rfl,hbb 136 (Go.Proofs.YtlijnaneopediaaGreatDoor.Xl (q:=m) aa)] [hc h3,hc hv.im,hc (ac.imm l3)] (k5 _ rfl)
  .have b3:=Lq b2;obtain⟨l3,e3,hs⟩:=bS hs;obtain⟨h3,hs⟩:=Hz hs;have h3:=h2.trans (bc h3);obtain rfl:=Bo hs;exact jw [Az 88 (ac.ixrZ 0 (Bp hy)),Az 89 (ac.pt0Z aW (Bp hy)),Az 92 (ac.ixrZ 0 (Bp hx)),Az 93 (ac.pt0Z aW (Bp hx)),hcp 94 1 hv y x,hr 95 n,hI hv ra rc 111 [iG ((1:Nat):Int),iG ((14:Nat):Int),iG (p:Int)] (Q4 hv hll aa aa aa ep) rfl,hbb 117 (sb (a:=(m:Int)) (b:=((1:Nat):Int)) (z:=(m:Int)-((1:Nat):Int)) rfl aa),hbb 120 (sb (a:=((14:Nat):Int)) (b:=(m:Int)) (z:=((14:Nat):Int)-(m:Int)) rfl aa),hr 125 b2,hbb 142 (Go.Proofs.YtlijnaneopediaaGreatDoor.Xl (q:=m) aa),hI2 hv ra rc 146 [iG ((m+1:Nat):Int),iG ((14:Nat):Int),iG (c:Int)] h2 (Q5 hv ra rc aa aa aa e3 (c:Int)) rfl] [hc h3,hc hv.im,hc (ac.imm l3)] (k5 _ rfl)
end
structure OrN {α:Type} (cmp:α->α->Int) (D:α->Prop):Prop where
 tr:∀x y z,cmp x y<0->cmp y z<0->cmp x z<0
 tt:∀x y,D x->D y->x≠y->cmp x y<0\/cmp y x<0
def Rg{α:Type}(a b:Nat)(l r:List α):Prop:=r.Perm l/\∀q,(q<a\/b<=q)->r[q]?=l[q]?
def SoR{α:Type}(cmp:α->α->Int)(a b:Nat)(l:List α):Prop:=∀p q x y,a<=p->p<q->q<b->l[p]?=some x->l[q]?=some y->cmp x y<0
def OrX{α:Type}(cmp:α->α->Int)(a b:Nat)(l:List α):Prop:=∀p q x y,p<q->¬(a<=p/\q<b)->l[p]?=some x->l[q]?=some y->cmp x y<0
theorem Rg.refl{α:Type}{a b:Nat}(l:List α):Rg a b l l:=⟨.refl _,λ_ _=>rfl⟩
theorem Rg.trans{α:Type}{a b:Nat}{l r s:List α}(h:Rg a b l r)(k:Rg a b r s):Rg a b l s:=⟨k.1.trans h.1,λq hq=>(k.2 q hq).trans (h.2 q hq)⟩
theorem Rg.mono{α:Type}{a b a' b':Nat}{l r:List α}(h:Rg a b l r)(ha:a'<=a)(hb:b<=b'):Rg a' b' l r:=⟨h.1,λq hq=>h.2 q aa⟩
theorem Rg.len{α:Type}{a b:Nat}{l r:List α}(h:Rg a b l r):r.length=l.length:=h.1.length_eq
theorem MY{l:List α}(h:l.Nodup){q:Nat}{x:α}(h1:l[p]?=some x)(h2:l[q]?=some x):p=q:=by grind [List.getElem?_inj]
theorem Rg.src{α:Type}{a b:Nat}{l r:List α}(h:Rg a b l r)(hn:l.Nodup){q:Nat}{y:α}(h1:a<=q)(h2:q<b)(hy:r[q]?=some y):∃c,a<=c/\c<b/\l[c]?=some y:=by
 obtain⟨c,hq⟩:=He (h.1.mem_iff.1 (bO hy));refine⟨c,?_⟩;rcases(by omega:(c<a\/b<=c)\/(a<=c/\c<b)) with h3|h3
 .have:=MY (h.1.nodup_iff.2 hn) hy ((h.2 c h3).trans hq);omega
 .exact⟨h3.1,h3.2,hq⟩
theorem OrX.rg{α:Type}{cmp:α->α->Int}{a b:Nat}{l r:List α}(h:OrX cmp a b l)(k:Rg a b l r)(hn:l.Nodup):OrX cmp a b r:=by
 have src:∀q y,r[q]?=some y->∃c,l[c]?=some y/\(c=q\/(a<=q/\q<b/\a<=c/\c<b)):=λq y hy=>by
  rcases(by omega:(q<a\/b<=q)\/(a<=q/\q<b)) with h3|h3
  .exact⟨q,(k.2 q h3).symm.trans hy,.inl rfl⟩
  grind [Rg.src]
 intro p q x y e hb hx hy;obtain⟨f,hx',hp⟩:=src p x hx;obtain⟨c,d,hq⟩:=src q y hy;exact h f c x y aa aa hx' d
theorem AcO{l:List α}{i j:Nat}(hi:i<l.length)(hj:j<l.length):∃r,swZ l i j=some r/\r.Perm l/\∀q,r[q]?=if q=j then l[i]? else if q=i then l[j]? else l[q]? :=by refine⟨(l.set i l[j]).set j l[i],?_,List.set_set_perm hi hj,λq=>?_⟩;all_goals grind [swZ]
theorem Xe{a b i j:Nat}{l r:List α}(h:r.Perm l)(hq:∀q,r[q]?=if q=j then l[i]? else if q=i then l[j]? else l[q]?)(h1:a<=i)(h2:i<b)(h3:a<=j)(h4:j<b):Rg a b l r:=by constructor<;>grind
section
variable {α:Type} {cmp:α->α->Int} {D:α->Prop} (hO:OrN cmp D)
include hO
theorem OrN.lt{l:List α}(hn:l.Nodup)(hD:∀z∈l,D z){p q:Nat}{x y:α}(hx:l[p]?=some x)(hy:l[q]?=some y)(a:p≠q)(h:¬cmp y x<0):cmp x y<0:=by grind [OrN,MY]
theorem SoR.all{a b:Nat}{l:List α}(h:SoR cmp a b l)(k:OrX cmp a b l):SoR cmp 0 l.length l:=λp q x y _ c _ hx hy=>by
 by_cases hh:a<=p/\q<b
 .exact h p q x y hh.1 c hh.2 hx hy
 .exact k p q x y c hh hx hy
theorem AaL{a b:Nat}{l:List α}(hn:l.Nodup)(hD:∀z∈l,D z)(ha:a<=1000)(hb:b<=l.length)(hl:l.length<=1000):T (inI cmp (a:Int) (b:Int) l) λr=>Rg a b l r/\SoR cmp a b r:=by
 unfold inI;rw[show wI ((a:Int)+1)=wI ((a:Nat)+1) from rfl];rw[aq aa];refine T.loop (λs=>∃i:Nat,s.2=(i:Int)/\a+1<=i/\(i<=b\/i=a+1)/\Rg a b l s.1/\SoR cmp a i s.1) (λs=>b-s.2.toNat) ⟨a+1,rfl,Dx _,.inr rfl,.refl l,λp q x y h1 h2 h3=>aa⟩ (by show b-_<_;omega) ?_;rintro⟨l1,A⟩ ⟨i,e,h1,h2,h3,h4⟩;dsimp only at e h3 h4;subst e;have f:=h3.1.nodup_iff.2 hn;have hl1:=h3.len;unfold AaI;dsimp only;refine .dec (λhlt=>?_) λhge=> .some ⟨h3,λp q x y k1 k2 k3=>h4 p q x y k1 k2 aa⟩;have hib:i<b:=aa;refine .bind ((T.loop (λs=>∃j:Nat,s.2=(j:Int)/\a<=j/\j<=i/\Rg a b l1 s.1/\∀p q x y,a<=p->p<q->q<=i->q≠j->s.1[p]?=some x->s.1[q]?=some y->cmp x y<0) (λs=>s.2.toNat) (Q:=λr=>Rg a b l1 r/\SoR cmp a (i+1) r) ⟨i,rfl,aa,Dx _,.refl l1,λp q x y k1 k2 k3 d=>h4 p q x y k1 k2 aa⟩ (by show((i:Int)).toNat<_;omega) ?_).mono λr hr=> .some ⟨⟨i+1,aq aa,aa,.inl aa,h3.trans hr.1,hr.2⟩,?_⟩)
 .rintro⟨l2,B⟩ ⟨j,e,k1,k2,k3,d⟩;dsimp only at e k3 d;subst e;have g:=k3.1.nodup_iff.2 f;have hl2:=k3.len;unfold AaH;dsimp only;refine .dec (λh=>?_) λh=> .some ⟨k3,λp q x y m1 m2 m3=>d p q x y m1 m2 aa aa⟩;obtain⟨k,rfl⟩:∃k,j=k+1:=⟨j-1,aa⟩;have ew:wI (((k+1:Nat):Int)-1)=(k:Int):=by grind [bM]
  have gx:l2[k+1]?=some (l2[k+1]'aa):=Ef _;have gy:l2[k]?=some (l2[k]'aa):=Ef _;generalize l2[k+1]'aa=x at gx;generalize l2[k]'aa=y at gy;rw[ew,au,au,gx,gy,aL,aL];refine .dec (λhc=>?_) λhc=> .some ⟨k3,λp q u v m1 m2 m3 hu hv=>?_⟩
  .obtain⟨r,t,pr,m⟩:=AcO (l:=l2) (i:=k+1) (j:=k) aa aa;obtain⟨C,E,hx',c,n⟩:=I6 t;rw[gx] at hx';rw[gy] at c;cases hx';cases c;rw[stZ (x:=y) gx,aL,Ah9 (w:=x) (x:=x) (z:=y) (i:=k+1) gy,aL,<-n];refine .some ⟨⟨k,rfl,aa,aa,k3.trans (Xe pr m aa aa aa aa),λp q u v m1 m2 m3 o hu hv=>?_⟩,by simp_all⟩;rw[m p] at hu;rw[m q] at hv;rw[BU o] at hv;by_cases c1:q=k+1
   .subst c1;rw[Bz rfl,gy] at hv;cases hv;by_cases c2:p=k
    .grind
    .rw[BU c2,BU aa] at hu;grind
   .rw[BU c1] at hv;by_cases c2:p=k
    .grind
    .rw[BU c2] at hu;by_cases c3:p=k+1;all_goals grind
  .have hyx:=hO.lt g (λz hz=>hD z (h3.1.mem_iff.1 (k3.1.mem_iff.1 hz))) gy gx aa hc;by_cases c1:q=k+1
   .subst c1;rw[gx] at hv;cases hv;by_cases c2:p=k
    .grind
    .exact hO.tr _ _ _ (d p k u y m1 aa aa aa hu gy) hyx
   grind
 .show b-((wI ((i:Int)+1))).toNat<b-((i:Int)).toNat;rw[aq aa];omega
end
section
variable {cmp:Ab->Ab->Int} (hO:OrN cmp λ_=>True)
include hO
structure PI (cmp:Ab->Ab->Int) (l0:A3) (a b:Nat) (pv:Ab) (l:A3) (i j:Nat):Prop where
 rg:Rg a b l0 l
 gp:l[a]?=some pv
 hi:a+1<=i
 hj:j<b
 hij:i<=j+1
 lo:∀q x,a<q->q<i->l[q]?=some x->cmp x pv<0
 up:∀q x,j<q->q<b->l[q]?=some x->¬cmp x pv<0
omit hO in
theorem Agw{i:Nat}{β:Type}{K:Nat->Nat->Option β}{Q:β->Prop}(h:PI cmp l0 a b pv l i j)(hb:b<=l.length)(hl:l.length<=1000)
  (g:∀e d,PI cmp l0 a b pv l e d->d<=j->(d<e\/(e<d/\(∃x,l[e]?=some x/\¬cmp x pv<0)/\∃y,l[d]?=some y/\cmp y pv<0))->T (K e d) Q):
  T ((AH (scU cmp l a j) i).bind λe=>(AH (scD cmp l a e) j).bind λd=>K e d) Q:=by
 have hj:=h.hj
 refine .bind ((T.loop (λe=>PI cmp l0 a b pv l e j) (λe=>j+1-e) (Q:=λe=>PI cmp l0 a b pv l e j/\(j<e\/∃x,l[e]?=some x/\¬cmp x pv<0)) h aa λe h'=>?_).mono λe hi=>?_)
 .unfold scU
  refine .dec (λhc=>?_) λhc=> .some ⟨h',.inl aa⟩
  have gx:l[e]?=some (l[e]'aa):=Ef _
  generalize l[e]'aa=x at gx
  rw[gx,h'.gp,aL,aL]
  refine .dec (λhx=> .some ⟨⟨h'.rg,h'.gp,Nat.le_succ_of_le h'.hi,h'.hj,aa,λq y k1 k2 hy=>?_,h'.up⟩,aa⟩) λhx=> .some ⟨h',.inr ⟨x,gx,hx⟩⟩
  grind [PI.lo]
 .obtain⟨hi,hx⟩:=hi
  refine .bind ((T.loop (λd=>PI cmp l0 a b pv l e d/\d<=j) (λd=>d) (Q:=λd=>(PI cmp l0 a b pv l e d/\d<=j)/\(d<e\/∃y,l[d]?=some y/\cmp y pv<0)) ⟨hi,Dx _⟩ aa λd ⟨h',f⟩=>?_).mono λd hj'=>?_)
  .unfold scD
   refine .dec (λhc=>?_) λhc=> .some ⟨⟨h',f⟩,.inl aa⟩
   have:=h'.hi
   have:=h'.hj
   have gx:l[d]?=some (l[d]'aa):=Ef _
   generalize l[d]'aa=y at gx
   rw[gx,h'.gp,aL,aL]
   refine .dec (λhy=> .some ⟨⟨h',f⟩,.inr ⟨y,gx,hy⟩⟩) λhy=>?_
   rw[show Nat.blt 0 d=true from Re aa,ax]
   refine .some ⟨⟨⟨h'.rg,h'.gp,h'.hi,aa,aa,h'.lo,λq x k1 k2 hx=>?_⟩,aa⟩,aa⟩
   by_cases c:q=d
   .grind
   .exact h'.up q x aa k2 hx
  grind
omit hO in
theorem AiT{i:Nat}(h:PI cmp l0 a b pv l i j)(hb:b<=l.length)(hij:i<j)(gx:l[i]?=some x)(hx:¬cmp x pv<0)(gy:l[j]?=some y)(hy:cmp y pv<0):∃r,swZ l i j=some r/\PI cmp l0 a b pv r (i+1) (j-1)/\0<j:=by
 have h1:=h.hi;have h2:=h.hj;obtain⟨r,e,pr,d⟩:=AcO (l:=l) (i:=i) (j:=j) aa aa;refine⟨r,e,⟨h.rg.trans (Xe pr d aa aa aa aa),?_,aa,aa,aa,λq z k1 k2 hz=>?_,λq z k1 k2 hz=>?_⟩,aa⟩
 .grind [PI.gp]
 .grind [PI.lo]
 .rw[d q] at hz;by_cases c:q=j
  .grind
  .rw[BU c,BU aa] at hz;exact h.up q z aa k2 hz
def Prt(cmp:Ab->Ab->Int)(a b m:Nat)(l:A3):Prop:=a<=m/\m<b/\∃c,l[m]?=some c/\(∀q x,a<=q->q<m->l[q]?=some x->cmp x c<0)/\∀q x,m<q->q<b->l[q]?=some x->¬cmp x c<0
omit hO in
theorem Agx{i:Nat}(h:PI cmp l0 a b pv l i j)(hb:b<=l.length)(hij:j<i):∃r,swZ l j a=some r/\Rg a b l0 r/\Prt cmp a b j r:=by
 have h1:=h.hi;have h2:=h.hj;have h3:=h.hij;obtain⟨r,c,pr,d⟩:=AcO (l:=l) (i:=j) (j:=a) aa aa;refine⟨r,c,h.rg.trans (Xe pr d aa aa aa aa),aa,aa,pv,?_,λq x k1 k2 hx=>?_,λq x k1 k2 hx=>?_⟩
 .grind [PI.gp]
 .grind [PI]
 grind [PI.up]
theorem Al8(hl:l.length<=1000)(hb:b<=l.length)(hap:a<=p)(c:p<b):T (paS cmp a b p l) λr=>Rg a b l r.2.2/\Prt cmp a b r.1 r.2.2:=by
 obtain⟨l0,e0,d,q0⟩:=AcO (l:=l) (i:=a) (j:=p) aa aa;have hl0:=d.length_eq;have g:=Xe (a:=a) (b:=b) d q0 (Dx _) aa hap c;unfold paS;refine .eqb e0 ?_;have gp:l0[a]?=some (l0[a]'aa):=Ef _;generalize l0[a]'aa=pv at gp;have h0:PI cmp l a b pv l0 (a+1) (b-1):=by grind [PI]
 refine Agw h0 aa aa λi j h1 _ h2=>?_;refine .dec (λhc=>?_) λhc=>?_
 .grind [Agx,T.some]
 .rcases h2 with h2|⟨h2,⟨x,gx,hx⟩,y,gy,hy⟩
  .omega
  obtain⟨l1,e1,k1,k2⟩:=AiT h1 aa h2 gx hx gy hy;rw[show Nat.blt 0 j=true from Re k2,ax];refine .eqb e1 (.bind ((T.loop (λs=>PI cmp l a b pv s.1 s.2.1 s.2.2) (λs=>s.2.2) (Q:=λs=>∃i,PI cmp l a b pv s.1 i s.2/\s.2<i) k1 (by grind) ?_).mono λs hs=>?_))
  .rintro⟨l2,h,e⟩ h3;dsimp only at h3;have hl2:=h3.rg.len;unfold paT;dsimp only;rw[CM aa,ax];refine Agw h3 aa aa λi j h4 f h5=>?_;refine .dec (λhc=> .some ⟨i,h4,by show j<i;omega⟩) λhc=>?_;rcases h5 with h5|⟨h5,⟨x,gx,hx⟩,y,gy,hy⟩
   .omega
   obtain⟨l3,e3,m1,m2⟩:=AiT h4 aa h5 gx hx gy hy;rw[show Nat.blt 0 j=true from Re m2,ax];refine .eqb e3 (.some ⟨m1,?_⟩);show j-1<e;omega
  .obtain⟨i,h3,h4⟩:=hs;have:=h3.rg.len;grind [Agx,T.some]
omit hO in
theorem Akp{x y s:Nat}(hx:x<l.length)(hy:y<l.length):T (o2S cmp l x y s) λr=>((r.1=x/\r.2.1=y)\/(r.1=y/\r.2.1=x))/\r.2.2<=s+1:=by grind [o2S,T.some]
omit hO in
theorem AnE(hB:Big a b)(hb:b<=l.length):T (chS cmp l a) λr=>a<=r.1/\r.1<b:=by
 have h9:a+9<b:=by rcases hB with⟨rfl,rfl⟩|⟨rfl,rfl⟩|⟨rfl,rfl⟩<;>omega
 unfold chS meS;refine .bind (.bind ((Akp aa aa).mono λd h1=> .bind ((Akp aa aa).mono λe h2=> .bind ((Akp aa aa).mono λc h3=> .some ?_))));dsimp only at*;rw[CM (show c.2.2<=3 by omega),ax];exact .some (show a<=c.2.1/\c.2.1<b by omega)
theorem AnF(hn:l.Nodup)(hb:b<=l.length)(d:a<b)(hl:l.length<=1000):T (piS cmp l a b) λf=>f=true->SoR cmp a b l:=by
 have adj:∀k,(∀q x y,a<=q->q<k->l[q]?=some x->l[q+1]?=some y->cmp x y<0)->SoR cmp a (k+1) l:=λk h=>by
  have key:∀n p x y,a<=p->p+n+1<=k->l[p]?=some x->l[p+n+1]?=some y->cmp x y<0:=by
   intro n;induction n with
   |zero=>grind
   |succ n ih=>intro p x y h1 h2 hx hy;have hlt:=(cr hy).1;have hz:l[p+n+1]?=some (l[p+n+1]'aa):=Ef _;exact hO.tr _ _ _ (ih p x _ h1 aa hx hz) (h (p+n+1) _ y aa aa hz hy)
  intro p q x y h1 h2 h3 hx hy;obtain⟨n,rfl⟩:∃n,q=p+n+1:=⟨q-p-1,aa⟩;exact key n p x y h1 aa hx hy
 unfold piS;refine .bind ((T.loop (λk=>a<=k/\k<b/\∀q x y,a<=q->q<k->l[q]?=some x->l[q+1]?=some y->cmp x y<0) (λk=>b-k) (Q:=λk=>k<b/\∀q x y,a<=q->q<k->l[q]?=some x->l[q+1]?=some y->cmp x y<0) (by grind) aa λk hk=>?_).mono λk hk=> .some λhf=>?_)
 .obtain⟨h1,h2,h3⟩:=hk;unfold scS;refine .dec (λhc=>?_) λhc=> .some ⟨h2,h3⟩;have gx:l[k+1]?=some (l[k+1]'aa):=Ef _;have gy:l[k]?=some (l[k]'aa):=Ef _;generalize l[k+1]'aa=x at gx;generalize l[k]'aa=y at gy;rw[gx,gy,aL,aL];refine .dec (λhx=> .some ⟨h2,h3⟩) λhx=> .some ⟨⟨aa,aa,λq u v k1 k2 hu hv=>?_⟩,aa⟩;by_cases c:q=k
  .subst c;grind [OrN.lt]
  grind
 .have hf:=DS hf;have:=adj k hk.2;grind
omit hO in
theorem AnG(hl:l.length=14):T (AH brT (0,l)) λr=>Rg 1 14 l r:=by
 refine T.loop (λs=>s.1<=3/\Rg 1 14 l s.2) (λs=>3-s.1) ⟨Nat.zero_le _,.refl l⟩ (show 3-0<4611686018427387904 by decide) ?_;rintro⟨j,r⟩ ⟨h1,h2⟩;dsimp only at h1 h2;have hr:=h2.len;unfold brT;rcases(by omega:j=0\/j=1\/j=2\/j=3) with rfl|rfl|rfl|rfl
 .obtain⟨r',e,p,q⟩:=AcO (l:=r) (i:=6) (j:=1) aa aa;exact .eqb e (.some ⟨⟨show 1<=3 by decide,h2.trans (Xe p q B5 B5 B5 B5)⟩,show 3-1<3-0 by decide⟩)
 .obtain⟨r',e,p,q⟩:=AcO (l:=r) (i:=7) (j:=12) aa aa;exact .eqb e (.some ⟨⟨show 2<=3 by decide,h2.trans (Xe p q B5 B5 B5 B5)⟩,show 3-2<3-1 by decide⟩)
 .obtain⟨r',e,p,q⟩:=AcO (l:=r) (i:=8) (j:=6) aa aa;exact .eqb e (.some ⟨⟨show 3<=3 by decide,h2.trans (Xe p q B5 B5 B5 B5)⟩,show 3-3<3-2 by decide⟩)
 .exact .some h2
structure PdI (cmp:Ab->Ab->Int) (l0:A3) (s:PdS):Prop where
 pm:s.1.Perm l0
 ab:s.2.1<=s.2.2.1
 bn:s.2.2.1<=l0.length
 ox:OrX cmp s.2.1 s.2.2.1 s.1
 lm:12<s.2.2.1-s.2.1->4<=s.2.2.2.1+(14-(s.2.2.1-s.2.1))
 lh:s.2.2.2.1<=100
 bl:s.2.2.2.2.1=false->s.2.2.1-s.2.1<=12\/(s.2.1=1/\s.2.2.1=14)
theorem Al9(hn:l0.Nodup)(hl:l0.length<=14){s:PdS}(h0:PdI cmp l0 s):T (AH (pdT cmp) s) λr=>r.Perm l0/\SoR cmp 0 r.length r:=by
 refine T.loop (PdI cmp l0) (λs=>s.2.2.1-s.2.1) h0 (by grind [PdI]) ?_;rintro⟨l,a,b,n,A,par⟩ ⟨pm,ab,bn,ox,lm,lh,bl⟩;dsimp only at pm ab bn ox lm lh bl;have hll:=pm.length_eq;have hnl:=pm.nodup_iff.2 hn;unfold pdT;dsimp only;rw[CM (by grind),ax];refine .dec (λhc=>?_) λhc=>?_
 .refine .bind ((AaL hO hnl (λ_ _=>trivial) aa aa aa).mono λr hr=> .some ⟨hr.1.1.trans pm,?_⟩);grind [SoR.all,OrX.rg]
 have hbig:12<b-a:=aa;have lm:=lm hbig;have hB:Big a b:=by
  rcases(by omega:(a=0/\b=13)\/(a=0/\b=14)\/(a=1/\b=14)) with⟨rfl,rfl⟩|⟨rfl,rfl⟩|⟨rfl,rfl⟩
  .exact .inl ⟨rfl,rfl⟩
  .exact .inr (.inl ⟨rfl,rfl⟩)
  .exact .inr (.inr ⟨rfl,rfl⟩)
 have hBb:Aib a b=true:=by rcases hB with⟨rfl,rfl⟩|⟨rfl,rfl⟩|⟨rfl,rfl⟩<;>rfl
 rw[hBb,show Nat.blt 0 n=true from Re aa,show Nat.ble n 100=true from Re lh];simp only[Bool.and_self,ax];have hbr:T (brG l a b n A) λq=>Rg a b l q.1/\n<=q.2+1/\q.2<=n:=by grind [brG,T.some,Rg.refl,T.bind,T.mono,AnG,Rg.len,Nat.beq_refl]
 refine .bind (hbr.mono ?_);rintro⟨l1,e⟩ ⟨i,m1,m2⟩;dsimp only at i m1 m2⊢;have hl1:=i.len;have z:=i.1.nodup_iff.2 hnl;have ox1:=ox.rg i hnl;rw[CM (show l1.length<=1000 by omega),ax];refine .bind ((AnE hB aa).mono ?_);rintro⟨p,B⟩ ⟨hp1,hp2⟩;dsimp only at hp1 hp2⊢;have hpi:T (bif A&&par&&B then piS cmp l1 a b else some false) λf=>f=true->SoR cmp a b l1:=by grind [AnF,T.some]
 refine .bind (hpi.mono λd hd=> .ite (λC=> .some ⟨i.1.trans pm,SoR.all hO (hd C) ox1⟩) λ_=>?_);have hag:agG cmp l1 a p=some true:=by
  unfold agG;cases hza:Nat.blt 0 a with
  |false=>rfl
  |true=>have hza:=E7 hza;have g1:l1[a-1]?=some (l1[a-1]'aa):=Ef _;have g2:l1[p]?=some (l1[p]'aa):=Ef _;rw[ax,g1,g2,aL,aL,CM (ox1 (a-1) p _ _ aa aa g1 g2)]
 refine .eqb hag ?_;rw[ax];refine .bind ((Al8 hO aa aa hp1 hp2).mono ?_);rintro⟨m,f,l2⟩ ⟨j,F,H,w,o,lo,up⟩;dsimp only at j F H o lo up⊢;have hl2:=j.len;have g:=j.1.nodup_iff.2 z;have ox2:=ox1.rg j z;rw[show Nat.beq l1.length l2.length=true by rw[hl2];exact Nat.beq_refl _,ax];unfold pdN;rw[CM ⟨F,H⟩,ax];have pvx:∀q x,m<q->q<b->l2[q]?=some x->cmp w x<0:=λq x h1 h2 hx=>hO.lt g (λ_ _=>trivial) o hx aa (up q x h1 h2 hx);refine .dec (λE=>?_) λE=>?_
 .refine .bind ((AaL hO g (λ_ _=>trivial) (a:=a) (b:=m) aa aa aa).mono λl3 ⟨c,so3⟩=>?_);have rg3':=c.mono (a':=a) (b':=b) (Dx _) aa;have hl3:=c.len;rw[show Nat.beq l2.length l3.length=true by rw[hl3];exact Nat.beq_refl _,ax];have gp3:l3[m]?=some w:=(c.2 m (.inr (Dx _))).trans o;have lo3:∀q x,a<=q->q<m->l3[q]?=some x->cmp x w<0:=λq x h1 h2 hx=>by obtain⟨I,k1,k2,k3⟩:=c.src g h1 h2 hx;exact lo I x k1 k2 k3
  have up3:∀q x,m<q->q<b->l3[q]?=some x->cmp w x<0:=λq x h1 h2 hx=>pvx q x h1 h2 ((c.2 q (.inr aa)).symm.trans hx);have ox3:=ox2.rg rg3' g;refine .some ⟨⟨c.1.trans (j.1.trans (i.1.trans pm)),by show m+1<=b;omega,bn,λu v x y k hh hx hy=>?_,λt=>by show 4<=e+_;have:12<b-(m+1):=t;show 4<=e+(14-(b-(m+1)));omega,by show e<=100;omega,λhbal=>?_⟩,by show b-(m+1)<b-a;omega⟩
  .have hh:¬(m+1<=u/\v<b):=hh;by_cases c0:a<=u/\v<b
   .rcases(by omega:v<m\/v=m\/(u=m/\m<v)\/(u<m/\m<v)) with h|rfl|⟨rfl,h⟩|⟨h1,h2⟩
    .exact so3 u v x y c0.1 k h hx hy
    .grind
    .grind
    .exact hO.tr _ _ _ (lo3 u x c0.1 h1 hx) (up3 v y h2 c0.2 hy)
   .exact ox3 u v x y k c0 hx hy
  .have hbal:decide ((1:Int)<=(m:Int)-(a:Int))=false:=hbal;have:=Lq hbal;show b-(m+1)<=12\/(m+1=1/\b=14);omega
 .refine .bind ((AaL hO g (λ_ _=>trivial) (a:=m+1) (b:=b) aa aa aa).mono λl3 ⟨c,so3⟩=>?_);have rg3':=c.mono (a':=a) (b':=b) aa (Dx _);have hl3:=c.len;rw[show Nat.beq l2.length l3.length=true by rw[hl3];exact Nat.beq_refl _,ax];have gp3:l3[m]?=some w:=(c.2 m (.inl aa)).trans o;have lo3:∀q x,a<=q->q<m->l3[q]?=some x->cmp x w<0:=λq x h1 h2 hx=>lo q x h1 h2 ((c.2 q (.inl aa)).symm.trans hx);have up3:∀q x,m<q->q<b->l3[q]?=some x->cmp w x<0:=λq x h1 h2 hx=>by obtain⟨I,k1,k2,k3⟩:=c.src g aa h2 hx;grind
  have ox3:=ox2.rg rg3' g;refine .some ⟨⟨c.1.trans (j.1.trans (i.1.trans pm)),F,by show m<=l0.length;omega,λu v x y k hh hx hy=>?_,λt=>by have:12<m-a:=t;show 4<=e+(14-(m-a));omega,by show e<=100;omega,λhbal=>?_⟩,by show m-a<b-a;omega⟩
  .have hh:¬(a<=u/\v<m):=hh;by_cases c0:a<=u/\v<b
   .rcases(by omega:m+1<=u\/(u=m/\m<v)\/(u<m/\v=m)\/(u<m/\m<v)) with h|⟨rfl,h⟩|⟨h,rfl⟩|⟨h1,h2⟩
    .exact so3 u v x y h k c0.2 hx hy
    .grind
    .grind
    .exact hO.tr _ _ _ (lo3 u x c0.1 h1 hx) (up3 v y h2 c0.2 hy)
   .exact ox3 u v x y k c0 hx hy
  grind
end
def RW(cmp:Ab->Ab->Int)(l:A3):Option A3:=AH (pdT cmp) (l,0,l.length,WZ l.length,true,true)
theorem Uh{cmp:Ab->Ab->Int}(hO:OrN cmp λ_=>True){l:A3}(hn:l.Nodup)(hl:l.length<=14):T (RW cmp l) λr=>r.Perm l/\r.Pairwise λx y=>cmp x y<0:=by
 refine(Al9 hO hn hl (s:=(l,0,l.length,WZ l.length,true,true)) ⟨.refl _,Nat.zero_le _,Dx _,λp q x y h1 h2 hx hy=>?_,λh=>?_,?_,λh=>by cases h⟩).mono λr hr=>⟨hr.1,?_⟩
 .grind
 .have h:12<l.length-0:=h;show 4<=WZ l.length+(14-(l.length-0));rcases(by omega:l.length=13\/l.length=14) with e|e<;>rw[e]<;>decide
 .show WZ l.length<=100;generalize l.length=n at hl;rcases(by omega:n=0\/n=1\/n=2\/n=3\/n=4\/n=5\/n=6\/n=7\/n=8\/n=9\/n=10\/n=11\/n=12\/n=13\/n=14) with rfl|rfl|rfl|rfl|rfl|rfl|rfl|rfl|rfl|rfl|rfl|rfl|rfl|rfl|rfl<;>decide
 .rw[List.pairwise_iff_getElem];intro p q hp hq a;exact hr.2 p q _ _ (Nat.zero_le _) a hq (Ef hp) (Ef hq)
section
variable {gl:Cd} {fi:FuncId} {fa fc:Bj} {cmp:Ab->Ab->Int}
theorem AbN(hv:CmV gl fi fa fc cmp)(a:RnF fa)(b:RnF fc)(hl:l.length<=14)(h:RW cmp l=some r):jg prog gl 128 [.rsl 0 0 l.length,Sq fi fa fc] [(0,Bt l)] 1 (.tup []) [(0,Bt r)] 1:=by
 have e:wU (ah l)=l.length:=by unfold ah;rw[gP];omega
 have hb:ba prog gl 186 [uG (wU (ah l):Int)] (iG (WZ l.length:Int)):=by grind [RC]
 have hp:=Ako hv a b h rfl;dsimp only at hp;refine pP func128 ?_;exact mt .normal (s0 14 gl [] [(0,Bt r)] 1 1) [] [Az 10 (C8 (ah l)),hf 11 hb,hI hv a b 13 [iG ((0:Nat):Int),iG (l.length:Int),iG (WZ l.length:Int)] hp rfl] [hc (ac.imm r)] (kd:=[(0,.row)])
theorem AbO(h:Uc gg):CmV gl 129 [.agg (Np ⟨gg⟩)] [] (Nf (PP gg)):=⟨aH,aY (aG 20 (.agg (Np ⟨gg⟩)) aH) bf,bf,(by grind [Ah4])⟩
theorem Agy(h:Uc gg)(hn:ids.length<=14)(hr:RW (Nf (PP gg)) ids=some row)(hle:row.length=ids.length):iV prog gl 62 [.ptr (Ag gg) 0,aE aj ids] 36 row.length (row.flatMap aj):=by
 have hcl:cU ids=some ids:=by grind [cU,aT]
 rw[hle];refine OW func62 ?_;exact EI [ho 7 [aE aj ids] [] (jY gl hcl) (Zy _),hI (gl:=gl) (AbO h) (λκ=>rfl) (λκ=>rfl) 12 [] (AbN (gl:=gl) (AbO h) (λκ=>rfl) (λκ=>rfl) hn hr) rfl] (ac.imm row)
theorem AbP(h:Uc gg)(hn:ids.length<=14)(hr:RW (Nf (PP gg)) ids=some row)(hle:row.length=ids.length):ba prog gl 62 [.ptr (Ag gg) 0,aE aj ids] (aE aj row):=(Agy h hn hr hle).fn ac.sz (ac.len _) (ac.imm _)
theorem Tl(a b:Ab):ba prog gl 161 [.agg (aj a),.agg (aj b)] (bG (dt a b)):=Nr gl (EW a b)
theorem Aid(a b:Ab):ba prog gl 369 [.agg (aj a),.agg (aj b)] (iG (Hg a b)):=by
 have h1:=Tl (gl:=gl) a b;have h2:=Tl (gl:=gl) b a;unfold Hg;refine Gh func369 ?_;cases c1:dt a b with
 |true=>rw[c1] at h1;exact Ar [hf 7 h1] []
 |false=>
  rw[c1] at h1;cases c2:dt b a with
  |true=>rw[c2] at h2;exact Ar [hf 7 h1,hf 10 h2] []
  |false=>rw[c2] at h2;exact Ar [hf 7 h1,hf 10 h2] []
abbrev hso(d c:Nat){l r:A3}{fi:FuncId}{cmp:Ab->Ab->Int}(hv:CmV gl fi [] [] cmp)(hl:l.length<=14)(h:RW cmp l=some r)(hlt:[0].all (λk=>Nat.blt k c)=true:=by kernel_rfl):HP:=tN d [0] c [(0,Bt l)] [.rsl 0 0 l.length,.clo (.func fi) [] []] [(0,Bt r)] (AbN hv (λκ=>rfl) (λκ=>rfl) hl h) ⟨⟨rfl,.inr ⟨rfl,ac.imm l⟩⟩,trivial⟩ ⟨⟨rfl,.inr ⟨rfl,ac.imm r⟩⟩,trivial⟩ hlt
theorem Akq:CmV gl 369 [] [] Hg:=⟨aH,bf,bf,(by grind [Aid])⟩
theorem Aep(hl:l.length<=14)(h:RW Hg l=some r):jg prog gl 322 [.rsl 0 0 l.length] [(0,Bt l)] 1 (.rsl 0 0 l.length) [(0,Bt r)] 1:=by refine pP func322 ?_;exact mt .ret (s0 6 gl [(2,.rsl 0 0 l.length)] [(0,Bt r)] 1 1) [.rsl 0 0 l.length] [hso (gl:=gl) 4 1 Akq hl h] [hc (el l),hc (ac.imm r)]
def Ye(d a b:Int)(x:Ab):Bool:=bif x.By=d then(bif a<=x.Seq then decide (x.Seq<=b)else false)else false
abbrev hsm(d c:Nat){l r:A3}(hl:l.length<=14)(h:RW Hg l=some r)(hlt:[0].all (λk=>Nat.blt k c)=true:=by kernel_rfl):HP:=tN d [0] c [(0,Bt l)] [.rsl 0 0 l.length] [(0,Bt r)] (Aep (gl:=gl) hl h) ⟨⟨rfl,.inr ⟨rfl,ac.imm l⟩⟩,trivial⟩ ⟨⟨rfl,.inr ⟨rfl,ac.imm r⟩⟩,trivial⟩ hlt
theorem Akr{a b:Int}(hn:ids.length<=14)(h:RW Hg (ids.filter (Ye d a b))=some r)(hle:r.length=(ids.filter (Ye d a b)).length):iV prog gl 321 [aE aj ids,iG d,iG a,iG b] 36 r.length (r.flatMap aj):=by
 rw[hle];refine OW func321 ?_;refine Za (l:=ids) aa (λk:Nat=>(s0 41 gl [(1,iG d),(2,iG a),(3,iG b),(9,.rsl 0 0 ((ids.take k).filter (Ye d a b)).length),(12,aE aj ids),(13,iG (ah ids)),(14,iG (k:Int))] [(0,Bt ((ids.take k).filter (Ye d a b)))] 1 0)) 1110122 [] [hc (ac.imm [])] (λB k x hx c k5=>?_) (λB=>?_)
 .have hlt:=(cr hx).1;have hl:=M0 (Ye d a b) (ids.take k);rw[LW] at hl;have e:(ids.take (k+1)).filter (Ye d a b)=(ids.take k).filter (Ye d a b)++(bif Ye d a b x then[x] else[]):=by grind [Hr]
  rw[e] at k5;generalize (ids.take k).filter (Ye d a b)=l at k5 hl⊢;unfold Ye at k5;cases b1:decide (x.By=d) with
  |false=>rw[b1,AQ,AQ,Md] at k5;exact jw [hr 15 (C3 hx),Az 16 (ac.ixZ c),Az 17 (ac.ptZ aW c),hr 21 b1,hbb 38 (Xl (q:=k) aa)] [hc (el l),hc (ac.imm l)] k5
  |true=>
   rw[b1,ax] at k5;cases b2:decide (a<=x.Seq) with
   |false=>rw[b2,AQ,AQ,Md] at k5;exact jw [hr 15 (C3 hx),Az 16 (ac.ixZ c),Az 17 (ac.ptZ aW c),hr 21 b1,hr 26 b2,hbb 38 (Xl (q:=k) aa)] [hc (el l),hc (ac.imm l)] k5
   |true=>
    rw[b2,ax] at k5;cases b3:decide (x.Seq<=b) with
    |false=>rw[b3,AQ,Md] at k5;exact jw [hr 15 (C3 hx),Az 16 (ac.ixZ c),Az 17 (ac.ptZ aW c),hr 21 b1,hr 26 b2,hr 32 b3,hbb 38 (Xl (q:=k) aa)] [hc (el l),hc (ac.imm l)] k5
    |true=>rw[b3,ax] at k5;exact jw [hr 15 (C3 hx),Az 16 (ac.ixZ c),Az 17 (ac.ptZ aW c),hr 21 b1,hr 26 b2,hr 32 b3,Tn 37 ac 24 l x aa,hbb 38 (Xl (q:=k) aa)] [hc (el (l++[x])),hc (ac.imm (l++[x]))] k5
 .rw[DZ];have hl:=M0 (Ye d a b) ids;exact EI [hr 15 (D4 (s:=ids)),hsm (gl:=gl) 40 1 aa h] (ac.imm r)
theorem Aks{a b:Int}(hn:ids.length<=14)(h:RW Hg (ids.filter (Ye d a b))=some r)(hle:r.length=(ids.filter (Ye d a b)).length):ba prog gl 321 [aE aj ids,iG d,iG a,iG b] (aE aj r):=(Akr hn h hle).fn ac.sz (ac.len _) (ac.imm _)
end
def KI(x:Bf):List Value:=[.int .i64 x.Device,.int .i64 x.Seq]
theorem AaM(d:Nat)(i j:Bf):bt prog (Op.equalIn (d+3) 165 (.agg (KI i).toArray) (.agg (KI j).toArray))=some (decide (i=j)):=by obtain⟨a0,a1⟩:=i;obtain⟨b0,b1⟩:=j;unfold KI;rw[xV (fs:= #[⟨ "Device",3,0,false, "", "",0⟩,⟨ "Seq",3,1,false, "", "",8⟩]) aH aH];simp only[Array.toList];rw[uJ (k:= .i64) (k':= .i64) (a:=a0) (b:=b0) B5 aH aH aH];rw[uJ (k:= .i64) (k':= .i64) (a:=a1) (b:=b1) B5 aH aH aH];grind [Bf.mk.injEq,Op.eqFields,bz]
def EG(x:Bf):Value:= .agg (KI x).toArray
theorem ON:Mw prog 165 EG:=Qw (d:= .struct #[⟨ "Device",3,0,false, "", "",0⟩,⟨ "Seq",3,1,false, "", "",8⟩]) aH (λb k=>by cases b<;>(show _=_;kernel_rfl)) (λa b=>rfl) (λa b=>AaM 9997 a b)
theorem Ama(k:Bf):Instr.sameBits 10000 (EG k) (EG k)=true:=by(unfold EG KI;simp[Instr.sameBits])
abbrev tMk:Bn:=264
abbrev oMk(m:FM Bf Int):Option Ob:=some (Nh tMk EG iG m)
abbrev tMy:Bn:=265
abbrev oMy(m:FM Int Int):Option Ob:=some (Nh tMy JM iG m)
abbrev ZH(l:List Bf):Option Ob:=some ⟨165,l.flatMap Bu,none⟩
def UH(a b:Bf):Int:=AbK a.Device b.Device
section
variable {gl:Cd}
theorem Aih(a b:Bf):ba prog gl 214 [.agg (Bu a),.agg (Bu b)] (iG (UH a b)):=Vz gl (by unfold Un;rw[AdB];rfl)
abbrev cmK:G:= .clo (.func 214) [] []
abbrev hcF(d:Nat)(x y:Bf):HP:=hf d (Aih (gl:=gl) x y)
theorem Amb{l w1 w2:List Bf}{i j:Int}{a b:Bf}(h1:ji l i b=some w1)(h2:ji w1 j a=some w2):fh prog 163 (.rsl 0 0 l.length) j=some (.ref 0 (0+j.toNat*2)):=by rw[hZ h1];exact Bg.ixsZ 0 h2
theorem Aii{a b:Int}{l r:List Bf}(h:inI UH a b l=some r):jg prog gl 357 [.rsl 0 0 l.length,iG a,iG b,cmK] [(0,ZH l)] 1 (.tup []) [(0,ZH r)] 1:=by
 unfold inI at h;refine pP func357 ?_;refine pN (λs:List Bf×Int=>(s0 53 gl [(0,.rsl 0 0 s.1.length),(1,iG a),(2,iG b),(3,cmK),(8,iG s.2)] [(0,ZH s.1)] 1 1)) 1122 h [] [hc (el l),hc (aG 20 cmK aH),hc (Bg.imm l)] (λB s w hs k5 f=>?_);obtain⟨l1,i⟩:=s;unfold AaI at hs;dsimp only at hs;rcases bC hs with⟨b1,hs⟩|⟨b1,hs⟩
 .obtain⟨l2,e2,hs⟩:=bS hs;obtain rfl:=Bo hs;refine Ix 11221021 (s0 53 gl [(0,.rsl 0 0 l2.length),(1,iG a),(2,iG b),(3,cmK),(8,iG i)] [(0,ZH l2)] 1 1) ?_ λkk=>?_
  .exact jw [] [hc (el l2),hc (aG 20 cmK aH),hc (Bg.imm l2)] (k5 _ rfl)
  refine pN (λs:List Bf×Int=>(s0 53 gl [(0,.rsl 0 0 s.1.length),(1,iG a),(2,iG b),(3,cmK),(8,iG i),(9,iG s.2)] [(0,ZH s.1)] 1 1)) 1122102122 e2 [hr 14 b1] [hc (el l1),hc (aG 20 cmK aH),hc (Bg.imm l1)] (λk z v hz g e=>?_);obtain⟨l3,j⟩:=z;unfold AaH at hz;dsimp only at hz;rcases bC hz with⟨b2,hz⟩|⟨b2,hz⟩
  .obtain⟨x,c,hz⟩:=bS hz;obtain⟨y,d,hz⟩:=bS hz;rcases bC hz with⟨b3,hz⟩|⟨b3,hz⟩
   .obtain⟨w1,e1,hz⟩:=bS hz;obtain⟨w2,e3,hz⟩:=bS hz;obtain rfl:=Bo hz;exact jw [hr 20 b2,Az 25 (Bg.ixrZ 0 c),Az 26 (Bg.pt0Z Hs c),Az 30 (Bg.ixrZ 0 d),Az 31 (Bg.pt0Z Hs d),hcF (gl:=gl) 32 x y,hr 33 b3,Az 45 (Bg.ixrZ 0 d),Az 46 (Bg.pt0Z Hs d),Az 49 (Bg.ixrZ 0 c),Az 50 (Bg.pt0Z Hs c),Az 51 (Bg.ixsZ 0 e1),hw 51 (w1.flatMap Bu) (Bg.putZ e1),Az 52 (Amb e1 e3),hw 52 (w2.flatMap Bu) (Bg.putZ e3)] [hc ((hZ e1).trans (hZ e3)),hc (aG 20 cmK aH),hc (Bg.imm w2)] (g _ rfl)
   .obtain rfl:=Bo hz;obtain rfl:=e _ rfl;exact yl 11221021 [hr 20 b2,Az 25 (Bg.ixrZ 0 c),Az 26 (Bg.pt0Z Hs c),Az 30 (Bg.ixrZ 0 d),Az 31 (Bg.pt0Z Hs d),hcF (gl:=gl) 32 x y,hr 33 b3] [hc (el l3),hc (aG 20 cmK aH),hc (Bg.imm l3)] kk
  .obtain rfl:=Bo hz;obtain rfl:=e _ rfl;exact yl 11221021 [hr 20 b2] [hc (el l3),hc (aG 20 cmK aH),hc (Bg.imm l3)] kk
 .obtain rfl:=Bo hs;obtain rfl:=f _ rfl;exact mt .normal (s0 53 gl [] [(0,ZH l1)] 1 1) [] [hr 14 b1] [hc (Bg.imm l1)] (kd:=[(0,.row)])
theorem Aij{l r:List Bf}(hl:l.length<=12)(h:inI UH ((0:Nat):Int) (l.length:Int) l=some r)(k:Int):jg prog gl 305 [.rsl 0 0 l.length,iG 0,iG (l.length:Int),iG k,cmK] [(0,ZH l)] 1 (.tup []) [(0,ZH r)] 1:=by have hs:=sb (a:=(l.length:Int)) (b:=((0:Nat):Int)) (z:=(l.length:Int)-((0:Nat):Int)) rfl aa;have hd:decide ((l.length:Int)-((0:Nat):Int)<=12)=true:=CM aa;refine pP func305 ?_;refine pN (λ_:Unit=>(s0 148 gl [(0,.rsl 0 0 l.length),(1,iG ((0:Nat):Int)),(2,iG (l.length:Int)),(3,iG k),(4,cmK)] [(0,ZH l)] 1 1)) 11122 Lg [] [hc (el l),hc (aG 20 cmK aH),hc (Bg.imm l)] (λc z v hz2 d e=>?_);exact mt .ret (s0 148 gl [] [(0,ZH r)] 1 1) [] [hbb 23 hs,hr 25 hd,tN 30 [0] 1 [(0,ZH l)] [.rsl 0 0 l.length,iG ((0:Nat):Int),iG (l.length:Int),cmK] [(0,ZH r)] (Aii (gl:=gl) h) ⟨⟨rfl,.inr ⟨rfl,Bg.imm l⟩⟩,trivial⟩ ⟨⟨rfl,.inr ⟨rfl,Bg.imm r⟩⟩,trivial⟩] [hc (Bg.imm r)] (kd:=[(0,.row)])
theorem Agz{l r:List Bf}(hl:l.length<=12)(h:inI UH ((0:Nat):Int) (l.length:Int) l=some r):jg prog gl 213 [.rsl 0 0 l.length,cmK] [(0,ZH l)] 1 (.tup []) [(0,ZH r)] 1:=by
 have e:wU (ah l)=l.length:=by unfold ah;rw[gP];omega
 have hb:ba prog gl 186 [uG (wU (ah l):Int)] (iG (WZ l.length:Int)):=by grind [RC]
 refine pP func213 ?_;exact mt .normal (s0 14 gl [] [(0,ZH r)] 1 1) [] [Az 10 (C8 (ah l)),hf 11 hb,tN 13 [0] 1 [(0,ZH l)] [.rsl 0 0 l.length,iG 0,iG (l.length:Int),iG (WZ l.length:Int),cmK] [(0,ZH r)] (Aij (gl:=gl) hl h (WZ l.length:Int)) ⟨⟨rfl,.inr ⟨rfl,Bg.imm l⟩⟩,trivial⟩ ⟨⟨rfl,.inr ⟨rfl,Bg.imm r⟩⟩,trivial⟩] [hc (Bg.imm r)] (kd:=[(0,.row)])
end
def fkT(s:FM Bf Int×FM Int Int)(x:Ab):FM Bf Int×FM Int Int:=
 (C6 s.1 ⟨x.By,x.Seq⟩ (wI ((s.1.get ⟨x.By,x.Seq⟩).getD 0+1)),bif wI ((s.1.get ⟨x.By,x.Seq⟩).getD 0+1)<2 then s.2 else bif(s.2.get x.By).isSome then(bif x.Seq<(s.2.get x.By).getD 0 then C6 s.2 x.By x.Seq else s.2)else C6 s.2 x.By x.Seq)
def Ui(ids:A3):FM Bf Int×FM Int Int:=ids.foldl fkT (⟨[],0⟩,⟨[],0⟩)
theorem Aku(h:RT s.1/\RT s.2):RT (fkT s x).1/\RT (fkT s x).2:=by grind [fkT,Ow]
theorem Xf(ids:A3):RT (Ui ids).1/\RT (Ui ids).2:=by
 have key:∀(l:A3) (s:FM Bf Int×FM Int Int),RT s.1/\RT s.2->RT (l.foldl fkT s).1/\RT (l.foldl fkT s).2:=by intro l;induction l<;>grind [Aku]
 exact key ids _ ⟨Akd,Akd⟩
theorem AbR(hx:ids[k]?=some x):Ui (ids.take (k+1))=fkT (Ui (ids.take k)) x:=by grind [Ui,Hr]
theorem lkF(m:FM Bf Int)(k:Bf){v:Int}(h:(m.get k).getD 0=v):bL prog [(0,oMk m)] tMk false (.mref 0) (.agg (Bu k))=some (iG v):=h▸(SW (et:=3) ON aH (k:=k) rfl R3).trans (FM.look1 (et:=3) (v0:=0) ON aH aH m k rfl _)
theorem lkY(m:FM Int Int)(k:Int){v:Int}{b:Bool}(h:(m.get k).getD 0=v)(hb:(m.get k).isSome=b):bL prog [(1,oMy m)] tMy true (.mref 1) (iG k)=some (.tup [iG v,bG b]):=h▸hb▸(SW (et:=3) PC aH (k:=k) rfl R3).trans (FM.look (et:=3) (v0:=0) PC aH aH m k rfl _)
def hnl(d:Nat){P:Br}{σ:aQ}{t:Bn}{ok:Bool}{i:Nat}{gk g:G}(ck:aQ->Bool)(h:bL P [(i,ag σ i)] t ok (.mref i) gk=some g/\∀W,ck W=true->bL P [(i,ag (W++σ) i)] t ok (.mref i) gk=some g):HP:=⟨some (.n d g ck),bL P [(i,ag σ i)] t ok (.mref i) gk=some g/\∀W,ck W=true->bL P [(i,ag (W++σ) i)] t ok (.mref i) gk=some g,h⟩
def hnk(ck:aQ->Bool)(U:aQ)(h:ck U=true):HP:=⟨some (.v 999999996 (.lit undef)),ck U=true,h⟩
noncomputable def ckE(V:aQ):aQ->Bool:=λW=> @decide (W=V) (Classical.propDecidable _)
theorem AgA{V W:aQ}:ckE V W=true↔W=V:= @decide_eq_true_iff _ (Classical.propDecidable _)
theorem mkI(m:FM Bf Int):∀e∈XI EG iG m,bB e.2.1:=QO λv=>mN _
theorem myI(m:FM Int Int):∀e∈XI JM iG m,bB e.2.1:=QO λv=>mN _
abbrev Amc(clock:Nat)(seen:Bq):Option Ob:=some ⟨tMy,[],some (.iter (some 0) clock seen clock)⟩
abbrev mkF(e:Int×Int×Nat):Bf:=⟨e.1,e.2.1⟩
section
variable {gl:Cd}
abbrev stF(gl:Cd)(l:FM Int Int)(seen:Bq)(a:List Bf):St:=(s0 75 gl [(12,.rsl 2 0 a.length),(60,.ref 1 0)] [(0,oMy l),(1,Amc l.clk seen),(2,ZH a)] 3 0)
abbrev fr4(ids:A3)(k:Nat):Fr:=[(5,.mref 0),(6,.mref 1),(17,aE aj ids),(18,iG (ah ids)),(19,iG (k:Int))]
theorem AbT{gg:Aj}{ids:A3}{r:List Bf}{n:Nat}(hn:ids.length<=1000)(h12:(Ui ids).2.es.length<=12)(he:(Ui ids).2.es.length=n)(hs:∀l:List Bf,l.Perm ((Ui ids).2.es.map mkF)->inI UH ((0:Nat):Int) (l.length:Int) l=some r):iV prog gl 116 [.ptr (Ag gg) 0,aE aj ids] 165 n (r.flatMap Bu):=by
 refine OW func116 ?_;refine Za (l:=ids) aa (λk:Nat=>(s0 75 gl (fr4 ids k) [(0,oMk (Ui (ids.take k)).1),(1,oMy (Ui (ids.take k)).2)] 2 0)) 11110122 [] [hc (mkI (Ui (ids.take 0)).1),hc (myI (Ui (ids.take 0)).2)] (λB k x hx hz k5=>?_) (λB=>?_) [] [(0,0),(1,1)] []
 .have hlt:=(cr hx).1;obtain⟨h1,h2⟩:=Xf (ids.take k);rw[AbR hx] at k5;generalize Ui (ids.take k)=s at k5 h1 h2⊢;obtain⟨m,l⟩:=s;unfold fkT at k5;dsimp only at k5 h1 h2⊢;generalize hv1:(m.get ⟨x.By,x.Seq⟩).getD 0=v at k5;have h36:((C6 m ⟨x.By,x.Seq⟩ (wI (v+1))).get ⟨x.By,x.Seq⟩).getD 0=wI (v+1):=by rw[BA,Bz rfl];rfl
  refine pO 111101221102110 (s0 75 gl ([(8,.ref 2 0),(9,.ref 3 0)]++fr4 ids k) [(0,oMk m),(1,oMy l),ob 2 36 (aj x),ob 3 165 (Bu ⟨x.By,x.Seq⟩)] 4 0) [hr 20 (C3 hx),Az 21 (ac.ixZ hz),Az 22 (ac.ptZ aW hz)] [hc (mkI m),hc (myI l)] ?_ [] [(0,0),(1,1),(2,2),(3,3)] [];refine pO 11110122110211100 (s0 75 gl ([(8,.ref 2 0),(9,.ref 3 0)]++fr4 ids k) [(0,oMk (C6 m ⟨x.By,x.Seq⟩ (wI (v+1)))),(1,oMy l),ob 2 36 (aj x),ob 3 165 (Bu ⟨x.By,x.Seq⟩)] 4 0) [hnl 30 (σ:=[(0,oMk m),(1,oMy l),ob 2 36 (aj x),ob 3 165 (Bu ⟨x.By,x.Seq⟩)]) (ckE [(0,some (Nh tMk EG iG (C6 m ⟨x.By,x.Seq⟩ ((m.get ⟨x.By,x.Seq⟩).getD 0))))]) ⟨lkF m ⟨x.By,x.Seq⟩ hv1,λW h=>by rw[AgA.1 h];exact lkF (C6 m ⟨x.By,x.Seq⟩ ((m.get ⟨x.By,x.Seq⟩).getD 0)) ⟨x.By,x.Seq⟩ (by rw[BA,Bz rfl];exact hv1)⟩,hnk (ckE [(0,some (Nh tMk EG iG (C6 m ⟨x.By,x.Seq⟩ ((m.get ⟨x.By,x.Seq⟩).getD 0))))]) [(0,some (Nh tMk EG iG (C6 m ⟨x.By,x.Seq⟩ ((m.get ⟨x.By,x.Seq⟩).getD 0))))] (AgA.2 rfl),hme 32 [0] 4 (AjP (P:=prog) (σ:=[(0,oMk m)]) (t:=tMk) (t':=tMk) (et:=3) (v0:=0) ON Ama aH aH (k:=⟨x.By,x.Seq⟩) (gk:= .agg (Bu ⟨x.By,x.Seq⟩)) rfl R3),hms 33 [0] 4 (AjQ (σ:=[(0,some (Nh tMk EG iG (C6 m ⟨x.By,x.Seq⟩ ((m.get ⟨x.By,x.Seq⟩).getD 0))))]) (i:=0) (t':=tMk) (kv:=EG) (vg:=iG) (m:=m) (k:=⟨x.By,x.Seq⟩) (v0:=(m.get ⟨x.By,x.Seq⟩).getD 0) h1.1 R3 (wI (v+1)))] [hc (mkI (C6 m ⟨x.By,x.Seq⟩ (wI (v+1)))),hc (myI l)] ?_ [] [(0,0),(1,1),(2,2),(3,3)] [];generalize C6 m ⟨x.By,x.Seq⟩ (wI (v+1))=m' at k5 h36⊢;generalize wI (v+1)=v' at k5 h36⊢;skip;clear hv1 h1;cases c1:decide (v'<2) with
  |true=>rw[c1,ax] at k5;exact jw [hlk 36 (lkF m' ⟨x.By,x.Seq⟩ h36),hr 37 c1,hbb 58 (Xl (q:=k) aa)] [hc (mkI m'),hc (myI l)] k5 [] [(0,0),(1,1)] []
  |false=>
   rw[c1,AQ] at k5;have hput:=Af1 (P:=prog) (σ:=[(0,oMk m'),(1,oMy l),ob 2 36 (aj x),ob 3 165 (Bu ⟨x.By,x.Seq⟩)]) (i:=1) (t:=tMy) (t':=tMy) (et:=3) (vg:=iG) PC Adn aH (k:=x.By) (gk:=iG x.By) rfl (m:=l) rfl x.Seq;cases c2:(l.get x.By).isSome with
   |false=>rw[c2,AQ] at k5;exact jw [hlk 36 (lkF m' ⟨x.By,x.Seq⟩ h36),hr 37 c1,hlk 42 (lkY l x.By rfl c2),hmp 4 hput,hbb 58 (Xl (q:=k) aa)] [hc (mkI m'),hc (myI (C6 l x.By x.Seq))] k5 [] [(0,0),(1,1)] []
   |true=>
    rw[c2,ax] at k5;generalize hw:(l.get x.By).getD 0=w at k5;cases c3:decide (x.Seq<w) with
    |true=>rw[c3,ax] at k5;exact jw [hlk 36 (lkF m' ⟨x.By,x.Seq⟩ h36),hr 37 c1,hlk 42 (lkY l x.By hw c2),hr 51 c3,hmp 4 hput,hbb 58 (Xl (q:=k) aa)] [hc (mkI m'),hc (myI (C6 l x.By x.Seq))] k5 [] [(0,0),(1,1)] []
    |false=>rw[c3,AQ] at k5;exact jw [hlk 36 (lkF m' ⟨x.By,x.Seq⟩ h36),hr 37 c1,hlk 42 (lkY l x.By hw c2),hr 51 c3,hbb 58 (Xl (q:=k) aa)] [hc (mkI m'),hc (myI l)] k5 [] [(0,0),(1,1)] []
 .rw[DZ];obtain⟨h1,h2⟩:=Xf ids;generalize Ui ids=s at h1 h2 h12 he hs⊢;obtain⟨m,l⟩:=s;dsimp only at h1 h2 h12 he hs⊢;refine yl (Bs':=[]) [1,1,1,0,1] (J:=(s0 75 gl [(6,.mref 0)] [(0,oMy l)] 1 0)) [hr 20 (D4 (s:=ids))] [hc (myI l)] ?_;refine pO 11111100 (s0 75 gl [(6,.mref 0),(12,Iy)] [(0,oMy l)] 1 0) [] [hc (myI l)] ?_ [] [(0,0)] [];refine yl (Bs':=[]) [1,1,1,1,1,0,0] (J:=stF gl l [] []) [] [hc (myI l),hc (Bg.imm [])] ?_;refine dNx 11111101 ?_;refine dMw 60 61 62 2 (iti:=1) (mi:=0) (clock:=l.clk) (since:=l.clk) (T:=tMy) (ty:=tMy) (es:=XI JM iG l) (λseen=>stF gl l seen ((eQ l seen).map mkF)) (KsQ l) Aas (λe he=>by obtain⟨x,hx,rfl⟩:=Fl.1 he;exact h2.lt x hx) rfl (Le.refl _) (λseen=>rfl) (λseen=>rfl) (by grind) (λB seen k g nn hI hme hns c=>?_) (λseen hI d=>?_)
  .obtain⟨e,b,f⟩:=Fl.1 hme;simp only[Fu] at f;obtain⟨rfl,rfl,rfl⟩:=f;have c:=c (Aat hI b hns);rw[Age h2.1 b,List.map_append] at c;have hal:((eQ l seen).map mkF).length<=12:=by rw[Hq];have:=Adt hI;have h3:(eQ l seen).length<=seen.length:=List.length_filterMap_le _ _;have h4:=Q2 hI.1 hI.2;rw[Hq] at h4;omega
   generalize (eQ l seen).map mkF=a at c hal⊢;have hge:jr ((1,Amc l.clk (seen++[e.2.2]))::(stF gl l seen a).σ) (.ref 1 0)=some (.tup [db (JM e.1),iG e.2.1]):=yo (iti:=1) (mi:=0) (since:=l.clk) (clock:=l.clk) (T:=tMy) (ty:=tMy) (seen:=seen) rfl rfl (by rw[It];exact h2.nd) hme;exact jw [YT 63 hge,Tn 71 Bg 16 a (mkF e) aa] [hc (el (a++[mkF e])),hc (myI l),hc (Bg.imm (a++[mkF e]))] c [] [(0,0),(1,1),(2,4)] [(2,.row)]
  .have hp:=(Adw h2.1 hI λe he=>d _ (Fl.2 ⟨e,he,rfl⟩)).map mkF;have hi:=hs _ hp;have hla:((eQ l seen).map mkF).length=n:=by rw[hp.length_eq,Hq,he]
   generalize (eQ l seen).map mkF=a at hi hla⊢;subst hla;exact EI [tN 73 [2] 3 [(2,ZH a)] [.rsl 2 0 a.length,cmK] [(0,ZH r)] (Agz (gl:=gl) aa hi) ⟨⟨rfl,.inr ⟨rfl,Bg.imm a⟩⟩,trivial⟩ ⟨⟨rfl,.inr ⟨rfl,Bg.imm r⟩⟩,trivial⟩] (Bg.imm r)
end
theorem Q6{a b:Ab}:Hg a b<0↔dt a b=true:=by grind [Hg]
theorem NS:OrN Hg λ_=>True:=by grind [OrN,Q6,dt,EX]
theorem AbU{x y:Int}:AbK x y<0↔x<y:=by grind [AbK]
theorem OO{cmp:α->α->Int}(tr:∀x y z,cmp x y<0->cmp y z<0->cmp x z<0)(a:∀x,¬cmp x x<0){l r:List α}(hp:l.Perm r)(h1:l.Pairwise λx y=>cmp x y<0)(h2:r.Pairwise λx y=>cmp x y<0):l=r:=
 by grind [List.Perm.eq_of_pairwise]
def Ng(ids:A3)(f:Bf):Nat:=(ids.filter λx=>decide (x.By=f.Device)&&decide (x.Seq=f.Seq)).length
theorem LU(p:A3)(x:Ab)(f:Bf):Ng (p++[x]) f=Ng p f+if(⟨x.By,x.Seq⟩:Bf)=f then 1 else 0:=by unfold Ng;rw[Nj,Sv];obtain⟨d,s⟩:=f;grind
theorem AgC(p:A3)(f:Bf):Ng p f<=p.length:=M0 _ _
structure FkI (p:A3) (s:FM Bf Int×FM Int Int):Prop where
 n:∀f,(s.1.get f).getD 0=(Ng p f:Int)
 a:∀d v,s.2.get d=some v->2<=Ng p ⟨d,v⟩
 b:∀d v,2<=Ng p ⟨d,v⟩->∃w,s.2.get d=some w/\w<=v
theorem Amd{p:A3}(h:FkI p s)(hp:p.length<=1000):FkI (p++[x]) (fkT s x):=by
 have hle:=AgC p ⟨x.By,x.Seq⟩;have hw:wI ((s.1.get ⟨x.By,x.Seq⟩).getD 0+1)=((Ng p ⟨x.By,x.Seq⟩+1:Nat):Int):=by grind [FkI.n,bM]
 have hset:∀(l:FM Int Int),l=C6 s.2 x.By x.Seq->1<=Ng p ⟨x.By,x.Seq⟩->(∀w,s.2.get x.By=some w->x.Seq<=w)->(∀d v,l.get d=some v->2<=Ng (p++[x]) ⟨d,v⟩)/\(∀d v,2<=Ng (p++[x]) ⟨d,v⟩->∃w,l.get d=some w/\w<=v):=by grind [BA,LU,FkI.a,FkI.b]
 have hold:∀(l:FM Int Int),l=s.2->(1<=Ng p ⟨x.By,x.Seq⟩->∃w,s.2.get x.By=some w/\w<=x.Seq)->(∀d v,l.get d=some v->2<=Ng (p++[x]) ⟨d,v⟩)/\(∀d v,2<=Ng (p++[x]) ⟨d,v⟩->∃w,l.get d=some w/\w<=v):=by grind [LU,FkI.a,FkI.b]
 have key:(∀d v,(fkT s x).2.get d=some v->2<=Ng (p++[x]) ⟨d,v⟩)/\(∀d v,2<=Ng (p++[x]) ⟨d,v⟩->∃w,(fkT s x).2.get d=some w/\w<=v):=by
  unfold fkT;dsimp only;rw[hw];cases c1:decide (((Ng p ⟨x.By,x.Seq⟩+1:Nat):Int)<2) with
  |true=>grind
  |false=>
   have h1:=Lq c1;rw[AQ];cases c2:s.2.get x.By with
   |none=>grind
   |some w=>rw[Option.isSome_some,ax,M1];cases c3:decide (x.Seq<w)<;>grind
 refine⟨λf=>?_,key.1,key.2⟩;grind [fkT,BA,LU,FkI.n]
theorem AgD(ids:A3)(hn:ids.length<=1000):FkI ids (Ui ids):=by
 have key:∀k,k<=ids.length->FkI (ids.take k) (Ui (ids.take k)):=by
  intro k;induction k with
  |zero=>exact λ_=>⟨λf=>rfl,λd v h=>(by cases h),λd v h=>absurd h (by show¬2<=0;omega)⟩
  |succ k ih=>intro hk;have hx:ids[k]?=some (ids[k]'aa):=Ef _;rw[AbR hx,Hr,hx,Option.toList_some];grind [Amd]
 grind [DZ]
theorem AdH{α:Type}(p:α->Bool):∀l:List α,l.length=(l.filter p).length+(l.filter λx=> !p x).length
 |[]=>rfl
 |a::r=>by have:=AdH p r;grind
theorem AbV:∀{ds:Bk} {ids:A3},ds.Nodup->(∀d∈ds,2<=(ids.filter λx=>decide (x.By=d)).length)->2*ds.length<=ids.length
 |[],ids,_,_=>aC
 |d::r,ids,hd,h=>by
  rw[LE] at hd;have ih:=AbV (ids:=ids.filter λx=> !decide (x.By=d)) hd.2 λe he=>by have:=h e (by simp[he]);rw[List.filter_filter];grind
  have h1:=h d aC;grind [AdH]
theorem AaN{ids:A3}(hn:ids.length<=1000):2*(Ui ids).2.es.length<=ids.length:=by have hk:=(Xf ids).2;have hI:=AgD ids hn;rw[<-Hq (f:=λe:Int×Int×Nat=>e.1)];refine AbV hk.kd λd hd=>?_;obtain⟨e,he,rfl⟩:=Fl.1 hd;have hg:=JH hk (k:=e.1) (v:=e.2.1) (n:=e.2.2) he;have h2:=hI.a _ _ hg;refine LV h2 ?_;unfold Ng;rw[<-List.filter_filter];exact(List.Sublist.filter _ List.filter_sublist).length_le
theorem Tm{ids:A3}{f:Bf}:f∈(Ui ids).2.es.map mkF↔(Ui ids).2.get f.Device=some f.Seq:=by grind [Xf,JH,GL]
theorem AiU(ids:A3):OrN UH λf=>f∈(Ui ids).2.es.map mkF:=by grind [OrN,UH,AbU,Tm]
theorem AgE{ids:A3}:((Ui ids).2.es.map mkF).Nodup:=List.Pairwise.of_map (S:=λa b:Int=>a≠b) (λf:Bf=>f.Device) (by grind) (by rw[It];exact(Xf ids).2.kd)
theorem AiV{ids:A3}(hn:ids.length<=14):∃r:List Bf,r.Perm ((Ui ids).2.es.map mkF)/\∀l:List Bf,l.Perm ((Ui ids).2.es.map mkF)->inI UH ((0:Nat):Int) (l.length:Int) l=some r:=by
 have hl:=AaN (ids:=ids) aa;have go:∀l:List Bf,l.Perm ((Ui ids).2.es.map mkF)->∃r,inI UH ((0:Nat):Int) (l.length:Int) l=some r/\r.Perm ((Ui ids).2.es.map mkF)/\r.Pairwise λx y=>UH x y<0:=λl hp=>by obtain⟨r,e,h1,h2⟩:=AaL (AiU ids) (a:=0) (b:=l.length) (hp.nodup_iff.2 AgE) (λz hz=>hp.mem_iff.1 hz) aa (Dx _) (by rw[hp.length_eq,Hq];omega);refine⟨r,e,h1.1.trans hp,?_⟩;rw[List.pairwise_iff_getElem];intro p q hp' c d;exact h2 p q _ _ (Nat.zero_le _) d (by rw[<-h1.len];exact c) (Ef hp') (Ef c)
 obtain⟨r,_,h2,h3⟩:=go _ (.refl _);refine⟨r,h2,λl hp=>?_⟩;obtain⟨r',e,k2,k3⟩:=go l hp;rw[e,OO (cmp:=UH) (AiU ids).tr (by grind [UH,AbU]) (k2.trans h2.symm) k3 h3]
def Uk(ids:A3)(x:Ab):Bool:=ids.any λy=>decide (y.By=x.By/\y.Seq<=x.Seq/\2<=Ng ids ⟨y.By,y.Seq⟩)
section
variable {gl:Cd}
theorem Aik{fs:List Bf}{R:Bf->A3}(hF:ba prog gl 116 [.ptr (Ag gg) 0,aE aj ids] (aE Bu fs))(hfl:fs.length<=1000)(hR:∀f∈fs,ba prog gl 321 [aE aj ids,iG f.Device,iG f.Seq,iG 4611686018427387904] (aE aj (R f)))(hl:(fs.flatMap R).length<=14)(h:RW Hg (fs.flatMap R)=some r)(hle:r.length=(fs.flatMap R).length):iV prog gl 227 [.ptr (Ag gg) 0,aE aj ids] 36 r.length (r.flatMap aj):=by
 rw[hle];refine OW func227 ?_;refine Za (l:=fs) aa (λk:Nat=>(s0 27 gl [(1,aE aj ids),(5,.rsl 0 0 ((fs.take k).flatMap R).length),(10,aE Bu fs),(11,iG (ah fs)),(12,iG (k:Int))] [(0,Bt ((fs.take k).flatMap R))] 1 0)) 1110122 [hf 10 hF] [hc (ac.imm [])] (λB k x hx hz k5=>?_) (λB=>?_)
 .have hlt:=(cr hx).1;have e:(fs.take (k+1)).flatMap R=(fs.take k).flatMap R++R x:=by grind [Hr]
  have hll:((fs.take k).flatMap R++R x).length<=14:=by grind [Pp]
  rw[e] at k5;generalize (fs.take k).flatMap R=l at k5 hll⊢;rw[Sv] at hll;exact jw [hr 13 (C3 hx),Az 14 (Bg.ixZ hz),Az 15 (Bg.ptZ Hs hz),hf 22 (hR x (bO hx)),AmW 23 ac 24 l (R x) aa,hbb 24 (Xl (q:=k) aa)] [hc (el (l++R x)),hc (ac.imm (l++R x))] k5
 .rw[DZ];exact EI [hr 13 (D4 (s:=fs)),hsm (gl:=gl) 26 1 hl h] (ac.imm r)
end
theorem Xg{α β:Type}{f:α->List β}:∀{l:List α},l.Nodup->(∀x∈l,(f x).Nodup)->(∀x∈l,∀y∈l,x≠y->∀z∈f x,z∉f y)->(l.flatMap f).Nodup
 |[],_,_,_=> .nil
 |a::r,hn,h1,h2=>by rw[LE] at hn;rw[List.flatMap_cons,List.nodup_append];refine⟨h1 a aC,Xg hn.2 (by grind) (by grind),λz hz w hw e=>?_⟩;grind
theorem Ail{gl:Cd}{gg:Aj}(hn:ids.length<=14)(hd:ids.Nodup)(hs:∀x∈ids,x.Seq<=4611686018427387904):∃r,ba prog gl 227 [.ptr (Ag gg) 0,aE aj ids] (aE aj r)/\r.Perm (ids.filter (Uk ids))/\r.Pairwise λx y=>Hg x y<0:=by
 obtain⟨fs,hp,hi⟩:=AiV hn;have hl:=AaN (ids:=ids) aa;have hI:=AgD ids aa;have hF:=(AbT (gl:=gl) (gg:=gg) (ids:=ids) (r:=fs) (n:=fs.length) aa aa (by rw[hp.length_eq,Hq]) hi).fn Bg.sz (Bg.len _) (Bg.imm _);have hof:∀f:Bf,∃r,RW Hg (ids.filter (Ye f.Device f.Seq 4611686018427387904))=some r/\r.Perm (ids.filter (Ye f.Device f.Seq 4611686018427387904)):=λf=>by have h1:=M0 (Ye f.Device f.Seq 4611686018427387904) ids;obtain⟨r,e,h2,h3⟩:=Uh NS (l:=ids.filter (Ye f.Device f.Seq 4611686018427387904)) (hd.sublist List.filter_sublist) aa;exact⟨r,e,h2⟩
 let R:Bf->A3:=λf=>(RW Hg (ids.filter (Ye f.Device f.Seq 4611686018427387904))).getD [];have hRp:∀f,RW Hg (ids.filter (Ye f.Device f.Seq 4611686018427387904))=some (R f)/\(R f).Perm (ids.filter (Ye f.Device f.Seq 4611686018427387904)):=λf=>by obtain⟨r,e,h2⟩:=hof f;grind
 have hRm:∀f x,x∈R f↔x∈ids/\x.By=f.Device/\f.Seq<=x.Seq:=λf x=>by rw[(hRp f).2.mem_iff,GV];grind [Ye]
 clear_value R;have hfd:∀x∈fs,∀y∈fs,x≠y->x.Device≠y.Device:=by grind [Tm]
 have hfn:(fs.flatMap R).Nodup:=Xg (hp.nodup_iff.2 AgE) (by grind) (by grind);have hperm:(fs.flatMap R).Perm (ids.filter (Uk ids)):=by
  refine(List.perm_ext_iff_of_nodup hfn (hd.sublist List.filter_sublist)).2 λx=>?_;rw[List.mem_flatMap,GV];unfold Uk;rw[List.any_eq_true];refine⟨λ⟨f,hf,hx⟩=>?_,λ⟨hx,y,hy,hv⟩=>?_⟩
  .obtain⟨h1,h2,h3⟩:=(hRm f x).1 hx;have h4:=Tm.1 (hp.mem_iff.1 hf);have h5:=hI.a _ _ h4;refine⟨h1,?_⟩;have h6:0<(ids.filter λx=>decide (x.By=f.Device)&&decide (x.Seq=f.Seq)).length:=Nat.lt_of_lt_of_le Nat.zero_lt_two h5;obtain⟨y,hy⟩:=List.exists_mem_of_length_pos h6;grind
  .obtain⟨h1,h2,h3⟩:=DS hv;obtain⟨w,hw,hle⟩:=hI.b _ _ h3;refine⟨⟨y.By,w⟩,hp.mem_iff.2 (Tm.2 hw),(by grind)⟩
 have hlen:(fs.flatMap R).length<=14:=by grind [List.Perm.length_eq,M0]
 obtain⟨r,e,h2,h3⟩:=Uh NS hfn hlen;refine⟨r,(Aik (gl:=gl) hF (by rw[hp.length_eq,Hq];omega) (by grind [Aks,List.Perm.length_eq]) hlen e h2.length_eq).fn ac.sz (ac.len _) (ac.imm _),h2.trans hperm,h3⟩
theorem Rb{l:List α}{x:α}(hx:l[k]?=some x):l.take (k+1)=l.take k++[x]:=by rw[Hr,hx];rfl
section
variable {g:A7} {m:IX} {N:IH}
abbrev Bx(g:A7)(m:IX)(N:IH):Gi:=PP ⟨g.Cards,m,N⟩
theorem Ju(w:Fo g){i:Nat}(h:g.IDs[i]?=some x):bu x g.IDs=some i:=by
 cases hk:bu x g.IDs with
 |none=>exact absurd (bO h) (SP hk)
 |some j=>rw[MY w.nd (gb hk).1 h]
abbrev HR(g:A7)(l:Bk):A3:=l.map λp=>(g.IDs[p.toNat]?).getD ⟨0,0,0⟩
theorem OP(w:Fo g){l:Bk}(h:EF g l){z:Int}(hz:l[j]?=some z):∃(n:Nat) (y:Ab),z=(n:Int)/\n<g.L.length/\g.IDs[n]?=some y/\(HR g l)[j]?=some y:=by obtain⟨n,rfl,hn⟩:=h.nat (bO hz);have nI:=w.nI;obtain⟨y,hy,_⟩:=dk (l:=g.IDs) (k:=n) aa;refine⟨n,y,rfl,hn,hy,?_⟩;rw[Nl,hz,Option.map_some,E0,hy];rfl
end
def XM(cs:Mj)(d:Int):Int:=match cs.find? λc=>decide (c.Device=d) with
 |some c=>c.Member
 |none=>0
structure Mr (x:AA) (y:D5):Prop where
 role:y.Role=x.role
 no:x.guard=none->y.Is=false
 gd:∀g,x.guard=some g->y.Is=true/\y.ID=g.id/\y.Guards=g.guards/\y.Need=g.need/\y.Wait=g.wait/\y.Objected=g.objected/\y.Last=g.last
def AgN(V:List Hb)(i:Ab)(b d a:Int):Prop:=∃v∈V,v.Of=i/\v.By=b/\v.Device=d/\v.At=a
structure Rr (R:Ad) (D:C7):Prop where
 card:∀d,Dl R d=XM D.Cards d
 nd:(D.In++D.Gone).Nodup
 in_:∀d,R.in_.get d=if d∈D.In then some true else none
 was:∀d,R.was.get d=if d∈D.In\/d∈D.Gone then some true else none
 w0:R.was.es.length=D.In.length+D.Gone.length
 ln:(D.L.map (·.N)).Nodup
 no:∀m,R.members.get m=none->∀y∈D.L,y.N≠m
 mem:∀m x,R.members.get m=some x->∃y∈D.L,y.N=m/\Mr x y
 vou:∀m x g,R.members.get m=some x->x.guard=some g->∀b d a,g.vouches.get ⟨b,d⟩=some a↔AgN D.V g.id b d a
 vof:∀v∈D.V,∃m x g,R.members.get m=some x/\x.guard=some g/\v.Of=g.id
 vnd:(D.V.map λv=>(v.Of,v.By,v.Device)).Nodup
 back:R.back=D.Back
structure Sz (D:C7):Prop where
 c:D.Cards.length<=1000
 dev:D.In.length+D.Gone.length<=100000
 l:D.L.length<=100000
 v:D.V.length<=100000
theorem JB{l:Bk}{n:Int}:QF l n=decide (n∈l):=by grind [QF]
section
variable {R:Ad} {D:C7}
theorem Sz.i(z:Sz D):D.In.length<=1000000:=by grind [Sz]
theorem Sz.g(z:Sz D):D.Gone.length<=1000000:=by grind [Sz]
theorem ofE(z:Sz D)(d:Int):gE D d=some (XM D.Cards d):=by
 have:=z.c;unfold gE;refine T.eq (.bind ((T.search D.Cards (λx=>decide (x.Device=d)) (λk x=>x.Member) aa (λk x hx hk=>?_) ?_).mono ?_))
 .grind [AR,eA,au,aq]
 .grind [AR,eF]
 .rintro r (⟨rfl,h⟩|⟨k,x,hx,hp,rfl,h⟩)
  .refine .some ?_;grind [XM]
  .refine .some ?_;grind [XM,List.find?_eq_some_iff_getElem]
theorem Amz(z:Sz D)(n:Int):T (dS D n) λv=>(v= -1/\∀y∈D.L,y.N≠n)\/∃(k:Nat) (y:D5),v=(k:Int)/\D.L[k]?=some y/\y.N=n:=by
 have:=z.l;unfold dS;refine .bind ((T.search D.L (λx=>decide (x.N=n)) (λk _=>(k:Int)) aa (λk x hx hk=>?_) ?_).mono ?_)
 .grind [o5,eA,au,aq]
 .grind [o5,eF]
 .rintro r (⟨rfl,h⟩|⟨k,x,hx,hp,rfl,h⟩)
  .exact .some (by grind)
  .exact .some (by grind)
theorem Rr.at_(h:Rr R D){m:Int}{x:AA}(hx:R.members.get m=some x){y:D5}(hy:y∈D.L)(hn:y.N=m):Mr x y:=by grind [mem,Nz,ln]
theorem Rr.of(h:Rr R D){y:D5}(hy:y∈D.L):∃x,R.members.get y.N=some x/\Mr x y:=by cases hx:R.members.get y.N<;>grind [no,at_]
theorem XN(z:Sz D)(h:Rr R D)(n:Int):T (dS D n) λv=>match R.members.get n with
  |none=>v= -1
  |some x=>∃(k:Nat) (y:D5),v=(k:Int)/\D.L[k]?=some y/\y.N=n/\Mr x y:=by
 refine(Amz z n).mono λv hv=>?_
 grind [Rr,Rr.of]
theorem Aim(z:Sz D)(h:Rr R D)(n:Int):se D n=some (MI R n):=by unfold se;refine T.eq (.bind ((XN z h n).mono λv hv=>?_));grind [MI,T.some,au,Mr.role]
theorem Rr.ins(h:Rr R D)(d:Int):O4 R d=decide (d∈D.In):=by grind [O4,in_,Hf]
theorem inE(z:Sz D)(h:Rr R D)(d:Int):fb D.In d=some (O4 R d):=by rw[cX z.i,JB,h.ins]
theorem AmA(z:Sz D)(h:Rr R D)(d:Int):Fd D d=some (Hf (R.was.get d)):=by grind [Fd,cX,Sz.i,Sz.g,JB,Rr.was,Hf]
theorem ZI(z:Sz D)(h:Rr R D)(d:Int):nW D d=some (D3 R d):=by grind [nW,D3,AmA,ofE,Rr.card]
theorem AkR(z:Sz D)(i:Ab):T (jN D i) λv=>(v= -1/\∀y∈D.L,¬(y.Is=true/\y.ID=i))\/∃(k:Nat) (y:D5),v=(k:Int)/\D.L[k]?=some y/\y.Is=true/\y.ID=i:=by
 have:=z.l;unfold jN;refine .bind ((T.search D.L (λx=>x.Is&&decide (x.ID=i)) (λk _=>(k:Int)) aa (λk x hx hk=>?_) ?_).mono ?_)
 .grind [qQ,eA,au,aq]
 .grind [qQ,eF]
 .rintro r (⟨rfl,hn⟩|⟨k,y,hy,hp,rfl,hn⟩)
  .exact .some (by grind)
  .have hp2:y.Is=true/\y.ID=i:=by grind
   exact .some (by grind)
theorem AkS(z:Sz D)(h:Rr R D)(hR:Bh R)(i:Ab):T (jN D i) λv=>match R.members.es.find? λe=>K3 e.2.1 i with
  |none=>v= -1
  |some e=>∃(k:Nat) (y:D5) (g:CA),v=(k:Int)/\D.L[k]?=some y/\y.N=e.1/\Mr e.2.1 y/\e.2.1.guard=some g/\g.id=i/\R.members.get e.1=some e.2.1:=by
 refine(AkR z i).mono ?_
 rintro v (⟨rfl,hn⟩|⟨k,y,rfl,hy,hp2⟩)
 .cases hf:R.members.es.find? λe=>K3 e.2.1 i with
  |none=>rfl
  |some e=>obtain⟨hx,_⟩:=hR.mem (List.mem_of_find?_eq_some hf);grind [Rr.mem,K3,Mr.gd]
 .have a:=bO hy
  obtain⟨x,hx,hm⟩:=h.of a
  cases hgd:x.guard with
  |none=>grind [Mr.no]
  |some g=>
   have h1:=hm.gd g hgd
   have hid:g.id=i:=by grind
   have hgx:K3 x i=true:=by grind [K3]
   cases hf:R.members.es.find? λe=>K3 e.2.1 i<;>grind [GL,Bh.mem,Bh.uni]
theorem ZJ(z:Sz D)(h:Rr R D)(hR:Bh R)(o:Bi):T (nY D o) λv=>v.2=(Dd R o).2/\((Dd R o).2=0->∃(k:Nat) (y:D5) (x:AA) (g:CA),v.1=(k:Int)/\D.L[k]?=some y/\y.N=(Dd R o).1/\R.members.get (Dd R o).1=some x/\Mr x y/\x.guard=some g/\g.id=o.Of):=by
 unfold nY;refine .bind ((AkS z h hR o.Of).mono λv hv=>?_);cases hf:R.members.es.find? λe=>K3 e.2.1 o.Of with
 |none=>grind [Dd,T.some]
 |some e=>
  rw[hf] at hv;obtain⟨k,y,g,rfl,hy,a,hm,hgd,hid,hx⟩:=hv;have eS:Dd R o=bif g.guards.any λy=>decide (o.By=y)then(e.1,0)else(0,14):=by grind [Dd]
  have h1:=hm.gd g hgd;grind [Bh.gn,au,cX,JB,T.some]
end
theorem Afh{l:Bk}(hl:l.length<=3000):N4 l d=some ((O0 (l.length+1) l).filter λs=>decide (d∈s)).reverse:=by
 obtain⟨e0,hn⟩:=aad (l.length+1) l aa aa;obtain⟨v,e1,_,hy⟩:=u6 (l.length+1) l aa aa;rw[e0] at e1;obtain rfl:=Bo e1;unfold N4 z0;rw[e0,aL];generalize O0 (l.length+1) l=v1 at hn hy;have e:wI (ah v1-1)=ah v1-1:=by grind [bM,ah]
 rw[e];refine T.eq (.bind (T.mono (T.loop (Q:=λr:M2=>r=(v1.filter λs=>decide (d∈s)).reverse) (λs=> -1<=s.2/\s.2<(v1.length:Int)/\s.1=((v1.drop (s.2+1).toNat).filter λs=>decide (d∈s)).reverse) (λs=>(s.2+1).toNat) ⟨by unfold ah;omega,by unfold ah;omega,?_⟩ (by grind [ah]) ?_) λ_ h=> .some h))
 .grind [List.drop_eq_nil_of_le,ah]
 rintro⟨a,i⟩ ⟨i1,c,b⟩;simp only at i1 c b;unfold AF;refine .dec (λh0=>?_) λh0=> .some (show a=_ from ?_)
 .replace h0:0<=i:=h0;obtain⟨k,rfl⟩:=Int.eq_ofNat_of_zero_le h0;have hk:k<v1.length:=aa;have hw:wI ((k:Int)-1)=(k:Int)-1:=bM aa aa;have hz:aS v1 (k:Int)=some (v1[k]'hk):=Bp (Ef hk);have ha:a.length<=6000:=by grind
  dsimp only;rw[hz,aL,cX (by grind),aL,JB,hw];have ed:v1.drop k=v1[k]'hk::v1.drop (k+1):=List.drop_eq_getElem_cons hk;rw[show((k:Int)+1).toNat=k+1 by omega] at b;by_cases hd:d∈v1[k]'hk
  .rw[CM hd,ax,aL];refine .bind (.app (by grind) (.some ⟨⟨by show-1<=(k:Int)-1;omega,by show(k:Int)-1<_;omega,?_⟩,by show((k:Int)-1+1).toNat<((k:Int)+1).toNat;omega⟩));show a++[v1[k]'hk]=((v1.drop ((k:Int)-1+1).toNat).filter _).reverse;rw[show((k:Int)-1+1).toNat=k by omega,ed,List.filter_cons_of_pos (by simp[hd]),List.reverse_cons,b]
  .rw[C5 hd,AQ];refine .some ⟨⟨by show-1<=(k:Int)-1;omega,by show(k:Int)-1<_;omega,?_⟩,by show((k:Int)-1+1).toNat<((k:Int)+1).toNat;omega⟩;show a=((v1.drop ((k:Int)-1+1).toNat).filter _).reverse;rw[show((k:Int)-1+1).toNat=k by omega,ed,List.filter_cons_of_neg (by simp[hd]),b]
 .replace h0:¬0<=i:=h0;rw[b,show(i+1).toNat=0 by omega,List.drop_zero]
theorem UO(d:Int):∀(n:Nat) (l:Bk),l.length<n->l.length<=1000000->(XV d n l).length<=l.length+1
 |0,_,h,_=>(by grind)
 |n+1,l,h,hl=>by
  unfold XV;split
  .simp
  .obtain⟨_,k1,k2⟩:=Y0 (n:=l.length) aa hl;have a:=UO d n (l.take (lfN l.length)) cq cq;have b:=UO d n (l.drop (lfN l.length)) cq cq;grind
theorem Afi(d:Int):∀(n:Nat) (l:Bk),l.length<n->l.length<=1000000->d∈l->l.Nodup->(∀s∈XV d n l,d∈s/\s.length<=l.length/\s.Nodup)/\((XV d n l).Pairwise λa b=>b.length<a.length)/\(XV d n l).getLast?=some [d]
 |0,_,h,_,_,_=>(by grind)
 |n+1,l,h,hl,hd,hn=>by
  unfold XV;split
  .match l,hd,hn with
   |[a],hd,hn=>simp_all
   |a::b::r,_,_=>simp at*
  .obtain⟨_,k1,k2⟩:=Y0 (n:=l.length) aa hl;have hx:d∈l.take (lfN l.length)\/d∈l.drop (lfN l.length):=by grind [Pp]
   have key:∀q:Bk,q.length<l.length->d∈q->q.Nodup->(∀s∈l::XV d n q,d∈s/\s.length<=l.length/\s.Nodup)/\((l::XV d n q).Pairwise λa b=>b.length<a.length)/\(l::XV d n q).getLast?=some [d]:=λq h1 h2 h3=>by obtain⟨a,b,c⟩:=Afi d n q aa aa h2 h3;refine⟨λs hs=>?_,(by grind [List.pairwise_cons]),by grind⟩;grind
   split
   .grind
   grind
def tpL(d:Int)(l:Bk):M2:=if d∈l then(XV d (l.length+1) l).reverse else[]
structure Aaa (d:Int) (ss:M2):Prop where
 n:ss.length<=3000
 m:∀s∈ss,d∈s/\s.length<=3000/\s.Nodup
 p:ss.Pairwise λa b=>a.length<b.length
 f:∀s,ss[0]?=some s->s=[d]
theorem Aab:Aaa d []:=⟨aC,aC,.nil,aC⟩
theorem Aju{l:Bk}(hl:l.length<=2000)(hn:l.Nodup):Aaa d (tpL d l):=by
 unfold tpL;split
 .rename_i hd;obtain⟨a,b,c⟩:=Afi d (l.length+1) l aa aa hd hn;have:=UO d (l.length+1) l aa aa;constructor<;>grind
 .exact Aab
theorem Afj{l:Bk}(hl:l.length<=3000)(hn:l.Nodup):N4 l d=some (tpL d l):=by grind [Afh,aae,tpL]
theorem Afk{gl:Cd}{l:Bk}(hl:l.length<=3000):ba prog gl 131 [aE cZ l,iG d] (aE Jc (tpL d l)):=by
 unfold tpL;by_cases hd:d∈l
 .grind [Ahh,UO,Ada,Afg]
 .rw[BU hd];refine Ada (a:=[]) (b:=[]) ?_ aC (by grind [Afg]) rfl;grind [PG,Uw]
end Go.Proofs.YtlijnaneopediaaGreatDoor
