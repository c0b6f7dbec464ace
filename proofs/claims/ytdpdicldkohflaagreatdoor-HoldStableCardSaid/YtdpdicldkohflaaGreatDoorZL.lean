/- Texts. -/
import Derived.Test.YtdpdicldkohflaaGreatDoorVj
namespace Go.Proofs.YtdpdicldkohflaaGreatDoor
set_option linter.unusedSectionVars false
set_option linter.unusedVariables false
set_option linter.unusedSimpArgs false
open Go.RowKit Tryz
attribute [local irreducible] Tr dz Gp
variable {α:Type}{ids l l0 r row:Bb}{a b j k m p u v w:Nat}{pv x y:Ab}{d:Int}{s:FM Bh Int×FM Int Int}{L:Bn}{gg:Az}
abbrev CmV(gl:CB)(fi:FuncId)(fa fc:Bn)(cmp:Ab->Ab->Int):Prop:=Ud prog gl fi fa fc (λp:Ab×Ab=>[.agg (aj p.1),.agg (aj p.2)]) (λz:Int=>iG z) (λp=>some (cmp p.1 p.2))
abbrev Sr(fi:FuncId)(fa fc:Bn):G:= .clo (.func fi) fa fc
theorem imP(p:Ab×Ab):∀g∈([.agg (aj p.1),.agg (aj p.2)]:Bn),bB g:=aY (aG 20 (.agg (aj p.1)) aH) (aY (aG 20 (.agg (aj p.2)) aH) bf)
abbrev hcp(d c:Nat){gl:CB}{fi:FuncId}{fa fc:Bn}{cmp:Ab->Ab->Int}(hv:CmV gl fi fa fc cmp)(x y:Ab):HP:=hz d [] (hv.cs (c:=c) (x:=(x,y)) rfl (imP (x,y)))
def AaE{α:Type}(cmp:α->α->Int)(a:Int)(s:List α×Int):Option ((List α×Int)⊕List α):=
 bif a<s.2 then(aS s.1 s.2).bind λx=>(aS s.1 (wI (s.2-1))).bind λy=>bif cmp x y<0 then(ji s.1 s.2 y).bind λb=>(ji b (wI (s.2-1)) x).bind λc=>some (.inl (c,wI (s.2-1)))else some (.inr s.1)else some (.inr s.1)
def AaF{α:Type}(cmp:α->α->Int)(a b:Int)(s:List α×Int):Option ((List α×Int)⊕List α):=
 bif s.2<b then(AQ (AaE cmp a) (s.1,s.2)).bind λl=>some (.inl (l,wI (s.2+1)))else some (.inr s.1)
def inI{α:Type}(cmp:α->α->Int)(a b:Int)(l:List α):Option (List α):=AQ (AaF cmp a b) (l,wI (a+1))
theorem AiP{c d:Bb}{i j:Int}{a b:Ab}(h1:ji l i b=some c)(h2:ji c j a=some d):fh prog 29 (.rsl 0 0 l.length) j=some (.ref 0 (0+j.toNat*3)):=by rw[hZ h1];exact ac.ixsZ 0 h2
section
variable {gl:CB} {fi:FuncId} {fa fc:Bn} {cmp:Ab->Ab->Int} (hv:CmV gl fi fa fc cmp)
include hv
theorem Adz{a b:Int}(h:inI cmp a b l=some r):jg prog gl 302 [.rsl 0 0 l.length,iG a,iG b,Sr fi fa fc] [(0,BA l)] 1 (.tup []) [(0,BA r)] 1:=by
 unfold inI at h;refine pP func302 ?_;refine pN (λs:Bb×Int=>(s0 53 gl [(0,.rsl 0 0 s.1.length),(1,iG a),(2,iG b),(3,Sr fi fa fc),(8,iG s.2)] [(0,BA s.1)] 1 1)) 1122 h [] [hc (el l),hc hv.im,hc (ac.imm l)] (λB s w hs k5 g=>?_);obtain⟨l1,i⟩:=s;unfold AaF at hs;dsimp only at hs;rcases bC hs with⟨b1,hs⟩|⟨b1,hs⟩
 .obtain⟨l2,e2,hs⟩:=bS hs;obtain rfl:=Bo hs;refine Ix 11221021 (s0 53 gl [(0,.rsl 0 0 l2.length),(1,iG a),(2,iG b),(3,Sr fi fa fc),(8,iG i)] [(0,BA l2)] 1 1) ?_ λkk=>?_
  .exact jw [] [hc (el l2),hc hv.im,hc (ac.imm l2)] (k5 _ rfl)
  refine pN (λs:Bb×Int=>(s0 53 gl [(0,.rsl 0 0 s.1.length),(1,iG a),(2,iG b),(3,Sr fi fa fc),(8,iG i),(9,iG s.2)] [(0,BA s.1)] 1 1)) 1122102122 e2 [hr 14 b1] [hc (el l1),hc hv.im,hc (ac.imm l1)] (λn z v hz k e=>?_);obtain⟨l3,j⟩:=z;unfold AaE at hz;dsimp only at hz;rcases bC hz with⟨b2,hz⟩|⟨b2,hz⟩
  .obtain⟨x,c,hz⟩:=bS hz;obtain⟨y,d,hz⟩:=bS hz;rcases bC hz with⟨b3,hz⟩|⟨b3,hz⟩
   .obtain⟨m,e1,hz⟩:=bS hz;obtain⟨f,e3,hz⟩:=bS hz;obtain rfl:=Bo hz;exact jw [hr 20 b2,AH 25 (ac.ixrZ 0 c),AH 26 (ac.pt0Z aW c),AH 30 (ac.ixrZ 0 d),AH 31 (ac.pt0Z aW d),hcp 32 1 hv x y,hr 33 b3,AH 45 (ac.ixrZ 0 d),AH 46 (ac.pt0Z aW d),AH 49 (ac.ixrZ 0 c),AH 50 (ac.pt0Z aW c),AH 51 (ac.ixsZ 0 e1),hw 51 (m.flatMap aj) (ac.putZ e1),AH 52 (AiP e1 e3),hw 52 (f.flatMap aj) (ac.putZ e3)] [hc ((hZ e1).trans (hZ e3)),hc hv.im,hc (ac.imm f)] (k _ rfl)
   .obtain rfl:=Bo hz;obtain rfl:=e _ rfl;exact yl 11221021 [hr 20 b2,AH 25 (ac.ixrZ 0 c),AH 26 (ac.pt0Z aW c),AH 30 (ac.ixrZ 0 d),AH 31 (ac.pt0Z aW d),hcp 32 1 hv x y,hr 33 b3] [hc (el l3),hc hv.im,hc (ac.imm l3)] kk
  .obtain rfl:=Bo hz;obtain rfl:=e _ rfl;exact yl 11221021 [hr 20 b2] [hc (el l3),hc hv.im,hc (ac.imm l3)] kk
 .obtain rfl:=Bo hs;obtain rfl:=g _ rfl;exact Hf .normal (s0 53 gl [] [(0,BA l1)] 1 1) [] [hr 14 b1] [hc (ac.imm l1)] (kd:=[(0,.row)])
omit hv
def swZ{α:Type}(l:List α)(i j:Nat):Option (List α):=(l[i]?).bind λx=>(l[j]?).bind λy=>some ((l.set i y).set j x)
theorem HR{l r:List α}{i j:Nat}(h:swZ l i j=some r):∃x y,l[i]?=some x/\l[j]?=some y/\r=(l.set i y).set j x:=by grind [swZ]
theorem stZ{l:List α}{i:Nat}{y x:α}(h:l[i]?=some y):ji l (i:Int) x=some (l.set i x):=by grind [ji]
theorem Ah7{l:List α}{i j:Nat}{y x z w:α}(h:l[j]?=some y):ji (l.set i z) (j:Int) x=some ((l.set i z).set j x):=by grind [ji]
theorem Us{i:Nat}:l.length=((l.set i y).set j x).length:=by rw[List.length_set,List.length_set]
abbrev hsw(a b c d:Nat){l w:Bb}{i j:Nat}{x y:Ab}(hx:l[i]?=some x)(hy:l[j]?=some y)(e:w=(l.set i y).set j x):List HP:=[AH a (ac.ixrZ 0 (Bt hy)),AH (a+1) (ac.pt0Z aW (Bt hy)),AH b (ac.ixrZ 0 (Bt hx)),AH (b+1) (ac.pt0Z aW (Bt hx)),AH c (ac.ixsZ 0 (stZ (x:=y) hx)),hw c ((l.set i y).flatMap aj) (ac.putZ (stZ (x:=y) hx)),AH d (AiP (stZ (x:=y) hx) (Ah7 (w:=x) (x:=x) (z:=y) (i:=i) hy)),hw d (w.flatMap aj) (e▸ac.putZ (Ah7 (w:=x) (x:=x) (z:=y) (i:=i) hy))]
theorem JO{c:Bool}{x:Option α}{v:α}(h:(bif c then x else none)=some v):c=true/\x=some v:=by grind
theorem Agp(h:Nat.blt 0 j=true):∃k,j=k+1:=by simp_all
theorem Agq{v:Nat⊕α}(h:(bif Nat.blt 0 j then some (.inl (j-1))else none)=some v):∃k,j=k+1/\v= .inl k:=by
 cases j with
 |zero=>cases h
 |succ k=>grind
def scU(cmp:Ab->Ab->Int)(l:Bb)(a j i:Nat):Option (Nat⊕Nat):=bif (i:Int)<=(j:Int)then(l[i]?).bind λx=>(l[a]?).bind λy=>bif cmp x y<0 then some (.inl (i+1))else some (.inr i)else some (.inr i)
def scD(cmp:Ab->Ab->Int)(l:Bb)(a i j:Nat):Option (Nat⊕Nat):=bif (i:Int)<=(j:Int)then(l[j]?).bind λx=>(l[a]?).bind λy=>bif cmp x y<0 then some (.inr j)else bif Nat.blt 0 j then some (.inl (j-1))else none else some (.inr j)
def paT(cmp:Ab->Ab->Int)(a:Nat)(s:Bb×Nat×Nat):Option ((Bb×Nat×Nat)⊕(Bb×Nat)):=
 bif s.1.length<=1000 then(AQ (scU cmp s.1 a s.2.2) s.2.1).bind λi=>(AQ (scD cmp s.1 a i) s.2.2).bind λj=>bif (j:Int)<(i:Int)then some (.inr (s.1,j))else bif Nat.blt 0 j then(swZ s.1 i j).bind λl=>some (.inl (l,i+1,j-1))else none else none
def paS(cmp:Ab->Ab->Int)(a b p:Nat)(l:Bb):Option (Nat×Bool×Bb):=
 (
  swZ l a p).bind λl0=>(AQ (scU cmp l0 a (b-1)) (a+1)).bind λi=>(AQ (scD cmp l0 a i) (b-1)).bind λj=>
  bif (j:Int)<(i:Int)then(swZ l0 j a).bind λr=>some (j,true,r)else bif Nat.blt 0 j then(swZ l0 i j).bind λl1=>(AQ (paT cmp a) (l1,i+1,j-1)).bind λs=>(swZ s.1 s.2 a).bind λr=>some (s.2,false,r)else none
include hv
abbrev AaH(gl:CB)(fi:FuncId)(fa fc:Bn)(a b:Nat)(l:Bb)(i j:Nat):St:=(s0 178 gl [(0,.rsl 0 0 l.length),(1,iG (a:Int)),(2,iG (b:Int)),(4,Sr fi fa fc),(12,iG (i:Int)),(13,iG (j:Int))] [(0,BA l)] 1 1)
theorem VC{a b p:Nat}{f:Bool}(hl:l.length<=1000)(ha:a<1000)(hb1:1<=b)(hb2:b<=1000)(h:paS cmp a b p l=some (m,f,r)):jg prog gl 309 [.rsl 0 0 l.length,iG (a:Int),iG (b:Int),iG (p:Int),Sr fi fa fc] [(0,BA l)] 1 (.tup [iG (m:Int),bG f]) [(0,BA r)] 1:=by
 obtain⟨b,rfl⟩:∃q,b=q+1:=⟨b-1,aa⟩;unfold paS at h;rw[Nat.add_sub_cancel] at h;obtain⟨l0,e0,h⟩:=bS h;obtain⟨i,ei,h⟩:=bS h;obtain⟨j,ej,h⟩:=bS h;obtain⟨D,E,h1,h2,e0⟩:=HR e0;have hl0:l.length=l0.length:=by rw[e0];exact Us
 refine pP func309 ?_;refine Ix 11110 (AaH gl fi fa fc a (b+1) l0 i b) ?_ λkk=>?_;rotate_left
 .have hl2:l0.length<=1000:=aa;refine pN (λq:Nat=>AaH gl fi fa fc a (b+1) l0 q b) [1,1,1,0,2,2] ei (hsw 20 24 26 27 h1 h2 e0++[hbb 29 (Xl (q:=a) aa),hbb 31 (dec (q:=b) aa)]) [hc hl0,hc hv.im,hc (ac.imm l0)] (λu q v hz n g=>?_);unfold scU at hz;rcases bC hz with⟨b2,hz⟩|⟨b2,hz⟩
  .obtain⟨x,c,hz⟩:=bS hz;obtain⟨y,d,hz⟩:=bS hz;have hq:=(cr c).1;rcases bC hz with⟨b3,hz⟩|⟨b3,hz⟩
   .obtain rfl:=Bo hz;exact jw [hr 34 b2,AH 39 (ac.ixrZ 0 (Bt c)),AH 40 (ac.pt0Z aW (Bt c)),AH 43 (ac.ixrZ 0 (Bt d)),AH 44 (ac.pt0Z aW (Bt d)),hcp 45 1 hv x y,hr 46 b3,hbb 49 (Xl (q:=q) aa)] [hc (rfl:l0.length=l0.length),hc hv.im,hc (ac.imm l0)] (n _ rfl)
   .obtain rfl:=Bo hz;obtain rfl:=g _ rfl;exact yl 11110 [hr 34 b2,AH 39 (ac.ixrZ 0 (Bt c)),AH 40 (ac.pt0Z aW (Bt c)),AH 43 (ac.ixrZ 0 (Bt d)),AH 44 (ac.pt0Z aW (Bt d)),hcp 45 1 hv x y,hr 46 b3] [hc (rfl:l0.length=l0.length),hc hv.im,hc (ac.imm l0)] kk
  .obtain rfl:=Bo hz;obtain rfl:=g _ rfl;exact yl 11110 [hr 34 b2] [hc (rfl:l0.length=l0.length),hc hv.im,hc (ac.imm l0)] kk
 have hl0:l0.length<=1000:=aa;clear e0 h1 h2 hl ei;refine Ix 111110 (AaH gl fi fa fc a (b+1) l0 i j) ?_ λkk=>?_;rotate_left
 .skip;refine pN (λq:Nat=>AaH gl fi fa fc a (b+1) l0 i q) [1,1,1,1,0,2,2] ej [] [hc (rfl:l0.length=l0.length),hc hv.im,hc (ac.imm l0)] (λu q v hz n g=>?_);unfold scD at hz;rcases bC hz with⟨b2,hz⟩|⟨b2,hz⟩
  .obtain⟨x,c,hz⟩:=bS hz;obtain⟨y,d,hz⟩:=bS hz;have hq:=(cr c).1;rcases bC hz with⟨b3,hz⟩|⟨b3,hz⟩
   .obtain rfl:=Bo hz;obtain rfl:=g _ rfl;exact yl 111110 [hr 52 b2,AH 57 (ac.ixrZ 0 (Bt c)),AH 58 (ac.pt0Z aW (Bt c)),AH 61 (ac.ixrZ 0 (Bt d)),AH 62 (ac.pt0Z aW (Bt d)),hcp 63 1 hv x y,hr 64 b3] [hc (rfl:l0.length=l0.length),hc hv.im,hc (ac.imm l0)] kk
   .obtain⟨k,rfl,rfl⟩:=Agq hz;exact jw [hr 52 b2,AH 57 (ac.ixrZ 0 (Bt c)),AH 58 (ac.pt0Z aW (Bt c)),AH 61 (ac.ixrZ 0 (Bt d)),AH 62 (ac.pt0Z aW (Bt d)),hcp 63 1 hv x y,hr 64 b3,hbb 68 (dec (q:=k) aa)] [hc (rfl:l0.length=l0.length),hc hv.im,hc (ac.imm l0)] (n _ rfl)
  .obtain rfl:=Bo hz;obtain rfl:=g _ rfl;exact yl 111110 [hr 52 b2] [hc (rfl:l0.length=l0.length),hc hv.im,hc (ac.imm l0)] kk
 clear ej;rcases bC h with⟨b1,h⟩|⟨b1,h⟩
 .obtain⟨r',A,h⟩:=bS h;simp only[Fa,Fq] at h;obtain⟨rfl,rfl,rfl⟩:=h;obtain⟨x,y,hx,hy,e⟩:=HR A;exact Hf .ret (s0 178 gl [(10,iG (j:Int)),(11,bG true)] [(0,BA r')] 1 1) [iG (j:Int),bG true] (hr 71 b1::hsw 78 82 84 85 hx hy e) [hc (ac.imm r')] (kd:=[(0,.row)])
 obtain⟨hj,h⟩:=JO h;obtain⟨j,rfl⟩:=Agp hj;rw[Nat.add_sub_cancel] at h;obtain⟨l1,e1,h⟩:=bS h;obtain⟨s,es,h⟩:=bS h;obtain⟨r',A,h⟩:=bS h;simp only[Fa,Fq] at h;obtain⟨rfl,rfl,rfl⟩:=h;obtain⟨x,y,hx,hy,e1⟩:=HR e1;have hli:=(cr hx).1;have o:=(cr hy).1;have hl1:l0.length=l1.length:=by rw[e1];exact Us
 refine pN (λz:Bb×Nat×Nat=>AaH gl fi fa fc a (b+1) z.1 z.2.1 z.2.2) [1,1,1,1,1,1,1,1,1,0,2,2] es (hr 71 b1::hsw 93 97 99 100 hx hy e1++[hbb 102 (Xl (q:=i) aa),hbb 104 (dec (q:=j) aa)]) [hc hl1,hc hv.im,hc (ac.imm l1)] (λB z w hs k5 C=>?_);clear hx hy e1 hli o hl1 b1 hl0;obtain⟨l1,i,j⟩:=z;unfold paT at hs;dsimp only at hs;cases b0:decide (l1.length<=1000) with
 |false=>rw[b0] at hs;cases hs
 |true=>
 rw[b0,ax] at hs;have hl1:=DS b0;obtain⟨i1,ei,hs⟩:=bS hs;obtain⟨t,ej,hs⟩:=bS hs;refine Ix 111111111102220 (AaH gl fi fa fc a (b+1) l1 i1 j) ?_ λkk=>?_;rotate_left
 .skip;refine pN (λq:Nat=>AaH gl fi fa fc a (b+1) l1 q j) [1,1,1,1,1,1,1,1,1,0,2,2,2,0,2,2] ei [] [hc (rfl:l1.length=l1.length),hc hv.im,hc (ac.imm l1)] (λu q v hz n g=>?_);unfold scU at hz;rcases bC hz with⟨b2,hz⟩|⟨b2,hz⟩
  .obtain⟨x,c,hz⟩:=bS hz;obtain⟨y,d,hz⟩:=bS hz;have hq:=(cr c).1;rcases bC hz with⟨b3,hz⟩|⟨b3,hz⟩
   .obtain rfl:=Bo hz;exact jw [hr 107 b2,AH 112 (ac.ixrZ 0 (Bt c)),AH 113 (ac.pt0Z aW (Bt c)),AH 116 (ac.ixrZ 0 (Bt d)),AH 117 (ac.pt0Z aW (Bt d)),hcp 118 1 hv x y,hr 119 b3,hbb 122 (Xl (q:=q) aa)] [hc (rfl:l1.length=l1.length),hc hv.im,hc (ac.imm l1)] (n _ rfl)
   .obtain rfl:=Bo hz;obtain rfl:=g _ rfl;exact yl 111111111102220 [hr 107 b2,AH 112 (ac.ixrZ 0 (Bt c)),AH 113 (ac.pt0Z aW (Bt c)),AH 116 (ac.ixrZ 0 (Bt d)),AH 117 (ac.pt0Z aW (Bt d)),hcp 118 1 hv x y,hr 119 b3] [hc (rfl:l1.length=l1.length),hc hv.im,hc (ac.imm l1)] kk
  .obtain rfl:=Bo hz;obtain rfl:=g _ rfl;exact yl 111111111102220 [hr 107 b2] [hc (rfl:l1.length=l1.length),hc hv.im,hc (ac.imm l1)] kk
 clear ei;refine Ix 1111111111022210 (AaH gl fi fa fc a (b+1) l1 i1 t) ?_ λkk=>?_;rotate_left
 .skip;refine pN (λq:Nat=>AaH gl fi fa fc a (b+1) l1 i1 q) [1,1,1,1,1,1,1,1,1,0,2,2,2,1,0,2,2] ej [] [hc (rfl:l1.length=l1.length),hc hv.im,hc (ac.imm l1)] (λu q v hz n g=>?_);unfold scD at hz;rcases bC hz with⟨b2,hz⟩|⟨b2,hz⟩
  .obtain⟨x,c,hz⟩:=bS hz;obtain⟨y,d,hz⟩:=bS hz;have hq:=(cr c).1;rcases bC hz with⟨b3,hz⟩|⟨b3,hz⟩
   .obtain rfl:=Bo hz;obtain rfl:=g _ rfl;exact yl 1111111111022210 [hr 125 b2,AH 130 (ac.ixrZ 0 (Bt c)),AH 131 (ac.pt0Z aW (Bt c)),AH 134 (ac.ixrZ 0 (Bt d)),AH 135 (ac.pt0Z aW (Bt d)),hcp 136 1 hv x y,hr 137 b3] [hc (rfl:l1.length=l1.length),hc hv.im,hc (ac.imm l1)] kk
   .obtain⟨k,rfl,rfl⟩:=Agq hz;exact jw [hr 125 b2,AH 130 (ac.ixrZ 0 (Bt c)),AH 131 (ac.pt0Z aW (Bt c)),AH 134 (ac.ixrZ 0 (Bt d)),AH 135 (ac.pt0Z aW (Bt d)),hcp 136 1 hv x y,hr 137 b3,hbb 141 (dec (q:=k) aa)] [hc (rfl:l1.length=l1.length),hc hv.im,hc (ac.imm l1)] (n _ rfl)
  .obtain rfl:=Bo hz;obtain rfl:=g _ rfl;exact yl 1111111111022210 [hr 125 b2] [hc (rfl:l1.length=l1.length),hc hv.im,hc (ac.imm l1)] kk
 clear ej;rcases bC hs with⟨b1,hs⟩|⟨b1,hs⟩
 .obtain rfl:=Bo hs;obtain rfl:=C _ rfl;obtain⟨x,y,hx,hy,e⟩:=HR A;exact Hf .ret (s0 178 gl [(10,iG (t:Int)),(11,bG false)] [(0,BA r')] 1 1) [iG (t:Int),bG false] (hr 144 b1::hsw 169 173 175 176 hx hy e) [hc (ac.imm r')] (kd:=[(0,.row)])
 .obtain⟨hj,hs⟩:=JO hs;obtain⟨t,rfl⟩:=Agp hj;rw[Nat.add_sub_cancel] at hs;obtain⟨l2,e2,hs⟩:=bS hs;obtain rfl:=Bo hs;obtain⟨x,y,hx,hy,e2⟩:=HR e2;have hli:=(cr hx).1;have o:=(cr hy).1;have hl2:l1.length=l2.length:=by rw[e2];exact Us
  exact jw (hr 144 b1::hsw 151 155 157 158 hx hy e2++[hbb 160 (Xl (q:=i1) aa),hbb 162 (dec (q:=t) aa)]) [hc hl2,hc hv.im,hc (ac.imm l2)] (k5 _ rfl)
end
section
variable {gl:CB}
abbrev oLs(l:LQ):Option Ob:=some ⟨22,l.flatMap Jc,none⟩
def AdR(s:LQ×Nat×Nat):Option ((LQ×Nat×Nat)⊕LQ):=bif (s.2.1:Int)<(s.2.2:Int)-1 then(bif Nat.ble s.1.length 4000 then(swZ s.1 s.2.1 (s.2.2-1)).bind λw=>some (.inl (w,s.2.1+1,s.2.2-1))else none)else some (.inr s.1)
theorem AlC{q:Nat}(h:q<1000000):lD .sub (iG (q:Int)) (iG 1)=some (iG ((q:Int)-1)):=by grind [sb]
theorem Ajp{l r:LQ}(hn:l.length<=4000)(h:AQ AdR (l,0,l.length)=some r):jg prog gl 315 [.rsl 0 0 l.length] [(0,oLs l)] 1 (.tup []) [(0,oLs r)] 1:=by
 refine pP func315 ?_;refine pN (λs:LQ×Nat×Nat=>(s0 28 gl [(0,.rsl 0 0 s.1.length),(2,iG (s.2.1:Int)),(3,iG ((s.2.2:Int)-1))] [(0,oLs s.1)] 1 1)) 1122 h [hbb 6 (AlC (q:=l.length) aa)] [hc (el l),hc (nH.imm l)] (λB s w hs k5 b=>?_);obtain⟨l1,i,j⟩:=s;unfold AdR at hs;dsimp only at hs;rcases bC hs with⟨b1,hs⟩|⟨b1,hs⟩
 .rcases bC hs with⟨b2,hs⟩|⟨b2,hs⟩;rotate_left;· cases hs
  obtain⟨a,e0,hs⟩:=bS hs;obtain rfl:=Bo hs;obtain⟨j,rfl⟩:∃c,j=c+1:=⟨j-1,by have:=DS b1;omega⟩;rw[Nat.add_sub_cancel] at e0 k5;obtain⟨x,y,hx,hy,e1⟩:=HR e0;have hw1:l1.length=a.length:=by rw[e1,List.length_set,List.length_set]
  have hi:=(cr hx).1;have hj:=(cr hy).1;have hl:=D5 b2;rw[show((j+1:Nat):Int)-1=(j:Int) by omega] at b1⊢;exact jw [hr 9 b1,AH 20 (nH.ixrZ 0 (Bt hy)),AH 21 (nH.p10Z Vs (Bt hy)),AH 24 (nH.ixrZ 0 (Bt hx)),AH 25 (nH.p10Z Vs (Bt hx)),AH 26 (nH.ixsZ 0 (stZ (x:=y) hx)),hw 26 ((l1.set i y).flatMap Jc) (nH.putZ (stZ (x:=y) hx)),AH 27 (nH.ixsZ 0 (stZ (x:=x) hy)),hw 27 (a.flatMap Jc) (e1▸nH.putZ (Ah7 (w:=x) (x:=x) (z:=y) (i:=i) hy)),hbb 11 (Xl (q:=i) aa),hbb 13 (AlC (q:=j) aa)] [hc hw1,hc (nH.imm a)] (k5 _ rfl)
 .obtain rfl:=Bo hs;obtain rfl:=b _ rfl;exact Hf .normal (s0 28 gl [] [(0,oLs l1)] 1 1) [] [hr 9 b1] [hc (nH.imm l1)] (kd:=[(0,.row)])
def Md(s:LQ):Option LQ:=aT 24 [] s
theorem SI{s:LQ}:M1 prog gl (Md s) 314 [aE Jc s] 22 Jc:=λr h=>by
 unfold Md at h;refine OW func314 ?_;refine pO 1100 (s0 8 gl [(0,aE Jc s)] [] 0 0) [] [] ?_;refine IA 0 3 4 30 22 rfl (D5 aH) (D5 aH) λb hb=>?_;cases b
 .exact EI [eu 7 nH h] (nH.imm _)
 .obtain rfl:=nH.isNil (hb rfl);obtain rfl:=mV h;exact EI [] (nH.imm [])
theorem AdS{l r:LQ}(hn:l.length<=4000)(h:AQ AdR (l,0,l.length)=some r)(hl:r.length=l.length):ba prog gl 222 [aE Jc l] (aE Jc r):=by refine Gh func222 ?_;have a:=SI (gl:=gl) (s:=l) (r:=l) (by unfold Md;grind [aT]);have hM:=Ajp (gl:=gl) hn h;rw[<-hl] at a hM;exact Ar [hz 5 [] (Vo (c:=0) aH a (eB aH) (nH.imm l)),tN 7 [0] 1 [(0,oLs l)] [.rsl 0 0 r.length] [(0,oLs r)] hM ⟨⟨rfl,.inr ⟨rfl,nH.imm l⟩⟩,trivial⟩ ⟨⟨rfl,.inr ⟨rfl,nH.imm r⟩⟩,trivial⟩] [hc (nH.al r)]
theorem Ac9{l:Bp}{a b r:LQ}(hd:PE l d=some (a,b))(hn:a.length<=4000)(h:AQ AdR (a,0,a.length)=some r)(hl:r.length=a.length):ba prog gl 129 [aE cZ l,iG d] (aE Jc r):=by refine Gh func129 ?_;exact Ar [hf 10 (Abc gl hd),hf 14 (AdS (gl:=gl) hn h hl)] []
end
theorem Ag9(n:Int):SH n=zZ n:=by
 have:PC n=AE n:=by grind [PC,AE]
 grind [SH,zZ]
def lfN(n:Nat):Nat:=((zZ (n:Int)).getD 0).toNat
theorem Z2{n:Nat}(h:2<=n)(hn:n<=1000000):zZ (n:Int)=some ((lfN n:Nat):Int)/\1<=lfN n/\lfN n<n:=by obtain⟨v,e,k,rfl,h1,h2⟩:=Oc h hn;grind [lfN]
def OP:Nat->Bp->LQ
 |0,_=>[]
 |n+1,l=>if l.length=0 then[]else if l.length=1 then[l]else l::(OP n (l.take (lfN l.length))++OP n (l.drop (lfN l.length)))
def Y4(d:Int):Nat->Bp->LQ
 |0,_=>[]
 |n+1,l=>if l.length<=1 then[l]else l::(if d∈l.take (lfN l.length)then Y4 d n (l.take (lfN l.length))else Y4 d n (l.drop (lfN l.length)))
theorem SJ(d:Int):∀(n m:Nat) (l:Bp),l.length<n->l.length<m->l.length<=1000000->Y4 d n l=Y4 d m l
 |0,_,_,h,_,_=>(by grind)
 |_,0,_,_,h,_=>(by grind)
 |n+1,m+1,l,h,h',hl=>by
  unfold Y4;split
  .rfl
  .obtain⟨_,k1,k2⟩:=Z2 (n:=l.length) aa hl;rw[SJ d n m (l.take (lfN l.length)) cq cq cq,SJ d n m (l.drop (lfN l.length)) cq cq cq]
theorem abc:∀(nn:Nat) (l:Bp),l.length<nn->l.length<=1000000->KE nn l=some (OP nn l)/\(OP nn l).length<=2*l.length-1
 |0,_,h,_=>absurd h (Nat.not_lt_zero _)
 |nn+1,l,h,hl=>by
  unfold KE OP;by_cases h0:l.length=0
  .simp[ah,h0]
  by_cases h1:l.length=1
  .simp[ah,h1]
  obtain⟨e,k1,k2⟩:=Z2 (n:=l.length) aa hl;obtain⟨e2,n2⟩:=abc nn (l.take (lfN l.length)) cq cq;obtain⟨e3,a⟩:=abc nn (l.drop (lfN l.length)) cq cq;rw[show decide (ah l=0)=false from Dk (by unfold ah;omega),show decide (ah l=1)=false from Dk (by unfold ah;omega),Be,Be,show ah l=(l.length:Int) from rfl,e,aL,BU h0,BU h1];rw[MG] at n2;rw[List.length_drop] at a;constructor
  .refine T.eq (.bind (.pre aa aa ?_));rw[Fu,e2,aL];refine .bind (.app (by simp only[List.length_singleton];omega) (.bind (.suf aa aa ?_)));rw[Fu,e3,aL];exact .bind (.app (by simp only[UI,List.length_singleton];omega) (.some aC))
  grind
theorem Uk:∀(nn:Nat) (l:Bp),∀s∈OP nn l,∀x∈s,x∈l
 |0,_=>by simp[OP]
 |nn+1,l=>by
  intro s hs x hx;unfold OP at hs;split at hs
  .cases hs
  split at hs
  .grind
  .rcases EY.1 hs with rfl|hs
   .exact hx
   rcases Jn.1 hs with hs|hs
   .exact List.mem_of_mem_take (Uk nn _ s hs x hx)
   .exact List.mem_of_mem_drop (Uk nn _ s hs x hx)
theorem abd(d:Int):∀(nn:Nat) (l:Bp),l.length<nn->l.length<=1000000->l.Nodup->(OP nn l).filter (λs=>decide (d∈s))=if d∈l then Y4 d nn l else[]
 |0,_,h,_,_=>(by grind)
 |nn+1,l,h,hl,hnd=>by
  by_cases hd:d∈l
  .rw[BB hd];have hp:0<l.length:=List.length_pos_of_mem hd;unfold OP Y4;rw[BU aa];by_cases h1:l.length=1
   .grind
   rw[BU h1,BU aa];obtain⟨_,k1,k2⟩:=Z2 (n:=l.length) aa hl;generalize lfN l.length=k at k1 k2;have e2:=abd d nn (l.take k) cq cq (by grind);have e3:=abd d nn (l.drop k) cq cq (by grind);grind [Pr]
  grind [List.filter_eq_nil_iff,Uk]
theorem Ae4{l:LQ}(hl:l.length<=4000):AQ AdR (l,0,l.length)=some l.reverse:=by
 refine T.eq (T.loop (λs=>s.2.1+s.2.2=l.length/\s.1.length=l.length/\∀k,k<l.length->s.1[k]?=if s.2.1<=k/\k<s.2.2 then l[k]? else l.reverse[k]?) (λs=>s.2.2) (by grind) (by grind) ?_);rintro⟨w,i,j⟩ ⟨h1,h2,h3⟩;simp only at h1 h2 h3;unfold AdR;refine .dec (λh0=>?_) λh0=> .some (show w=l.reverse from ?_)
 .have h0:(i:Int)<(j:Int)-1:=h0;rw[show Nat.ble (w,i,j).1.length 4000=true from(by grind [N8]),ax];have hi:i<w.length:=aa;have hj:j-1<w.length:=aa;have e:swZ w i (j-1)=some ((w.set i (w[j-1]'hj)).set (j-1) (w[i]'hi)):=by grind [swZ]
  show T ((swZ w i (j-1)).bind _) _;rw[e,aL];refine .some ⟨⟨by grind,by simp[h2],λk hk=>?_⟩,by grind⟩;have ei:=h3 i aa;have ej:=h3 (j-1) aa;have ek:=h3 k hk;rw[BB (by grind)] at ei;rw[BB (by grind)] at ej;show((w.set i _).set (j-1) _)[k]?=if i+1<=k/\k<j-1 then _ else _
  rw[List.getElem?_set,List.getElem?_set];by_cases k1:j-1=k
  .grind
  grind
 .have h0:¬(i:Int)<(j:Int)-1:=h0;refine List.ext_getElem? λk=>?_;grind
theorem Aha{l:Bp}(hl:l.length<=3000)(hd:d∈l):∃b,PE l d=some (Y4 d (l.length+1) l,b):=by
 unfold PE;rw[SP aa,aL,show(l.any λy=>decide (d=y))=true from(by grind),Bool.not_true,Be];obtain⟨R,hR⟩:∃R,Y4 d (l.length+1) l=R:=⟨_,rfl⟩;rw[hR];have key:T (AQ (PD d) (l,[],[])) λv=>∃b,v= .inr (R,b):=by
  refine T.loop (λs:Bp×LQ×LQ=>d∈s.1/\s.1.length<=3000/\s.2.1.length+s.1.length<=6000/\s.2.2.length+s.1.length<=6000/\s.2.1++Y4 d (s.1.length+1) s.1=R) (λs=>s.1.length) (by grind) (by grind) ?_;rintro⟨c,a,f⟩ ⟨h1,h2,h3,h4,h5⟩;simp only at h1 h2 h3 h4 h5;have hp:0<c.length:=List.length_pos_of_mem h1;unfold PD fF;dsimp only;refine .bind (.app (by grind) (.bind (.app (by grind) ?_)));rw[OS];unfold Y4 at h5;by_cases hc:c.length<2
  .rw[show Ns c=some ([],[]) by grind [Ns,ah],aL];rw[BB aa] at h5;exact .some ⟨f,by rw[<-h5]⟩
  obtain⟨e,k1,k2⟩:=Z2 (n:=c.length) aa aa;rw[BU aa] at h5;generalize lfN c.length=k at e k1 k2 h5;have eK:Ns c=some (c.take k,c.drop k):=by unfold Ns fF;rw[Dk (by grind [ah]),Be,show ah c=(c.length:Int) from rfl,Ag9,e,aL];refine T.eq (.bind (.pre aa aa ?_));grind [T.bind,T.app,T.suf,T.some]
  have lt:(c.take k).length=k:=by grind
  have ld:(c.drop k).length=c.length-k:=List.length_drop;rw[eK,aL];dsimp only;rw[show decide (ah (c.drop k)=0)=false from(by grind [ah]),Be,SP aa,aL];have hx:d∈c.take k\/d∈c.drop k:=by grind [Pr]
  rw[SJ d c.length ((c.take k).length+1) (c.take k) aa aa aa,SJ d c.length ((c.drop k).length+1) (c.drop k) aa aa aa] at h5;by_cases ht:d∈c.take k
  .rw[show((c.take k).any λy=>decide (d=y))=true from(by grind),ax];rw[BB ht] at h5;refine .bind (.app (by grind) (.some (by constructor<;>grind)));all_goals grind
  .rw[show((c.take k).any λy=>decide (d=y))=false from(by grind),Be];rw[BU ht] at h5;refine .bind (.app (by grind) (.some (by constructor<;>grind)));all_goals grind
 obtain⟨v,e,b,rfl⟩:=key;rw[e];exact⟨b,rfl⟩
def RnF(l:Bn):Prop:=∀κ,l.map (qg κ 19)=l
abbrev oN1(s:Nat):Option Ob:=some ⟨3,[iG (s:Int)],none⟩
def o2S(cmp:Ab->Ab->Int)(l:Bb)(a b s:Nat):Option (Nat×Nat×Nat):=(l[b]?).bind λy=>(l[a]?).bind λx=>bif cmp y x<0 then some (b,a,s+1)else some (a,b,s)
def meS(cmp:Ab->Ab->Int)(l:Bb)(a b c s:Nat):Option (Nat×Nat):=(o2S cmp l a b s).bind λd=>(o2S cmp l d.2.1 c d.2.2).bind λe=>(o2S cmp l d.1 e.1 e.2.2).bind λf=>some (f.2.1,f.2.2)
def chS(cmp:Ab->Ab->Int)(l:Bb)(a:Nat):Option (Nat×Bool):=(meS cmp l (a+3) (a+6) (a+9) 0).bind λr=>bif r.2<=3 then some (r.1,decide ((r.2:Int)=0))else none
def scS(cmp:Ab->Ab->Int)(l:Bb)(b k:Nat):Option (Nat⊕Nat):=bif ((k+1:Nat):Int)<(b:Int)then(l[k+1]?).bind λx=>(l[k]?).bind λy=>bif cmp x y<0 then some (.inr k)else some (.inl (k+1))else some (.inr k)
def piS(cmp:Ab->Ab->Int)(l:Bb)(a b:Nat):Fl:=(AQ (scS cmp l b) a).bind λk=>some (decide (((k+1:Nat):Int)=(b:Int)))
section
variable {gl:CB} {fi:FuncId} {fa fc:Bn} {cmp:Ab->Ab->Int} (hv:CmV gl fi fa fc cmp)
include hv
theorem Ah8{s:Nat}(hs:s<1000)(h:o2S cmp l a b s=some (u,v,w)):jg prog gl 396 [.rsl 0 0 l.length,iG (a:Int),iG (b:Int),.ref 1 0,Sr fi fa fc] [(0,BA l),(1,oN1 s)] 2 (.tup [iG (u:Int),iG (v:Int)]) [(0,BA l),(1,oN1 w)] 2:=by
 unfold o2S at h;obtain⟨y,hy,h⟩:=bS h;obtain⟨x,hx,h⟩:=bS h;refine pP func396 ?_;rcases bC h with⟨b1,h⟩|⟨b1,h⟩
 .simp only[Fa,Fq] at h;obtain⟨rfl,rfl,rfl⟩:=h;exact Hf .ret (s0 32 gl [(10,iG (b:Int)),(11,iG (a:Int))] [(0,BA l),(1,oN1 (s+1))] 2 2) [iG (b:Int),iG (a:Int)] [AH 15 (ac.ixrZ 0 (Bt hy)),AH 16 (ac.pt0Z aW (Bt hy)),AH 19 (ac.ixrZ 0 (Bt hx)),AH 20 (ac.pt0Z aW (Bt hx)),hcp 21 2 hv y x,hr 22 b1,hbb 26 (Xl (q:=s) aa)] [hc (ac.imm l)] (kd:=[(0,.row)])
 .simp only[Fa,Fq] at h;obtain⟨rfl,rfl,rfl⟩:=h;exact Hf .ret (s0 32 gl [(10,iG (a:Int)),(11,iG (b:Int))] [(0,BA l),(1,oN1 s)] 2 2) [iG (a:Int),iG (b:Int)] [AH 15 (ac.ixrZ 0 (Bt hy)),AH 16 (ac.pt0Z aW (Bt hy)),AH 19 (ac.ixrZ 0 (Bt hx)),AH 20 (ac.pt0Z aW (Bt hx)),hcp 21 2 hv y x,hr 22 b1] [hc (ac.imm l)] (kd:=[(0,.row)])
variable (ra:RnF fa) (rc:RnF fc)
include ra rc
theorem rn5{κ:Nat->Fo}{a b c d:G}{e f g h:G}(h1:qg κ 20 a=e)(h2:qg κ 20 b=f)(h3:qg κ 20 c=g)(h4:qg κ 20 d=h):[a,b,c,d,Sr fi fa fc].map (qg κ 20)=[e,f,g,h,Sr fi fa fc]:=by show[qg κ 20 a,qg κ 20 b,qg κ 20 c,qg κ 20 d,.clo (.func fi) (fa.map (qg κ 19)) (fc.map (qg κ 19))]=_;rw[h1,h2,h3,h4,ra κ,rc κ]
abbrev ho2(d:Nat){l:Bb}{a b s u v w:Nat}(hs:s<1000)(h:o2S cmp l a b s=some (u,v,w)):HP:=tN d [0,1] 2 [(0,BA l),(1,oN1 s)] [.rsl 0 0 l.length,iG (a:Int),iG (b:Int),.ref 1 0,Sr fi fa fc] [(0,BA l),(1,oN1 w)] (Ah8 hv hs h) ⟨⟨rfl,.inr ⟨rfl,ac.imm l⟩⟩,⟨rfl,.inl rfl⟩,trivial⟩ ⟨⟨rfl,.inr ⟨rfl,ac.imm l⟩⟩,⟨rfl,.inl rfl⟩,trivial⟩ (hgs:=rn5 hv ra rc rfl rfl rfl rfl)
theorem Amr{s:Nat}(h:o2S cmp l a b s=some (u,v,w)):w<=s+1/\((u=a/\v=b)\/(u=b/\v=a)):=by grind [o2S]
theorem Akg{c s:Nat}(hs:s<100)(h:meS cmp l a b c s=some (m,w)):jg prog gl 372 [.rsl 0 0 l.length,iG (a:Int),iG (b:Int),iG (c:Int),.ref 1 0,Sr fi fa fc] [(0,BA l),(1,oN1 s)] 2 (iG (m:Int)) [(0,BA l),(1,oN1 w)] 2:=by unfold meS at h;obtain⟨⟨u1,v1,f⟩,e1,h⟩:=bS h;obtain⟨⟨g,v2,i⟩,e2,h⟩:=bS h;obtain⟨⟨j,d,e⟩,e3,h⟩:=bS h;simp only[Fa,Fq] at h;obtain⟨rfl,rfl⟩:=h;have k1:=(Amr hv ra rc e1).1;have k2:=(Amr hv ra rc e2).1;dsimp only at e2 e3 k2;refine pP func372 ?_;exact Hf .ret (s0 41 gl [(12,iG (d:Int))] [(0,BA l),(1,oN1 e)] 2 2) [iG (d:Int)] [ho2 hv ra rc 19 aa e1,ho2 hv ra rc 28 aa e2,ho2 hv ra rc 37 aa e3] [hc (ac.imm l)] (kd:=[(0,.row)])
abbrev Big(a b:Nat):Prop:=a+13<=b/\b<=15
omit hv ra rc in
theorem Ags(h:Big a b):(a=0/\b=13)\/(a=0/\b=14)\/(a=0/\b=15)\/(a=1/\b=14)\/(a=1/\b=15)\/(a=2/\b=15):=aa
abbrev Ams(d:Nat){l:Bb}{a b c m w:Nat}(h:meS cmp l a b c 0=some (m,w)):HP:=tN d [0,1] 2 [(0,BA l),(1,oN1 0)] [.rsl 0 0 l.length,iG (a:Int),iG (b:Int),iG (c:Int),.ref 1 0,Sr fi fa fc] [(0,BA l),(1,oN1 w)] (Akg hv ra rc Cd h) ⟨⟨rfl,.inr ⟨rfl,ac.imm l⟩⟩,⟨rfl,.inl rfl⟩,trivial⟩ ⟨⟨rfl,.inr ⟨rfl,ac.imm l⟩⟩,⟨rfl,.inl rfl⟩,trivial⟩ (hgs:=congrArg (G.rsl 0 0 l.length::·) (rn5 hv ra rc rfl rfl rfl rfl))
theorem Akh{l:Bb}{a b m:Nat}{f:Bool}(hB:Big a b)(h:chS cmp l a=some (m,f)):jg prog gl 305 [.rsl 0 0 l.length,iG (a:Int),iG (b:Int),Sr fi fa fc] [(0,BA l)] 1 (.tup [iG (m:Int),iG (bif f then 1 else 0)]) [(0,BA l)] 1:=by
 unfold chS at h;obtain⟨⟨c,w⟩,e,h⟩:=bS h;obtain⟨hw,h⟩:=JO h;have hw:=DS hw;dsimp only at hw;simp only[Fa,Fq] at h;obtain⟨rfl,rfl⟩:=h;have hn:decide ((w:Int)=12)=false:=Dk aa;refine pP func305 ?_;cases b1:decide ((w:Int)=0) with
 |true=>
  rcases Ags hB with⟨rfl,rfl⟩|⟨rfl,rfl⟩|⟨rfl,rfl⟩|⟨rfl,rfl⟩|⟨rfl,rfl⟩|⟨rfl,rfl⟩
  all_goals exact Hf .ret (s0 63 gl [(8,iG (c:Int)),(9,iG 1)] [(0,BA l)] 1 1) [iG (c:Int),iG 1] [Ams hv ra rc 54 e,hr 58 b1] [hc (ac.imm l)] (kd:=[(0,.row)])
 |false=>
  rcases Ags hB with⟨rfl,rfl⟩|⟨rfl,rfl⟩|⟨rfl,rfl⟩|⟨rfl,rfl⟩|⟨rfl,rfl⟩|⟨rfl,rfl⟩
  all_goals exact Hf .ret (s0 63 gl [(8,iG (c:Int)),(9,iG 0)] [(0,BA l)] 1 1) [iG (c:Int),iG 0] [Ams hv ra rc 54 e,hr 58 b1,hr 61 hn] [hc (ac.imm l)] (kd:=[(0,.row)])
omit ra rc
theorem Aki{l:Bb}{a b:Nat}{f:Bool}(hl:l.length<=1000)(ha:a<1000)(hb:b<=1000)(i:b-a<50)(h:piS cmp l a b=some f):jg prog gl 307 [.rsl 0 0 l.length,iG (a:Int),iG (b:Int),Sr fi fa fc] [(0,BA l)] 1 (bG f) [(0,BA l)] 1:=by
 unfold piS at h;obtain⟨k,ek,h⟩:=bS h;obtain rfl:=Bo h;refine pP func307 ?_;refine pN (λ_:Unit=>(s0 141 gl [(0,.rsl 0 0 l.length),(1,iG (a:Int)),(2,iG (b:Int)),(3,Sr fi fa fc),(9,iG ((a+1:Nat):Int)),(10,iG 0)] [(0,BA l)] 1 1)) 1110122 Lg [hbb 14 (Xl (q:=a) aa)] [hc (el l),hc hv.im,hc (ac.imm l)] (λB z w hz2 g d=>?_);clear g d hz2;refine Ix 11101221020 (s0 141 gl [(0,.rsl 0 0 l.length),(1,iG (a:Int)),(2,iG (b:Int)),(3,Sr fi fa fc),(9,iG ((k+1:Nat):Int)),(10,iG 0)] [(0,BA l)] 1 1) ?_ λkk=>?_;rotate_left
 .refine pN (λk:Nat=>(s0 141 gl [(0,.rsl 0 0 l.length),(1,iG (a:Int)),(2,iG (b:Int)),(3,Sr fi fa fc),(9,iG ((k+1:Nat):Int)),(10,iG 0)] [(0,BA l)] 1 1)) 1110122102022 ek [] [hc (el l),hc hv.im,hc (ac.imm l)] (λj k v hz g d=>?_);unfold scS at hz;rcases bC hz with⟨b2,hz⟩|⟨b2,hz⟩
  .obtain⟨x,c,hz⟩:=bS hz;obtain⟨y,e,hz⟩:=bS hz;have hq:=(cr c).1;rcases bC hz with⟨b3,hz⟩|⟨b3,hz⟩
   .obtain rfl:=Bo hz;obtain rfl:=d _ rfl;exact yl 11101221020 [hr 21 b2,AH 26 (ac.ixrZ 0 (Bt c)),AH 27 (ac.pt0Z aW (Bt c)),hbb 30 (dec (q:=k) aa),AH 31 (ac.ixrZ 0 (Bt e)),AH 32 (ac.pt0Z aW (Bt e)),hcp 33 1 hv x y,hr 34 b3] [hc (el l),hc hv.im,hc (ac.imm l)] kk
   .obtain rfl:=Bo hz;exact jw [hr 21 b2,AH 26 (ac.ixrZ 0 (Bt c)),AH 27 (ac.pt0Z aW (Bt c)),hbb 30 (dec (q:=k) aa),AH 31 (ac.ixrZ 0 (Bt e)),AH 32 (ac.pt0Z aW (Bt e)),hcp 33 1 hv x y,hr 34 b3,hbb 38 (Xl (q:=k+1) aa)] [hc (el l),hc hv.im,hc (ac.imm l)] (g _ rfl)
  .obtain rfl:=Bo hz;obtain rfl:=d _ rfl;exact yl 11101221020 [hr 21 b2] [hc (el l),hc hv.im,hc (ac.imm l)] kk
 clear ek;cases b1:decide (((k+1:Nat):Int)=(b:Int)) with
 |true=>exact Hf .ret (s0 141 gl [(8,bG true)] [(0,BA l)] 1 1) [bG true] [hr 41 b1] [hc (ac.imm l)] (kd:=[(0,.row)])
 |false=>exact Hf .ret (s0 141 gl [(8,bG false)] [(0,BA l)] 1 1) [bG false] [hr 41 b1,hbb 44 (sb (a:=(b:Int)) (b:=(a:Int)) (z:=(b:Int)-(a:Int)) rfl aa),hr 45 (show decide ((b:Int)-(a:Int)<50)=true from C5 aa)] [hc (ac.imm l)] (kd:=[(0,.row)])
omit hv
abbrev oXs(s:Nat):Option Ob:=some ⟨410,[uG (s:Int)],none⟩
def rnX:Bool->Nat->Nat
 |false,0=>13
 |false,1=>14069506893
 |false,2=>14988908846326605643
 |false,_=>3428281591454193221
 |true,0=>14
 |true,1=>15151776654
 |true,2=>16141901775903972233
 |true,_=>9417236295700912254
theorem AaI(d:Bool)(j:Nat)(h:j<3):jg prog gl 370 [.ref 0 0] [(0,oXs (rnX d j))] 1 (uG (rnX d (j+1):Int)) [(0,oXs (rnX d (j+1)))] 1:=by
 refine pP func370 ?_;rcases(by omega:j=0\/j=1\/j=2) with rfl|rfl|rfl<;>cases d
 .exact Hf .ret (s0 33 gl [(2,uG 14069506893)] [(0,oXs 14069506893)] 1 1) [uG 14069506893] [] []
 .exact Hf .ret (s0 33 gl [(2,uG 15151776654)] [(0,oXs 15151776654)] 1 1) [uG 15151776654] [] []
 .exact Hf .ret (s0 33 gl [(2,uG 14988908846326605643)] [(0,oXs 14988908846326605643)] 1 1) [uG 14988908846326605643] [] []
 .exact Hf .ret (s0 33 gl [(2,uG 16141901775903972233)] [(0,oXs 16141901775903972233)] 1 1) [uG 16141901775903972233] [] []
 .exact Hf .ret (s0 33 gl [(2,uG 3428281591454193221)] [(0,oXs 3428281591454193221)] 1 1) [uG 3428281591454193221] [] []
 .exact Hf .ret (s0 33 gl [(2,uG 9417236295700912254)] [(0,oXs 9417236295700912254)] 1 1) [uG 9417236295700912254] [] []
theorem Akj(d:Bool):ba prog gl 369 [iG (bif d then 14 else 13)] (uG 16):=by
 have h:=RC gl (n:=13) Cd;have h':=RC gl (n:=14) Cd;refine Gh func369 ?_;cases d
 .exact Ar [hf 5 h] []
 .exact Ar [hf 5 h'] []
end
theorem dJa{P:Bu}{fn:Func}{Q:Exit->St->Prop}{Bs:List (St->Prop)}{m:Bool}{p:Br}{st:St}(q:Br)(J:St)(kk:Gp P fn Q Bs false q J)(h:Gp P fn Q Bs false q J->Gp P fn Q Bs m p st):Gp P fn Q Bs m p st:=h kk
def brO:Bool->Nat->Nat
 |_,0=>0
 |false,1=>11
 |true,1=>9
 |false,_=>5
 |true,_=>0
def brT(d:Bool)(a:Nat)(s:Nat×Bb):Option ((Nat×Bb)⊕Bb):=match s.1 with
 |0=>(swZ s.2 (a+5) (a+brO d 0)).bind λl=>some (.inl (1,l))
 |1=>(swZ s.2 (a+6) (a+brO d 1)).bind λl=>some (.inl (2,l))
 |2=>(swZ s.2 (a+7) (a+brO d 2)).bind λl=>some (.inl (3,l))
 |3=>some (.inr s.2)
 |_=>none
def brG(l:Bb)(a b c:Nat)(d:Bool):Option (Bb×Nat):=bif d then some (l,c)else bif Nat.ble 1 a then(AQ (brT (Nat.beq (b-a) 14) a) (0,l)).bind λr=>bif Nat.beq l.length r.length then some (r,c-1)else none else none
def agG(cmp:Ab->Ab->Int)(l:Bb)(a p:Nat):Fl:=bif Nat.blt 0 a then(l[a-1]?).bind λy=>(l[p]?).bind λx=>some (decide (cmp y x<0))else some true
def Agt(a b:Nat):Bool:=Nat.ble (a+13) b&&Nat.ble b 15
theorem Ah9(h:Agt a b=true):Big a b:=by unfold Agt at h;rw[bA] at h;exact⟨D5 h.1,D5 h.2⟩
abbrev PdS:Type:=Bb×Nat×Nat×Nat×Bool×Bool
def pdN(cmp:Ab->Ab->Int)(a b c:Nat)(m:Nat)(f:Bool)(l:Bb):Option (PdS⊕Bb):=
 bif a<=m/\m<b then(bif (m:Int)-(a:Int)<(b:Int)-(m:Int)then(inI cmp (a:Int) (m:Int) l).bind λl3=>bif Nat.beq l.length l3.length then some (.inl (l3,m+1,b,c,decide ((1:Int)<=(m:Int)-(a:Int)),f))else none
  else(inI cmp ((m+1:Nat):Int) (b:Int) l).bind λl3=>bif Nat.beq l.length l3.length then some (.inl (l3,a,m,c,decide ((1:Int)<=(b:Int)-(m:Int)),f))else none)else none
def pdT(cmp:Ab->Ab->Int)(s:PdS):Option (PdS⊕Bb):=
 bif s.1.length<=1000/\s.2.1<=100/\s.2.2.1<=100 then
 bif (s.2.2.1:Int)-(s.2.1:Int)<=12 then(inI cmp (s.2.1:Int) (s.2.2.1:Int) s.1).bind λr=>some (.inr r)
 else bif Agt s.2.1 s.2.2.1&&(Nat.blt 0 s.2.2.2.1&&Nat.ble s.2.2.2.1 100) then
  (brG s.1 s.2.1 s.2.2.1 s.2.2.2.1 s.2.2.2.2.1).bind λq=>bif q.1.length<=1000 then(chS cmp q.1 s.2.1).bind λc=>(bif s.2.2.2.2.1&&s.2.2.2.2.2&&c.2 then piS cmp q.1 s.2.1 s.2.2.1 else some false).bind λd=>bif d then some (.inr q.1) else
  (agG cmp q.1 s.2.1 c.1).bind λok=>bif ok then(paS cmp s.2.1 s.2.2.1 c.1 q.1).bind λr=>bif Nat.beq q.1.length r.2.2.length then pdN cmp s.2.1 s.2.2.1 q.2 r.1 r.2.1 r.2.2 else none else none else none
 else none else none
section
variable {gl:CB} {fi:FuncId} {fa fc:Bn} {cmp:Ab->Ab->Int} (hv:CmV gl fi fa fc cmp)
include hv
theorem Akl(hB:Big a b)(ha:1<=a)(h:AQ (brT (Nat.beq (b-a) 14) a) (0,l)=some r):jg prog gl 304 [.rsl 0 0 l.length,iG (a:Int),iG (b:Int),Sr fi fa fc] [(0,BA l)] 1 (.tup []) [(0,BA r)] 1:=by
 rcases(by omega:(a=1/\b=14)\/(a=1/\b=15)\/(a=2/\b=15)) with⟨rfl,rfl⟩|⟨rfl,rfl⟩|⟨rfl,rfl⟩
 let a:Nat:=1;let d:Bool:=false;rotate_left
 let a:Nat:=1;let d:Bool:=true;rotate_left
 let a:Nat:=2;let d:Bool:=false;all_goals
  have hn:=Akj (gl:=gl) d
  have h0:=AaI (gl:=gl) d 0 Cd
  have h1:=AaI (gl:=gl) d 1 Cd
  have h2:=AaI (gl:=gl) d 2 Cd
  refine pP func304 ?_
  refine pN (λs:Nat×Bb=>(s0 67 gl [(0,.rsl 0 0 s.2.length),(1,iG (a:Int)),(8,iG (bif d then 14 else 13)),(9,.ref 1 0),(10,uG 16),(11,iG ((a+5+s.1:Nat):Int))] [(0,BA s.2),(1,oXs (rnX d s.1))] 2 1)) 111311122 h [hf 21 hn] [hc (el l),hc (ac.imm l)] (λB s w hs k5 c=>?_)
  obtain⟨j,l⟩:=s
  unfold brT at hs
  dsimp only at hs
  split at hs
  .obtain⟨l1,e1,hs⟩:=bS hs
   obtain rfl:=Bo hs
   obtain⟨x,y,hx,hy,e⟩:=HR e1
   have hl:l.length=l1.length:=by rw[e];exact Us
   exact jw (tN 38 [1] 2 [(1,oXs (rnX d 0))] [.ref 1 0] [(0,oXs (rnX d 1))] h0 ⟨⟨rfl,.inl rfl⟩,trivial⟩ ⟨⟨rfl,.inl rfl⟩,trivial⟩::hsw 59 63 65 66 hx hy e) [hc hl,hc (ac.imm l1)] (k5 _ rfl)
  .obtain⟨l1,e1,hs⟩:=bS hs
   obtain rfl:=Bo hs
   obtain⟨x,y,hx,hy,e⟩:=HR e1
   have hl:l.length=l1.length:=by rw[e];exact Us
   exact jw (tN 38 [1] 2 [(1,oXs (rnX d 1))] [.ref 1 0] [(0,oXs (rnX d 2))] h1 ⟨⟨rfl,.inl rfl⟩,trivial⟩ ⟨⟨rfl,.inl rfl⟩,trivial⟩::hsw 59 63 65 66 hx hy e) [hc hl,hc (ac.imm l1)] (k5 _ rfl)
  .obtain⟨l1,e1,hs⟩:=bS hs
   obtain rfl:=Bo hs
   obtain⟨x,y,hx,hy,e⟩:=HR e1
   have hl:l.length=l1.length:=by rw[e];exact Us
   exact jw (tN 38 [1] 2 [(1,oXs (rnX d 2))] [.ref 1 0] [(0,oXs (rnX d 3))] h2 ⟨⟨rfl,.inl rfl⟩,trivial⟩ ⟨⟨rfl,.inl rfl⟩,trivial⟩::hsw 59 63 65 66 hx hy e) [hc hl,hc (ac.imm l1)] (k5 _ rfl)
  .obtain rfl:=Bo hs
   obtain rfl:=c _ rfl
   exact Hf .normal (s0 67 gl [] [(0,BA l)] 1 1) [] [] [hc (ac.imm l)] (kd:=[(0,.row)])
  .cases hs
variable (ra:RnF fa) (rc:RnF fc)
include ra rc
theorem rnA{κ:Nat->Fo}{x y:G}(h1:qg κ 20 x=y)(h:L.map (qg κ 20)=L):(x::(L++[Sr fi fa fc])).map (qg κ 20)=y::(L++[Sr fi fa fc]):=by rw[Fe,List.map_append,h1,h];show y::(L++[.clo (.func fi) (fa.map (qg κ 19)) (fc.map (qg κ 19))])=_;rw[ra κ,rc κ]
abbrev hI(d:Nat)(L:Bn){f:FuncId}{l r:Bb}{res:G}(hM:jg prog gl f (.rsl 0 0 l.length::(L++[Sr fi fa fc])) [(0,BA l)] 1 res [(0,BA r)] 1)(hL:L.map (qg (vi [0]) 20)=L):HP:=tN d [0] 1 [(0,BA l)] (.rsl 0 0 l.length::(L++[Sr fi fa fc])) [(0,BA r)] hM ⟨⟨rfl,.inr ⟨rfl,ac.imm l⟩⟩,trivial⟩ ⟨⟨rfl,.inr ⟨rfl,ac.imm r⟩⟩,trivial⟩ (hgs:=rnA hv ra rc rfl hL)
omit hv ra rc in
theorem mcL{f:FuncId}{res:G}{n:Nat}(e:n=l.length)(hM:jg prog gl f (.rsl 0 0 l.length::L) [(0,BA l)] 1 res [(0,BA r)] 1):jg prog gl f (.rsl 0 0 n::L) [(0,BA l)] 1 res [(0,BA r)] 1:=e▸hM
abbrev hI2(d:Nat)(L:Bn){f:FuncId}{l r:Bb}{res:G}{n:Nat}(e:n=l.length)(hM:jg prog gl f (.rsl 0 0 l.length::(L++[Sr fi fa fc])) [(0,BA l)] 1 res [(0,BA r)] 1)(hL:L.map (qg (vi [0]) 20)=L):HP:=tN d [0] 1 [(0,BA l)] (.rsl 0 0 n::(L++[Sr fi fa fc])) [(0,BA r)] (mcL e hM) ⟨⟨rfl,.inr ⟨rfl,ac.imm l⟩⟩,trivial⟩ ⟨⟨rfl,.inr ⟨rfl,ac.imm r⟩⟩,trivial⟩ (hgs:=rnA hv ra rc rfl hL)
theorem VG{a b:Nat}(ha:a<=1000)(hb:b<=1000)(c:(b:Int)-(a:Int)<=12)(h:inI cmp (a:Int) (b:Int) l=some r)(k:Int):jg prog gl 217 [.rsl 0 0 l.length,iG (a:Int),iG (b:Int),iG k,Sr fi fa fc] [(0,BA l)] 1 (.tup []) [(0,BA r)] 1:=by have hs:=sb (a:=(b:Int)) (b:=(a:Int)) (z:=(b:Int)-(a:Int)) rfl aa;have hd:=C5 c;refine pP func217 ?_;refine pN (λ_:Unit=>(s0 148 gl [(0,.rsl 0 0 l.length),(1,iG (a:Int)),(2,iG (b:Int)),(3,iG k),(4,Sr fi fa fc)] [(0,BA l)] 1 1)) 11122 Lg [] [hc (el l),hc hv.im,hc (ac.imm l)] (λd z v hz2 e f=>?_);exact Hf .ret (s0 148 gl [] [(0,BA r)] 1 1) [] [hbb 23 hs,hr 25 hd,hI hv ra rc 30 [iG (a:Int),iG (b:Int)] (Adz hv h) rfl] [hc (ac.imm r)] (kd:=[(0,.row)])
abbrev Aol(gl:CB)(fi:FuncId)(fa fc:Bn)(s:PdS):St:=(s0 148 gl [(0,.rsl 0 0 s.1.length),(1,iG (s.2.1:Int)),(2,iG (s.2.2.1:Int)),(3,iG (s.2.2.2.1:Int)),(4,Sr fi fa fc),(10,bG s.2.2.2.2.1),(11,bG s.2.2.2.2.2)] [(0,BA s.1)] 1 1)
theorem Akm{s:PdS}(h:AQ (pdT cmp) s=some r)(h1:s.2.2.2.2=(true,true)):jg prog gl 217 [.rsl 0 0 s.1.length,iG (s.2.1:Int),iG (s.2.2.1:Int),iG (s.2.2.2.1:Int),Sr fi fa fc] [(0,BA s.1)] 1 (.tup []) [(0,BA r)] 1:=by
 refine pP func217 ?_;obtain⟨l,a,b,g,j,par⟩:=s;obtain⟨rfl,rfl⟩:=Prod.mk.inj h1;clear h1;refine pN (Aol gl fi fa fc) [1,1,2,2] h [] [hc (el l),hc hv.im,hc (ac.imm l)] (λB s w hs k5 C=>?_);clear h l a b g;obtain⟨l,a,b,g,j,par⟩:=s;unfold pdT at hs;dsimp only at hs;obtain⟨hg,hs⟩:=JO hs;obtain⟨hl,ha,hb⟩:=DS hg;have n:=sb (a:=(b:Int)) (b:=(a:Int)) (z:=(b:Int)-(a:Int)) rfl aa;rcases bC hs with⟨b1,hs⟩|⟨b1,hs⟩
 .obtain⟨r',A,hs⟩:=bS hs;obtain rfl:=Bo hs;obtain rfl:=C _ rfl;exact Hf .ret (s0 148 gl [] [(0,BA r')] 1 1) [] [hbb 23 n,hr 25 b1,hI hv ra rc 30 [iG (a:Int),iG (b:Int)] (Adz hv A) rfl] [hc (ac.imm r')] (kd:=[(0,.row)])
 obtain⟨u,hs⟩:=JO hs;simp only[bA] at u;obtain⟨hB,hl1,hl2⟩:=u;have hB:=Ah9 hB;have hlim:0<g:=D5 hl1;have hlim2:g<=100:=D5 hl2;clear hl1 hl2;obtain⟨⟨l1,c⟩,k,hs⟩:=bS hs;dsimp only at hs;obtain⟨v,hs⟩:=JO hs;have hll:=DS v;obtain⟨⟨p,Xl⟩,D,hs⟩:=bS hs;dsimp only at hs;obtain⟨d,ed,hs⟩:=bS hs;refine dJa [1,1,2,2,2,1,1,1,1,0] (s0 148 gl [(0,.rsl 0 0 l1.length),(1,iG (a:Int)),(2,iG (b:Int)),(3,iG (c:Int)),(4,Sr fi fa fc),(10,bG j),(11,bG par),(12,iG ((b:Int)-(a:Int)))] [(0,BA l1)] 1 1) ?_ λkk=>?_;rotate_left
 .have hn0:decide ((g:Int)=0)=false:=Dk aa;unfold brG at k;cases j with
  |true=>obtain⟨rfl,rfl⟩:=Prod.mk.inj (Bo k);exact pO 11122211110 _ [hbb 23 n,hr 25 b1,hr 32 hn0] [hc (el l),hc hv.im,hc (ac.imm l)] kk
  |false=>obtain⟨t,k⟩:=JO k;have t:=D5 t;obtain⟨r',A,k⟩:=bS k;obtain⟨hle,k⟩:=JO k;have hle:=bc hle;obtain⟨q,rfl⟩:∃q,g=q+1:=⟨g-1,aa⟩;rw[Nat.add_sub_cancel] at k;obtain⟨rfl,rfl⟩:=Prod.mk.inj (Bo k);exact pO 11122211110 _ [hbb 23 n,hr 25 b1,hr 32 hn0,hI hv ra rc 44 [iG (a:Int),iG (b:Int)] (Akl hv hB t A) rfl,hbb 46 (dec (q:=q) aa)] [hc hle,hc hv.im,hc (ac.imm r')] kk
 clear k b1 n hlim hlim2;have i:=Akh hv ra rc (b:=b) hB D;have hpi:=λe=>Aki hv (l:=l1) (a:=a) (b:=b) (f:=d) hll aa aa aa e;cases d with
 |true=>
  obtain rfl:=Bo hs;obtain rfl:=C _ rfl;cases j with
  |false=>cases ed
  |true=>cases par with
   |false=>cases ed
   |true=>cases Xl with
    |false=>cases ed
    |true=>
     have hpi:=hpi ed
     exact Hf .ret (s0 148 gl [] [(0,BA l1)] 1 1) [] [hI hv ra rc 52 [iG (a:Int),iG (b:Int)] i rfl,hI hv ra rc 80 [iG (a:Int),iG (b:Int)] hpi rfl] [hc (ac.imm l1)] (kd:=[(0,.row)])
 |false=>
 refine dJa [1,1,2,2,2,1,1,1,1,1,1,1,0,0] (s0 148 gl [(0,.rsl 0 0 l1.length),(1,iG (a:Int)),(2,iG (b:Int)),(3,iG (c:Int)),(4,Sr fi fa fc),(12,iG ((b:Int)-(a:Int))),(13,iG (p:Int))] [(0,BA l1)] 1 1) ?_ λkk=>?_;rotate_left
 .cases j with
  |false=>cases par<;>cases Xl<;>exact pO 111222111111100 _ [hI hv ra rc 52 [iG (a:Int),iG (b:Int)] i rfl] [hc (el l1),hc hv.im,hc (ac.imm l1)] kk
  |true=>cases par with
   |false=>cases Xl<;>exact pO 111222111111100 _ [hI hv ra rc 52 [iG (a:Int),iG (b:Int)] i rfl] [hc (el l1),hc hv.im,hc (ac.imm l1)] kk
   |true=>cases Xl with
    |false=>exact pO 111222111111100 _ [hI hv ra rc 52 [iG (a:Int),iG (b:Int)] i rfl] [hc (el l1),hc hv.im,hc (ac.imm l1)] kk
    |true=>
     have hpi:=hpi ed
     exact pO 111222111111100 _ [hI hv ra rc 52 [iG (a:Int),iG (b:Int)] i rfl,hI hv ra rc 80 [iG (a:Int),iG (b:Int)] hpi rfl] [hc (el l1),hc hv.im,hc (ac.imm l1)] kk
 clear i hpi ed D;rw[Be] at hs;obtain⟨ok,o,hs⟩:=bS hs;have E:=hB.2;have hq:lD .quo (iG ((b:Int)-(a:Int))) (iG 8)=some (iG 1):=by rcases(by omega:(b:Int)-(a:Int)=13\/(b:Int)-(a:Int)=14\/(b:Int)-(a:Int)=15) with e|e|e<;>rw[e]<;>kernel_rfl
 rcases a with _|q
 .clear o;obtain⟨hok,hs⟩:=JO hs;subst hok;obtain⟨⟨m,f,l2⟩,ep,hs⟩:=bS hs;dsimp only at hs;obtain⟨h2,hs⟩:=JO hs;have h2:=bc h2;unfold pdN at hs;obtain⟨hm,hs⟩:=JO hs;have hm:=DS hm;rcases bC hs with⟨b2,hs⟩|⟨b2,hs⟩
  .have b3:=DS b2;obtain⟨l3,e3,hs⟩:=bS hs;obtain⟨h3,hs⟩:=JO hs;have h3:=h2.trans (bc h3);obtain rfl:=Bo hs;exact jw [hI hv ra rc 111 [iG ((0:Nat):Int),iG (b:Int),iG (p:Int)] (VC hv hll aa aa aa ep) rfl,hbb 117 (sb (a:=(m:Int)) (b:=((0:Nat):Int)) (z:=(m:Int)-((0:Nat):Int)) rfl aa),hbb 120 (sb (a:=(b:Int)) (b:=(m:Int)) (z:=(b:Int)-(m:Int)) rfl aa),hbb 122 hq,hr 125 b2,hI2 hv ra rc 134 [iG ((0:Nat):Int),iG (m:Int),iG (c:Int)] h2 (VG hv ra rc aa aa aa e3 (c:Int)) rfl,hbb 136 (Go.Proofs.YtdpdicldkohflaaGreatDoor.Xl (q:=m) aa)] [hc h3,hc hv.im,hc (ac.imm l3)] (k5 _ rfl)
  .have b3:=Mu b2;obtain⟨l3,e3,hs⟩:=bS hs;obtain⟨h3,hs⟩:=JO hs;have h3:=h2.trans (bc h3);obtain rfl:=Bo hs;exact jw [hI hv ra rc 111 [iG ((0:Nat):Int),iG (b:Int),iG (p:Int)] (VC hv hll aa aa aa ep) rfl,hbb 117 (sb (a:=(m:Int)) (b:=((0:Nat):Int)) (z:=(m:Int)-((0:Nat):Int)) rfl aa),hbb 120 (sb (a:=(b:Int)) (b:=(m:Int)) (z:=(b:Int)-(m:Int)) rfl aa),hbb 122 hq,hr 125 b2,hbb 142 (Go.Proofs.YtdpdicldkohflaaGreatDoor.Xl (q:=m) aa),hI2 hv ra rc 146 [iG ((m+1:Nat):Int),iG (b:Int),iG (c:Int)] h2 (VG hv ra rc aa aa aa e3 (c:Int)) rfl] [hc h3,hc hv.im,hc (ac.imm l3)] (k5 _ rfl)
 .obtain⟨y,hy,o⟩:=bS (show((l1[q]?).bind λy=>(l1[p]?).bind λx=>some (decide (cmp y x<0)))=some ok from o);obtain⟨x,hx,o⟩:=bS o;have o:=Bo o;have h0:decide ((0:Int)<((q+1:Nat):Int))=true:=C5 aa;obtain⟨hok,hs⟩:=JO hs;subst hok;obtain⟨⟨m,f,l2⟩,ep,hs⟩:=bS hs;dsimp only at hs;obtain⟨h2,hs⟩:=JO hs;have h2:=bc h2;unfold pdN at hs;obtain⟨hm,hs⟩:=JO hs;have hm:=DS hm;rcases bC hs with⟨b2,hs⟩|⟨b2,hs⟩
  .have b3:=DS b2;obtain⟨l3,e3,hs⟩:=bS hs;obtain⟨h3,hs⟩:=JO hs;have h3:=h2.trans (bc h3);obtain rfl:=Bo hs;exact jw [hr 82 h0,hbb 87 (dec (q:=q) aa),AH 88 (ac.ixrZ 0 (Bt hy)),AH 89 (ac.pt0Z aW (Bt hy)),AH 92 (ac.ixrZ 0 (Bt hx)),AH 93 (ac.pt0Z aW (Bt hx)),hcp 94 1 hv y x,hr 95 o,hI hv ra rc 111 [iG ((q+1:Nat):Int),iG (b:Int),iG (p:Int)] (VC hv hll aa aa aa ep) rfl,hbb 117 (sb (a:=(m:Int)) (b:=((q+1:Nat):Int)) (z:=(m:Int)-((q+1:Nat):Int)) rfl aa),hbb 120 (sb (a:=(b:Int)) (b:=(m:Int)) (z:=(b:Int)-(m:Int)) rfl aa),hbb 122 hq,hr 125 b2,hI2 hv ra rc 134 [iG ((q+1:Nat):Int),iG (m:Int),iG (c:Int)] h2 (VG hv ra rc aa aa aa e3 (c:Int)) rfl,hbb 136 (Go.Proofs.YtdpdicldkohflaaGreatDoor.Xl (q:=m) aa)] [hc h3,hc hv.im,hc (ac.imm l3)] (k5 _ rfl)
  .have b3:=Mu b2;obtain⟨l3,e3,hs⟩:=bS hs;obtain⟨h3,hs⟩:=JO hs;have h3:=h2.trans (bc h3);obtain rfl:=Bo hs;exact jw [hr 82 h0,hbb 87 (dec (q:=q) aa),AH 88 (ac.ixrZ 0 (Bt hy)),AH 89 (ac.pt0Z aW (Bt hy)),AH 92 (ac.ixrZ 0 (Bt hx)),AH 93 (ac.pt0Z aW (Bt hx)),hcp 94 1 hv y x,hr 95 o,hI hv ra rc 111 [iG ((q+1:Nat):Int),iG (b:Int),iG (p:Int)] (VC hv hll aa aa aa ep) rfl,hbb 117 (sb (a:=(m:Int)) (b:=((q+1:Nat):Int)) (z:=(m:Int)-((q+1:Nat):Int)) rfl aa),hbb 120 (sb (a:=(b:Int)) (b:=(m:Int)) (z:=(b:Int)-(m:Int)) rfl aa),hbb 122 hq,hr 125 b2,hbb 142 (Go.Proofs.YtdpdicldkohflaaGreatDoor.Xl (q:=m) aa),hI2 hv ra rc 146 [iG ((m+1:Nat):Int),iG (b:Int),iG (c:Int)] h2 (VG hv ra rc aa aa aa e3 (c:Int)) rfl] [hc h3,hc hv.im,hc (ac.imm l3)] (k5 _ rfl)
end
structure OrN {α:Type} (cmp:α->α->Int) (D:α->Prop):Prop where
 tr:∀x y z,cmp x y<0->cmp y z<0->cmp x z<0
 tt:∀x y,D x->D y->x≠y->cmp x y<0\/cmp y x<0
def Rg{α:Type}(a b:Nat)(l r:List α):Prop:=r.Perm l/\∀q,(q<a\/b<=q)->r[q]?=l[q]?
def SoR{α:Type}(cmp:α->α->Int)(a b:Nat)(l:List α):Prop:=∀p q x y,a<=p->p<q->q<b->l[p]?=some x->l[q]?=some y->cmp x y<0
def OrX{α:Type}(cmp:α->α->Int)(a b:Nat)(l:List α):Prop:=∀p q x y,p<q->¬(a<=p/\q<b)->l[p]?=some x->l[q]?=some y->cmp x y<0
theorem Rg.refl{α:Type}{a b:Nat}(l:List α):Rg a b l l:=⟨.refl _,λ_ _=>rfl⟩
theorem Rg.trans{α:Type}{a b:Nat}{l r s:List α}(h:Rg a b l r)(k:Rg a b r s):Rg a b l s:=⟨k.1.trans h.1,λq hq=>(k.2 q hq).trans (h.2 q hq)⟩
theorem Rg.mono{α:Type}{a b a' b':Nat}{l r:List α}(h:Rg a b l r)(ha:a'<=a)(hb:b<=b'):Rg a' b' l r:=⟨h.1,λq hq=>h.2 q aa⟩
theorem Rg.len{α:Type}{a b:Nat}{l r:List α}(h:Rg a b l r):r.length=l.length:=h.1.length_eq
theorem M5{l:List α}(h:l.Nodup){q:Nat}{x:α}(h1:l[p]?=some x)(h2:l[q]?=some x):p=q:=by grind [List.getElem?_inj]
theorem Rg.src{α:Type}{a b:Nat}{l r:List α}(h:Rg a b l r)(hn:l.Nodup){q:Nat}{y:α}(h1:a<=q)(h2:q<b)(hy:r[q]?=some y):∃c,a<=c/\c<b/\l[c]?=some y:=by
 obtain⟨c,hq⟩:=GL (h.1.mem_iff.1 (bO hy));refine⟨c,?_⟩;rcases(by omega:(c<a\/b<=c)\/(a<=c/\c<b)) with h3|h3
 .have:=M5 (h.1.nodup_iff.2 hn) hy ((h.2 c h3).trans hq);omega
 .exact⟨h3.1,h3.2,hq⟩
theorem OrX.rg{α:Type}{cmp:α->α->Int}{a b:Nat}{l r:List α}(h:OrX cmp a b l)(k:Rg a b l r)(hn:l.Nodup):OrX cmp a b r:=by
 have src:∀q y,r[q]?=some y->∃c,l[c]?=some y/\(c=q\/(a<=q/\q<b/\a<=c/\c<b)):=λq y hy=>by
  rcases(by omega:(q<a\/b<=q)\/(a<=q/\q<b)) with h3|h3
  .exact⟨q,(k.2 q h3).symm.trans hy,.inl rfl⟩
  grind [Rg.src]
 intro p q x y e hb hx hy;obtain⟨f,hx',hp⟩:=src p x hx;obtain⟨c,d,hq⟩:=src q y hy;exact h f c x y aa aa hx' d
theorem Agu{l:List α}{i j:Nat}(hi:i<l.length)(hj:j<l.length):∃r,swZ l i j=some r/\r.Perm l/\∀q,r[q]?=if q=j then l[i]? else if q=i then l[j]? else l[q]? :=by refine⟨(l.set i l[j]).set j l[i],?_,List.set_set_perm hi hj,λq=>?_⟩;all_goals grind [swZ]
theorem AbG{a b i j:Nat}{l r:List α}(h:r.Perm l)(hq:∀q,r[q]?=if q=j then l[i]? else if q=i then l[j]? else l[q]?)(h1:a<=i)(h2:i<b)(h3:a<=j)(h4:j<b):Rg a b l r:=by constructor<;>grind
section
variable {α:Type} {cmp:α->α->Int} {D:α->Prop} (hO:OrN cmp D)
include hO
theorem OrN.lt{l:List α}(hn:l.Nodup)(hD:∀z∈l,D z){p q:Nat}{x y:α}(hx:l[p]?=some x)(hy:l[q]?=some y)(a:p≠q)(h:¬cmp y x<0):cmp x y<0:=by grind [OrN,M5]
theorem SoR.all{a b:Nat}{l:List α}(h:SoR cmp a b l)(k:OrX cmp a b l):SoR cmp 0 l.length l:=λp q x y _ c _ hx hy=>by
 by_cases hh:a<=p/\q<b
 .exact h p q x y hh.1 c hh.2 hx hy
 .exact k p q x y c hh hx hy
theorem AaJ{a b:Nat}{l:List α}(hn:l.Nodup)(hD:∀z∈l,D z)(ha:a<=1000)(hb:b<=l.length)(hl:l.length<=1000):T (inI cmp (a:Int) (b:Int) l) λr=>Rg a b l r/\SoR cmp a b r:=by
 unfold inI;rw[show wI ((a:Int)+1)=wI ((a:Nat)+1) from rfl];rw[aq aa];refine T.loop (λs=>∃i:Nat,s.2=(i:Int)/\a+1<=i/\(i<=b\/i=a+1)/\Rg a b l s.1/\SoR cmp a i s.1) (λs=>b-s.2.toNat) ⟨a+1,rfl,Dl _,.inr rfl,.refl l,λp q x y h1 h2 h3=>aa⟩ (by show b-_<_;omega) ?_;rintro⟨l1,A⟩ ⟨i,e,h1,h2,h3,h4⟩;dsimp only at e h3 h4;subst e;have f:=h3.1.nodup_iff.2 hn;have hl1:=h3.len;unfold AaF;dsimp only;refine .dec (λhlt=>?_) λhge=> .some ⟨h3,λp q x y k1 k2 k3=>h4 p q x y k1 k2 aa⟩;have hib:i<b:=aa;refine .bind ((T.loop (λs=>∃j:Nat,s.2=(j:Int)/\a<=j/\j<=i/\Rg a b l1 s.1/\∀p q x y,a<=p->p<q->q<=i->q≠j->s.1[p]?=some x->s.1[q]?=some y->cmp x y<0) (λs=>s.2.toNat) (Q:=λr=>Rg a b l1 r/\SoR cmp a (i+1) r) ⟨i,rfl,aa,Dl _,.refl l1,λp q x y k1 k2 k3 d=>h4 p q x y k1 k2 aa⟩ (by show((i:Int)).toNat<_;omega) ?_).mono λr hr=> .some ⟨⟨i+1,aq aa,aa,.inl aa,h3.trans hr.1,hr.2⟩,?_⟩)
 .rintro⟨l2,B⟩ ⟨j,e,k1,k2,k3,d⟩;dsimp only at e k3 d;subst e;have g:=k3.1.nodup_iff.2 f;have hl2:=k3.len;unfold AaE;dsimp only;refine .dec (λh=>?_) λh=> .some ⟨k3,λp q x y m1 m2 m3=>d p q x y m1 m2 aa aa⟩;obtain⟨k,rfl⟩:∃k,j=k+1:=⟨j-1,aa⟩;have ew:wI (((k+1:Nat):Int)-1)=(k:Int):=by grind [bM]
  have gx:l2[k+1]?=some (l2[k+1]'aa):=EA _;have gy:l2[k]?=some (l2[k]'aa):=EA _;generalize l2[k+1]'aa=x at gx;generalize l2[k]'aa=y at gy;rw[ew,au,au,gx,gy,aL,aL];refine .dec (λhc=>?_) λhc=> .some ⟨k3,λp q u v m1 m2 m3 hu hv=>?_⟩
  .obtain⟨r,t,pr,m⟩:=Agu (l:=l2) (i:=k+1) (j:=k) aa aa;obtain⟨C,E,hx',c,n⟩:=HR t;rw[gx] at hx';rw[gy] at c;cases hx';cases c;rw[stZ (x:=y) gx,aL,Ah7 (w:=x) (x:=x) (z:=y) (i:=k+1) gy,aL,<-n];refine .some ⟨⟨k,rfl,aa,aa,k3.trans (AbG pr m aa aa aa aa),λp q u v m1 m2 m3 o hu hv=>?_⟩,by simp_all⟩;rw[m p] at hu;rw[m q] at hv;rw[BU o] at hv;by_cases c1:q=k+1
   .subst c1;rw[BB rfl,gy] at hv;cases hv;by_cases c2:p=k
    .grind
    .rw[BU c2,BU aa] at hu;grind
   .rw[BU c1] at hv;by_cases c2:p=k
    .grind
    .rw[BU c2] at hu;by_cases c3:p=k+1;all_goals grind
  .have hyx:=hO.lt g (λz hz=>hD z (h3.1.mem_iff.1 (k3.1.mem_iff.1 hz))) gy gx aa hc;by_cases c1:q=k+1
   .subst c1;rw[gx] at hv;cases hv;by_cases c2:p=k
    .grind
    .exact hO.tr _ _ _ (d p k u y m1 aa aa aa hu gy) hyx
   grind
 .show b-((wI ((i:Int)+1))).toNat<b-((i:Int)).toNat;rw[aq aa];omega
end
section
variable {cmp:Ab->Ab->Int} (hO:OrN cmp λ_=>True)
include hO
structure PI (cmp:Ab->Ab->Int) (l0:Bb) (a b:Nat) (pv:Ab) (l:Bb) (i j:Nat):Prop where
 rg:Rg a b l0 l
 gp:l[a]?=some pv
 hi:a+1<=i
 hj:j<b
 hij:i<=j+1
 lo:∀q x,a<q->q<i->l[q]?=some x->cmp x pv<0
 up:∀q x,j<q->q<b->l[q]?=some x->¬cmp x pv<0
omit hO in
theorem Agv{i:Nat}{β:Type}{K:Nat->Nat->Option β}{Q:β->Prop}(h:PI cmp l0 a b pv l i j)(hb:b<=l.length)(hl:l.length<=1000)
  (g:∀e d,PI cmp l0 a b pv l e d->d<=j->(d<e\/(e<d/\(∃x,l[e]?=some x/\¬cmp x pv<0)/\∃y,l[d]?=some y/\cmp y pv<0))->T (K e d) Q):
  T ((AQ (scU cmp l a j) i).bind λe=>(AQ (scD cmp l a e) j).bind λd=>K e d) Q:=by
 have hj:=h.hj
 refine .bind ((T.loop (λe=>PI cmp l0 a b pv l e j) (λe=>j+1-e) (Q:=λe=>PI cmp l0 a b pv l e j/\(j<e\/∃x,l[e]?=some x/\¬cmp x pv<0)) h aa λe h'=>?_).mono λe hi=>?_)
 .unfold scU
  refine .dec (λhc=>?_) λhc=> .some ⟨h',.inl aa⟩
  have gx:l[e]?=some (l[e]'aa):=EA _
  generalize l[e]'aa=x at gx
  rw[gx,h'.gp,aL,aL]
  refine .dec (λhx=> .some ⟨⟨h'.rg,h'.gp,Nat.le_succ_of_le h'.hi,h'.hj,aa,λq y k1 k2 hy=>?_,h'.up⟩,aa⟩) λhx=> .some ⟨h',.inr ⟨x,gx,hx⟩⟩
  grind [PI.lo]
 .obtain⟨hi,hx⟩:=hi
  refine .bind ((T.loop (λd=>PI cmp l0 a b pv l e d/\d<=j) (λd=>d) (Q:=λd=>(PI cmp l0 a b pv l e d/\d<=j)/\(d<e\/∃y,l[d]?=some y/\cmp y pv<0)) ⟨hi,Dl _⟩ aa λd ⟨h',f⟩=>?_).mono λd hj'=>?_)
  .unfold scD
   refine .dec (λhc=>?_) λhc=> .some ⟨⟨h',f⟩,.inl aa⟩
   have:=h'.hi
   have:=h'.hj
   have gx:l[d]?=some (l[d]'aa):=EA _
   generalize l[d]'aa=y at gx
   rw[gx,h'.gp,aL,aL]
   refine .dec (λhy=> .some ⟨⟨h',f⟩,.inr ⟨y,gx,hy⟩⟩) λhy=>?_
   rw[show Nat.blt 0 d=true from N8 aa,ax]
   refine .some ⟨⟨⟨h'.rg,h'.gp,h'.hi,aa,aa,h'.lo,λq x k1 k2 hx=>?_⟩,aa⟩,aa⟩
   by_cases c:q=d
   .grind
   .exact h'.up q x aa k2 hx
  grind
omit hO in
theorem AiR{i:Nat}(h:PI cmp l0 a b pv l i j)(hb:b<=l.length)(hij:i<j)(gx:l[i]?=some x)(hx:¬cmp x pv<0)(gy:l[j]?=some y)(hy:cmp y pv<0):∃r,swZ l i j=some r/\PI cmp l0 a b pv r (i+1) (j-1)/\0<j:=by
 have h1:=h.hi;have h2:=h.hj;obtain⟨r,e,pr,d⟩:=Agu (l:=l) (i:=i) (j:=j) aa aa;refine⟨r,e,⟨h.rg.trans (AbG pr d aa aa aa aa),?_,aa,aa,aa,λq z k1 k2 hz=>?_,λq z k1 k2 hz=>?_⟩,aa⟩
 .grind [PI.gp]
 .grind [PI.lo]
 .rw[d q] at hz;by_cases c:q=j
  .grind
  .rw[BU c,BU aa] at hz;exact h.up q z aa k2 hz
def Prt(cmp:Ab->Ab->Int)(a b m:Nat)(l:Bb):Prop:=a<=m/\m<b/\∃c,l[m]?=some c/\(∀q x,a<=q->q<m->l[q]?=some x->cmp x c<0)/\∀q x,m<q->q<b->l[q]?=some x->¬cmp x c<0
omit hO in
theorem Agw{i:Nat}(h:PI cmp l0 a b pv l i j)(hb:b<=l.length)(hij:j<i):∃r,swZ l j a=some r/\Rg a b l0 r/\Prt cmp a b j r:=by
 have h1:=h.hi;have h2:=h.hj;have h3:=h.hij;obtain⟨r,c,pr,d⟩:=Agu (l:=l) (i:=j) (j:=a) aa aa;refine⟨r,c,h.rg.trans (AbG pr d aa aa aa aa),aa,aa,pv,?_,λq x k1 k2 hx=>?_,λq x k1 k2 hx=>?_⟩
 .grind [PI.gp]
 .grind [PI]
 grind [PI.up]
theorem Amv(hl:l.length<=1000)(hb:b<=l.length)(hap:a<=p)(c:p<b):T (paS cmp a b p l) λr=>Rg a b l r.2.2/\Prt cmp a b r.1 r.2.2:=by
 obtain⟨l0,e0,d,q0⟩:=Agu (l:=l) (i:=a) (j:=p) aa aa;have hl0:=d.length_eq;have g:=AbG (a:=a) (b:=b) d q0 (Dl _) aa hap c;unfold paS;refine .eqb e0 ?_;have gp:l0[a]?=some (l0[a]'aa):=EA _;generalize l0[a]'aa=pv at gp;have h0:PI cmp l a b pv l0 (a+1) (b-1):=by grind [PI]
 refine Agv h0 aa aa λi j h1 _ h2=>?_;refine .dec (λhc=>?_) λhc=>?_
 .grind [Agw,T.some]
 .rcases h2 with h2|⟨h2,⟨x,gx,hx⟩,y,gy,hy⟩
  .omega
  obtain⟨l1,e1,k1,k2⟩:=AiR h1 aa h2 gx hx gy hy;rw[show Nat.blt 0 j=true from N8 k2,ax];refine .eqb e1 (.bind ((T.loop (λs=>PI cmp l a b pv s.1 s.2.1 s.2.2) (λs=>s.2.2) (Q:=λs=>∃i,PI cmp l a b pv s.1 i s.2/\s.2<i) k1 (by grind) ?_).mono λs hs=>?_))
  .rintro⟨l2,h,e⟩ h3;dsimp only at h3;have hl2:=h3.rg.len;unfold paT;dsimp only;rw[C5 aa,ax];refine Agv h3 aa aa λi j h4 f h5=>?_;refine .dec (λhc=> .some ⟨i,h4,by show j<i;omega⟩) λhc=>?_;rcases h5 with h5|⟨h5,⟨x,gx,hx⟩,y,gy,hy⟩
   .omega
   obtain⟨l3,e3,m1,m2⟩:=AiR h4 aa h5 gx hx gy hy;rw[show Nat.blt 0 j=true from N8 m2,ax];refine .eqb e3 (.some ⟨m1,?_⟩);show j-1<e;omega
  .obtain⟨i,h3,h4⟩:=hs;have:=h3.rg.len;grind [Agw,T.some]
omit hO in
theorem Akn{x y s:Nat}(hx:x<l.length)(hy:y<l.length):T (o2S cmp l x y s) λr=>((r.1=x/\r.2.1=y)\/(r.1=y/\r.2.1=x))/\r.2.2<=s+1:=by grind [o2S,T.some]
omit hO in
theorem Aom(hB:Big a b)(hb:b<=l.length):T (chS cmp l a) λr=>a<=r.1/\r.1<b:=by have h9:a+9<b:=aa;unfold chS meS;refine .bind (.bind ((Akn aa aa).mono λd h1=> .bind ((Akn aa aa).mono λe h2=> .bind ((Akn aa aa).mono λc h3=> .some ?_))));dsimp only at*;rw[C5 (show c.2.2<=3 by omega),ax];exact .some (show a<=c.2.1/\c.2.1<b by omega)
theorem Aon(hn:l.Nodup)(hb:b<=l.length)(d:a<b)(hl:l.length<=1000):T (piS cmp l a b) λf=>f=true->SoR cmp a b l:=by
 have adj:∀k,(∀q x y,a<=q->q<k->l[q]?=some x->l[q+1]?=some y->cmp x y<0)->SoR cmp a (k+1) l:=λk h=>by
  have key:∀n p x y,a<=p->p+n+1<=k->l[p]?=some x->l[p+n+1]?=some y->cmp x y<0:=by
   intro n;induction n with
   |zero=>grind
   |succ n ih=>intro p x y h1 h2 hx hy;have hlt:=(cr hy).1;have hz:l[p+n+1]?=some (l[p+n+1]'aa):=EA _;exact hO.tr _ _ _ (ih p x _ h1 aa hx hz) (h (p+n+1) _ y aa aa hz hy)
  intro p q x y h1 h2 h3 hx hy;obtain⟨n,rfl⟩:∃n,q=p+n+1:=⟨q-p-1,aa⟩;exact key n p x y h1 aa hx hy
 unfold piS;refine .bind ((T.loop (λk=>a<=k/\k<b/\∀q x y,a<=q->q<k->l[q]?=some x->l[q+1]?=some y->cmp x y<0) (λk=>b-k) (Q:=λk=>k<b/\∀q x y,a<=q->q<k->l[q]?=some x->l[q+1]?=some y->cmp x y<0) (by grind) aa λk hk=>?_).mono λk hk=> .some λhf=>?_)
 .obtain⟨h1,h2,h3⟩:=hk;unfold scS;refine .dec (λhc=>?_) λhc=> .some ⟨h2,h3⟩;have gx:l[k+1]?=some (l[k+1]'aa):=EA _;have gy:l[k]?=some (l[k]'aa):=EA _;generalize l[k+1]'aa=x at gx;generalize l[k]'aa=y at gy;rw[gx,gy,aL,aL];refine .dec (λhx=> .some ⟨h2,h3⟩) λhx=> .some ⟨⟨aa,aa,λq u v k1 k2 hu hv=>?_⟩,aa⟩;by_cases c:q=k
  .subst c;grind [OrN.lt]
  grind
 .have hf:=DS hf;have:=adj k hk.2;grind
omit hO in
theorem Aoo{d:Bool}{l:Bb}(hl:a+13<=l.length):T (AQ (brT d a) (0,l)) λr=>Rg a (a+13) l r:=by
 have ho:∀j,brO d j<=12:=λj=>by rcases j with _|_|j<;>cases d<;>exact D5 rfl
 refine T.loop (λs=>s.1<=3/\Rg a (a+13) l s.2) (λs=>3-s.1) ⟨Nat.zero_le _,.refl l⟩ (show 3-0<4611686018427387904 by decide) ?_;rintro⟨j,r⟩ ⟨h1,h2⟩;dsimp only at h1 h2;have hr:=h2.len;have key:∀i k,i<=12->k<=12->∃r',swZ r (a+i) (a+k)=some r'/\Rg a (a+13) l r':=λi k hi hk=>by obtain⟨r',e,p,q⟩:=Agu (l:=r) (i:=a+i) (j:=a+k) aa aa;exact⟨r',e,h2.trans (AbG p q aa aa aa aa)⟩
 unfold brT;rcases(by omega:j=0\/j=1\/j=2\/j=3) with rfl|rfl|rfl|rfl
 .obtain⟨r',e,h⟩:=key 5 _ Cd (ho 0);exact .eqb e (.some ⟨⟨show 1<=3 by decide,h⟩,show 3-1<3-0 by decide⟩)
 .obtain⟨r',e,h⟩:=key 6 _ Cd (ho 1);exact .eqb e (.some ⟨⟨show 2<=3 by decide,h⟩,show 3-2<3-1 by decide⟩)
 .obtain⟨r',e,h⟩:=key 7 _ Cd (ho 2);exact .eqb e (.some ⟨⟨show 3<=3 by decide,h⟩,show 3-3<3-2 by decide⟩)
 .exact .some h2
structure PdI (cmp:Ab->Ab->Int) (l0:Bb) (s:PdS):Prop where
 pm:s.1.Perm l0
 ab:s.2.1<=s.2.2.1
 bn:s.2.2.1<=l0.length
 ox:OrX cmp s.2.1 s.2.2.1 s.1
 lm:12<s.2.2.1-s.2.1->4<=s.2.2.2.1+(15-(s.2.2.1-s.2.1))
 lh:s.2.2.2.1<=100
 bl:s.2.2.2.2.1=false->s.2.2.1-s.2.1<=12\/1<=s.2.1
theorem Amw(hn:l0.Nodup)(hl:l0.length<=15){s:PdS}(h0:PdI cmp l0 s):T (AQ (pdT cmp) s) λr=>r.Perm l0/\SoR cmp 0 r.length r:=by
 refine T.loop (PdI cmp l0) (λs=>s.2.2.1-s.2.1) h0 (by grind [PdI]) ?_;rintro⟨l,a,b,e,w,par⟩ ⟨pm,ab,bn,ox,lm,lh,bl⟩;dsimp only at pm ab bn ox lm lh bl;have hll:=pm.length_eq;have hnl:=pm.nodup_iff.2 hn;unfold pdT;dsimp only;rw[C5 (by grind),ax];refine .dec (λhc=>?_) λhc=>?_
 .refine .bind ((AaJ hO hnl (λ_ _=>trivial) aa aa aa).mono λr hr=> .some ⟨hr.1.1.trans pm,?_⟩);grind [SoR.all,OrX.rg]
 have hbig:12<b-a:=aa;have lm:=lm hbig;have hB:Big a b:=aa;have hBb:Agt a b=true:=by unfold Agt;rw[N8 hB.1,N8 hB.2];rfl
 rw[hBb,show Nat.blt 0 e=true from N8 aa,show Nat.ble e 100=true from N8 lh];simp only[Bool.and_self,ax];have hbr:T (brG l a b e w) λq=>Rg a b l q.1/\e<=q.2+1/\q.2<=e:=by
  unfold brG;cases w with
  |true=>exact .some ⟨.refl _,by show e<=e+1;omega,Dl _⟩
  |false=>
   have h1:1<=a:=by have:=bl rfl;omega
   rw[Be,N8 h1,ax];refine .bind ((Aoo (l:=l) aa).mono λr hr=>?_);rw[hr.len,Nat.beq_refl,ax];exact .some ⟨hr.mono (Dl _) hB.1,by show e<=e-1+1;omega,by show e-1<=e;omega⟩
 refine .bind (hbr.mono ?_);rintro⟨l1,g⟩ ⟨j,m1,m2⟩;dsimp only at j m1 m2⊢;have hl1:=j.len;have A:=j.1.nodup_iff.2 hnl;have ox1:=ox.rg j hnl;rw[C5 (show l1.length<=1000 by omega),ax];refine .bind ((Aom hB aa).mono ?_);rintro⟨p,C⟩ ⟨hp1,hp2⟩;dsimp only at hp1 hp2⊢;have hpi:T (bif w&&par&&C then piS cmp l1 a b else some false) λf=>f=true->SoR cmp a b l1:=by grind [Aon,T.some]
 refine .bind (hpi.mono λd hd=> .ite (λE=> .some ⟨j.1.trans pm,SoR.all hO (hd E) ox1⟩) λ_=>?_);have hag:agG cmp l1 a p=some true:=by
  unfold agG;cases hza:Nat.blt 0 a with
  |false=>rfl
  |true=>have hza:=D5 hza;have g1:l1[a-1]?=some (l1[a-1]'aa):=EA _;have g2:l1[p]?=some (l1[p]'aa):=EA _;rw[ax,g1,g2,aL,aL,C5 (ox1 (a-1) p _ _ aa aa g1 g2)]
 refine .eqb hag ?_;rw[ax];refine .bind ((Amv hO aa aa hp1 hp2).mono ?_);rintro⟨m,f,l2⟩ ⟨k,H,I,z,o,lo,up⟩;dsimp only at k H I o lo up⊢;have hl2:=k.len;have i:=k.1.nodup_iff.2 A;have ox2:=ox1.rg k A;rw[show Nat.beq l1.length l2.length=true by rw[hl2];exact Nat.beq_refl _,ax];unfold pdN;rw[C5 ⟨H,I⟩,ax];have pvx:∀q x,m<q->q<b->l2[q]?=some x->cmp z x<0:=λq x h1 h2 hx=>hO.lt i (λ_ _=>trivial) o hx aa (up q x h1 h2 hx);refine .dec (λF=>?_) λF=>?_
 .refine .bind ((AaJ hO i (λ_ _=>trivial) (a:=a) (b:=m) aa aa aa).mono λl3 ⟨c,so3⟩=>?_);have rg3':=c.mono (a':=a) (b':=b) (Dl _) aa;have hl3:=c.len;rw[show Nat.beq l2.length l3.length=true by rw[hl3];exact Nat.beq_refl _,ax];have gp3:l3[m]?=some z:=(c.2 m (.inr (Dl _))).trans o;have lo3:∀q x,a<=q->q<m->l3[q]?=some x->cmp x z<0:=λq x h1 h2 hx=>by obtain⟨J,k1,k2,k3⟩:=c.src i h1 h2 hx;exact lo J x k1 k2 k3
  have up3:∀q x,m<q->q<b->l3[q]?=some x->cmp z x<0:=λq x h1 h2 hx=>pvx q x h1 h2 ((c.2 q (.inr aa)).symm.trans hx);have ox3:=ox2.rg rg3' i;refine .some ⟨⟨c.1.trans (k.1.trans (j.1.trans pm)),by show m+1<=b;omega,bn,λu v x y n hh hx hy=>?_,λt=>by show 4<=g+_;have:12<b-(m+1):=t;show 4<=g+(15-(b-(m+1)));omega,by show g<=100;omega,λB=>?_⟩,by show b-(m+1)<b-a;omega⟩
  .have hh:¬(m+1<=u/\v<b):=hh;by_cases c0:a<=u/\v<b
   .rcases(by omega:v<m\/v=m\/(u=m/\m<v)\/(u<m/\m<v)) with h|rfl|⟨rfl,h⟩|⟨h1,h2⟩
    .exact so3 u v x y c0.1 n h hx hy
    .grind
    .grind
    .exact hO.tr _ _ _ (lo3 u x c0.1 h1 hx) (up3 v y h2 c0.2 hy)
   .exact ox3 u v x y n c0 hx hy
  .exact .inr (by show 1<=m+1;omega)
 .refine .bind ((AaJ hO i (λ_ _=>trivial) (a:=m+1) (b:=b) aa aa aa).mono λl3 ⟨c,so3⟩=>?_);have rg3':=c.mono (a':=a) (b':=b) aa (Dl _);have hl3:=c.len;rw[show Nat.beq l2.length l3.length=true by rw[hl3];exact Nat.beq_refl _,ax];have gp3:l3[m]?=some z:=(c.2 m (.inl aa)).trans o;have lo3:∀q x,a<=q->q<m->l3[q]?=some x->cmp x z<0:=λq x h1 h2 hx=>lo q x h1 h2 ((c.2 q (.inl aa)).symm.trans hx);have up3:∀q x,m<q->q<b->l3[q]?=some x->cmp z x<0:=λq x h1 h2 hx=>by obtain⟨J,k1,k2,k3⟩:=c.src i aa h2 hx;grind
  have ox3:=ox2.rg rg3' i;refine .some ⟨⟨c.1.trans (k.1.trans (j.1.trans pm)),H,by show m<=l0.length;omega,λu v x y n hh hx hy=>?_,λt=>by have:12<m-a:=t;show 4<=g+(15-(m-a));omega,by show g<=100;omega,λB=>?_⟩,by show m-a<b-a;omega⟩
  .have hh:¬(a<=u/\v<m):=hh;by_cases c0:a<=u/\v<b
   .rcases(by omega:m+1<=u\/(u=m/\m<v)\/(u<m/\v=m)\/(u<m/\m<v)) with h|⟨rfl,h⟩|⟨h,rfl⟩|⟨h1,h2⟩
    .exact so3 u v x y h n c0.2 hx hy
    .grind
    .grind
    .exact hO.tr _ _ _ (lo3 u x c0.1 h1 hx) (up3 v y h2 c0.2 hy)
   .exact ox3 u v x y n c0 hx hy
  grind
end
def O6(cmp:Ab->Ab->Int)(l:Bb):Option Bb:=AQ (pdT cmp) (l,0,l.length,WZ l.length,true,true)
theorem Ut{cmp:Ab->Ab->Int}(hO:OrN cmp λ_=>True){l:Bb}(hn:l.Nodup)(hl:l.length<=15):T (O6 cmp l) λr=>r.Perm l/\r.Pairwise λx y=>cmp x y<0:=by
 refine(Amw hO hn hl (s:=(l,0,l.length,WZ l.length,true,true)) ⟨.refl _,Nat.zero_le _,Dl _,λp q x y h1 h2 hx hy=>?_,λh=>?_,?_,λh=>by cases h⟩).mono λr hr=>⟨hr.1,?_⟩
 .grind
 .have h:12<l.length-0:=h;show 4<=WZ l.length+(15-(l.length-0));rcases(by omega:l.length=13\/l.length=14\/l.length=15) with e|e|e<;>rw[e]<;>decide
 .show WZ l.length<=100;generalize l.length=n at hl;rcases(by omega:n=0\/n=1\/n=2\/n=3\/n=4\/n=5\/n=6\/n=7\/n=8\/n=9\/n=10\/n=11\/n=12\/n=13\/n=14\/n=15) with rfl|rfl|rfl|rfl|rfl|rfl|rfl|rfl|rfl|rfl|rfl|rfl|rfl|rfl|rfl|rfl<;>decide
 .rw[List.pairwise_iff_getElem];intro p q hp hq a;exact hr.2 p q _ _ (Nat.zero_le _) a hq (EA hp) (EA hq)
section
variable {gl:CB} {fi:FuncId} {fa fc:Bn} {cmp:Ab->Ab->Int}
theorem AbH(hv:CmV gl fi fa fc cmp)(a:RnF fa)(b:RnF fc)(hl:l.length<=15)(h:O6 cmp l=some r):jg prog gl 126 [.rsl 0 0 l.length,Sr fi fa fc] [(0,BA l)] 1 (.tup []) [(0,BA r)] 1:=by
 have e:wU (ah l)=l.length:=by unfold ah;rw[gP];omega
 have hb:ba prog gl 218 [uG (wU (ah l):Int)] (iG (WZ l.length:Int)):=by grind [RC]
 have hp:=Akm hv a b h rfl;dsimp only at hp;refine pP func126 ?_;exact Hf .normal (s0 14 gl [] [(0,BA r)] 1 1) [] [AH 10 (C8 (ah l)),hf 11 hb,hI hv a b 13 [iG ((0:Nat):Int),iG (l.length:Int),iG (WZ l.length:Int)] hp rfl] [hc (ac.imm r)] (kd:=[(0,.row)])
theorem AbI(h:Uq gg):CmV gl 127 [.agg (Nr ⟨gg⟩)] [] (Ow (RG gg)):=⟨aH,aY (aG 20 (.agg (Nr ⟨gg⟩)) aH) bf,bf,(by grind [Ah3])⟩
theorem Agx(h:Uq gg)(hn:ids.length<=15)(hr:O6 (Ow (RG gg)) ids=some row)(hle:row.length=ids.length):iV prog gl 57 [.ptr (Ag gg) 0,aE aj ids] 25 row.length (row.flatMap aj):=by
 have hcl:cU ids=some ids:=by grind [cU,aT]
 rw[hle];refine OW func57 ?_;exact EI [ho 7 [aE aj ids] [] (jY gl hcl) (Zy _),hI (gl:=gl) (AbI h) (λκ=>rfl) (λκ=>rfl) 12 [] (AbH (gl:=gl) (AbI h) (λκ=>rfl) (λκ=>rfl) hn hr) rfl] (ac.imm row)
theorem AbJ(h:Uq gg)(hn:ids.length<=15)(hr:O6 (Ow (RG gg)) ids=some row)(hle:row.length=ids.length):ba prog gl 57 [.ptr (Ag gg) 0,aE aj ids] (aE aj row):=(Agx h hn hr hle).fn ac.sz (ac.len _) (ac.imm _)
theorem Tz(a b:Ab):ba prog gl 132 [.agg (aj a),.agg (aj b)] (bG (dt a b)):=Hs gl (EW a b)
theorem Aia(a b:Ab):ba prog gl 392 [.agg (aj a),.agg (aj b)] (iG (Gu a b)):=by
 have h1:=Tz (gl:=gl) a b;have h2:=Tz (gl:=gl) b a;unfold Gu;refine Gh func392 ?_;cases c1:dt a b with
 |true=>rw[c1] at h1;exact Ar [hf 7 h1] []
 |false=>
  rw[c1] at h1;cases c2:dt b a with
  |true=>rw[c2] at h2;exact Ar [hf 7 h1,hf 10 h2] []
  |false=>rw[c2] at h2;exact Ar [hf 7 h1,hf 10 h2] []
abbrev hso(d c:Nat){l r:Bb}{fi:FuncId}{cmp:Ab->Ab->Int}(hv:CmV gl fi [] [] cmp)(hl:l.length<=15)(h:O6 cmp l=some r)(hlt:[0].all (λk=>Nat.blt k c)=true:=by kernel_rfl):HP:=tN d [0] c [(0,BA l)] [.rsl 0 0 l.length,.clo (.func fi) [] []] [(0,BA r)] (AbH hv (λκ=>rfl) (λκ=>rfl) hl h) ⟨⟨rfl,.inr ⟨rfl,ac.imm l⟩⟩,trivial⟩ ⟨⟨rfl,.inr ⟨rfl,ac.imm r⟩⟩,trivial⟩ hlt
theorem Ako:CmV gl 392 [] [] Gu:=⟨aH,bf,bf,(by grind [Aia])⟩
theorem Aeo(hl:l.length<=15)(h:O6 Gu l=some r):jg prog gl 348 [.rsl 0 0 l.length] [(0,BA l)] 1 (.rsl 0 0 l.length) [(0,BA r)] 1:=by refine pP func348 ?_;exact Hf .ret (s0 6 gl [(2,.rsl 0 0 l.length)] [(0,BA r)] 1 1) [.rsl 0 0 l.length] [hso (gl:=gl) 4 1 Ako hl h] [hc (el l),hc (ac.imm r)]
def ZN(d a b:Int)(x:Ab):Bool:=bif x.By=d then(bif a<=x.Seq then decide (x.Seq<=b)else false)else false
abbrev hsm(d c:Nat){l r:Bb}(hl:l.length<=15)(h:O6 Gu l=some r)(hlt:[0].all (λk=>Nat.blt k c)=true:=by kernel_rfl):HP:=tN d [0] c [(0,BA l)] [.rsl 0 0 l.length] [(0,BA r)] (Aeo (gl:=gl) hl h) ⟨⟨rfl,.inr ⟨rfl,ac.imm l⟩⟩,trivial⟩ ⟨⟨rfl,.inr ⟨rfl,ac.imm r⟩⟩,trivial⟩ hlt
theorem Akp{a b:Int}(hn:ids.length<=15)(h:O6 Gu (ids.filter (ZN d a b))=some r)(hle:r.length=(ids.filter (ZN d a b)).length):iV prog gl 347 [aE aj ids,iG d,iG a,iG b] 25 r.length (r.flatMap aj):=by
 rw[hle];refine OW func347 ?_;refine dLl (l:=ids) aa (λk:Nat=>(s0 41 gl [(1,iG d),(2,iG a),(3,iG b),(9,.rsl 0 0 ((ids.take k).filter (ZN d a b)).length),(12,aE aj ids),(13,iG (ah ids)),(14,iG (k:Int))] [(0,BA ((ids.take k).filter (ZN d a b)))] 1 0)) 1110122 [] [hc (ac.imm [])] (λB k x hx c k5=>?_) (λB=>?_)
 .have hlt:=(cr hx).1;have hl:=M7 (ZN d a b) (ids.take k);rw[MG] at hl;have e:(ids.take (k+1)).filter (ZN d a b)=(ids.take k).filter (ZN d a b)++(bif ZN d a b x then[x] else[]):=by grind [Jk]
  rw[e] at k5;generalize (ids.take k).filter (ZN d a b)=l at k5 hl⊢;unfold ZN at k5;cases b1:decide (x.By=d) with
  |false=>rw[b1,Be,Be,KS] at k5;exact jw [hr 15 (C7 hx),AH 16 (ac.ixZ c),AH 17 (ac.ptZ aW c),hr 21 b1,hbb 38 (Xl (q:=k) aa)] [hc (el l),hc (ac.imm l)] k5
  |true=>
   rw[b1,ax] at k5;cases b2:decide (a<=x.Seq) with
   |false=>rw[b2,Be,Be,KS] at k5;exact jw [hr 15 (C7 hx),AH 16 (ac.ixZ c),AH 17 (ac.ptZ aW c),hr 21 b1,hr 26 b2,hbb 38 (Xl (q:=k) aa)] [hc (el l),hc (ac.imm l)] k5
   |true=>
    rw[b2,ax] at k5;cases b3:decide (x.Seq<=b) with
    |false=>rw[b3,Be,KS] at k5;exact jw [hr 15 (C7 hx),AH 16 (ac.ixZ c),AH 17 (ac.ptZ aW c),hr 21 b1,hr 26 b2,hr 32 b3,hbb 38 (Xl (q:=k) aa)] [hc (el l),hc (ac.imm l)] k5
    |true=>rw[b3,ax] at k5;exact jw [hr 15 (C7 hx),AH 16 (ac.ixZ c),AH 17 (ac.ptZ aW c),hr 21 b1,hr 26 b2,hr 32 b3,Tn 37 ac 24 l x aa,hbb 38 (Xl (q:=k) aa)] [hc (el (l++[x])),hc (ac.imm (l++[x]))] k5
 .rw[EG];have hl:=M7 (ZN d a b) ids;exact EI [hr 15 (DZ (s:=ids)),hsm (gl:=gl) 40 1 aa h] (ac.imm r)
theorem Akq{a b:Int}(hn:ids.length<=15)(h:O6 Gu (ids.filter (ZN d a b))=some r)(hle:r.length=(ids.filter (ZN d a b)).length):ba prog gl 347 [aE aj ids,iG d,iG a,iG b] (aE aj r):=(Akp hn h hle).fn ac.sz (ac.len _) (ac.imm _)
end
def KI(x:Bh):List Value:=[.int .i64 x.Device,.int .i64 x.Seq]
theorem AaK(d:Nat)(i j:Bh):bt prog (Op.equalIn (d+3) 303 (.agg (KI i).toArray) (.agg (KI j).toArray))=some (decide (i=j)):=by obtain⟨a0,a1⟩:=i;obtain⟨b0,b1⟩:=j;unfold KI;rw[xV (fs:= #[⟨ "Device",3,0,false, "", "",0⟩,⟨ "Seq",3,1,false, "", "",8⟩]) aH aH];simp only[Array.toList];rw[uJ (k:= .i64) (k':= .i64) (a:=a0) (b:=b0) Cd aH aH aH];rw[uJ (k:= .i64) (k':= .i64) (a:=a1) (b:=b1) Cd aH aH aH];grind [Bh.mk.injEq,Op.eqFields,bz]
def Ef(x:Bh):Value:= .agg (KI x).toArray
theorem OI:LX prog 303 Ef:=Qw (d:= .struct #[⟨ "Device",3,0,false, "", "",0⟩,⟨ "Seq",3,1,false, "", "",8⟩]) aH (λb k=>by cases b<;>(show _=_;kernel_rfl)) (λa b=>rfl) (λa b=>AaK 9997 a b)
theorem Amx(k:Bh):Instr.sameBits 10000 (Ef k) (Ef k)=true:=by(unfold Ef KI;simp[Instr.sameBits])
abbrev tMk:Bk:=379
abbrev oMk(m:FM Bh Int):Option Ob:=some (M3 tMk Ef iG m)
abbrev tMy:Bk:=349
abbrev oMy(m:FM Int Int):Option Ob:=some (M3 tMy Jo iG m)
abbrev oFk(l:List Bh):Option Ob:=some ⟨303,l.flatMap Bv,none⟩
def U1(a b:Bh):Int:=AbE a.Device b.Device
section
variable {gl:CB}
theorem Aie(a b:Bh):ba prog gl 319 [.agg (Bv a),.agg (Bv b)] (iG (U1 a b)):=Wz gl (by unfold Uw;rw[Adv];rfl)
abbrev cmK:G:= .clo (.func 319) [] []
abbrev hcF(d:Nat)(x y:Bh):HP:=hf d (Aie (gl:=gl) x y)
theorem Amy{l c d:List Bh}{i j:Int}{a b:Bh}(h1:ji l i b=some c)(h2:ji c j a=some d):fh prog 301 (.rsl 0 0 l.length) j=some (.ref 0 (0+j.toNat*2)):=by rw[hZ h1];exact Bi.ixsZ 0 h2
theorem Aif{a b:Int}{l r:List Bh}(h:inI U1 a b l=some r):jg prog gl 397 [.rsl 0 0 l.length,iG a,iG b,cmK] [(0,oFk l)] 1 (.tup []) [(0,oFk r)] 1:=by
 unfold inI at h;refine pP func397 ?_;refine pN (λs:List Bh×Int=>(s0 53 gl [(0,.rsl 0 0 s.1.length),(1,iG a),(2,iG b),(3,cmK),(8,iG s.2)] [(0,oFk s.1)] 1 1)) 1122 h [] [hc (el l),hc (aG 20 cmK aH),hc (Bi.imm l)] (λB s w hs k5 g=>?_);obtain⟨l1,i⟩:=s;unfold AaF at hs;dsimp only at hs;rcases bC hs with⟨b1,hs⟩|⟨b1,hs⟩
 .obtain⟨l2,e2,hs⟩:=bS hs;obtain rfl:=Bo hs;refine Ix 11221021 (s0 53 gl [(0,.rsl 0 0 l2.length),(1,iG a),(2,iG b),(3,cmK),(8,iG i)] [(0,oFk l2)] 1 1) ?_ λkk=>?_
  .exact jw [] [hc (el l2),hc (aG 20 cmK aH),hc (Bi.imm l2)] (k5 _ rfl)
  refine pN (λs:List Bh×Int=>(s0 53 gl [(0,.rsl 0 0 s.1.length),(1,iG a),(2,iG b),(3,cmK),(8,iG i),(9,iG s.2)] [(0,oFk s.1)] 1 1)) 1122102122 e2 [hr 14 b1] [hc (el l1),hc (aG 20 cmK aH),hc (Bi.imm l1)] (λn z v hz k e=>?_);obtain⟨l3,j⟩:=z;unfold AaE at hz;dsimp only at hz;rcases bC hz with⟨b2,hz⟩|⟨b2,hz⟩
  .obtain⟨x,c,hz⟩:=bS hz;obtain⟨y,d,hz⟩:=bS hz;rcases bC hz with⟨b3,hz⟩|⟨b3,hz⟩
   .obtain⟨m,e1,hz⟩:=bS hz;obtain⟨f,e3,hz⟩:=bS hz;obtain rfl:=Bo hz;exact jw [hr 20 b2,AH 25 (Bi.ixrZ 0 c),AH 26 (Bi.pt0Z Hj c),AH 30 (Bi.ixrZ 0 d),AH 31 (Bi.pt0Z Hj d),hcF (gl:=gl) 32 x y,hr 33 b3,AH 45 (Bi.ixrZ 0 d),AH 46 (Bi.pt0Z Hj d),AH 49 (Bi.ixrZ 0 c),AH 50 (Bi.pt0Z Hj c),AH 51 (Bi.ixsZ 0 e1),hw 51 (m.flatMap Bv) (Bi.putZ e1),AH 52 (Amy e1 e3),hw 52 (f.flatMap Bv) (Bi.putZ e3)] [hc ((hZ e1).trans (hZ e3)),hc (aG 20 cmK aH),hc (Bi.imm f)] (k _ rfl)
   .obtain rfl:=Bo hz;obtain rfl:=e _ rfl;exact yl 11221021 [hr 20 b2,AH 25 (Bi.ixrZ 0 c),AH 26 (Bi.pt0Z Hj c),AH 30 (Bi.ixrZ 0 d),AH 31 (Bi.pt0Z Hj d),hcF (gl:=gl) 32 x y,hr 33 b3] [hc (el l3),hc (aG 20 cmK aH),hc (Bi.imm l3)] kk
  .obtain rfl:=Bo hz;obtain rfl:=e _ rfl;exact yl 11221021 [hr 20 b2] [hc (el l3),hc (aG 20 cmK aH),hc (Bi.imm l3)] kk
 .obtain rfl:=Bo hs;obtain rfl:=g _ rfl;exact Hf .normal (s0 53 gl [] [(0,oFk l1)] 1 1) [] [hr 14 b1] [hc (Bi.imm l1)] (kd:=[(0,.row)])
theorem Aig{l r:List Bh}(hl:l.length<=12)(h:inI U1 ((0:Nat):Int) (l.length:Int) l=some r)(k:Int):jg prog gl 374 [.rsl 0 0 l.length,iG 0,iG (l.length:Int),iG k,cmK] [(0,oFk l)] 1 (.tup []) [(0,oFk r)] 1:=by have hs:=sb (a:=(l.length:Int)) (b:=((0:Nat):Int)) (z:=(l.length:Int)-((0:Nat):Int)) rfl aa;have hd:decide ((l.length:Int)-((0:Nat):Int)<=12)=true:=C5 aa;refine pP func374 ?_;refine pN (λ_:Unit=>(s0 148 gl [(0,.rsl 0 0 l.length),(1,iG ((0:Nat):Int)),(2,iG (l.length:Int)),(3,iG k),(4,cmK)] [(0,oFk l)] 1 1)) 11122 Lg [] [hc (el l),hc (aG 20 cmK aH),hc (Bi.imm l)] (λc z v hz2 d e=>?_);exact Hf .ret (s0 148 gl [] [(0,oFk r)] 1 1) [] [hbb 23 hs,hr 25 hd,tN 30 [0] 1 [(0,oFk l)] [.rsl 0 0 l.length,iG ((0:Nat):Int),iG (l.length:Int),cmK] [(0,oFk r)] (Aif (gl:=gl) h) ⟨⟨rfl,.inr ⟨rfl,Bi.imm l⟩⟩,trivial⟩ ⟨⟨rfl,.inr ⟨rfl,Bi.imm r⟩⟩,trivial⟩] [hc (Bi.imm r)] (kd:=[(0,.row)])
theorem Agy{l r:List Bh}(hl:l.length<=12)(h:inI U1 ((0:Nat):Int) (l.length:Int) l=some r):jg prog gl 318 [.rsl 0 0 l.length,cmK] [(0,oFk l)] 1 (.tup []) [(0,oFk r)] 1:=by
 have e:wU (ah l)=l.length:=by unfold ah;rw[gP];omega
 have hb:ba prog gl 218 [uG (wU (ah l):Int)] (iG (WZ l.length:Int)):=by grind [RC]
 refine pP func318 ?_;exact Hf .normal (s0 14 gl [] [(0,oFk r)] 1 1) [] [AH 10 (C8 (ah l)),hf 11 hb,tN 13 [0] 1 [(0,oFk l)] [.rsl 0 0 l.length,iG 0,iG (l.length:Int),iG (WZ l.length:Int),cmK] [(0,oFk r)] (Aig (gl:=gl) hl h (WZ l.length:Int)) ⟨⟨rfl,.inr ⟨rfl,Bi.imm l⟩⟩,trivial⟩ ⟨⟨rfl,.inr ⟨rfl,Bi.imm r⟩⟩,trivial⟩] [hc (Bi.imm r)] (kd:=[(0,.row)])
end
def fkT(s:FM Bh Int×FM Int Int)(x:Ab):FM Bh Int×FM Int Int:=
 (CA s.1 ⟨x.By,x.Seq⟩ (wI ((s.1.get ⟨x.By,x.Seq⟩).getD 0+1)),bif wI ((s.1.get ⟨x.By,x.Seq⟩).getD 0+1)<2 then s.2 else bif(s.2.get x.By).isSome then(bif x.Seq<(s.2.get x.By).getD 0 then CA s.2 x.By x.Seq else s.2)else CA s.2 x.By x.Seq)
def Uu(ids:Bb):FM Bh Int×FM Int Int:=ids.foldl fkT (⟨[],0⟩,⟨[],0⟩)
theorem Aks(h:QN s.1/\QN s.2):QN (fkT s x).1/\QN (fkT s x).2:=by grind [fkT,It]
theorem X3(ids:Bb):QN (Uu ids).1/\QN (Uu ids).2:=by
 have key:∀(l:Bb) (s:FM Bh Int×FM Int Int),QN s.1/\QN s.2->QN (l.foldl fkT s).1/\QN (l.foldl fkT s).2:=by intro l;induction l<;>grind [Aks]
 exact key ids _ ⟨Ael,Ael⟩
theorem AbL(hx:ids[k]?=some x):Uu (ids.take (k+1))=fkT (Uu (ids.take k)) x:=by grind [Uu,Jk]
theorem lkF(m:FM Bh Int)(k:Bh){v:Int}(h:(m.get k).getD 0=v):bL prog [(0,oMk m)] tMk false (.mref 0) (.agg (Bv k))=some (iG v):=h▸(Q2 (et:=3) OI aH (k:=k) rfl Nw).trans (FM.look1 (et:=3) (v0:=0) OI aH aH m k rfl _)
theorem lkY(m:FM Int Int)(k:Int){v:Int}{b:Bool}(h:(m.get k).getD 0=v)(hb:(m.get k).isSome=b):bL prog [(1,oMy m)] tMy true (.mref 1) (iG k)=some (.tup [iG v,bG b]):=h▸hb▸(Q2 (et:=3) OY aH (k:=k) rfl Nw).trans (FM.look (et:=3) (v0:=0) OY aH aH m k rfl _)
def hnl(d:Nat){P:Bu}{σ:aQ}{t:Bk}{ok:Bool}{i:Nat}{gk g:G}(ck:aQ->Bool)(h:bL P [(i,ag σ i)] t ok (.mref i) gk=some g/\∀W,ck W=true->bL P [(i,ag (W++σ) i)] t ok (.mref i) gk=some g):HP:=⟨some (.n d g ck),bL P [(i,ag σ i)] t ok (.mref i) gk=some g/\∀W,ck W=true->bL P [(i,ag (W++σ) i)] t ok (.mref i) gk=some g,h⟩
def hnk(ck:aQ->Bool)(U:aQ)(h:ck U=true):HP:=⟨some (.v 999999996 (.lit undef)),ck U=true,h⟩
noncomputable def ckE(V:aQ):aQ->Bool:=λW=> @decide (W=V) (Classical.propDecidable _)
theorem Agz{V W:aQ}:ckE V W=true↔W=V:= @decide_eq_true_iff _ (Classical.propDecidable _)
theorem mkI(m:FM Bh Int):∀e∈UF Ef iG m,bB e.2.1:=Ou λv=>mN _
theorem myI(m:FM Int Int):∀e∈UF Jo iG m,bB e.2.1:=Ou λv=>mN _
abbrev Amz(clock:Nat)(seen:Br):Option Ob:=some ⟨tMy,[],some (.iter (some 0) clock seen clock)⟩
abbrev mkF(e:Int×Int×Nat):Bh:=⟨e.1,e.2.1⟩
section
variable {gl:CB}
abbrev stF(gl:CB)(l:FM Int Int)(seen:Br)(a:List Bh):St:=(s0 75 gl [(12,.rsl 2 0 a.length),(60,.ref 1 0)] [(0,oMy l),(1,Amz l.clk seen),(2,oFk a)] 3 0)
abbrev fr4(ids:Bb)(k:Nat):Fr:=[(5,.mref 0),(6,.mref 1),(17,aE aj ids),(18,iG (ah ids)),(19,iG (k:Int))]
theorem AbN{gg:Az}{ids:Bb}{r:List Bh}{n:Nat}(hn:ids.length<=1000)(h12:(Uu ids).2.es.length<=12)(he:(Uu ids).2.es.length=n)(hs:∀l:List Bh,l.Perm ((Uu ids).2.es.map mkF)->inI U1 ((0:Nat):Int) (l.length:Int) l=some r):iV prog gl 225 [.ptr (Ag gg) 0,aE aj ids] 303 n (r.flatMap Bv):=by
 refine OW func225 ?_;refine dLl (l:=ids) aa (λk:Nat=>(s0 75 gl (fr4 ids k) [(0,oMk (Uu (ids.take k)).1),(1,oMy (Uu (ids.take k)).2)] 2 0)) 11110122 [] [hc (mkI (Uu (ids.take 0)).1),hc (myI (Uu (ids.take 0)).2)] (λB k x hx hz k5=>?_) (λB=>?_) [] [(0,0),(1,1)] []
 .have hlt:=(cr hx).1;obtain⟨h1,h2⟩:=X3 (ids.take k);rw[AbL hx] at k5;generalize Uu (ids.take k)=s at k5 h1 h2⊢;obtain⟨m,l⟩:=s;unfold fkT at k5;dsimp only at k5 h1 h2⊢;generalize hv1:(m.get ⟨x.By,x.Seq⟩).getD 0=v at k5;have h36:((CA m ⟨x.By,x.Seq⟩ (wI (v+1))).get ⟨x.By,x.Seq⟩).getD 0=wI (v+1):=by rw[Bz,BB rfl];rfl
  refine pO 111101221102110 (s0 75 gl ([(8,.ref 2 0),(9,.ref 3 0)]++fr4 ids k) [(0,oMk m),(1,oMy l),ob 2 25 (aj x),ob 3 303 (Bv ⟨x.By,x.Seq⟩)] 4 0) [hr 20 (C7 hx),AH 21 (ac.ixZ hz),AH 22 (ac.ptZ aW hz)] [hc (mkI m),hc (myI l)] ?_ [] [(0,0),(1,1),(2,2),(3,3)] [];refine pO 11110122110211100 (s0 75 gl ([(8,.ref 2 0),(9,.ref 3 0)]++fr4 ids k) [(0,oMk (CA m ⟨x.By,x.Seq⟩ (wI (v+1)))),(1,oMy l),ob 2 25 (aj x),ob 3 303 (Bv ⟨x.By,x.Seq⟩)] 4 0) [hnl 30 (σ:=[(0,oMk m),(1,oMy l),ob 2 25 (aj x),ob 3 303 (Bv ⟨x.By,x.Seq⟩)]) (ckE [(0,some (M3 tMk Ef iG (CA m ⟨x.By,x.Seq⟩ ((m.get ⟨x.By,x.Seq⟩).getD 0))))]) ⟨lkF m ⟨x.By,x.Seq⟩ hv1,λW h=>by rw[Agz.1 h];exact lkF (CA m ⟨x.By,x.Seq⟩ ((m.get ⟨x.By,x.Seq⟩).getD 0)) ⟨x.By,x.Seq⟩ (by rw[Bz,BB rfl];exact hv1)⟩,hnk (ckE [(0,some (M3 tMk Ef iG (CA m ⟨x.By,x.Seq⟩ ((m.get ⟨x.By,x.Seq⟩).getD 0))))]) [(0,some (M3 tMk Ef iG (CA m ⟨x.By,x.Seq⟩ ((m.get ⟨x.By,x.Seq⟩).getD 0))))] (Agz.2 rfl),Y6 32 [0] 4 (AjP (P:=prog) (σ:=[(0,oMk m)]) (t:=tMk) (t':=tMk) (et:=3) (v0:=0) OI Amx aH aH (k:=⟨x.By,x.Seq⟩) (gk:= .agg (Bv ⟨x.By,x.Seq⟩)) rfl Nw),hms 33 [0] 4 (AjQ (σ:=[(0,some (M3 tMk Ef iG (CA m ⟨x.By,x.Seq⟩ ((m.get ⟨x.By,x.Seq⟩).getD 0))))]) (i:=0) (t':=tMk) (kv:=Ef) (vg:=iG) (m:=m) (k:=⟨x.By,x.Seq⟩) (v0:=(m.get ⟨x.By,x.Seq⟩).getD 0) h1.1 Nw (wI (v+1)))] [hc (mkI (CA m ⟨x.By,x.Seq⟩ (wI (v+1)))),hc (myI l)] ?_ [] [(0,0),(1,1),(2,2),(3,3)] [];generalize CA m ⟨x.By,x.Seq⟩ (wI (v+1))=m' at k5 h36⊢;generalize wI (v+1)=v' at k5 h36⊢;skip;clear hv1 h1;cases c1:decide (v'<2) with
  |true=>rw[c1,ax] at k5;exact jw [hlk 36 (lkF m' ⟨x.By,x.Seq⟩ h36),hr 37 c1,hbb 58 (Xl (q:=k) aa)] [hc (mkI m'),hc (myI l)] k5 [] [(0,0),(1,1)] []
  |false=>
   rw[c1,Be] at k5;have hput:=Acx (P:=prog) (σ:=[(0,oMk m'),(1,oMy l),ob 2 25 (aj x),ob 3 303 (Bv ⟨x.By,x.Seq⟩)]) (i:=1) (t:=tMy) (t':=tMy) (et:=3) (vg:=iG) OY Abn aH (k:=x.By) (gk:=iG x.By) rfl (m:=l) rfl x.Seq;cases c2:(l.get x.By).isSome with
   |false=>rw[c2,Be] at k5;exact jw [hlk 36 (lkF m' ⟨x.By,x.Seq⟩ h36),hr 37 c1,hlk 42 (lkY l x.By rfl c2),hmp 4 hput,hbb 58 (Xl (q:=k) aa)] [hc (mkI m'),hc (myI (CA l x.By x.Seq))] k5 [] [(0,0),(1,1)] []
   |true=>
    rw[c2,ax] at k5;generalize hw:(l.get x.By).getD 0=w at k5;cases c3:decide (x.Seq<w) with
    |true=>rw[c3,ax] at k5;exact jw [hlk 36 (lkF m' ⟨x.By,x.Seq⟩ h36),hr 37 c1,hlk 42 (lkY l x.By hw c2),hr 51 c3,hmp 4 hput,hbb 58 (Xl (q:=k) aa)] [hc (mkI m'),hc (myI (CA l x.By x.Seq))] k5 [] [(0,0),(1,1)] []
    |false=>rw[c3,Be] at k5;exact jw [hlk 36 (lkF m' ⟨x.By,x.Seq⟩ h36),hr 37 c1,hlk 42 (lkY l x.By hw c2),hr 51 c3,hbb 58 (Xl (q:=k) aa)] [hc (mkI m'),hc (myI l)] k5 [] [(0,0),(1,1)] []
 .rw[EG];obtain⟨h1,h2⟩:=X3 ids;generalize Uu ids=s at h1 h2 h12 he hs⊢;obtain⟨m,l⟩:=s;dsimp only at h1 h2 h12 he hs⊢;refine yl (Bs':=[]) [1,1,1,0,1] (J:=(s0 75 gl [(6,.mref 0)] [(0,oMy l)] 1 0)) [hr 20 (DZ (s:=ids))] [hc (myI l)] ?_;refine pO 11111100 (s0 75 gl [(6,.mref 0),(12,Iy)] [(0,oMy l)] 1 0) [] [hc (myI l)] ?_ [] [(0,0)] [];refine yl (Bs':=[]) [1,1,1,1,1,0,0] (J:=stF gl l [] []) [] [hc (myI l),hc (Bi.imm [])] ?_;refine dNx 11111101 ?_;refine dMw 60 61 62 2 (iti:=1) (mi:=0) (clock:=l.clk) (since:=l.clk) (T:=tMy) (ty:=tMy) (es:=UF Jo iG l) (λseen=>stF gl l seen ((eQ l seen).map mkF)) (KsQ l) Vv (λe he=>by obtain⟨x,hx,rfl⟩:=EH.1 he;exact h2.lt x hx) rfl (Le.refl _) (λseen=>rfl) (λseen=>rfl) (by grind) (λB seen k g nn hI Y6 hns c=>?_) (λseen hI d=>?_)
  .obtain⟨e,b,f⟩:=EH.1 Y6;simp only[Fq] at f;obtain⟨rfl,rfl,rfl⟩:=f;have c:=c (Vx hI b hns);rw[Af2 h2.1 b,List.map_append] at c;have hal:((eQ l seen).map mkF).length<=12:=by rw[GJ];have:=Aau hI;have h3:(eQ l seen).length<=seen.length:=List.length_filterMap_le _ _;have h4:=Q5 hI.1 hI.2;rw[GJ] at h4;omega
   generalize (eQ l seen).map mkF=a at c hal⊢;have hge:jr ((1,Amz l.clk (seen++[e.2.2]))::(stF gl l seen a).σ) (.ref 1 0)=some (.tup [db (Jo e.1),iG e.2.1]):=yo (iti:=1) (mi:=0) (since:=l.clk) (clock:=l.clk) (T:=tMy) (ty:=tMy) (seen:=seen) rfl rfl (by rw[Hi];exact h2.nd) Y6;exact jw [YT 63 hge,Tn 71 Bi 16 a (mkF e) aa] [hc (el (a++[mkF e])),hc (myI l),hc (Bi.imm (a++[mkF e]))] c [] [(0,0),(1,1),(2,4)] [(2,.row)]
  .have hp:=(Adr h2.1 hI λe he=>d _ (EH.2 ⟨e,he,rfl⟩)).map mkF;have hi:=hs _ hp;have hla:((eQ l seen).map mkF).length=n:=by rw[hp.length_eq,GJ,he]
   generalize (eQ l seen).map mkF=a at hi hla⊢;subst hla;exact EI [tN 73 [2] 3 [(2,oFk a)] [.rsl 2 0 a.length,cmK] [(0,oFk r)] (Agy (gl:=gl) aa hi) ⟨⟨rfl,.inr ⟨rfl,Bi.imm a⟩⟩,trivial⟩ ⟨⟨rfl,.inr ⟨rfl,Bi.imm r⟩⟩,trivial⟩] (Bi.imm r)
end
theorem Q6{a b:Ab}:Gu a b<0↔dt a b=true:=by grind [Gu]
theorem Qh:OrN Gu λ_=>True:=by grind [OrN,Q6,dt,EX]
theorem AbO{x y:Int}:AbE x y<0↔x<y:=by grind [AbE]
theorem Q9{cmp:α->α->Int}(tr:∀x y z,cmp x y<0->cmp y z<0->cmp x z<0)(a:∀x,¬cmp x x<0){l r:List α}(hp:l.Perm r)(h1:l.Pairwise λx y=>cmp x y<0)(h2:r.Pairwise λx y=>cmp x y<0):l=r:=
 by grind [List.Perm.eq_of_pairwise]
def OR(ids:Bb)(f:Bh):Nat:=(ids.filter λx=>decide (x.By=f.Device)&&decide (x.Seq=f.Seq)).length
theorem TB(p:Bb)(x:Ab)(f:Bh):OR (p++[x]) f=OR p f+if(⟨x.By,x.Seq⟩:Bh)=f then 1 else 0:=by unfold OR;rw[Ps,UI];obtain⟨d,s⟩:=f;grind
theorem AgB(p:Bb)(f:Bh):OR p f<=p.length:=M7 _ _
structure FkI (p:Bb) (s:FM Bh Int×FM Int Int):Prop where
 n:∀f,(s.1.get f).getD 0=(OR p f:Int)
 a:∀d v,s.2.get d=some v->2<=OR p ⟨d,v⟩
 b:∀d v,2<=OR p ⟨d,v⟩->∃w,s.2.get d=some w/\w<=v
theorem AmA{p:Bb}(h:FkI p s)(hp:p.length<=1000):FkI (p++[x]) (fkT s x):=by
 have hle:=AgB p ⟨x.By,x.Seq⟩;have hw:wI ((s.1.get ⟨x.By,x.Seq⟩).getD 0+1)=((OR p ⟨x.By,x.Seq⟩+1:Nat):Int):=by grind [FkI.n,bM]
 have hset:∀(l:FM Int Int),l=CA s.2 x.By x.Seq->1<=OR p ⟨x.By,x.Seq⟩->(∀w,s.2.get x.By=some w->x.Seq<=w)->(∀d v,l.get d=some v->2<=OR (p++[x]) ⟨d,v⟩)/\(∀d v,2<=OR (p++[x]) ⟨d,v⟩->∃w,l.get d=some w/\w<=v):=by grind [Bz,TB,FkI.a,FkI.b]
 have hold:∀(l:FM Int Int),l=s.2->(1<=OR p ⟨x.By,x.Seq⟩->∃w,s.2.get x.By=some w/\w<=x.Seq)->(∀d v,l.get d=some v->2<=OR (p++[x]) ⟨d,v⟩)/\(∀d v,2<=OR (p++[x]) ⟨d,v⟩->∃w,l.get d=some w/\w<=v):=by grind [TB,FkI.a,FkI.b]
 have key:(∀d v,(fkT s x).2.get d=some v->2<=OR (p++[x]) ⟨d,v⟩)/\(∀d v,2<=OR (p++[x]) ⟨d,v⟩->∃w,(fkT s x).2.get d=some w/\w<=v):=by
  unfold fkT;dsimp only;rw[hw];cases c1:decide (((OR p ⟨x.By,x.Seq⟩+1:Nat):Int)<2) with
  |true=>grind
  |false=>
   have h1:=Mu c1;rw[Be];cases c2:s.2.get x.By with
   |none=>grind
   |some w=>rw[Option.isSome_some,ax,Nf];cases c3:decide (x.Seq<w)<;>grind
 refine⟨λf=>?_,key.1,key.2⟩;grind [fkT,Bz,TB,FkI.n]
theorem AgC(ids:Bb)(hn:ids.length<=1000):FkI ids (Uu ids):=by
 have key:∀k,k<=ids.length->FkI (ids.take k) (Uu (ids.take k)):=by
  intro k;induction k with
  |zero=>exact λ_=>⟨λf=>rfl,λd v h=>(by cases h),λd v h=>absurd h (by show¬2<=0;omega)⟩
  |succ k ih=>intro hk;have hx:ids[k]?=some (ids[k]'aa):=EA _;rw[AbL hx,Jk,hx,Option.toList_some];grind [AmA]
 grind [EG]
theorem AdC{α:Type}(p:α->Bool):∀l:List α,l.length=(l.filter p).length+(l.filter λx=> !p x).length
 |[]=>rfl
 |a::r=>by have:=AdC p r;grind
theorem AbP:∀{ds:Bp} {ids:Bb},ds.Nodup->(∀d∈ds,2<=(ids.filter λx=>decide (x.By=d)).length)->2*ds.length<=ids.length
 |[],ids,_,_=>aC
 |d::r,ids,hd,h=>by
  rw[MH] at hd;have ih:=AbP (ids:=ids.filter λx=> !decide (x.By=d)) hd.2 λe he=>by have:=h e (by simp[he]);rw[List.filter_filter];grind
  have h1:=h d aC;grind [AdC]
theorem AaL{ids:Bb}(hn:ids.length<=1000):2*(Uu ids).2.es.length<=ids.length:=by have hk:=(X3 ids).2;have hI:=AgC ids hn;rw[<-GJ (f:=λe:Int×Int×Nat=>e.1)];refine AbP hk.kd λd hd=>?_;obtain⟨e,he,rfl⟩:=EH.1 hd;have hg:=JF hk (k:=e.1) (v:=e.2.1) (n:=e.2.2) he;have h2:=hI.a _ _ hg;refine LC h2 ?_;unfold OR;rw[<-List.filter_filter];exact(List.Sublist.filter _ List.filter_sublist).length_le
theorem TC{ids:Bb}{f:Bh}:f∈(Uu ids).2.es.map mkF↔(Uu ids).2.get f.Device=some f.Seq:=by grind [X3,JF,Gq]
theorem AiS(ids:Bb):OrN U1 λf=>f∈(Uu ids).2.es.map mkF:=by grind [OrN,U1,AbO,TC]
theorem AgD{ids:Bb}:((Uu ids).2.es.map mkF).Nodup:=List.Pairwise.of_map (S:=λa b:Int=>a≠b) (λf:Bh=>f.Device) (by grind) (by rw[Hi];exact(X3 ids).2.kd)
theorem AiT{ids:Bb}(hn:ids.length<=15):∃r:List Bh,r.Perm ((Uu ids).2.es.map mkF)/\∀l:List Bh,l.Perm ((Uu ids).2.es.map mkF)->inI U1 ((0:Nat):Int) (l.length:Int) l=some r:=by
 have hl:=AaL (ids:=ids) aa;have go:∀l:List Bh,l.Perm ((Uu ids).2.es.map mkF)->∃r,inI U1 ((0:Nat):Int) (l.length:Int) l=some r/\r.Perm ((Uu ids).2.es.map mkF)/\r.Pairwise λx y=>U1 x y<0:=λl hp=>by obtain⟨r,e,h1,h2⟩:=AaJ (AiS ids) (a:=0) (b:=l.length) (hp.nodup_iff.2 AgD) (λz hz=>hp.mem_iff.1 hz) aa (Dl _) (by rw[hp.length_eq,GJ];omega);refine⟨r,e,h1.1.trans hp,?_⟩;rw[List.pairwise_iff_getElem];intro p q hp' c d;exact h2 p q _ _ (Nat.zero_le _) d (by rw[<-h1.len];exact c) (EA hp') (EA c)
 obtain⟨r,_,h2,h3⟩:=go _ (.refl _);refine⟨r,h2,λl hp=>?_⟩;obtain⟨r',e,k2,k3⟩:=go l hp;rw[e,Q9 (cmp:=U1) (AiS ids).tr (by grind [U1,AbO]) (k2.trans h2.symm) k3 h3]
def voP(ids:Bb)(x:Ab):Bool:=ids.any λy=>decide (y.By=x.By/\y.Seq<=x.Seq/\2<=OR ids ⟨y.By,y.Seq⟩)
section
variable {gl:CB}
theorem Aih{fs:List Bh}{R:Bh->Bb}(hF:ba prog gl 225 [.ptr (Ag gg) 0,aE aj ids] (aE Bv fs))(hfl:fs.length<=1000)(hR:∀f∈fs,ba prog gl 347 [aE aj ids,iG f.Device,iG f.Seq,iG 4611686018427387904] (aE aj (R f)))(hl:(fs.flatMap R).length<=15)(h:O6 Gu (fs.flatMap R)=some r)(hle:r.length=(fs.flatMap R).length):iV prog gl 276 [.ptr (Ag gg) 0,aE aj ids] 25 r.length (r.flatMap aj):=by
 rw[hle];refine OW func276 ?_;refine dLl (l:=fs) aa (λk:Nat=>(s0 27 gl [(1,aE aj ids),(5,.rsl 0 0 ((fs.take k).flatMap R).length),(10,aE Bv fs),(11,iG (ah fs)),(12,iG (k:Int))] [(0,BA ((fs.take k).flatMap R))] 1 0)) 1110122 [hf 10 hF] [hc (ac.imm [])] (λB k x hx hz k5=>?_) (λB=>?_)
 .have hlt:=(cr hx).1;have e:(fs.take (k+1)).flatMap R=(fs.take k).flatMap R++R x:=by grind [Jk]
  have hll:((fs.take k).flatMap R++R x).length<=15:=by grind [Pr]
  rw[e] at k5;generalize (fs.take k).flatMap R=l at k5 hll⊢;rw[UI] at hll;exact jw [hr 13 (C7 hx),AH 14 (Bi.ixZ hz),AH 15 (Bi.ptZ Hj hz),hf 22 (hR x (bO hx)),AnB 23 ac 24 l (R x) aa,hbb 24 (Xl (q:=k) aa)] [hc (el (l++R x)),hc (ac.imm (l++R x))] k5
 .rw[EG];exact EI [hr 13 (DZ (s:=fs)),hsm (gl:=gl) 26 1 hl h] (ac.imm r)
end
theorem X5{α β:Type}{f:α->List β}:∀{l:List α},l.Nodup->(∀x∈l,(f x).Nodup)->(∀x∈l,∀y∈l,x≠y->∀z∈f x,z∉f y)->(l.flatMap f).Nodup
 |[],_,_,_=> .nil
 |a::r,hn,h1,h2=>by rw[MH] at hn;rw[List.flatMap_cons,List.nodup_append];refine⟨h1 a aC,X5 hn.2 (by grind) (by grind),λz hz w hw e=>?_⟩;grind
theorem Aii{gl:CB}{gg:Az}(hn:ids.length<=15)(hd:ids.Nodup)(hs:∀x∈ids,x.Seq<=4611686018427387904):∃r,ba prog gl 276 [.ptr (Ag gg) 0,aE aj ids] (aE aj r)/\r.Perm (ids.filter (voP ids))/\r.Pairwise λx y=>Gu x y<0:=by
 obtain⟨fs,hp,hi⟩:=AiT hn;have hl:=AaL (ids:=ids) aa;have hI:=AgC ids aa;have hF:=(AbN (gl:=gl) (gg:=gg) (ids:=ids) (r:=fs) (n:=fs.length) aa aa (by rw[hp.length_eq,GJ]) hi).fn Bi.sz (Bi.len _) (Bi.imm _);have hof:∀f:Bh,∃r,O6 Gu (ids.filter (ZN f.Device f.Seq 4611686018427387904))=some r/\r.Perm (ids.filter (ZN f.Device f.Seq 4611686018427387904)):=λf=>by have h1:=M7 (ZN f.Device f.Seq 4611686018427387904) ids;obtain⟨r,e,h2,h3⟩:=Ut Qh (l:=ids.filter (ZN f.Device f.Seq 4611686018427387904)) (hd.sublist List.filter_sublist) aa;exact⟨r,e,h2⟩
 let R:Bh->Bb:=λf=>(O6 Gu (ids.filter (ZN f.Device f.Seq 4611686018427387904))).getD [];have hRp:∀f,O6 Gu (ids.filter (ZN f.Device f.Seq 4611686018427387904))=some (R f)/\(R f).Perm (ids.filter (ZN f.Device f.Seq 4611686018427387904)):=λf=>by obtain⟨r,e,h2⟩:=hof f;grind
 have hRm:∀f x,x∈R f↔x∈ids/\x.By=f.Device/\f.Seq<=x.Seq:=λf x=>by rw[(hRp f).2.mem_iff,IK];grind [ZN]
 clear_value R;have hfd:∀x∈fs,∀y∈fs,x≠y->x.Device≠y.Device:=by grind [TC]
 have hfn:(fs.flatMap R).Nodup:=X5 (hp.nodup_iff.2 AgD) (by grind) (by grind);have hperm:(fs.flatMap R).Perm (ids.filter (voP ids)):=by
  refine(List.perm_ext_iff_of_nodup hfn (hd.sublist List.filter_sublist)).2 λx=>?_;rw[List.mem_flatMap,IK];unfold voP;rw[List.any_eq_true];refine⟨λ⟨f,hf,hx⟩=>?_,λ⟨hx,y,hy,hv⟩=>?_⟩
  .obtain⟨h1,h2,h3⟩:=(hRm f x).1 hx;have h4:=TC.1 (hp.mem_iff.1 hf);have h5:=hI.a _ _ h4;refine⟨h1,?_⟩;have h6:0<(ids.filter λx=>decide (x.By=f.Device)&&decide (x.Seq=f.Seq)).length:=Nat.lt_of_lt_of_le Nat.zero_lt_two h5;obtain⟨y,hy⟩:=List.exists_mem_of_length_pos h6;grind
  .obtain⟨h1,h2,h3⟩:=DS hv;obtain⟨w,hw,hle⟩:=hI.b _ _ h3;refine⟨⟨y.By,w⟩,hp.mem_iff.2 (TC.2 hw),(by grind)⟩
 have hlen:(fs.flatMap R).length<=15:=by grind [List.Perm.length_eq,M7]
 obtain⟨r,e,h2,h3⟩:=Ut Qh hfn hlen;refine⟨r,(Aih (gl:=gl) hF (by rw[hp.length_eq,GJ];omega) (by grind [Akq,List.Perm.length_eq]) hlen e h2.length_eq).fn ac.sz (ac.len _) (ac.imm _),h2.trans hperm,h3⟩
theorem Rb{l:List α}{x:α}(hx:l[k]?=some x):l.take (k+1)=l.take k++[x]:=by rw[Jk,hx];rfl
section
variable {g:Ba} {m:I1} {N:IX}
abbrev CO(g:Ba)(m:I1)(N:IX):Gi:=RG ⟨g.Cards,m,N⟩
theorem N7(w:GR g){i:Nat}(h:g.IDs[i]?=some x):bu x g.IDs=some i:=by
 cases hk:bu x g.IDs with
 |none=>exact absurd (bO h) (SW hk)
 |some j=>rw[M5 w.nd (gb hk).1 h]
abbrev IH(g:Ba)(l:Bp):Bb:=l.map λp=>(g.IDs[p.toNat]?).getD ⟨0,0,0⟩
theorem Pm(w:GR g){l:Bp}(h:EF g l){z:Int}(hz:l[j]?=some z):∃(n:Nat) (y:Ab),z=(n:Int)/\n<g.L.length/\g.IDs[n]?=some y/\(IH g l)[j]?=some y:=by obtain⟨n,rfl,hn⟩:=h.nat (bO hz);have nI:=w.nI;obtain⟨y,hy,_⟩:=dk (l:=g.IDs) (k:=n) aa;refine⟨n,y,rfl,hn,hy,?_⟩;rw[Nd,hz,Option.map_some,Fu,hy];rfl
end
def Ye(cs:Mj)(d:Int):Int:=match cs.find? λc=>decide (c.Device=d) with
 |some c=>c.Member
 |none=>0
structure Mr (x:AB) (y:GE):Prop where
 role:y.Role=x.role
 no:x.guard=none->y.Is=false
 gd:∀g,x.guard=some g->y.Is=true/\y.ID=g.id/\y.Guards=g.guards/\y.Need=g.need/\y.Wait=g.wait/\y.Objected=g.objected/\y.Last=g.last
def AgR(V:List Iu)(i:Ab)(b d a:Int):Prop:=∃v∈V,v.Of=i/\v.By=b/\v.Device=d/\v.At=a
structure Rr (R:Ad) (D:Dx):Prop where
 card:∀d,DE R d=Ye D.Cards d
 nd:(D.In++D.Gone).Nodup
 in_:∀d,R.in_.get d=if d∈D.In then some true else none
 was:∀d,R.was.get d=if d∈D.In\/d∈D.Gone then some true else none
 w0:R.was.es.length=D.In.length+D.Gone.length
 ln:(D.L.map (·.N)).Nodup
 no:∀m,R.members.get m=none->∀y∈D.L,y.N≠m
 mem:∀m x,R.members.get m=some x->∃y∈D.L,y.N=m/\Mr x y
 vou:∀m x g,R.members.get m=some x->x.guard=some g->∀b d a,g.vouches.get ⟨b,d⟩=some a↔AgR D.V g.id b d a
 vof:∀v∈D.V,∃m x g,R.members.get m=some x/\x.guard=some g/\v.Of=g.id
 vnd:(D.V.map λv=>(v.Of,v.By,v.Device)).Nodup
 back:R.back=D.Back
 d6:∀d∈D.In++D.Gone,1<=d/\d<=6
structure Sz (D:Dx):Prop where
 c:D.Cards.length<=1000
 dev:D.In.length+D.Gone.length<=100000
 l:D.L.length<=100000
 v:D.V.length<=100000
theorem Lx{l:Bp}{n:Int}:QF l n=decide (n∈l):=by grind [QF]
section
variable {R:Ad} {D:Dx}
theorem Sz.i(z:Sz D):D.In.length<=1000000:=by grind [Sz]
theorem Sz.g(z:Sz D):D.Gone.length<=1000000:=by grind [Sz]
theorem ofE(z:Sz D)(d:Int):gE D d=some (Ye D.Cards d):=by
 have:=z.c;unfold gE;refine T.eq (.bind ((T.search D.Cards (λx=>decide (x.Device=d)) (λk x=>x.Member) aa (λk x hx hk=>?_) ?_).mono ?_))
 .grind [AR,eA,au,aq]
 .grind [AR,eF]
 .rintro r (⟨rfl,h⟩|⟨k,x,hx,hp,rfl,h⟩)
  .refine .some ?_;grind [Ye]
  .refine .some ?_;grind [Ye,List.find?_eq_some_iff_getElem]
theorem Am3(z:Sz D)(n:Int):T (dS D n) λv=>(v= -1/\∀y∈D.L,y.N≠n)\/∃(k:Nat) (y:GE),v=(k:Int)/\D.L[k]?=some y/\y.N=n:=by
 have:=z.l;unfold dS;refine .bind ((T.search D.L (λx=>decide (x.N=n)) (λk _=>(k:Int)) aa (λk x hx hk=>?_) ?_).mono ?_)
 .grind [o5,eA,au,aq]
 .grind [o5,eF]
 .rintro r (⟨rfl,h⟩|⟨k,x,hx,hp,rfl,h⟩)
  .exact .some (by grind)
  .exact .some (by grind)
theorem Rr.at_(h:Rr R D){m:Int}{x:AB}(hx:R.members.get m=some x){y:GE}(hy:y∈D.L)(hn:y.N=m):Mr x y:=by grind [mem,Nz,ln]
theorem Rr.of(h:Rr R D){y:GE}(hy:y∈D.L):∃x,R.members.get y.N=some x/\Mr x y:=by cases hx:R.members.get y.N<;>grind [no,at_]
theorem Yi(z:Sz D)(h:Rr R D)(n:Int):T (dS D n) λv=>match R.members.get n with
  |none=>v= -1
  |some x=>∃(k:Nat) (y:GE),v=(k:Int)/\D.L[k]?=some y/\y.N=n/\Mr x y:=by
 refine(Am3 z n).mono λv hv=>?_
 grind [Rr,Rr.of]
theorem Aij(z:Sz D)(h:Rr R D)(n:Int):se D n=some (M2 R n):=by unfold se;refine T.eq (.bind ((Yi z h n).mono λv hv=>?_));grind [M2,T.some,au,Mr.role]
theorem Rr.ins(h:Rr R D)(d:Int):PL R d=decide (d∈D.In):=by grind [PL,in_,EQ]
theorem inE(z:Sz D)(h:Rr R D)(d:Int):fb D.In d=some (PL R d):=by rw[cX z.i,Lx,h.ins]
theorem Am4(z:Sz D)(h:Rr R D)(d:Int):Fd D d=some (EQ (R.was.get d)):=by grind [Fd,cX,Sz.i,Sz.g,Lx,Rr.was,EQ]
theorem aat(z:Sz D)(h:Rr R D)(d:Int):nW D d=some (DY R d):=by grind [nW,DY,Am4,ofE,Rr.card]
theorem AkS(z:Sz D)(i:Ab):T (jN D i) λv=>(v= -1/\∀y∈D.L,¬(y.Is=true/\y.ID=i))\/∃(k:Nat) (y:GE),v=(k:Int)/\D.L[k]?=some y/\y.Is=true/\y.ID=i:=by
 have:=z.l;unfold jN;refine .bind ((T.search D.L (λx=>x.Is&&decide (x.ID=i)) (λk _=>(k:Int)) aa (λk x hx hk=>?_) ?_).mono ?_)
 .grind [qQ,eA,au,aq]
 .grind [qQ,eF]
 .rintro r (⟨rfl,hn⟩|⟨k,y,hy,hp,rfl,hn⟩)
  .exact .some (by grind)
  .have hp2:y.Is=true/\y.ID=i:=by grind
   exact .some (by grind)
theorem AkT(z:Sz D)(h:Rr R D)(hR:Bj R)(i:Ab):T (jN D i) λv=>match R.members.es.find? λe=>K4 e.2.1 i with
  |none=>v= -1
  |some e=>∃(k:Nat) (y:GE) (g:CD),v=(k:Int)/\D.L[k]?=some y/\y.N=e.1/\Mr e.2.1 y/\e.2.1.guard=some g/\g.id=i/\R.members.get e.1=some e.2.1:=by
 refine(AkS z i).mono ?_
 rintro v (⟨rfl,hn⟩|⟨k,y,rfl,hy,hp2⟩)
 .cases hf:R.members.es.find? λe=>K4 e.2.1 i with
  |none=>rfl
  |some e=>obtain⟨hx,_⟩:=hR.mem (List.mem_of_find?_eq_some hf);grind [Rr.mem,K4,Mr.gd]
 .have a:=bO hy
  obtain⟨x,hx,hm⟩:=h.of a
  cases hgd:x.guard with
  |none=>grind [Mr.no]
  |some g=>
   have h1:=hm.gd g hgd
   have hid:g.id=i:=by grind
   have hgx:K4 x i=true:=by grind [K4]
   cases hf:R.members.es.find? λe=>K4 e.2.1 i<;>grind [Gq,Bj.mem,Bj.uni]
theorem aaE(z:Sz D)(h:Rr R D)(hR:Bj R)(o:Bq):T (nY D o) λv=>v.2=(Dq R o).2/\((Dq R o).2=0->∃(k:Nat) (y:GE) (x:AB) (g:CD),v.1=(k:Int)/\D.L[k]?=some y/\y.N=(Dq R o).1/\R.members.get (Dq R o).1=some x/\Mr x y/\x.guard=some g/\g.id=o.Of):=by
 unfold nY;refine .bind ((AkT z h hR o.Of).mono λv hv=>?_);cases hf:R.members.es.find? λe=>K4 e.2.1 o.Of with
 |none=>grind [Dq,T.some]
 |some e=>
  rw[hf] at hv;obtain⟨k,y,g,rfl,hy,a,hm,hgd,hid,hx⟩:=hv;have eS:Dq R o=bif g.guards.any λy=>decide (o.By=y)then(e.1,0)else(0,14):=by grind [Dq]
  have h1:=hm.gd g hgd;grind [Bj.gn,au,cX,Lx,T.some]
end
theorem Ae5{l:Bp}(hl:l.length<=3000):N4 l d=some ((OP (l.length+1) l).filter λs=>decide (d∈s)).reverse:=by
 obtain⟨e0,hn⟩:=abc (l.length+1) l aa aa;obtain⟨v,e1,_,hy⟩:=u6 (l.length+1) l aa aa;rw[e0] at e1;obtain rfl:=Bo e1;unfold N4 U2;rw[e0,aL];generalize OP (l.length+1) l=v1 at hn hy;have e:wI (ah v1-1)=ah v1-1:=by grind [bM,ah]
 rw[e];refine T.eq (.bind (T.mono (T.loop (Q:=λr:LQ=>r=(v1.filter λs=>decide (d∈s)).reverse) (λs=> -1<=s.2/\s.2<(v1.length:Int)/\s.1=((v1.drop (s.2+1).toNat).filter λs=>decide (d∈s)).reverse) (λs=>(s.2+1).toNat) ⟨by unfold ah;omega,by unfold ah;omega,?_⟩ (by grind [ah]) ?_) λ_ h=> .some h))
 .grind [List.drop_eq_nil_of_le,ah]
 rintro⟨a,i⟩ ⟨i1,c,b⟩;simp only at i1 c b;unfold AF;refine .dec (λh0=>?_) λh0=> .some (show a=_ from ?_)
 .replace h0:0<=i:=h0;obtain⟨k,rfl⟩:=Int.eq_ofNat_of_zero_le h0;have hk:k<v1.length:=aa;have hw:wI ((k:Int)-1)=(k:Int)-1:=bM aa aa;have hz:aS v1 (k:Int)=some (v1[k]'hk):=Bt (EA hk);have ha:a.length<=6000:=by grind
  dsimp only;rw[hz,aL,cX (by grind),aL,Lx,hw];have ed:v1.drop k=v1[k]'hk::v1.drop (k+1):=List.drop_eq_getElem_cons hk;rw[show((k:Int)+1).toNat=k+1 by omega] at b;by_cases hd:d∈v1[k]'hk
  .rw[C5 hd,ax,aL];refine .bind (.app (by grind) (.some ⟨⟨by show-1<=(k:Int)-1;omega,by show(k:Int)-1<_;omega,?_⟩,by show((k:Int)-1+1).toNat<((k:Int)+1).toNat;omega⟩));show a++[v1[k]'hk]=((v1.drop ((k:Int)-1+1).toNat).filter _).reverse;rw[show((k:Int)-1+1).toNat=k by omega,ed,List.filter_cons_of_pos (by simp[hd]),List.reverse_cons,b]
  .rw[Dk hd,Be];refine .some ⟨⟨by show-1<=(k:Int)-1;omega,by show(k:Int)-1<_;omega,?_⟩,by show((k:Int)-1+1).toNat<((k:Int)+1).toNat;omega⟩;show a=((v1.drop ((k:Int)-1+1).toNat).filter _).reverse;rw[show((k:Int)-1+1).toNat=k by omega,ed,List.filter_cons_of_neg (by simp[hd]),b]
 .replace h0:¬0<=i:=h0;rw[b,show(i+1).toNat=0 by omega,List.drop_zero]
theorem Vp(d:Int):∀(n:Nat) (l:Bp),l.length<n->l.length<=1000000->(Y4 d n l).length<=l.length+1
 |0,_,h,_=>(by grind)
 |n+1,l,h,hl=>by
  unfold Y4;split
  .simp
  .obtain⟨_,k1,k2⟩:=Z2 (n:=l.length) aa hl;have a:=Vp d n (l.take (lfN l.length)) cq cq;have b:=Vp d n (l.drop (lfN l.length)) cq cq;grind
theorem Ae6(d:Int):∀(n:Nat) (l:Bp),l.length<n->l.length<=1000000->d∈l->l.Nodup->(∀s∈Y4 d n l,d∈s/\s.length<=l.length/\s.Nodup)/\((Y4 d n l).Pairwise λa b=>b.length<a.length)/\(Y4 d n l).getLast?=some [d]
 |0,_,h,_,_,_=>(by grind)
 |n+1,l,h,hl,hd,hn=>by
  unfold Y4;split
  .match l,hd,hn with
   |[a],hd,hn=>simp_all
   |a::b::r,_,_=>simp at*
  .obtain⟨_,k1,k2⟩:=Z2 (n:=l.length) aa hl;have hx:d∈l.take (lfN l.length)\/d∈l.drop (lfN l.length):=by grind [Pr]
   have key:∀q:Bp,q.length<l.length->d∈q->q.Nodup->(∀s∈l::Y4 d n q,d∈s/\s.length<=l.length/\s.Nodup)/\((l::Y4 d n q).Pairwise λa b=>b.length<a.length)/\(l::Y4 d n q).getLast?=some [d]:=λq h1 h2 h3=>by obtain⟨a,b,c⟩:=Ae6 d n q aa aa h2 h3;refine⟨λs hs=>?_,(by grind [List.pairwise_cons]),by grind⟩;grind
   split
   .grind
   grind
def tpL(d:Int)(l:Bp):LQ:=if d∈l then(Y4 d (l.length+1) l).reverse else[]
structure Aaa (d:Int) (ss:LQ):Prop where
 n:ss.length<=3000
 m:∀s∈ss,d∈s/\s.length<=3000/\s.Nodup
 p:ss.Pairwise λa b=>a.length<b.length
 f:∀s,ss[0]?=some s->s=[d]
theorem Aab:Aaa d []:=⟨aC,aC,.nil,aC⟩
theorem Ajq{l:Bp}(hl:l.length<=2000)(hn:l.Nodup):Aaa d (tpL d l):=by
 unfold tpL;split
 .rename_i hd;obtain⟨a,b,c⟩:=Ae6 d (l.length+1) l aa aa hd hn;have:=Vp d (l.length+1) l aa aa;constructor<;>grind
 .exact Aab
theorem Ae7{l:Bp}(hl:l.length<=3000)(hn:l.Nodup):N4 l d=some (tpL d l):=by grind [Ae5,abd,tpL]
theorem Ae8{gl:CB}{l:Bp}(hl:l.length<=3000):ba prog gl 129 [aE cZ l,iG d] (aE Jc (tpL d l)):=by
 unfold tpL;by_cases hd:d∈l
 .grind [Aha,Vp,Ac9,Ae4]
 .rw[BU hd];refine Ac9 (a:=[]) (b:=[]) ?_ aC (by grind [Ae4]) rfl;grind [PE,SP]
end Go.Proofs.YtdpdicldkohflaaGreatDoor
