/- Texts. -/
import Derived.Test.YtlijnaneopediaaGreatDoorQG
namespace Go.Proofs.YtlijnaneopediaaGreatDoor
set_option linter.unusedSectionVars false
set_option linter.unusedVariables false
set_option linter.unusedSimpArgs false
open Go.RowKit Tryz
attribute [local irreducible] Tr dz Gp
variable {α:Type}{ids l l0 r row:A3}{a b j k m p u v w:Nat}{pv x y:Ab}{d:Int}{s:FM Bf Int×FM Int Int}{L:Bk}{gg:Aj}
abbrev CmV(gl:Cd)(fi:FuncId)(fa fc:Bk)(cmp:Ab->Ab->Int):Prop:=R7 prog gl fi fa fc (λp:Ab×Ab=>[.agg (aj p.1),.agg (aj p.2)]) (λz:Int=>iG z) (λp=>some (cmp p.1 p.2))
abbrev Su(fi:FuncId)(fa fc:Bk):G:= .clo (.func fi) fa fc
theorem imP(p:Ab×Ab):∀g∈([.agg (aj p.1),.agg (aj p.2)]:Bk),bB g:=aY (aG 20 (.agg (aj p.1)) aH) (aY (aG 20 (.agg (aj p.2)) aH) bf)
abbrev hcp(d c:Nat){gl:Cd}{fi:FuncId}{fa fc:Bk}{cmp:Ab->Ab->Int}(hv:CmV gl fi fa fc cmp)(x y:Ab):HP:=hz d [] (hv.cs (c:=c) (x:=(x,y)) rfl (imP (x,y)))
def AaG{α:Type}(cmp:α->α->Int)(a:Int)(s:List α×Int):Option ((List α×Int)⊕List α):=
 bif a<s.2 then(aS s.1 s.2).bind λx=>(aS s.1 (wI (s.2-1))).bind λy=>bif cmp x y<0 then(ji s.1 s.2 y).bind λw1=>(ji w1 (wI (s.2-1)) x).bind λw2=>some (.inl (w2,wI (s.2-1)))else some (.inr s.1)else some (.inr s.1)
def AaH{α:Type}(cmp:α->α->Int)(a b:Int)(s:List α×Int):Option ((List α×Int)⊕List α):=
 bif s.2<b then(AB (AaG cmp a) (s.1,s.2)).bind λl=>some (.inl (l,wI (s.2+1)))else some (.inr s.1)
def inI{α:Type}(cmp:α->α->Int)(a b:Int)(l:List α):Option (List α):=AB (AaH cmp a b) (l,wI (a+1))
theorem AiX{w1 w2:A3}{i j:Int}{a b:Ab}(h1:ji l i b=some w1)(h2:ji w1 j a=some w2):fh prog 26 (.rsl 0 0 l.length) j=some (.ref 0 (0+j.toNat*3)):=by rw[hZ h1];exact ac.ixsZ 0 h2
section
variable {gl:Cd} {fi:FuncId} {fa fc:Bk} {cmp:Ab->Ab->Int} (hv:CmV gl fi fa fc cmp)
include hv
theorem AdK{a b:Int}(h:inI cmp a b l=some r):jg prog gl 310 [.rsl 0 0 l.length,iG a,iG b,Su fi fa fc] [(0,Bt l)] 1 (.tup []) [(0,Bt r)] 1:=by
 unfold inI at h;refine pP func310 ?_;refine pN (λs:A3×Int=>(s0 53 gl [(0,.rsl 0 0 s.1.length),(1,iG a),(2,iG b),(3,Su fi fa fc),(8,iG s.2)] [(0,Bt s.1)] 1 1)) 1122 h [] [hc (el l),hc hv.im,hc (ac.imm l)] (λB s w hs k5 f=>?_);obtain⟨l1,i⟩:=s;unfold AaH at hs;dsimp only at hs;rcases bC hs with⟨b1,hs⟩|⟨b1,hs⟩
 .obtain⟨l2,e2,hs⟩:=bS hs;obtain rfl:=Bo hs;refine Ix 11221021 (s0 53 gl [(0,.rsl 0 0 l2.length),(1,iG a),(2,iG b),(3,Su fi fa fc),(8,iG i)] [(0,Bt l2)] 1 1) ?_ λkk=>?_
  .exact jw [] [hc (el l2),hc hv.im,hc (ac.imm l2)] (k5 _ rfl)
  refine pN (λs:A3×Int=>(s0 53 gl [(0,.rsl 0 0 s.1.length),(1,iG a),(2,iG b),(3,Su fi fa fc),(8,iG i),(9,iG s.2)] [(0,Bt s.1)] 1 1)) 1122102122 e2 [hr 14 b1] [hc (el l1),hc hv.im,hc (ac.imm l1)] (λk z v hz g e=>?_);obtain⟨l3,j⟩:=z;unfold AaG at hz;dsimp only at hz;rcases bC hz with⟨b2,hz⟩|⟨b2,hz⟩
  .obtain⟨x,c,hz⟩:=bS hz;obtain⟨y,d,hz⟩:=bS hz;rcases bC hz with⟨b3,hz⟩|⟨b3,hz⟩
   .obtain⟨w1,e1,hz⟩:=bS hz;obtain⟨w2,e3,hz⟩:=bS hz;obtain rfl:=Bo hz;exact jw [hr 20 b2,Az 25 (ac.ixrZ 0 c),Az 26 (ac.pt0Z aW c),Az 30 (ac.ixrZ 0 d),Az 31 (ac.pt0Z aW d),hcp 32 1 hv x y,hr 33 b3,Az 45 (ac.ixrZ 0 d),Az 46 (ac.pt0Z aW d),Az 49 (ac.ixrZ 0 c),Az 50 (ac.pt0Z aW c),Az 51 (ac.ixsZ 0 e1),hw 51 (w1.flatMap aj) (ac.putZ e1),Az 52 (AiX e1 e3),hw 52 (w2.flatMap aj) (ac.putZ e3)] [hc ((hZ e1).trans (hZ e3)),hc hv.im,hc (ac.imm w2)] (g _ rfl)
   .obtain rfl:=Bo hz;obtain rfl:=e _ rfl;exact yl 11221021 [hr 20 b2,Az 25 (ac.ixrZ 0 c),Az 26 (ac.pt0Z aW c),Az 30 (ac.ixrZ 0 d),Az 31 (ac.pt0Z aW d),hcp 32 1 hv x y,hr 33 b3] [hc (el l3),hc hv.im,hc (ac.imm l3)] kk
  .obtain rfl:=Bo hz;obtain rfl:=e _ rfl;exact yl 11221021 [hr 20 b2] [hc (el l3),hc hv.im,hc (ac.imm l3)] kk
 .obtain rfl:=Bo hs;obtain rfl:=f _ rfl;exact mt .normal (s0 53 gl [] [(0,Bt l1)] 1 1) [] [hr 14 b1] [hc (ac.imm l1)] (kd:=[(0,.row)])
omit hv
def swZ{α:Type}(l:List α)(i j:Nat):Option (List α):=(l[i]?).bind λx=>(l[j]?).bind λy=>some ((l.set i y).set j x)
theorem I5{l r:List α}{i j:Nat}(h:swZ l i j=some r):∃x y,l[i]?=some x/\l[j]?=some y/\r=(l.set i y).set j x:=by grind [swZ]
theorem stZ{l:List α}{i:Nat}{y x:α}(h:l[i]?=some y):ji l (i:Int) x=some (l.set i x):=by grind [ji]
theorem Aid{l:List α}{i j:Nat}{y x z w:α}(h:l[j]?=some y):ji (l.set i z) (j:Int) x=some ((l.set i z).set j x):=by grind [ji]
theorem Uu{i:Nat}:l.length=((l.set i y).set j x).length:=by rw[List.length_set,List.length_set]
abbrev hsw(a b c d:Nat){l w:A3}{i j:Nat}{x y:Ab}(hx:l[i]?=some x)(hy:l[j]?=some y)(e:w=(l.set i y).set j x):List HP:=[Az a (ac.ixrZ 0 (Bp hy)),Az (a+1) (ac.pt0Z aW (Bp hy)),Az b (ac.ixrZ 0 (Bp hx)),Az (b+1) (ac.pt0Z aW (Bp hx)),Az c (ac.ixsZ 0 (stZ (x:=y) hx)),hw c ((l.set i y).flatMap aj) (ac.putZ (stZ (x:=y) hx)),Az d (AiX (stZ (x:=y) hx) (Aid (w:=x) (x:=x) (z:=y) (i:=i) hy)),hw d (w.flatMap aj) (e▸ac.putZ (Aid (w:=x) (x:=x) (z:=y) (i:=i) hy))]
theorem Hz{c:Bool}{x:Option α}{v:α}(h:(bif c then x else none)=some v):c=true/\x=some v:=by grind
theorem AgA(h:Nat.blt 0 j=true):∃k,j=k+1:=by simp_all
theorem AgB{v:Nat⊕α}(h:(bif Nat.blt 0 j then some (.inl (j-1))else none)=some v):∃k,j=k+1/\v= .inl k:=by
 cases j with
 |zero=>cases h
 |succ k=>grind
def scU(cmp:Ab->Ab->Int)(l:A3)(a j i:Nat):Option (Nat⊕Nat):=bif (i:Int)<=(j:Int)then(l[i]?).bind λx=>(l[a]?).bind λy=>bif cmp x y<0 then some (.inl (i+1))else some (.inr i)else some (.inr i)
def scD(cmp:Ab->Ab->Int)(l:A3)(a i j:Nat):Option (Nat⊕Nat):=bif (i:Int)<=(j:Int)then(l[j]?).bind λx=>(l[a]?).bind λy=>bif cmp x y<0 then some (.inr j)else bif Nat.blt 0 j then some (.inl (j-1))else none else some (.inr j)
def paT(cmp:Ab->Ab->Int)(a:Nat)(s:A3×Nat×Nat):Option ((A3×Nat×Nat)⊕(A3×Nat)):=
 bif s.1.length<=1000 then(AB (scU cmp s.1 a s.2.2) s.2.1).bind λi=>(AB (scD cmp s.1 a i) s.2.2).bind λj=>bif (j:Int)<(i:Int)then some (.inr (s.1,j))else bif Nat.blt 0 j then(swZ s.1 i j).bind λl=>some (.inl (l,i+1,j-1))else none else none
def paS(cmp:Ab->Ab->Int)(a b p:Nat)(l:A3):Option (Nat×Bool×A3):=
 (
  swZ l a p).bind λl0=>(AB (scU cmp l0 a (b-1)) (a+1)).bind λi=>(AB (scD cmp l0 a i) (b-1)).bind λj=>
  bif (j:Int)<(i:Int)then(swZ l0 j a).bind λr=>some (j,true,r)else bif Nat.blt 0 j then(swZ l0 i j).bind λl1=>(AB (paT cmp a) (l1,i+1,j-1)).bind λs=>(swZ s.1 s.2 a).bind λr=>some (s.2,false,r)else none
include hv
abbrev AaI(gl:Cd)(fi:FuncId)(fa fc:Bk)(a b:Nat)(l:A3)(i j:Nat):St:=(s0 178 gl [(0,.rsl 0 0 l.length),(1,iG (a:Int)),(2,iG (b:Int)),(4,Su fi fa fc),(12,iG (i:Int)),(13,iG (j:Int))] [(0,Bt l)] 1 1)
theorem Re{a b p:Nat}{f:Bool}(hl:l.length<=1000)(ha:a<1000)(hb1:1<=b)(hb2:b<=1000)(h:paS cmp a b p l=some (m,f,r)):jg prog gl 317 [.rsl 0 0 l.length,iG (a:Int),iG (b:Int),iG (p:Int),Su fi fa fc] [(0,Bt l)] 1 (.tup [iG (m:Int),bG f]) [(0,Bt r)] 1:=by
 obtain⟨b,rfl⟩:∃q,b=q+1:=⟨b-1,aa⟩;unfold paS at h;rw[Nat.add_sub_cancel] at h;obtain⟨l0,e0,h⟩:=bS h;obtain⟨i,ei,h⟩:=bS h;obtain⟨j,ej,h⟩:=bS h;obtain⟨D,E,h1,h2,e0⟩:=I5 e0;have hl0:l.length=l0.length:=by rw[e0];exact Uu
 refine pP func317 ?_;refine Ix 11110 (AaI gl fi fa fc a (b+1) l0 i b) ?_ λkk=>?_;rotate_left
 .have hl2:l0.length<=1000:=aa;refine pN (λq:Nat=>AaI gl fi fa fc a (b+1) l0 q b) [1,1,1,0,2,2] ei (hsw 20 24 26 27 h1 h2 e0++[hbb 29 (Xl (q:=a) aa),hbb 31 (dec (q:=b) aa)]) [hc hl0,hc hv.im,hc (ac.imm l0)] (λu q v hz n g=>?_);unfold scU at hz;rcases bC hz with⟨b2,hz⟩|⟨b2,hz⟩
  .obtain⟨x,c,hz⟩:=bS hz;obtain⟨y,d,hz⟩:=bS hz;have hq:=(cr c).1;rcases bC hz with⟨b3,hz⟩|⟨b3,hz⟩
   .obtain rfl:=Bo hz;exact jw [hr 34 b2,Az 39 (ac.ixrZ 0 (Bp c)),Az 40 (ac.pt0Z aW (Bp c)),Az 43 (ac.ixrZ 0 (Bp d)),Az 44 (ac.pt0Z aW (Bp d)),hcp 45 1 hv x y,hr 46 b3,hbb 49 (Xl (q:=q) aa)] [hc (rfl:l0.length=l0.length),hc hv.im,hc (ac.imm l0)] (n _ rfl)
   .obtain rfl:=Bo hz;obtain rfl:=g _ rfl;exact yl 11110 [hr 34 b2,Az 39 (ac.ixrZ 0 (Bp c)),Az 40 (ac.pt0Z aW (Bp c)),Az 43 (ac.ixrZ 0 (Bp d)),Az 44 (ac.pt0Z aW (Bp d)),hcp 45 1 hv x y,hr 46 b3] [hc (rfl:l0.length=l0.length),hc hv.im,hc (ac.imm l0)] kk
  .obtain rfl:=Bo hz;obtain rfl:=g _ rfl;exact yl 11110 [hr 34 b2] [hc (rfl:l0.length=l0.length),hc hv.im,hc (ac.imm l0)] kk
 have hl0:l0.length<=1000:=aa;clear e0 h1 h2 hl ei;refine Ix 111110 (AaI gl fi fa fc a (b+1) l0 i j) ?_ λkk=>?_;rotate_left
 .skip;refine pN (λq:Nat=>AaI gl fi fa fc a (b+1) l0 i q) [1,1,1,1,0,2,2] ej [] [hc (rfl:l0.length=l0.length),hc hv.im,hc (ac.imm l0)] (λu q v hz n g=>?_);unfold scD at hz;rcases bC hz with⟨b2,hz⟩|⟨b2,hz⟩
  .obtain⟨x,c,hz⟩:=bS hz;obtain⟨y,d,hz⟩:=bS hz;have hq:=(cr c).1;rcases bC hz with⟨b3,hz⟩|⟨b3,hz⟩
   .obtain rfl:=Bo hz;obtain rfl:=g _ rfl;exact yl 111110 [hr 52 b2,Az 57 (ac.ixrZ 0 (Bp c)),Az 58 (ac.pt0Z aW (Bp c)),Az 61 (ac.ixrZ 0 (Bp d)),Az 62 (ac.pt0Z aW (Bp d)),hcp 63 1 hv x y,hr 64 b3] [hc (rfl:l0.length=l0.length),hc hv.im,hc (ac.imm l0)] kk
   .obtain⟨k,rfl,rfl⟩:=AgB hz;exact jw [hr 52 b2,Az 57 (ac.ixrZ 0 (Bp c)),Az 58 (ac.pt0Z aW (Bp c)),Az 61 (ac.ixrZ 0 (Bp d)),Az 62 (ac.pt0Z aW (Bp d)),hcp 63 1 hv x y,hr 64 b3,hbb 68 (dec (q:=k) aa)] [hc (rfl:l0.length=l0.length),hc hv.im,hc (ac.imm l0)] (n _ rfl)
  .obtain rfl:=Bo hz;obtain rfl:=g _ rfl;exact yl 111110 [hr 52 b2] [hc (rfl:l0.length=l0.length),hc hv.im,hc (ac.imm l0)] kk
 clear ej;rcases bC h with⟨b1,h⟩|⟨b1,h⟩
 .obtain⟨r',A,h⟩:=bS h;simp only[Fm,Fw] at h;obtain⟨rfl,rfl,rfl⟩:=h;obtain⟨x,y,hx,hy,e⟩:=I5 A;exact mt .ret (s0 178 gl [(10,iG (j:Int)),(11,bG true)] [(0,Bt r')] 1 1) [iG (j:Int),bG true] (hr 71 b1::hsw 78 82 84 85 hx hy e) [hc (ac.imm r')] (kd:=[(0,.row)])
 obtain⟨hj,h⟩:=Hz h;obtain⟨j,rfl⟩:=AgA hj;rw[Nat.add_sub_cancel] at h;obtain⟨l1,e1,h⟩:=bS h;obtain⟨s,es,h⟩:=bS h;obtain⟨r',A,h⟩:=bS h;simp only[Fm,Fw] at h;obtain⟨rfl,rfl,rfl⟩:=h;obtain⟨x,y,hx,hy,e1⟩:=I5 e1;have hli:=(cr hx).1;have o:=(cr hy).1;have hl1:l0.length=l1.length:=by rw[e1];exact Uu
 refine pN (λz:A3×Nat×Nat=>AaI gl fi fa fc a (b+1) z.1 z.2.1 z.2.2) [1,1,1,1,1,1,1,1,1,0,2,2] es (hr 71 b1::hsw 93 97 99 100 hx hy e1++[hbb 102 (Xl (q:=i) aa),hbb 104 (dec (q:=j) aa)]) [hc hl1,hc hv.im,hc (ac.imm l1)] (λB z w hs k5 C=>?_);clear hx hy e1 hli o hl1 b1 hl0;obtain⟨l1,i,j⟩:=z;unfold paT at hs;dsimp only at hs;cases b0:decide (l1.length<=1000) with
 |false=>rw[b0] at hs;cases hs
 |true=>
 rw[b0,ax] at hs;have hl1:=DD b0;obtain⟨i1,ei,hs⟩:=bS hs;obtain⟨t,ej,hs⟩:=bS hs;refine Ix 111111111102220 (AaI gl fi fa fc a (b+1) l1 i1 j) ?_ λkk=>?_;rotate_left
 .skip;refine pN (λq:Nat=>AaI gl fi fa fc a (b+1) l1 q j) [1,1,1,1,1,1,1,1,1,0,2,2,2,0,2,2] ei [] [hc (rfl:l1.length=l1.length),hc hv.im,hc (ac.imm l1)] (λu q v hz n g=>?_);unfold scU at hz;rcases bC hz with⟨b2,hz⟩|⟨b2,hz⟩
  .obtain⟨x,c,hz⟩:=bS hz;obtain⟨y,d,hz⟩:=bS hz;have hq:=(cr c).1;rcases bC hz with⟨b3,hz⟩|⟨b3,hz⟩
   .obtain rfl:=Bo hz;exact jw [hr 107 b2,Az 112 (ac.ixrZ 0 (Bp c)),Az 113 (ac.pt0Z aW (Bp c)),Az 116 (ac.ixrZ 0 (Bp d)),Az 117 (ac.pt0Z aW (Bp d)),hcp 118 1 hv x y,hr 119 b3,hbb 122 (Xl (q:=q) aa)] [hc (rfl:l1.length=l1.length),hc hv.im,hc (ac.imm l1)] (n _ rfl)
   .obtain rfl:=Bo hz;obtain rfl:=g _ rfl;exact yl 111111111102220 [hr 107 b2,Az 112 (ac.ixrZ 0 (Bp c)),Az 113 (ac.pt0Z aW (Bp c)),Az 116 (ac.ixrZ 0 (Bp d)),Az 117 (ac.pt0Z aW (Bp d)),hcp 118 1 hv x y,hr 119 b3] [hc (rfl:l1.length=l1.length),hc hv.im,hc (ac.imm l1)] kk
  .obtain rfl:=Bo hz;obtain rfl:=g _ rfl;exact yl 111111111102220 [hr 107 b2] [hc (rfl:l1.length=l1.length),hc hv.im,hc (ac.imm l1)] kk
 clear ei;refine Ix 1111111111022210 (AaI gl fi fa fc a (b+1) l1 i1 t) ?_ λkk=>?_;rotate_left
 .skip;refine pN (λq:Nat=>AaI gl fi fa fc a (b+1) l1 i1 q) [1,1,1,1,1,1,1,1,1,0,2,2,2,1,0,2,2] ej [] [hc (rfl:l1.length=l1.length),hc hv.im,hc (ac.imm l1)] (λu q v hz n g=>?_);unfold scD at hz;rcases bC hz with⟨b2,hz⟩|⟨b2,hz⟩
  .obtain⟨x,c,hz⟩:=bS hz;obtain⟨y,d,hz⟩:=bS hz;have hq:=(cr c).1;rcases bC hz with⟨b3,hz⟩|⟨b3,hz⟩
   .obtain rfl:=Bo hz;obtain rfl:=g _ rfl;exact yl 1111111111022210 [hr 125 b2,Az 130 (ac.ixrZ 0 (Bp c)),Az 131 (ac.pt0Z aW (Bp c)),Az 134 (ac.ixrZ 0 (Bp d)),Az 135 (ac.pt0Z aW (Bp d)),hcp 136 1 hv x y,hr 137 b3] [hc (rfl:l1.length=l1.length),hc hv.im,hc (ac.imm l1)] kk
   .obtain⟨k,rfl,rfl⟩:=AgB hz;exact jw [hr 125 b2,Az 130 (ac.ixrZ 0 (Bp c)),Az 131 (ac.pt0Z aW (Bp c)),Az 134 (ac.ixrZ 0 (Bp d)),Az 135 (ac.pt0Z aW (Bp d)),hcp 136 1 hv x y,hr 137 b3,hbb 141 (dec (q:=k) aa)] [hc (rfl:l1.length=l1.length),hc hv.im,hc (ac.imm l1)] (n _ rfl)
  .obtain rfl:=Bo hz;obtain rfl:=g _ rfl;exact yl 1111111111022210 [hr 125 b2] [hc (rfl:l1.length=l1.length),hc hv.im,hc (ac.imm l1)] kk
 clear ej;rcases bC hs with⟨b1,hs⟩|⟨b1,hs⟩
 .obtain rfl:=Bo hs;obtain rfl:=C _ rfl;obtain⟨x,y,hx,hy,e⟩:=I5 A;exact mt .ret (s0 178 gl [(10,iG (t:Int)),(11,bG false)] [(0,Bt r')] 1 1) [iG (t:Int),bG false] (hr 144 b1::hsw 169 173 175 176 hx hy e) [hc (ac.imm r')] (kd:=[(0,.row)])
 .obtain⟨hj,hs⟩:=Hz hs;obtain⟨t,rfl⟩:=AgA hj;rw[Nat.add_sub_cancel] at hs;obtain⟨l2,e2,hs⟩:=bS hs;obtain rfl:=Bo hs;obtain⟨x,y,hx,hy,e2⟩:=I5 e2;have hli:=(cr hx).1;have o:=(cr hy).1;have hl2:l1.length=l2.length:=by rw[e2];exact Uu
  exact jw (hr 144 b1::hsw 151 155 157 158 hx hy e2++[hbb 160 (Xl (q:=i1) aa),hbb 162 (dec (q:=t) aa)]) [hc hl2,hc hv.im,hc (ac.imm l2)] (k5 _ rfl)
end
section
variable {gl:Cd}
abbrev oLs(l:M0):Option Ob:=some ⟨22,l.flatMap Jc,none⟩
def Ad0(s:M0×Nat×Nat):Option ((M0×Nat×Nat)⊕M0):=bif (s.2.1:Int)<(s.2.2:Int)-1 then(bif Nat.ble s.1.length 4000 then(swZ s.1 s.2.1 (s.2.2-1)).bind λw=>some (.inl (w,s.2.1+1,s.2.2-1))else none)else some (.inr s.1)
theorem Alt{q:Nat}(h:q<1000000):lD .sub (iG (q:Int)) (iG 1)=some (iG ((q:Int)-1)):=by grind [sb]
theorem Ajz{l r:M0}(hn:l.length<=4000)(h:AB Ad0 (l,0,l.length)=some r):jg prog gl 320 [.rsl 0 0 l.length] [(0,oLs l)] 1 (.tup []) [(0,oLs r)] 1:=by
 refine pP func320 ?_;refine pN (λs:M0×Nat×Nat=>(s0 28 gl [(0,.rsl 0 0 s.1.length),(2,iG (s.2.1:Int)),(3,iG ((s.2.2:Int)-1))] [(0,oLs s.1)] 1 1)) 1122 h [hbb 6 (Alt (q:=l.length) aa)] [hc (el l),hc (nH.imm l)] (λB s w hs k5 a=>?_);obtain⟨l1,i,j⟩:=s;unfold Ad0 at hs;dsimp only at hs;rcases bC hs with⟨b1,hs⟩|⟨b1,hs⟩
 .rcases bC hs with⟨b2,hs⟩|⟨b2,hs⟩;rotate_left;· cases hs
  obtain⟨w1,e0,hs⟩:=bS hs;obtain rfl:=Bo hs;obtain⟨j,rfl⟩:∃c,j=c+1:=⟨j-1,by have:=DD b1;omega⟩;rw[Nat.add_sub_cancel] at e0 k5;obtain⟨x,y,hx,hy,e1⟩:=I5 e0;have hw1:l1.length=w1.length:=by rw[e1,List.length_set,List.length_set]
  have hi:=(cr hx).1;have hj:=(cr hy).1;have hl:=Fe b2;rw[show((j+1:Nat):Int)-1=(j:Int) by omega] at b1⊢;exact jw [hr 9 b1,Az 20 (nH.ixrZ 0 (Bp hy)),Az 21 (nH.p10Z Vs (Bp hy)),Az 24 (nH.ixrZ 0 (Bp hx)),Az 25 (nH.p10Z Vs (Bp hx)),Az 26 (nH.ixsZ 0 (stZ (x:=y) hx)),hw 26 ((l1.set i y).flatMap Jc) (nH.putZ (stZ (x:=y) hx)),Az 27 (nH.ixsZ 0 (stZ (x:=x) hy)),hw 27 (w1.flatMap Jc) (e1▸nH.putZ (Aid (w:=x) (x:=x) (z:=y) (i:=i) hy)),hbb 11 (Xl (q:=i) aa),hbb 13 (Alt (q:=j) aa)] [hc hw1,hc (nH.imm w1)] (k5 _ rfl)
 .obtain rfl:=Bo hs;obtain rfl:=a _ rfl;exact mt .normal (s0 28 gl [] [(0,oLs l1)] 1 1) [] [hr 9 b1] [hc (nH.imm l1)] (kd:=[(0,.row)])
def LU(s:M0):Option M0:=aT 24 [] s
theorem SJ{s:M0}:LC prog gl (LU s) 319 [aE Jc s] 22 Jc:=λr h=>by
 unfold LU at h;refine OW func319 ?_;refine pO 1100 (s0 8 gl [(0,aE Jc s)] [] 0 0) [] [] ?_;refine IA 0 3 4 27 22 rfl (Fe aH) (Fe aH) λb hb=>?_;cases b
 .exact EI [eu 7 nH h] (nH.imm _)
 .obtain rfl:=nH.isNil (hb rfl);obtain rfl:=mV h;exact EI [] (nH.imm [])
theorem Ad1{l r:M0}(hn:l.length<=4000)(h:AB Ad0 (l,0,l.length)=some r)(hl:r.length=l.length):ba prog gl 226 [aE Jc l] (aE Jc r):=by refine Gh func226 ?_;have hC:=SJ (gl:=gl) (s:=l) (r:=l) (by unfold LU;grind [aT]);have hM:=Ajz (gl:=gl) hn h;rw[<-hl] at hC hM;exact Ar [hz 5 [] (U2 (c:=0) aH hC (eB aH) (nH.imm l)),tN 7 [0] 1 [(0,oLs l)] [.rsl 0 0 r.length] [(0,oLs r)] hM ⟨⟨rfl,.inr ⟨rfl,nH.imm l⟩⟩,trivial⟩ ⟨⟨rfl,.inr ⟨rfl,nH.imm r⟩⟩,trivial⟩] [hc (nH.al r)]
theorem Adg{l:Bh}{a b r:M0}(hd:PJ l d=some (a,b))(hn:a.length<=4000)(h:AB Ad0 (a,0,a.length)=some r)(hl:r.length=a.length):ba prog gl 131 [aE cZ l,iG d] (aE Jc r):=by refine Gh func131 ?_;exact Ar [hf 10 (Abj gl hd),hf 14 (Ad1 (gl:=gl) hn h hl)] []
end
theorem Ahl(n:Int):SI n=zZ n:=by
 have:PG n=AE n:=by grind [PG,AE]
 grind [SI,zZ]
def lfN(n:Nat):Nat:=((zZ (n:Int)).getD 0).toNat
theorem Zu{n:Nat}(h:2<=n)(hn:n<=1000000):zZ (n:Int)=some ((lfN n:Nat):Int)/\1<=lfN n/\lfN n<n:=by obtain⟨v,e,k,rfl,h1,h2⟩:=Oc h hn;grind [lfN]
def O4:Nat->Bh->M0
 |0,_=>[]
 |n+1,l=>if l.length=0 then[]else if l.length=1 then[l]else l::(O4 n (l.take (lfN l.length))++O4 n (l.drop (lfN l.length)))
def YA(d:Int):Nat->Bh->M0
 |0,_=>[]
 |n+1,l=>if l.length<=1 then[l]else l::(if d∈l.take (lfN l.length)then YA d n (l.take (lfN l.length))else YA d n (l.drop (lfN l.length)))
theorem SK(d:Int):∀(n m:Nat) (l:Bh),l.length<n->l.length<m->l.length<=1000000->YA d n l=YA d m l
 |0,_,_,h,_,_=>(by grind)
 |_,0,_,_,h,_=>(by grind)
 |n+1,m+1,l,h,h',hl=>by
  unfold YA;split
  .rfl
  .obtain⟨_,k1,k2⟩:=Zu (n:=l.length) aa hl;rw[SK d n m (l.take (lfN l.length)) cq cq cq,SK d n m (l.drop (lfN l.length)) cq cq cq]
theorem aas:∀(nn:Nat) (l:Bh),l.length<nn->l.length<=1000000->KS nn l=some (O4 nn l)/\(O4 nn l).length<=2*l.length-1
 |0,_,h,_=>absurd h (Nat.not_lt_zero _)
 |nn+1,l,h,hl=>by
  unfold KS O4;by_cases h0:l.length=0
  .simp[ah,h0]
  by_cases h1:l.length=1
  .simp[ah,h1]
  obtain⟨e,k1,k2⟩:=Zu (n:=l.length) aa hl;obtain⟨e2,n2⟩:=aas nn (l.take (lfN l.length)) cq cq;obtain⟨e3,a⟩:=aas nn (l.drop (lfN l.length)) cq cq;rw[show decide (ah l=0)=false from C5 (by unfold ah;omega),show decide (ah l=1)=false from C5 (by unfold ah;omega),A7,A7,show ah l=(l.length:Int) from rfl,e,aL,BW h0,BW h1];rw[LL] at n2;rw[List.length_drop] at a;constructor
  .refine T.eq (.bind (.pre aa aa ?_));rw[EO,e2,aL];refine .bind (.app (by simp only[List.length_singleton];omega) (.bind (.suf aa aa ?_)));rw[EO,e3,aL];exact .bind (.app (by simp only[Ub,List.length_singleton];omega) (.some aC))
  grind
theorem Ui:∀(nn:Nat) (l:Bh),∀s∈O4 nn l,∀x∈s,x∈l
 |0,_=>by simp[O4]
 |nn+1,l=>by
  intro s hs x hx;unfold O4 at hs;split at hs
  .cases hs
  split at hs
  .grind
  .rcases EZ.1 hs with rfl|hs
   .exact hx
   rcases I6.1 hs with hs|hs
   .exact List.mem_of_mem_take (Ui nn _ s hs x hx)
   .exact List.mem_of_mem_drop (Ui nn _ s hs x hx)
theorem aat(d:Int):∀(nn:Nat) (l:Bh),l.length<nn->l.length<=1000000->l.Nodup->(O4 nn l).filter (λs=>decide (d∈s))=if d∈l then YA d nn l else[]
 |0,_,h,_,_=>(by grind)
 |nn+1,l,h,hl,hnd=>by
  by_cases hd:d∈l
  .rw[Bz hd];have hp:0<l.length:=List.length_pos_of_mem hd;unfold O4 YA;rw[BW aa];by_cases h1:l.length=1
   .grind
   rw[BW h1,BW aa];obtain⟨_,k1,k2⟩:=Zu (n:=l.length) aa hl;generalize lfN l.length=k at k1 k2;have e2:=aat d nn (l.take k) cq cq (by grind);have e3:=aat d nn (l.drop k) cq cq (by grind);grind [Pu]
  grind [List.filter_eq_nil_iff,Ui]
theorem Afl{l:M0}(hl:l.length<=4000):AB Ad0 (l,0,l.length)=some l.reverse:=by
 refine T.eq (T.loop (λs=>s.2.1+s.2.2=l.length/\s.1.length=l.length/\∀k,k<l.length->s.1[k]?=if s.2.1<=k/\k<s.2.2 then l[k]? else l.reverse[k]?) (λs=>s.2.2) (by grind) (by grind) ?_);rintro⟨w,i,j⟩ ⟨h1,h2,h3⟩;simp only at h1 h2 h3;unfold Ad0;refine .dec (λh0=>?_) λh0=> .some (show w=l.reverse from ?_)
 .have h0:(i:Int)<(j:Int)-1:=h0;rw[show Nat.ble (w,i,j).1.length 4000=true from(by grind [RT]),ax];have hi:i<w.length:=aa;have hj:j-1<w.length:=aa;have e:swZ w i (j-1)=some ((w.set i (w[j-1]'hj)).set (j-1) (w[i]'hi)):=by grind [swZ]
  show T ((swZ w i (j-1)).bind _) _;rw[e,aL];refine .some ⟨⟨by grind,by simp[h2],λk hk=>?_⟩,by grind⟩;have ei:=h3 i aa;have ej:=h3 (j-1) aa;have ek:=h3 k hk;rw[Bz (by grind)] at ei;rw[Bz (by grind)] at ej;show((w.set i _).set (j-1) _)[k]?=if i+1<=k/\k<j-1 then _ else _
  rw[List.getElem?_set,List.getElem?_set];by_cases k1:j-1=k
  .grind
  grind
 .have h0:¬(i:Int)<(j:Int)-1:=h0;refine List.ext_getElem? λk=>?_;grind
theorem Ahm{l:Bh}(hl:l.length<=3000)(hd:d∈l):∃b,PJ l d=some (YA d (l.length+1) l,b):=by
 unfold PJ;rw[UG aa,aL,show(l.any λy=>decide (d=y))=true from(by grind),Bool.not_true,A7];obtain⟨R,hR⟩:∃R,YA d (l.length+1) l=R:=⟨_,rfl⟩;rw[hR];have key:T (AB (PH d) (l,[],[])) λv=>∃b,v= .inr (R,b):=by
  refine T.loop (λs:Bh×M0×M0=>d∈s.1/\s.1.length<=3000/\s.2.1.length+s.1.length<=6000/\s.2.2.length+s.1.length<=6000/\s.2.1++YA d (s.1.length+1) s.1=R) (λs=>s.1.length) (by grind) (by grind) ?_;rintro⟨c,a,f⟩ ⟨h1,h2,h3,h4,h5⟩;simp only at h1 h2 h3 h4 h5;have hp:0<c.length:=List.length_pos_of_mem h1;unfold PH fF;dsimp only;refine .bind (.app (by grind) (.bind (.app (by grind) ?_)));rw[Ni];unfold YA at h5;by_cases hc:c.length<2
  .rw[show Nt c=some ([],[]) by grind [Nt,ah],aL];rw[Bz aa] at h5;exact .some ⟨f,by rw[<-h5]⟩
  obtain⟨e,k1,k2⟩:=Zu (n:=c.length) aa aa;rw[BW aa] at h5;generalize lfN c.length=k at e k1 k2 h5;have eK:Nt c=some (c.take k,c.drop k):=by unfold Nt fF;rw[C5 (by grind [ah]),A7,show ah c=(c.length:Int) from rfl,Ahl,e,aL];refine T.eq (.bind (.pre aa aa ?_));grind [T.bind,T.app,T.suf,T.some]
  have lt:(c.take k).length=k:=by grind
  have ld:(c.drop k).length=c.length-k:=List.length_drop;rw[eK,aL];dsimp only;rw[show decide (ah (c.drop k)=0)=false from(by grind [ah]),A7,UG aa,aL];have hx:d∈c.take k\/d∈c.drop k:=by grind [Pu]
  rw[SK d c.length ((c.take k).length+1) (c.take k) aa aa aa,SK d c.length ((c.drop k).length+1) (c.drop k) aa aa aa] at h5;by_cases ht:d∈c.take k
  .rw[show((c.take k).any λy=>decide (d=y))=true from(by grind),ax];rw[Bz ht] at h5;refine .bind (.app (by grind) (.some (by constructor<;>grind)));all_goals grind
  .rw[show((c.take k).any λy=>decide (d=y))=false from(by grind),A7];rw[BW ht] at h5;refine .bind (.app (by grind) (.some (by constructor<;>grind)));all_goals grind
 obtain⟨v,e,b,rfl⟩:=key;rw[e];exact⟨b,rfl⟩
def RnF(l:Bk):Prop:=∀κ,l.map (qg κ 19)=l
abbrev oN1(s:Nat):Option Ob:=some ⟨3,[iG (s:Int)],none⟩
def o2S(cmp:Ab->Ab->Int)(l:A3)(a b s:Nat):Option (Nat×Nat×Nat):=(l[b]?).bind λy=>(l[a]?).bind λx=>bif cmp y x<0 then some (b,a,s+1)else some (a,b,s)
def meS(cmp:Ab->Ab->Int)(l:A3)(a b c s:Nat):Option (Nat×Nat):=(o2S cmp l a b s).bind λd=>(o2S cmp l d.2.1 c d.2.2).bind λe=>(o2S cmp l d.1 e.1 e.2.2).bind λf=>some (f.2.1,f.2.2)
def chS(cmp:Ab->Ab->Int)(l:A3)(a:Nat):Option (Nat×Bool):=(meS cmp l (a+3) (a+6) (a+9) 0).bind λr=>bif r.2<=3 then some (r.1,decide ((r.2:Int)=0))else none
def scS(cmp:Ab->Ab->Int)(l:A3)(b k:Nat):Option (Nat⊕Nat):=bif ((k+1:Nat):Int)<(b:Int)then(l[k+1]?).bind λx=>(l[k]?).bind λy=>bif cmp x y<0 then some (.inr k)else some (.inl (k+1))else some (.inr k)
def piS(cmp:Ab->Ab->Int)(l:A3)(a b:Nat):Fp:=(AB (scS cmp l b) a).bind λk=>some (decide (((k+1:Nat):Int)=(b:Int)))
section
variable {gl:Cd} {fi:FuncId} {fa fc:Bk} {cmp:Ab->Ab->Int} (hv:CmV gl fi fa fc cmp)
include hv
theorem Aie{s:Nat}(hs:s<1000)(h:o2S cmp l a b s=some (u,v,w)):jg prog gl 388 [.rsl 0 0 l.length,iG (a:Int),iG (b:Int),.ref 1 0,Su fi fa fc] [(0,Bt l),(1,oN1 s)] 2 (.tup [iG (u:Int),iG (v:Int)]) [(0,Bt l),(1,oN1 w)] 2:=by
 unfold o2S at h;obtain⟨y,hy,h⟩:=bS h;obtain⟨x,hx,h⟩:=bS h;refine pP func388 ?_;rcases bC h with⟨b1,h⟩|⟨b1,h⟩
 .simp only[Fm,Fw] at h;obtain⟨rfl,rfl,rfl⟩:=h;exact mt .ret (s0 32 gl [(10,iG (b:Int)),(11,iG (a:Int))] [(0,Bt l),(1,oN1 (s+1))] 2 2) [iG (b:Int),iG (a:Int)] [Az 15 (ac.ixrZ 0 (Bp hy)),Az 16 (ac.pt0Z aW (Bp hy)),Az 19 (ac.ixrZ 0 (Bp hx)),Az 20 (ac.pt0Z aW (Bp hx)),hcp 21 2 hv y x,hr 22 b1,hbb 26 (Xl (q:=s) aa)] [hc (ac.imm l)] (kd:=[(0,.row)])
 .simp only[Fm,Fw] at h;obtain⟨rfl,rfl,rfl⟩:=h;exact mt .ret (s0 32 gl [(10,iG (a:Int)),(11,iG (b:Int))] [(0,Bt l),(1,oN1 s)] 2 2) [iG (a:Int),iG (b:Int)] [Az 15 (ac.ixrZ 0 (Bp hy)),Az 16 (ac.pt0Z aW (Bp hy)),Az 19 (ac.ixrZ 0 (Bp hx)),Az 20 (ac.pt0Z aW (Bp hx)),hcp 21 2 hv y x,hr 22 b1] [hc (ac.imm l)] (kd:=[(0,.row)])
variable (ra:RnF fa) (rc:RnF fc)
include ra rc
theorem rn5{κ:Nat->Fu}{a b c d:G}{e f g h:G}(h1:qg κ 20 a=e)(h2:qg κ 20 b=f)(h3:qg κ 20 c=g)(h4:qg κ 20 d=h):[a,b,c,d,Su fi fa fc].map (qg κ 20)=[e,f,g,h,Su fi fa fc]:=by show[qg κ 20 a,qg κ 20 b,qg κ 20 c,qg κ 20 d,.clo (.func fi) (fa.map (qg κ 19)) (fc.map (qg κ 19))]=_;rw[h1,h2,h3,h4,ra κ,rc κ]
abbrev ho2(d:Nat){l:A3}{a b s u v w:Nat}(hs:s<1000)(h:o2S cmp l a b s=some (u,v,w)):HP:=tN d [0,1] 2 [(0,Bt l),(1,oN1 s)] [.rsl 0 0 l.length,iG (a:Int),iG (b:Int),.ref 1 0,Su fi fa fc] [(0,Bt l),(1,oN1 w)] (Aie hv hs h) ⟨⟨rfl,.inr ⟨rfl,ac.imm l⟩⟩,⟨rfl,.inl rfl⟩,trivial⟩ ⟨⟨rfl,.inr ⟨rfl,ac.imm l⟩⟩,⟨rfl,.inl rfl⟩,trivial⟩ (hgs:=rn5 hv ra rc rfl rfl rfl rfl)
theorem Al8{s:Nat}(h:o2S cmp l a b s=some (u,v,w)):w<=s+1/\((u=a/\v=b)\/(u=b/\v=a)):=by grind [o2S]
theorem Ako{c s:Nat}(hs:s<100)(h:meS cmp l a b c s=some (m,w)):jg prog gl 367 [.rsl 0 0 l.length,iG (a:Int),iG (b:Int),iG (c:Int),.ref 1 0,Su fi fa fc] [(0,Bt l),(1,oN1 s)] 2 (iG (m:Int)) [(0,Bt l),(1,oN1 w)] 2:=by unfold meS at h;obtain⟨⟨u1,f,w1⟩,e1,h⟩:=bS h;obtain⟨⟨g,i,w2⟩,e2,h⟩:=bS h;obtain⟨⟨j,d,e⟩,e3,h⟩:=bS h;simp only[Fm,Fw] at h;obtain⟨rfl,rfl⟩:=h;have k1:=(Al8 hv ra rc e1).1;have k2:=(Al8 hv ra rc e2).1;dsimp only at e2 e3 k2;refine pP func367 ?_;exact mt .ret (s0 41 gl [(12,iG (d:Int))] [(0,Bt l),(1,oN1 e)] 2 2) [iG (d:Int)] [ho2 hv ra rc 19 aa e1,ho2 hv ra rc 28 aa e2,ho2 hv ra rc 37 aa e3] [hc (ac.imm l)] (kd:=[(0,.row)])
def Big(a b:Nat):Prop:=(a=0/\b=13)\/(a=0/\b=14)\/(a=1/\b=14)
abbrev Al9(d:Nat){l:A3}{a b c m w:Nat}(h:meS cmp l a b c 0=some (m,w)):HP:=tN d [0,1] 2 [(0,Bt l),(1,oN1 0)] [.rsl 0 0 l.length,iG (a:Int),iG (b:Int),iG (c:Int),.ref 1 0,Su fi fa fc] [(0,Bt l),(1,oN1 w)] (Ako hv ra rc B5 h) ⟨⟨rfl,.inr ⟨rfl,ac.imm l⟩⟩,⟨rfl,.inl rfl⟩,trivial⟩ ⟨⟨rfl,.inr ⟨rfl,ac.imm l⟩⟩,⟨rfl,.inl rfl⟩,trivial⟩ (hgs:=congrArg (G.rsl 0 0 l.length::·) (rn5 hv ra rc rfl rfl rfl rfl))
theorem Akp{l:A3}{a b m:Nat}{f:Bool}(hB:Big a b)(h:chS cmp l a=some (m,f)):jg prog gl 313 [.rsl 0 0 l.length,iG (a:Int),iG (b:Int),Su fi fa fc] [(0,Bt l)] 1 (.tup [iG (m:Int),iG (bif f then 1 else 0)]) [(0,Bt l)] 1:=by
 unfold chS at h;obtain⟨⟨c,w⟩,e,h⟩:=bS h;obtain⟨hw,h⟩:=Hz h;have hw:=DD hw;dsimp only at hw;simp only[Fm,Fw] at h;obtain⟨rfl,rfl⟩:=h;have hn:decide ((w:Int)=12)=false:=C5 aa;refine pP func313 ?_;cases b1:decide ((w:Int)=0) with
 |true=>
  rcases hB with⟨rfl,rfl⟩|⟨rfl,rfl⟩|⟨rfl,rfl⟩
  all_goals exact mt .ret (s0 63 gl [(8,iG (c:Int)),(9,iG 1)] [(0,Bt l)] 1 1) [iG (c:Int),iG 1] [Al9 hv ra rc 54 e,hr 58 b1] [hc (ac.imm l)] (kd:=[(0,.row)])
 |false=>
  rcases hB with⟨rfl,rfl⟩|⟨rfl,rfl⟩|⟨rfl,rfl⟩
  all_goals exact mt .ret (s0 63 gl [(8,iG (c:Int)),(9,iG 0)] [(0,Bt l)] 1 1) [iG (c:Int),iG 0] [Al9 hv ra rc 54 e,hr 58 b1,hr 61 hn] [hc (ac.imm l)] (kd:=[(0,.row)])
omit ra rc
theorem Akq{l:A3}{a b:Nat}{f:Bool}(hl:l.length<=1000)(ha:a<1000)(hb:b<=1000)(i:b-a<50)(h:piS cmp l a b=some f):jg prog gl 315 [.rsl 0 0 l.length,iG (a:Int),iG (b:Int),Su fi fa fc] [(0,Bt l)] 1 (bG f) [(0,Bt l)] 1:=by
 unfold piS at h;obtain⟨k,ek,h⟩:=bS h;obtain rfl:=Bo h;refine pP func315 ?_;refine pN (λ_:Unit=>(s0 141 gl [(0,.rsl 0 0 l.length),(1,iG (a:Int)),(2,iG (b:Int)),(3,Su fi fa fc),(9,iG ((a+1:Nat):Int)),(10,iG 0)] [(0,Bt l)] 1 1)) 1110122 Lg [hbb 14 (Xl (q:=a) aa)] [hc (el l),hc hv.im,hc (ac.imm l)] (λB z w hz2 g d=>?_);clear g d hz2;refine Ix 11101221020 (s0 141 gl [(0,.rsl 0 0 l.length),(1,iG (a:Int)),(2,iG (b:Int)),(3,Su fi fa fc),(9,iG ((k+1:Nat):Int)),(10,iG 0)] [(0,Bt l)] 1 1) ?_ λkk=>?_;rotate_left
 .refine pN (λk:Nat=>(s0 141 gl [(0,.rsl 0 0 l.length),(1,iG (a:Int)),(2,iG (b:Int)),(3,Su fi fa fc),(9,iG ((k+1:Nat):Int)),(10,iG 0)] [(0,Bt l)] 1 1)) 1110122102022 ek [] [hc (el l),hc hv.im,hc (ac.imm l)] (λj k v hz g d=>?_);unfold scS at hz;rcases bC hz with⟨b2,hz⟩|⟨b2,hz⟩
  .obtain⟨x,c,hz⟩:=bS hz;obtain⟨y,e,hz⟩:=bS hz;have hq:=(cr c).1;rcases bC hz with⟨b3,hz⟩|⟨b3,hz⟩
   .obtain rfl:=Bo hz;obtain rfl:=d _ rfl;exact yl 11101221020 [hr 21 b2,Az 26 (ac.ixrZ 0 (Bp c)),Az 27 (ac.pt0Z aW (Bp c)),hbb 30 (dec (q:=k) aa),Az 31 (ac.ixrZ 0 (Bp e)),Az 32 (ac.pt0Z aW (Bp e)),hcp 33 1 hv x y,hr 34 b3] [hc (el l),hc hv.im,hc (ac.imm l)] kk
   .obtain rfl:=Bo hz;exact jw [hr 21 b2,Az 26 (ac.ixrZ 0 (Bp c)),Az 27 (ac.pt0Z aW (Bp c)),hbb 30 (dec (q:=k) aa),Az 31 (ac.ixrZ 0 (Bp e)),Az 32 (ac.pt0Z aW (Bp e)),hcp 33 1 hv x y,hr 34 b3,hbb 38 (Xl (q:=k+1) aa)] [hc (el l),hc hv.im,hc (ac.imm l)] (g _ rfl)
  .obtain rfl:=Bo hz;obtain rfl:=d _ rfl;exact yl 11101221020 [hr 21 b2] [hc (el l),hc hv.im,hc (ac.imm l)] kk
 clear ek;cases b1:decide (((k+1:Nat):Int)=(b:Int)) with
 |true=>exact mt .ret (s0 141 gl [(8,bG true)] [(0,Bt l)] 1 1) [bG true] [hr 41 b1] [hc (ac.imm l)] (kd:=[(0,.row)])
 |false=>exact mt .ret (s0 141 gl [(8,bG false)] [(0,Bt l)] 1 1) [bG false] [hr 41 b1,hbb 44 (sb (a:=(b:Int)) (b:=(a:Int)) (z:=(b:Int)-(a:Int)) rfl aa),hr 45 (show decide ((b:Int)-(a:Int)<50)=true from CO aa)] [hc (ac.imm l)] (kd:=[(0,.row)])
omit hv
abbrev oXs(s:Nat):Option Ob:=some ⟨370,[uG (s:Int)],none⟩
def rnX:Nat->Nat
 |0=>13
 |1=>14069506893
 |2=>14988908846326605643
 |_=>3428281591454193221
theorem AaJ(j:Nat)(h:j<3):jg prog gl 347 [.ref 0 0] [(0,oXs (rnX j))] 1 (uG (rnX (j+1):Int)) [(0,oXs (rnX (j+1)))] 1:=by
 refine pP func347 ?_;rcases(by omega:j=0\/j=1\/j=2) with rfl|rfl|rfl
 .exact mt .ret (s0 33 gl [(2,uG 14069506893)] [(0,oXs 14069506893)] 1 1) [uG 14069506893] [] []
 .exact mt .ret (s0 33 gl [(2,uG 14988908846326605643)] [(0,oXs 14988908846326605643)] 1 1) [uG 14988908846326605643] [] []
 .exact mt .ret (s0 33 gl [(2,uG 3428281591454193221)] [(0,oXs 3428281591454193221)] 1 1) [uG 3428281591454193221] [] []
theorem Akr:ba prog gl 346 [iG 13] (uG 16):=by have h:=RC gl (n:=13) B5;refine Gh func346 ?_;exact Ar [hf 5 h] []
end
theorem dJa{P:Br}{fn:Func}{Q:Exit->St->Prop}{Bs:List (St->Prop)}{m:Bool}{p:Bq}{st:St}(q:Bq)(J:St)(kk:Gp P fn Q Bs false q J)(h:Gp P fn Q Bs false q J->Gp P fn Q Bs m p st):Gp P fn Q Bs m p st:=h kk
def brT(s:Nat×A3):Option ((Nat×A3)⊕A3):=match s.1 with
 |0=>(swZ s.2 6 1).bind λl=>some (.inl (1,l))
 |1=>(swZ s.2 7 12).bind λl=>some (.inl (2,l))
 |2=>(swZ s.2 8 6).bind λl=>some (.inl (3,l))
 |3=>some (.inr s.2)
 |_=>none
def brG(l:A3)(a b c:Nat)(d:Bool):Option (A3×Nat):=bif d then some (l,c)else bif Nat.beq a 1&&Nat.beq b 14 then(AB brT (0,l)).bind λr=>bif Nat.beq l.length r.length then some (r,c-1)else none else none
def agG(cmp:Ab->Ab->Int)(l:A3)(a p:Nat):Fp:=bif Nat.blt 0 a then(l[a-1]?).bind λy=>(l[p]?).bind λx=>some (decide (cmp y x<0))else some true
def Aif(a b:Nat):Bool:=(Nat.beq a 0&&Nat.beq b 13)||((Nat.beq a 0&&Nat.beq b 14)||(Nat.beq a 1&&Nat.beq b 14))
theorem Aig(h:Aif a b=true):Big a b:=by
 unfold Aif at h;simp only[Bool.or_eq_true,bA] at h;rcases h with⟨h1,h2⟩|⟨h1,h2⟩|⟨h1,h2⟩
 .exact .inl ⟨bc h1,bc h2⟩
 .exact .inr (by grind [bc])
 .exact .inr (by grind [bc])
abbrev PdS:Type:=A3×Nat×Nat×Nat×Bool×Bool
def pdN(cmp:Ab->Ab->Int)(a b c:Nat)(m:Nat)(f:Bool)(l:A3):Option (PdS⊕A3):=
 bif a<=m/\m<b then(bif (m:Int)-(a:Int)<(b:Int)-(m:Int)then(inI cmp (a:Int) (m:Int) l).bind λl3=>bif Nat.beq l.length l3.length then some (.inl (l3,m+1,b,c,decide ((1:Int)<=(m:Int)-(a:Int)),f))else none
  else(inI cmp ((m+1:Nat):Int) (b:Int) l).bind λl3=>bif Nat.beq l.length l3.length then some (.inl (l3,a,m,c,decide ((1:Int)<=(b:Int)-(m:Int)),f))else none)else none
def pdT(cmp:Ab->Ab->Int)(s:PdS):Option (PdS⊕A3):=
 bif s.1.length<=1000/\s.2.1<=100/\s.2.2.1<=100 then
 bif (s.2.2.1:Int)-(s.2.1:Int)<=12 then(inI cmp (s.2.1:Int) (s.2.2.1:Int) s.1).bind λr=>some (.inr r)
 else bif Aif s.2.1 s.2.2.1&&(Nat.blt 0 s.2.2.2.1&&Nat.ble s.2.2.2.1 100) then
  (brG s.1 s.2.1 s.2.2.1 s.2.2.2.1 s.2.2.2.2.1).bind λq=>bif q.1.length<=1000 then(chS cmp q.1 s.2.1).bind λc=>(bif s.2.2.2.2.1&&s.2.2.2.2.2&&c.2 then piS cmp q.1 s.2.1 s.2.2.1 else some false).bind λd=>bif d then some (.inr q.1) else
  (agG cmp q.1 s.2.1 c.1).bind λok=>bif ok then(paS cmp s.2.1 s.2.2.1 c.1 q.1).bind λr=>bif Nat.beq q.1.length r.2.2.length then pdN cmp s.2.1 s.2.2.1 q.2 r.1 r.2.1 r.2.2 else none else none else none
 else none else none
section
variable {gl:Cd} {fi:FuncId} {fa fc:Bk} {cmp:Ab->Ab->Int} (hv:CmV gl fi fa fc cmp)
include hv
theorem Akt(h:AB brT (0,l)=some r):jg prog gl 312 [.rsl 0 0 l.length,iG 1,iG 14,Su fi fa fc] [(0,Bt l)] 1 (.tup []) [(0,Bt r)] 1:=by
 have hn:=Akr (gl:=gl);have h0:=AaJ (gl:=gl) 0 B5;have h1:=AaJ (gl:=gl) 1 B5;have h2:=AaJ (gl:=gl) 2 B5;refine pP func312 ?_;refine pN (λs:Nat×A3=>(s0 67 gl [(0,.rsl 0 0 s.2.length),(1,iG 1),(8,iG 13),(9,.ref 1 0),(10,uG 16),(11,iG ((6+s.1:Nat):Int))] [(0,Bt s.2),(1,oXs (rnX s.1))] 2 1)) 111311122 h [hf 21 hn] [hc (el l),hc (ac.imm l)] (λB s w hs k5 a=>?_);obtain⟨j,l⟩:=s;unfold brT at hs;dsimp only at hs;split at hs
 .obtain⟨l1,e1,hs⟩:=bS hs;obtain rfl:=Bo hs;obtain⟨x,y,hx,hy,e⟩:=I5 e1;have hl:l.length=l1.length:=by rw[e];exact Uu
  exact jw (tN 38 [1] 2 [(1,oXs (rnX 0))] [.ref 1 0] [(0,oXs (rnX 1))] h0 ⟨⟨rfl,.inl rfl⟩,trivial⟩ ⟨⟨rfl,.inl rfl⟩,trivial⟩::hsw 59 63 65 66 hx hy e) [hc hl,hc (ac.imm l1)] (k5 _ rfl)
 .obtain⟨l1,e1,hs⟩:=bS hs;obtain rfl:=Bo hs;obtain⟨x,y,hx,hy,e⟩:=I5 e1;have hl:l.length=l1.length:=by rw[e];exact Uu
  exact jw (tN 38 [1] 2 [(1,oXs (rnX 1))] [.ref 1 0] [(0,oXs (rnX 2))] h1 ⟨⟨rfl,.inl rfl⟩,trivial⟩ ⟨⟨rfl,.inl rfl⟩,trivial⟩::hsw 59 63 65 66 hx hy e) [hc hl,hc (ac.imm l1)] (k5 _ rfl)
 .obtain⟨l1,e1,hs⟩:=bS hs;obtain rfl:=Bo hs;obtain⟨x,y,hx,hy,e⟩:=I5 e1;have hl:l.length=l1.length:=by rw[e];exact Uu
  exact jw (tN 38 [1] 2 [(1,oXs (rnX 2))] [.ref 1 0] [(0,oXs (rnX 3))] h2 ⟨⟨rfl,.inl rfl⟩,trivial⟩ ⟨⟨rfl,.inl rfl⟩,trivial⟩::hsw 59 63 65 66 hx hy e) [hc hl,hc (ac.imm l1)] (k5 _ rfl)
 .obtain rfl:=Bo hs;obtain rfl:=a _ rfl;exact mt .normal (s0 67 gl [] [(0,Bt l)] 1 1) [] [] [hc (ac.imm l)] (kd:=[(0,.row)])
 .cases hs
variable (ra:RnF fa) (rc:RnF fc)
include ra rc
theorem rnA{κ:Nat->Fu}{x y:G}(h1:qg κ 20 x=y)(h:L.map (qg κ 20)=L):(x::(L++[Su fi fa fc])).map (qg κ 20)=y::(L++[Su fi fa fc]):=by rw[Fi,List.map_append,h1,h];show y::(L++[.clo (.func fi) (fa.map (qg κ 19)) (fc.map (qg κ 19))])=_;rw[ra κ,rc κ]
abbrev hI(d:Nat)(L:Bk){f:FuncId}{l r:A3}{res:G}(hM:jg prog gl f (.rsl 0 0 l.length::(L++[Su fi fa fc])) [(0,Bt l)] 1 res [(0,Bt r)] 1)(hL:L.map (qg (vi [0]) 20)=L):HP:=tN d [0] 1 [(0,Bt l)] (.rsl 0 0 l.length::(L++[Su fi fa fc])) [(0,Bt r)] hM ⟨⟨rfl,.inr ⟨rfl,ac.imm l⟩⟩,trivial⟩ ⟨⟨rfl,.inr ⟨rfl,ac.imm r⟩⟩,trivial⟩ (hgs:=rnA hv ra rc rfl hL)
omit hv ra rc in
theorem mcL{f:FuncId}{res:G}{n:Nat}(e:n=l.length)(hM:jg prog gl f (.rsl 0 0 l.length::L) [(0,Bt l)] 1 res [(0,Bt r)] 1):jg prog gl f (.rsl 0 0 n::L) [(0,Bt l)] 1 res [(0,Bt r)] 1:=e▸hM
abbrev hI2(d:Nat)(L:Bk){f:FuncId}{l r:A3}{res:G}{n:Nat}(e:n=l.length)(hM:jg prog gl f (.rsl 0 0 l.length::(L++[Su fi fa fc])) [(0,Bt l)] 1 res [(0,Bt r)] 1)(hL:L.map (qg (vi [0]) 20)=L):HP:=tN d [0] 1 [(0,Bt l)] (.rsl 0 0 n::(L++[Su fi fa fc])) [(0,Bt r)] (mcL e hM) ⟨⟨rfl,.inr ⟨rfl,ac.imm l⟩⟩,trivial⟩ ⟨⟨rfl,.inr ⟨rfl,ac.imm r⟩⟩,trivial⟩ (hgs:=rnA hv ra rc rfl hL)
theorem Rf{a b:Nat}(ha:a<=1000)(hb:b<=1000)(c:(b:Int)-(a:Int)<=12)(h:inI cmp (a:Int) (b:Int) l=some r)(k:Int):jg prog gl 223 [.rsl 0 0 l.length,iG (a:Int),iG (b:Int),iG k,Su fi fa fc] [(0,Bt l)] 1 (.tup []) [(0,Bt r)] 1:=by have hs:=sb (a:=(b:Int)) (b:=(a:Int)) (z:=(b:Int)-(a:Int)) rfl aa;have hd:=CO c;refine pP func223 ?_;refine pN (λ_:Unit=>(s0 148 gl [(0,.rsl 0 0 l.length),(1,iG (a:Int)),(2,iG (b:Int)),(3,iG k),(4,Su fi fa fc)] [(0,Bt l)] 1 1)) 11122 Lg [] [hc (el l),hc hv.im,hc (ac.imm l)] (λd z v hz2 e f=>?_);exact mt .ret (s0 148 gl [] [(0,Bt r)] 1 1) [] [hbb 23 hs,hr 25 hd,hI hv ra rc 30 [iG (a:Int),iG (b:Int)] (AdK hv h) rfl] [hc (ac.imm r)] (kd:=[(0,.row)])
abbrev AnM(gl:Cd)(fi:FuncId)(fa fc:Bk)(s:PdS):St:=(s0 148 gl [(0,.rsl 0 0 s.1.length),(1,iG (s.2.1:Int)),(2,iG (s.2.2.1:Int)),(3,iG (s.2.2.2.1:Int)),(4,Su fi fa fc),(10,bG s.2.2.2.2.1),(11,bG s.2.2.2.2.2)] [(0,Bt s.1)] 1 1)
theorem Aku{s:PdS}(h:AB (pdT cmp) s=some r)(h1:s.2.2.2.2=(true,true)):jg prog gl 223 [.rsl 0 0 s.1.length,iG (s.2.1:Int),iG (s.2.2.1:Int),iG (s.2.2.2.1:Int),Su fi fa fc] [(0,Bt s.1)] 1 (.tup []) [(0,Bt r)] 1:=by
 refine pP func223 ?_;obtain⟨l,a,b,g,j,par⟩:=s;obtain⟨rfl,rfl⟩:=Prod.mk.inj h1;clear h1;refine pN (AnM gl fi fa fc) [1,1,2,2] h [] [hc (el l),hc hv.im,hc (ac.imm l)] (λB s w hs k5 C=>?_);clear h l a b g;obtain⟨l,a,b,g,j,par⟩:=s;unfold pdT at hs;dsimp only at hs;obtain⟨hg,hs⟩:=Hz hs;obtain⟨hl,ha,hb⟩:=DD hg;have o:=sb (a:=(b:Int)) (b:=(a:Int)) (z:=(b:Int)-(a:Int)) rfl aa;rcases bC hs with⟨b1,hs⟩|⟨b1,hs⟩
 .obtain⟨r',A,hs⟩:=bS hs;obtain rfl:=Bo hs;obtain rfl:=C _ rfl;exact mt .ret (s0 148 gl [] [(0,Bt r')] 1 1) [] [hbb 23 o,hr 25 b1,hI hv ra rc 30 [iG (a:Int),iG (b:Int)] (AdK hv A) rfl] [hc (ac.imm r')] (kd:=[(0,.row)])
 obtain⟨u,hs⟩:=Hz hs;simp only[bA] at u;obtain⟨hB,hl1,hl2⟩:=u;have hB:=Aig hB;have hlim:0<g:=Fe hl1;have hlim2:g<=100:=Fe hl2;clear hl1 hl2;obtain⟨⟨l1,c⟩,k,hs⟩:=bS hs;dsimp only at hs;obtain⟨v,hs⟩:=Hz hs;have hll:=DD v;obtain⟨⟨p,Xl⟩,D,hs⟩:=bS hs;dsimp only at hs;obtain⟨d,ed,hs⟩:=bS hs;refine dJa [1,1,2,2,2,1,1,1,1,0] (s0 148 gl [(0,.rsl 0 0 l1.length),(1,iG (a:Int)),(2,iG (b:Int)),(3,iG (c:Int)),(4,Su fi fa fc),(10,bG j),(11,bG par),(12,iG ((b:Int)-(a:Int)))] [(0,Bt l1)] 1 1) ?_ λkk=>?_;rotate_left
 .have hn0:decide ((g:Int)=0)=false:=C5 aa;unfold brG at k;cases j with
  |true=>obtain⟨rfl,rfl⟩:=Prod.mk.inj (Bo k);exact pO 11122211110 _ [hbb 23 o,hr 25 b1,hr 32 hn0] [hc (el l),hc hv.im,hc (ac.imm l)] kk
  |false=>obtain⟨t,k⟩:=Hz k;rw[bA] at t;obtain rfl:=bc t.1;obtain rfl:=bc t.2;obtain⟨r',A,k⟩:=bS k;obtain⟨hle,k⟩:=Hz k;have hle:=bc hle;obtain⟨q,rfl⟩:∃q,g=q+1:=⟨g-1,aa⟩;rw[Nat.add_sub_cancel] at k;obtain⟨rfl,rfl⟩:=Prod.mk.inj (Bo k);exact pO 11122211110 _ [hbb 23 o,hr 25 b1,hr 32 hn0,hI hv ra rc 44 [iG 1,iG 14] (Akt hv A) rfl,hbb 46 (dec (q:=q) aa)] [hc hle,hc hv.im,hc (ac.imm r')] kk
 clear k b1 o hlim hlim2;have i:=Akp hv ra rc (b:=b) hB D;have hpi:=λe=>Akq hv (l:=l1) (a:=a) (b:=b) (f:=d) hll aa aa (by rcases hB with⟨rfl,rfl⟩|⟨rfl,rfl⟩|⟨rfl,rfl⟩<;>decide) e;cases d with
 |true=>
  obtain rfl:=Bo hs;obtain rfl:=C _ rfl;cases j with
  |false=>cases ed
  |true=>cases par with
   |false=>cases ed
   |true=>cases Xl with
    |false=>cases ed
    |true=>
     have hpi:=hpi ed
     exact mt .ret (s0 148 gl [] [(0,Bt l1)] 1 1) [] [hI hv ra rc 52 [iG (a:Int),iG (b:Int)] i rfl,hI hv ra rc 80 [iG (a:Int),iG (b:Int)] hpi rfl] [hc (ac.imm l1)] (kd:=[(0,.row)])
 |false=>
 refine dJa [1,1,2,2,2,1,1,1,1,1,1,1,0,0] (s0 148 gl [(0,.rsl 0 0 l1.length),(1,iG (a:Int)),(2,iG (b:Int)),(3,iG (c:Int)),(4,Su fi fa fc),(12,iG ((b:Int)-(a:Int))),(13,iG (p:Int))] [(0,Bt l1)] 1 1) ?_ λkk=>?_;rotate_left
 .cases j with
  |false=>cases par<;>cases Xl<;>exact pO 111222111111100 _ [hI hv ra rc 52 [iG (a:Int),iG (b:Int)] i rfl] [hc (el l1),hc hv.im,hc (ac.imm l1)] kk
  |true=>cases par with
   |false=>cases Xl<;>exact pO 111222111111100 _ [hI hv ra rc 52 [iG (a:Int),iG (b:Int)] i rfl] [hc (el l1),hc hv.im,hc (ac.imm l1)] kk
   |true=>cases Xl with
    |false=>exact pO 111222111111100 _ [hI hv ra rc 52 [iG (a:Int),iG (b:Int)] i rfl] [hc (el l1),hc hv.im,hc (ac.imm l1)] kk
    |true=>
     have hpi:=hpi ed
     exact pO 111222111111100 _ [hI hv ra rc 52 [iG (a:Int),iG (b:Int)] i rfl,hI hv ra rc 80 [iG (a:Int),iG (b:Int)] hpi rfl] [hc (el l1),hc hv.im,hc (ac.imm l1)] kk
 clear i hpi ed D;rw[A7] at hs;obtain⟨ok,n,hs⟩:=bS hs;rcases hB with⟨rfl,rfl⟩|⟨rfl,rfl⟩|⟨rfl,rfl⟩
 .clear n;obtain⟨hok,hs⟩:=Hz hs;subst hok;obtain⟨⟨m,f,l2⟩,ep,hs⟩:=bS hs;dsimp only at hs;obtain⟨h2,hs⟩:=Hz hs;have h2:=bc h2;unfold pdN at hs;obtain⟨hm,hs⟩:=Hz hs;have hm:=DD hm;rcases bC hs with⟨b2,hs⟩|⟨b2,hs⟩
  .have b3:=DD b2;obtain⟨l3,e3,hs⟩:=bS hs;obtain⟨h3,hs⟩:=Hz hs;have h3:=h2.trans (bc h3);obtain rfl:=Bo hs;exact jw [hI hv ra rc 111 [iG ((0:Nat):Int),iG ((13:Nat):Int),iG (p:Int)] (Re hv hll aa aa aa ep) rfl,hbb 117 (sb (a:=(m:Int)) (b:=((0:Nat):Int)) (z:=(m:Int)-((0:Nat):Int)) rfl aa),hbb 120 (sb (a:=((13:Nat):Int)) (b:=(m:Int)) (z:=((13:Nat):Int)-(m:Int)) rfl aa),hr 125 b2,hI2 hv ra rc 134 [iG ((0:Nat):Int),iG (m:Int),iG (c:Int)] h2 (Rf hv ra rc aa aa aa e3 (c:Int)) rfl,hbb 136 (Go.Proofs.YtlijnaneopediaaGreatDoor.Xl (q:=m) aa)] [hc h3,hc hv.im,hc (ac.imm l3)] (k5 _ rfl)
  .have b3:=Lw b2;obtain⟨l3,e3,hs⟩:=bS hs;obtain⟨h3,hs⟩:=Hz hs;have h3:=h2.trans (bc h3);obtain rfl:=Bo hs;exact jw [hI hv ra rc 111 [iG ((0:Nat):Int),iG ((13:Nat):Int),iG (p:Int)] (Re hv hll aa aa aa ep) rfl,hbb 117 (sb (a:=(m:Int)) (b:=((0:Nat):Int)) (z:=(m:Int)-((0:Nat):Int)) rfl aa),hbb 120 (sb (a:=((13:Nat):Int)) (b:=(m:Int)) (z:=((13:Nat):Int)-(m:Int)) rfl aa),hr 125 b2,hbb 142 (Go.Proofs.YtlijnaneopediaaGreatDoor.Xl (q:=m) aa),hI2 hv ra rc 146 [iG ((m+1:Nat):Int),iG ((13:Nat):Int),iG (c:Int)] h2 (Rf hv ra rc aa aa aa e3 (c:Int)) rfl] [hc h3,hc hv.im,hc (ac.imm l3)] (k5 _ rfl)
 .clear n;obtain⟨hok,hs⟩:=Hz hs;subst hok;obtain⟨⟨m,f,l2⟩,ep,hs⟩:=bS hs;dsimp only at hs;obtain⟨h2,hs⟩:=Hz hs;have h2:=bc h2;unfold pdN at hs;obtain⟨hm,hs⟩:=Hz hs;have hm:=DD hm;rcases bC hs with⟨b2,hs⟩|⟨b2,hs⟩
  .have b3:=DD b2;obtain⟨l3,e3,hs⟩:=bS hs;obtain⟨h3,hs⟩:=Hz hs;have h3:=h2.trans (bc h3);obtain rfl:=Bo hs;exact jw [hI hv ra rc 111 [iG ((0:Nat):Int),iG ((14:Nat):Int),iG (p:Int)] (Re hv hll aa aa aa ep) rfl,hbb 117 (sb (a:=(m:Int)) (b:=((0:Nat):Int)) (z:=(m:Int)-((0:Nat):Int)) rfl aa),hbb 120 (sb (a:=((14:Nat):Int)) (b:=(m:Int)) (z:=((14:Nat):Int)-(m:Int)) rfl aa),hr 125 b2,hI2 hv ra rc 134 [iG ((0:Nat):Int),iG (m:Int),iG (c:Int)] h2 (Rf hv ra rc aa aa aa e3 (c:Int)) rfl,hbb 136 (Go.Proofs.YtlijnaneopediaaGreatDoor.Xl (q:=m) aa)] [hc h3,hc hv.im,hc (ac.imm l3)] (k5 _ rfl)
  .have b3:=Lw b2;obtain⟨l3,e3,hs⟩:=bS hs;obtain⟨h3,hs⟩:=Hz hs;have h3:=h2.trans (bc h3);obtain rfl:=Bo hs;exact jw [hI hv ra rc 111 [iG ((0:Nat):Int),iG ((14:Nat):Int),iG (p:Int)] (Re hv hll aa aa aa ep) rfl,hbb 117 (sb (a:=(m:Int)) (b:=((0:Nat):Int)) (z:=(m:Int)-((0:Nat):Int)) rfl aa),hbb 120 (sb (a:=((14:Nat):Int)) (b:=(m:Int)) (z:=((14:Nat):Int)-(m:Int)) rfl aa),hr 125 b2,hbb 142 (Go.Proofs.YtlijnaneopediaaGreatDoor.Xl (q:=m) aa),hI2 hv ra rc 146 [iG ((m+1:Nat):Int),iG ((14:Nat):Int),iG (c:Int)] h2 (Rf hv ra rc aa aa aa e3 (c:Int)) rfl] [hc h3,hc hv.im,hc (ac.imm l3)] (k5 _ rfl)
 .obtain⟨y,hy,n⟩:=bS (show((l1[0]?).bind λy=>(l1[p]?).bind λx=>some (decide (cmp y x<0)))=some ok from n);obtain⟨x,hx,n⟩:=bS n;have n:=Bo n;obtain⟨hok,hs⟩:=Hz hs;subst hok;obtain⟨⟨m,f,l2⟩,ep,hs⟩:=bS hs;dsimp only at hs;obtain⟨h2,hs⟩:=Hz hs;have h2:=bc h2;unfold pdN at hs;obtain⟨hm,hs⟩:=Hz hs;have hm:=DD hm;rcases bC hs with⟨b2,hs⟩|⟨b2,hs⟩
  .have b3:=DD b2;obtain⟨l3,e3,hs⟩:=bS hs;obtain⟨h3,hs⟩:=Hz hs;have h3:=h2.trans (bc h3);obtain rfl:=Bo hs;exact jw [Az 88 (ac.ixrZ 0 (Bp hy)),Az 89 (ac.pt0Z aW (Bp hy)),Az 92 (ac.ixrZ 0 (Bp hx)),Az 93 (ac.pt0Z aW (Bp hx)),hcp 94 1 hv y x,hr 95 n,hI hv ra rc 111 [iG ((1:Nat):Int),iG ((14:Nat):Int),iG (p:Int)] (Re hv hll aa aa aa ep) rfl,hbb 117 (sb (a:=(m:Int)) (b:=((1:Nat):Int)) (z:=(m:Int)-((1:Nat):Int)) rfl aa),hbb 120 (sb (a:=((14:Nat):Int)) (b:=(m:Int)) (z:=((14:Nat):Int)-(m:Int)) rfl aa),hr 125 b2,hI2 hv ra rc 134 [iG ((1:Nat):Int),iG (m:Int),iG (c:Int)] h2 (Rf hv ra rc aa aa aa e3 (c:Int)) rfl,hbb 136 (Go.Proofs.YtlijnaneopediaaGreatDoor.Xl (q:=m) aa)] [hc h3,hc hv.im,hc (ac.imm l3)] (k5 _ rfl)
  .have b3:=Lw b2;obtain⟨l3,e3,hs⟩:=bS hs;obtain⟨h3,hs⟩:=Hz hs;have h3:=h2.trans (bc h3);obtain rfl:=Bo hs;exact jw [Az 88 (ac.ixrZ 0 (Bp hy)),Az 89 (ac.pt0Z aW (Bp hy)),Az 92 (ac.ixrZ 0 (Bp hx)),Az 93 (ac.pt0Z aW (Bp hx)),hcp 94 1 hv y x,hr 95 n,hI hv ra rc 111 [iG ((1:Nat):Int),iG ((14:Nat):Int),iG (p:Int)] (Re hv hll aa aa aa ep) rfl,hbb 117 (sb (a:=(m:Int)) (b:=((1:Nat):Int)) (z:=(m:Int)-((1:Nat):Int)) rfl aa),hbb 120 (sb (a:=((14:Nat):Int)) (b:=(m:Int)) (z:=((14:Nat):Int)-(m:Int)) rfl aa),hr 125 b2,hbb 142 (Go.Proofs.YtlijnaneopediaaGreatDoor.Xl (q:=m) aa),hI2 hv ra rc 146 [iG ((m+1:Nat):Int),iG ((14:Nat):Int),iG (c:Int)] h2 (Rf hv ra rc aa aa aa e3 (c:Int)) rfl] [hc h3,hc hv.im,hc (ac.imm l3)] (k5 _ rfl)
end
structure OrN {α:Type} (cmp:α->α->Int) (D:α->Prop):Prop where
 tr:∀x y z,cmp x y<0->cmp y z<0->cmp x z<0
 tt:∀x y,D x->D y->x≠y->cmp x y<0\/cmp y x<0
def Rg{α:Type}(a b:Nat)(l r:List α):Prop:=r.Perm l/\∀q,(q<a\/b<=q)->r[q]?=l[q]?
def SoR{α:Type}(cmp:α->α->Int)(a b:Nat)(l:List α):Prop:=∀p q x y,a<=p->p<q->q<b->l[p]?=some x->l[q]?=some y->cmp x y<0
def OrX{α:Type}(cmp:α->α->Int)(a b:Nat)(l:List α):Prop:=∀p q x y,p<q->¬(a<=p/\q<b)->l[p]?=some x->l[q]?=some y->cmp x y<0
theorem Rg.refl{α:Type}{a b:Nat}(l:List α):Rg a b l l:=⟨.refl _,λ_ _=>rfl⟩
theorem Rg.trans{α:Type}{a b:Nat}{l r s:List α}(h:Rg a b l r)(k:Rg a b r s):Rg a b l s:=⟨k.1.trans h.1,λq hq=>(k.2 q hq).trans (h.2 q hq)⟩
theorem Rg.mono{α:Type}{a b a' b':Nat}{l r:List α}(h:Rg a b l r)(ha:a'<=a)(hb:b<=b'):Rg a' b' l r:=⟨h.1,λq hq=>h.2 q aa⟩
theorem Rg.len{α:Type}{a b:Nat}{l r:List α}(h:Rg a b l r):r.length=l.length:=h.1.length_eq
theorem MT{l:List α}(h:l.Nodup){q:Nat}{x:α}(h1:l[p]?=some x)(h2:l[q]?=some x):p=q:=by grind [List.getElem?_inj]
theorem Rg.src{α:Type}{a b:Nat}{l r:List α}(h:Rg a b l r)(hn:l.Nodup){q:Nat}{y:α}(h1:a<=q)(h2:q<b)(hy:r[q]?=some y):∃c,a<=c/\c<b/\l[c]?=some y:=by
 obtain⟨c,hq⟩:=G9 (h.1.mem_iff.1 (bO hy));refine⟨c,?_⟩;rcases(by omega:(c<a\/b<=c)\/(a<=c/\c<b)) with h3|h3
 .have:=MT (h.1.nodup_iff.2 hn) hy ((h.2 c h3).trans hq);omega
 .exact⟨h3.1,h3.2,hq⟩
theorem OrX.rg{α:Type}{cmp:α->α->Int}{a b:Nat}{l r:List α}(h:OrX cmp a b l)(k:Rg a b l r)(hn:l.Nodup):OrX cmp a b r:=by
 have src:∀q y,r[q]?=some y->∃c,l[c]?=some y/\(c=q\/(a<=q/\q<b/\a<=c/\c<b)):=λq y hy=>by
  rcases(by omega:(q<a\/b<=q)\/(a<=q/\q<b)) with h3|h3
  .exact⟨q,(k.2 q h3).symm.trans hy,.inl rfl⟩
  grind [Rg.src]
 intro p q x y e hb hx hy;obtain⟨f,hx',hp⟩:=src p x hx;obtain⟨c,d,hq⟩:=src q y hy;exact h f c x y aa aa hx' d
theorem AcT{l:List α}{i j:Nat}(hi:i<l.length)(hj:j<l.length):∃r,swZ l i j=some r/\r.Perm l/\∀q,r[q]?=if q=j then l[i]? else if q=i then l[j]? else l[q]? :=by refine⟨(l.set i l[j]).set j l[i],?_,List.set_set_perm hi hj,λq=>?_⟩;all_goals grind [swZ]
theorem XS{a b i j:Nat}{l r:List α}(h:r.Perm l)(hq:∀q,r[q]?=if q=j then l[i]? else if q=i then l[j]? else l[q]?)(h1:a<=i)(h2:i<b)(h3:a<=j)(h4:j<b):Rg a b l r:=by constructor<;>grind
section
variable {α:Type} {cmp:α->α->Int} {D:α->Prop} (hO:OrN cmp D)
include hO
theorem OrN.lt{l:List α}(hn:l.Nodup)(hD:∀z∈l,D z){p q:Nat}{x y:α}(hx:l[p]?=some x)(hy:l[q]?=some y)(a:p≠q)(h:¬cmp y x<0):cmp x y<0:=by grind [OrN,MT]
theorem SoR.all{a b:Nat}{l:List α}(h:SoR cmp a b l)(k:OrX cmp a b l):SoR cmp 0 l.length l:=λp q x y _ c _ hx hy=>by
 by_cases hh:a<=p/\q<b
 .exact h p q x y hh.1 c hh.2 hx hy
 .exact k p q x y c hh hx hy
theorem AaK{a b:Nat}{l:List α}(hn:l.Nodup)(hD:∀z∈l,D z)(ha:a<=1000)(hb:b<=l.length)(hl:l.length<=1000):T (inI cmp (a:Int) (b:Int) l) λr=>Rg a b l r/\SoR cmp a b r:=by
 unfold inI;rw[show wI ((a:Int)+1)=wI ((a:Nat)+1) from rfl];rw[aq aa];refine T.loop (λs=>∃i:Nat,s.2=(i:Int)/\a+1<=i/\(i<=b\/i=a+1)/\Rg a b l s.1/\SoR cmp a i s.1) (λs=>b-s.2.toNat) ⟨a+1,rfl,Dl _,.inr rfl,.refl l,λp q x y h1 h2 h3=>aa⟩ (by show b-_<_;omega) ?_;rintro⟨l1,A⟩ ⟨i,e,h1,h2,h3,h4⟩;dsimp only at e h3 h4;subst e;have f:=h3.1.nodup_iff.2 hn;have hl1:=h3.len;unfold AaH;dsimp only;refine .dec (λhlt=>?_) λhge=> .some ⟨h3,λp q x y k1 k2 k3=>h4 p q x y k1 k2 aa⟩;have hib:i<b:=aa;refine .bind ((T.loop (λs=>∃j:Nat,s.2=(j:Int)/\a<=j/\j<=i/\Rg a b l1 s.1/\∀p q x y,a<=p->p<q->q<=i->q≠j->s.1[p]?=some x->s.1[q]?=some y->cmp x y<0) (λs=>s.2.toNat) (Q:=λr=>Rg a b l1 r/\SoR cmp a (i+1) r) ⟨i,rfl,aa,Dl _,.refl l1,λp q x y k1 k2 k3 d=>h4 p q x y k1 k2 aa⟩ (by show((i:Int)).toNat<_;omega) ?_).mono λr hr=> .some ⟨⟨i+1,aq aa,aa,.inl aa,h3.trans hr.1,hr.2⟩,?_⟩)
 .rintro⟨l2,B⟩ ⟨j,e,k1,k2,k3,d⟩;dsimp only at e k3 d;subst e;have g:=k3.1.nodup_iff.2 f;have hl2:=k3.len;unfold AaG;dsimp only;refine .dec (λh=>?_) λh=> .some ⟨k3,λp q x y m1 m2 m3=>d p q x y m1 m2 aa aa⟩;obtain⟨k,rfl⟩:∃k,j=k+1:=⟨j-1,aa⟩;have ew:wI (((k+1:Nat):Int)-1)=(k:Int):=by grind [bM]
  have gx:l2[k+1]?=some (l2[k+1]'aa):=EH _;have gy:l2[k]?=some (l2[k]'aa):=EH _;generalize l2[k+1]'aa=x at gx;generalize l2[k]'aa=y at gy;rw[ew,au,au,gx,gy,aL,aL];refine .dec (λhc=>?_) λhc=> .some ⟨k3,λp q u v m1 m2 m3 hu hv=>?_⟩
  .obtain⟨r,t,pr,m⟩:=AcT (l:=l2) (i:=k+1) (j:=k) aa aa;obtain⟨C,E,hx',c,n⟩:=I5 t;rw[gx] at hx';rw[gy] at c;cases hx';cases c;rw[stZ (x:=y) gx,aL,Aid (w:=x) (x:=x) (z:=y) (i:=k+1) gy,aL,<-n];refine .some ⟨⟨k,rfl,aa,aa,k3.trans (XS pr m aa aa aa aa),λp q u v m1 m2 m3 o hu hv=>?_⟩,by simp_all⟩;rw[m p] at hu;rw[m q] at hv;rw[BW o] at hv;by_cases c1:q=k+1
   .subst c1;rw[Bz rfl,gy] at hv;cases hv;by_cases c2:p=k
    .grind
    .rw[BW c2,BW aa] at hu;grind
   .rw[BW c1] at hv;by_cases c2:p=k
    .grind
    .rw[BW c2] at hu;by_cases c3:p=k+1;all_goals grind
  .have hyx:=hO.lt g (λz hz=>hD z (h3.1.mem_iff.1 (k3.1.mem_iff.1 hz))) gy gx aa hc;by_cases c1:q=k+1
   .subst c1;rw[gx] at hv;cases hv;by_cases c2:p=k
    .grind
    .exact hO.tr _ _ _ (d p k u y m1 aa aa aa hu gy) hyx
   grind
 .show b-((wI ((i:Int)+1))).toNat<b-((i:Int)).toNat;rw[aq aa];omega
end
section
variable {cmp:Ab->Ab->Int} (hO:OrN cmp λ_=>True)
include hO
structure PI (cmp:Ab->Ab->Int) (l0:A3) (a b:Nat) (pv:Ab) (l:A3) (i j:Nat):Prop where
 rg:Rg a b l0 l
 gp:l[a]?=some pv
 hi:a+1<=i
 hj:j<b
 hij:i<=j+1
 lo:∀q x,a<q->q<i->l[q]?=some x->cmp x pv<0
 up:∀q x,j<q->q<b->l[q]?=some x->¬cmp x pv<0
omit hO in
theorem AgD{i:Nat}{β:Type}{K:Nat->Nat->Option β}{Q:β->Prop}(h:PI cmp l0 a b pv l i j)(hb:b<=l.length)(hl:l.length<=1000)
  (g:∀e d,PI cmp l0 a b pv l e d->d<=j->(d<e\/(e<d/\(∃x,l[e]?=some x/\¬cmp x pv<0)/\∃y,l[d]?=some y/\cmp y pv<0))->T (K e d) Q):
  T ((AB (scU cmp l a j) i).bind λe=>(AB (scD cmp l a e) j).bind λd=>K e d) Q:=by
 have hj:=h.hj
 refine .bind ((T.loop (λe=>PI cmp l0 a b pv l e j) (λe=>j+1-e) (Q:=λe=>PI cmp l0 a b pv l e j/\(j<e\/∃x,l[e]?=some x/\¬cmp x pv<0)) h aa λe h'=>?_).mono λe hi=>?_)
 .unfold scU
  refine .dec (λhc=>?_) λhc=> .some ⟨h',.inl aa⟩
  have gx:l[e]?=some (l[e]'aa):=EH _
  generalize l[e]'aa=x at gx
  rw[gx,h'.gp,aL,aL]
  refine .dec (λhx=> .some ⟨⟨h'.rg,h'.gp,Nat.le_succ_of_le h'.hi,h'.hj,aa,λq y k1 k2 hy=>?_,h'.up⟩,aa⟩) λhx=> .some ⟨h',.inr ⟨x,gx,hx⟩⟩
  grind [PI.lo]
 .obtain⟨hi,hx⟩:=hi
  refine .bind ((T.loop (λd=>PI cmp l0 a b pv l e d/\d<=j) (λd=>d) (Q:=λd=>(PI cmp l0 a b pv l e d/\d<=j)/\(d<e\/∃y,l[d]?=some y/\cmp y pv<0)) ⟨hi,Dl _⟩ aa λd ⟨h',f⟩=>?_).mono λd hj'=>?_)
  .unfold scD
   refine .dec (λhc=>?_) λhc=> .some ⟨⟨h',f⟩,.inl aa⟩
   have:=h'.hi
   have:=h'.hj
   have gx:l[d]?=some (l[d]'aa):=EH _
   generalize l[d]'aa=y at gx
   rw[gx,h'.gp,aL,aL]
   refine .dec (λhy=> .some ⟨⟨h',f⟩,.inr ⟨y,gx,hy⟩⟩) λhy=>?_
   rw[show Nat.blt 0 d=true from RT aa,ax]
   refine .some ⟨⟨⟨h'.rg,h'.gp,h'.hi,aa,aa,h'.lo,λq x k1 k2 hx=>?_⟩,aa⟩,aa⟩
   by_cases c:q=d
   .grind
   .exact h'.up q x aa k2 hx
  grind
omit hO in
theorem AiZ{i:Nat}(h:PI cmp l0 a b pv l i j)(hb:b<=l.length)(hij:i<j)(gx:l[i]?=some x)(hx:¬cmp x pv<0)(gy:l[j]?=some y)(hy:cmp y pv<0):∃r,swZ l i j=some r/\PI cmp l0 a b pv r (i+1) (j-1)/\0<j:=by
 have h1:=h.hi;have h2:=h.hj;obtain⟨r,e,pr,d⟩:=AcT (l:=l) (i:=i) (j:=j) aa aa;refine⟨r,e,⟨h.rg.trans (XS pr d aa aa aa aa),?_,aa,aa,aa,λq z k1 k2 hz=>?_,λq z k1 k2 hz=>?_⟩,aa⟩
 .grind [PI.gp]
 .grind [PI.lo]
 .rw[d q] at hz;by_cases c:q=j
  .grind
  .rw[BW c,BW aa] at hz;exact h.up q z aa k2 hz
def Prt(cmp:Ab->Ab->Int)(a b m:Nat)(l:A3):Prop:=a<=m/\m<b/\∃c,l[m]?=some c/\(∀q x,a<=q->q<m->l[q]?=some x->cmp x c<0)/\∀q x,m<q->q<b->l[q]?=some x->¬cmp x c<0
omit hO in
theorem AgE{i:Nat}(h:PI cmp l0 a b pv l i j)(hb:b<=l.length)(hij:j<i):∃r,swZ l j a=some r/\Rg a b l0 r/\Prt cmp a b j r:=by
 have h1:=h.hi;have h2:=h.hj;have h3:=h.hij;obtain⟨r,c,pr,d⟩:=AcT (l:=l) (i:=j) (j:=a) aa aa;refine⟨r,c,h.rg.trans (XS pr d aa aa aa aa),aa,aa,pv,?_,λq x k1 k2 hx=>?_,λq x k1 k2 hx=>?_⟩
 .grind [PI.gp]
 .grind [PI]
 grind [PI.up]
theorem Amd(hl:l.length<=1000)(hb:b<=l.length)(hap:a<=p)(c:p<b):T (paS cmp a b p l) λr=>Rg a b l r.2.2/\Prt cmp a b r.1 r.2.2:=by
 obtain⟨l0,e0,d,q0⟩:=AcT (l:=l) (i:=a) (j:=p) aa aa;have hl0:=d.length_eq;have g:=XS (a:=a) (b:=b) d q0 (Dl _) aa hap c;unfold paS;refine .eqb e0 ?_;have gp:l0[a]?=some (l0[a]'aa):=EH _;generalize l0[a]'aa=pv at gp;have h0:PI cmp l a b pv l0 (a+1) (b-1):=by grind [PI]
 refine AgD h0 aa aa λi j h1 _ h2=>?_;refine .dec (λhc=>?_) λhc=>?_
 .grind [AgE,T.some]
 .rcases h2 with h2|⟨h2,⟨x,gx,hx⟩,y,gy,hy⟩
  .omega
  obtain⟨l1,e1,k1,k2⟩:=AiZ h1 aa h2 gx hx gy hy;rw[show Nat.blt 0 j=true from RT k2,ax];refine .eqb e1 (.bind ((T.loop (λs=>PI cmp l a b pv s.1 s.2.1 s.2.2) (λs=>s.2.2) (Q:=λs=>∃i,PI cmp l a b pv s.1 i s.2/\s.2<i) k1 (by grind) ?_).mono λs hs=>?_))
  .rintro⟨l2,h,e⟩ h3;dsimp only at h3;have hl2:=h3.rg.len;unfold paT;dsimp only;rw[CO aa,ax];refine AgD h3 aa aa λi j h4 f h5=>?_;refine .dec (λhc=> .some ⟨i,h4,by show j<i;omega⟩) λhc=>?_;rcases h5 with h5|⟨h5,⟨x,gx,hx⟩,y,gy,hy⟩
   .omega
   obtain⟨l3,e3,m1,m2⟩:=AiZ h4 aa h5 gx hx gy hy;rw[show Nat.blt 0 j=true from RT m2,ax];refine .eqb e3 (.some ⟨m1,?_⟩);show j-1<e;omega
  .obtain⟨i,h3,h4⟩:=hs;have:=h3.rg.len;grind [AgE,T.some]
omit hO in
theorem Akv{x y s:Nat}(hx:x<l.length)(hy:y<l.length):T (o2S cmp l x y s) λr=>((r.1=x/\r.2.1=y)\/(r.1=y/\r.2.1=x))/\r.2.2<=s+1:=by grind [o2S,T.some]
omit hO in
theorem AnN(hB:Big a b)(hb:b<=l.length):T (chS cmp l a) λr=>a<=r.1/\r.1<b:=by
 have h9:a+9<b:=by rcases hB with⟨rfl,rfl⟩|⟨rfl,rfl⟩|⟨rfl,rfl⟩<;>omega
 unfold chS meS;refine .bind (.bind ((Akv aa aa).mono λd h1=> .bind ((Akv aa aa).mono λe h2=> .bind ((Akv aa aa).mono λc h3=> .some ?_))));dsimp only at*;rw[CO (show c.2.2<=3 by omega),ax];exact .some (show a<=c.2.1/\c.2.1<b by omega)
theorem AnO(hn:l.Nodup)(hb:b<=l.length)(d:a<b)(hl:l.length<=1000):T (piS cmp l a b) λf=>f=true->SoR cmp a b l:=by
 have adj:∀k,(∀q x y,a<=q->q<k->l[q]?=some x->l[q+1]?=some y->cmp x y<0)->SoR cmp a (k+1) l:=λk h=>by
  have key:∀n p x y,a<=p->p+n+1<=k->l[p]?=some x->l[p+n+1]?=some y->cmp x y<0:=by
   intro n;induction n with
   |zero=>grind
   |succ n ih=>intro p x y h1 h2 hx hy;have hlt:=(cr hy).1;have hz:l[p+n+1]?=some (l[p+n+1]'aa):=EH _;exact hO.tr _ _ _ (ih p x _ h1 aa hx hz) (h (p+n+1) _ y aa aa hz hy)
  intro p q x y h1 h2 h3 hx hy;obtain⟨n,rfl⟩:∃n,q=p+n+1:=⟨q-p-1,aa⟩;exact key n p x y h1 aa hx hy
 unfold piS;refine .bind ((T.loop (λk=>a<=k/\k<b/\∀q x y,a<=q->q<k->l[q]?=some x->l[q+1]?=some y->cmp x y<0) (λk=>b-k) (Q:=λk=>k<b/\∀q x y,a<=q->q<k->l[q]?=some x->l[q+1]?=some y->cmp x y<0) (by grind) aa λk hk=>?_).mono λk hk=> .some λhf=>?_)
 .obtain⟨h1,h2,h3⟩:=hk;unfold scS;refine .dec (λhc=>?_) λhc=> .some ⟨h2,h3⟩;have gx:l[k+1]?=some (l[k+1]'aa):=EH _;have gy:l[k]?=some (l[k]'aa):=EH _;generalize l[k+1]'aa=x at gx;generalize l[k]'aa=y at gy;rw[gx,gy,aL,aL];refine .dec (λhx=> .some ⟨h2,h3⟩) λhx=> .some ⟨⟨aa,aa,λq u v k1 k2 hu hv=>?_⟩,aa⟩;by_cases c:q=k
  .subst c;grind [OrN.lt]
  grind
 .have hf:=DD hf;have:=adj k hk.2;grind
omit hO in
theorem AnP(hl:l.length=14):T (AB brT (0,l)) λr=>Rg 1 14 l r:=by
 refine T.loop (λs=>s.1<=3/\Rg 1 14 l s.2) (λs=>3-s.1) ⟨Nat.zero_le _,.refl l⟩ (show 3-0<4611686018427387904 by decide) ?_;rintro⟨j,r⟩ ⟨h1,h2⟩;dsimp only at h1 h2;have hr:=h2.len;unfold brT;rcases(by omega:j=0\/j=1\/j=2\/j=3) with rfl|rfl|rfl|rfl
 .obtain⟨r',e,p,q⟩:=AcT (l:=r) (i:=6) (j:=1) aa aa;exact .eqb e (.some ⟨⟨show 1<=3 by decide,h2.trans (XS p q B5 B5 B5 B5)⟩,show 3-1<3-0 by decide⟩)
 .obtain⟨r',e,p,q⟩:=AcT (l:=r) (i:=7) (j:=12) aa aa;exact .eqb e (.some ⟨⟨show 2<=3 by decide,h2.trans (XS p q B5 B5 B5 B5)⟩,show 3-2<3-1 by decide⟩)
 .obtain⟨r',e,p,q⟩:=AcT (l:=r) (i:=8) (j:=6) aa aa;exact .eqb e (.some ⟨⟨show 3<=3 by decide,h2.trans (XS p q B5 B5 B5 B5)⟩,show 3-3<3-2 by decide⟩)
 .exact .some h2
structure PdI (cmp:Ab->Ab->Int) (l0:A3) (s:PdS):Prop where
 pm:s.1.Perm l0
 ab:s.2.1<=s.2.2.1
 bn:s.2.2.1<=l0.length
 ox:OrX cmp s.2.1 s.2.2.1 s.1
 lm:12<s.2.2.1-s.2.1->4<=s.2.2.2.1+(14-(s.2.2.1-s.2.1))
 lh:s.2.2.2.1<=100
 bl:s.2.2.2.2.1=false->s.2.2.1-s.2.1<=12\/(s.2.1=1/\s.2.2.1=14)
theorem Ame(hn:l0.Nodup)(hl:l0.length<=14){s:PdS}(h0:PdI cmp l0 s):T (AB (pdT cmp) s) λr=>r.Perm l0/\SoR cmp 0 r.length r:=by
 refine T.loop (PdI cmp l0) (λs=>s.2.2.1-s.2.1) h0 (by grind [PdI]) ?_;rintro⟨l,a,b,n,A,par⟩ ⟨pm,ab,bn,ox,lm,lh,bl⟩;dsimp only at pm ab bn ox lm lh bl;have hll:=pm.length_eq;have hnl:=pm.nodup_iff.2 hn;unfold pdT;dsimp only;rw[CO (by grind),ax];refine .dec (λhc=>?_) λhc=>?_
 .refine .bind ((AaK hO hnl (λ_ _=>trivial) aa aa aa).mono λr hr=> .some ⟨hr.1.1.trans pm,?_⟩);grind [SoR.all,OrX.rg]
 have hbig:12<b-a:=aa;have lm:=lm hbig;have hB:Big a b:=by
  rcases(by omega:(a=0/\b=13)\/(a=0/\b=14)\/(a=1/\b=14)) with⟨rfl,rfl⟩|⟨rfl,rfl⟩|⟨rfl,rfl⟩
  .exact .inl ⟨rfl,rfl⟩
  .exact .inr (.inl ⟨rfl,rfl⟩)
  .exact .inr (.inr ⟨rfl,rfl⟩)
 have hBb:Aif a b=true:=by rcases hB with⟨rfl,rfl⟩|⟨rfl,rfl⟩|⟨rfl,rfl⟩<;>rfl
 rw[hBb,show Nat.blt 0 n=true from RT aa,show Nat.ble n 100=true from RT lh];simp only[Bool.and_self,ax];have hbr:T (brG l a b n A) λq=>Rg a b l q.1/\n<=q.2+1/\q.2<=n:=by grind [brG,T.some,Rg.refl,T.bind,T.mono,AnP,Rg.len,Nat.beq_refl]
 refine .bind (hbr.mono ?_);rintro⟨l1,e⟩ ⟨i,m1,m2⟩;dsimp only at i m1 m2⊢;have hl1:=i.len;have z:=i.1.nodup_iff.2 hnl;have ox1:=ox.rg i hnl;rw[CO (show l1.length<=1000 by omega),ax];refine .bind ((AnN hB aa).mono ?_);rintro⟨p,B⟩ ⟨hp1,hp2⟩;dsimp only at hp1 hp2⊢;have hpi:T (bif A&&par&&B then piS cmp l1 a b else some false) λf=>f=true->SoR cmp a b l1:=by grind [AnO,T.some]
 refine .bind (hpi.mono λd hd=> .ite (λC=> .some ⟨i.1.trans pm,SoR.all hO (hd C) ox1⟩) λ_=>?_);have hag:agG cmp l1 a p=some true:=by
  unfold agG;cases hza:Nat.blt 0 a with
  |false=>rfl
  |true=>have hza:=Fe hza;have g1:l1[a-1]?=some (l1[a-1]'aa):=EH _;have g2:l1[p]?=some (l1[p]'aa):=EH _;rw[ax,g1,g2,aL,aL,CO (ox1 (a-1) p _ _ aa aa g1 g2)]
 refine .eqb hag ?_;rw[ax];refine .bind ((Amd hO aa aa hp1 hp2).mono ?_);rintro⟨m,f,l2⟩ ⟨j,F,H,w,o,lo,up⟩;dsimp only at j F H o lo up⊢;have hl2:=j.len;have g:=j.1.nodup_iff.2 z;have ox2:=ox1.rg j z;rw[show Nat.beq l1.length l2.length=true by rw[hl2];exact Nat.beq_refl _,ax];unfold pdN;rw[CO ⟨F,H⟩,ax];have pvx:∀q x,m<q->q<b->l2[q]?=some x->cmp w x<0:=λq x h1 h2 hx=>hO.lt g (λ_ _=>trivial) o hx aa (up q x h1 h2 hx);refine .dec (λE=>?_) λE=>?_
 .refine .bind ((AaK hO g (λ_ _=>trivial) (a:=a) (b:=m) aa aa aa).mono λl3 ⟨c,so3⟩=>?_);have rg3':=c.mono (a':=a) (b':=b) (Dl _) aa;have hl3:=c.len;rw[show Nat.beq l2.length l3.length=true by rw[hl3];exact Nat.beq_refl _,ax];have gp3:l3[m]?=some w:=(c.2 m (.inr (Dl _))).trans o;have lo3:∀q x,a<=q->q<m->l3[q]?=some x->cmp x w<0:=λq x h1 h2 hx=>by obtain⟨I,k1,k2,k3⟩:=c.src g h1 h2 hx;exact lo I x k1 k2 k3
  have up3:∀q x,m<q->q<b->l3[q]?=some x->cmp w x<0:=λq x h1 h2 hx=>pvx q x h1 h2 ((c.2 q (.inr aa)).symm.trans hx);have ox3:=ox2.rg rg3' g;refine .some ⟨⟨c.1.trans (j.1.trans (i.1.trans pm)),by show m+1<=b;omega,bn,λu v x y k hh hx hy=>?_,λt=>by show 4<=e+_;have:12<b-(m+1):=t;show 4<=e+(14-(b-(m+1)));omega,by show e<=100;omega,λhbal=>?_⟩,by show b-(m+1)<b-a;omega⟩
  .have hh:¬(m+1<=u/\v<b):=hh;by_cases c0:a<=u/\v<b
   .rcases(by omega:v<m\/v=m\/(u=m/\m<v)\/(u<m/\m<v)) with h|rfl|⟨rfl,h⟩|⟨h1,h2⟩
    .exact so3 u v x y c0.1 k h hx hy
    .grind
    .grind
    .exact hO.tr _ _ _ (lo3 u x c0.1 h1 hx) (up3 v y h2 c0.2 hy)
   .exact ox3 u v x y k c0 hx hy
  .have hbal:decide ((1:Int)<=(m:Int)-(a:Int))=false:=hbal;have:=Lw hbal;show b-(m+1)<=12\/(m+1=1/\b=14);omega
 .refine .bind ((AaK hO g (λ_ _=>trivial) (a:=m+1) (b:=b) aa aa aa).mono λl3 ⟨c,so3⟩=>?_);have rg3':=c.mono (a':=a) (b':=b) aa (Dl _);have hl3:=c.len;rw[show Nat.beq l2.length l3.length=true by rw[hl3];exact Nat.beq_refl _,ax];have gp3:l3[m]?=some w:=(c.2 m (.inl aa)).trans o;have lo3:∀q x,a<=q->q<m->l3[q]?=some x->cmp x w<0:=λq x h1 h2 hx=>lo q x h1 h2 ((c.2 q (.inl aa)).symm.trans hx);have up3:∀q x,m<q->q<b->l3[q]?=some x->cmp w x<0:=λq x h1 h2 hx=>by obtain⟨I,k1,k2,k3⟩:=c.src g aa h2 hx;grind
  have ox3:=ox2.rg rg3' g;refine .some ⟨⟨c.1.trans (j.1.trans (i.1.trans pm)),F,by show m<=l0.length;omega,λu v x y k hh hx hy=>?_,λt=>by have:12<m-a:=t;show 4<=e+(14-(m-a));omega,by show e<=100;omega,λhbal=>?_⟩,by show m-a<b-a;omega⟩
  .have hh:¬(a<=u/\v<m):=hh;by_cases c0:a<=u/\v<b
   .rcases(by omega:m+1<=u\/(u=m/\m<v)\/(u<m/\v=m)\/(u<m/\m<v)) with h|⟨rfl,h⟩|⟨h,rfl⟩|⟨h1,h2⟩
    .exact so3 u v x y h k c0.2 hx hy
    .grind
    .grind
    .exact hO.tr _ _ _ (lo3 u x c0.1 h1 hx) (up3 v y h2 c0.2 hy)
   .exact ox3 u v x y k c0 hx hy
  grind
end
def R0(cmp:Ab->Ab->Int)(l:A3):Option A3:=AB (pdT cmp) (l,0,l.length,WZ l.length,true,true)
theorem Uv{cmp:Ab->Ab->Int}(hO:OrN cmp λ_=>True){l:A3}(hn:l.Nodup)(hl:l.length<=14):T (R0 cmp l) λr=>r.Perm l/\r.Pairwise λx y=>cmp x y<0:=by
 refine(Ame hO hn hl (s:=(l,0,l.length,WZ l.length,true,true)) ⟨.refl _,Nat.zero_le _,Dl _,λp q x y h1 h2 hx hy=>?_,λh=>?_,?_,λh=>by cases h⟩).mono λr hr=>⟨hr.1,?_⟩
 .grind
 .have h:12<l.length-0:=h;show 4<=WZ l.length+(14-(l.length-0));rcases(by omega:l.length=13\/l.length=14) with e|e<;>rw[e]<;>decide
 .show WZ l.length<=100;generalize l.length=n at hl;rcases(by omega:n=0\/n=1\/n=2\/n=3\/n=4\/n=5\/n=6\/n=7\/n=8\/n=9\/n=10\/n=11\/n=12\/n=13\/n=14) with rfl|rfl|rfl|rfl|rfl|rfl|rfl|rfl|rfl|rfl|rfl|rfl|rfl|rfl|rfl<;>decide
 .rw[List.pairwise_iff_getElem];intro p q hp hq a;exact hr.2 p q _ _ (Nat.zero_le _) a hq (EH hp) (EH hq)
section
variable {gl:Cd} {fi:FuncId} {fa fc:Bk} {cmp:Ab->Ab->Int}
theorem AbN(hv:CmV gl fi fa fc cmp)(a:RnF fa)(b:RnF fc)(hl:l.length<=14)(h:R0 cmp l=some r):jg prog gl 128 [.rsl 0 0 l.length,Su fi fa fc] [(0,Bt l)] 1 (.tup []) [(0,Bt r)] 1:=by
 have e:wU (ah l)=l.length:=by unfold ah;rw[gP];omega
 have hb:ba prog gl 186 [uG (wU (ah l):Int)] (iG (WZ l.length:Int)):=by grind [RC]
 have hp:=Aku hv a b h rfl;dsimp only at hp;refine pP func128 ?_;exact mt .normal (s0 14 gl [] [(0,Bt r)] 1 1) [] [Az 10 (C8 (ah l)),hf 11 hb,hI hv a b 13 [iG ((0:Nat):Int),iG (l.length:Int),iG (WZ l.length:Int)] hp rfl] [hc (ac.imm r)] (kd:=[(0,.row)])
theorem AbO(h:Uq gg):CmV gl 129 [.agg (Nr ⟨gg⟩)] [] (M7 (Pl gg)):=⟨aH,aY (aG 20 (.agg (Nr ⟨gg⟩)) aH) bf,bf,(by grind [Ah8])⟩
theorem AgF(h:Uq gg)(hn:ids.length<=14)(hr:R0 (M7 (Pl gg)) ids=some row)(hle:row.length=ids.length):iV prog gl 62 [.ptr (Ag gg) 0,aE aj ids] 36 row.length (row.flatMap aj):=by
 have hcl:cU ids=some ids:=by grind [cU,aT]
 rw[hle];refine OW func62 ?_;exact EI [ho 7 [aE aj ids] [] (jY gl hcl) (Zy _),hI (gl:=gl) (AbO h) (λκ=>rfl) (λκ=>rfl) 12 [] (AbN (gl:=gl) (AbO h) (λκ=>rfl) (λκ=>rfl) hn hr) rfl] (ac.imm row)
theorem AbP(h:Uq gg)(hn:ids.length<=14)(hr:R0 (M7 (Pl gg)) ids=some row)(hle:row.length=ids.length):ba prog gl 62 [.ptr (Ag gg) 0,aE aj ids] (aE aj row):=(AgF h hn hr hle).fn ac.sz (ac.len _) (ac.imm _)
theorem TF(a b:Ab):ba prog gl 161 [.agg (aj a),.agg (aj b)] (bG (dt a b)):=Ns gl (EW a b)
theorem Aih(a b:Ab):ba prog gl 369 [.agg (aj a),.agg (aj b)] (iG (He a b)):=by
 have h1:=TF (gl:=gl) a b;have h2:=TF (gl:=gl) b a;unfold He;refine Gh func369 ?_;cases c1:dt a b with
 |true=>rw[c1] at h1;exact Ar [hf 7 h1] []
 |false=>
  rw[c1] at h1;cases c2:dt b a with
  |true=>rw[c2] at h2;exact Ar [hf 7 h1,hf 10 h2] []
  |false=>rw[c2] at h2;exact Ar [hf 7 h1,hf 10 h2] []
abbrev hso(d c:Nat){l r:A3}{fi:FuncId}{cmp:Ab->Ab->Int}(hv:CmV gl fi [] [] cmp)(hl:l.length<=14)(h:R0 cmp l=some r)(hlt:[0].all (λk=>Nat.blt k c)=true:=by kernel_rfl):HP:=tN d [0] c [(0,Bt l)] [.rsl 0 0 l.length,.clo (.func fi) [] []] [(0,Bt r)] (AbN hv (λκ=>rfl) (λκ=>rfl) hl h) ⟨⟨rfl,.inr ⟨rfl,ac.imm l⟩⟩,trivial⟩ ⟨⟨rfl,.inr ⟨rfl,ac.imm r⟩⟩,trivial⟩ hlt
theorem Akw:CmV gl 369 [] [] He:=⟨aH,bf,bf,(by grind [Aih])⟩
theorem Aet(hl:l.length<=14)(h:R0 He l=some r):jg prog gl 322 [.rsl 0 0 l.length] [(0,Bt l)] 1 (.rsl 0 0 l.length) [(0,Bt r)] 1:=by refine pP func322 ?_;exact mt .ret (s0 6 gl [(2,.rsl 0 0 l.length)] [(0,Bt r)] 1 1) [.rsl 0 0 l.length] [hso (gl:=gl) 4 1 Akw hl h] [hc (el l),hc (ac.imm r)]
def Y3(d a b:Int)(x:Ab):Bool:=bif x.By=d then(bif a<=x.Seq then decide (x.Seq<=b)else false)else false
abbrev hsm(d c:Nat){l r:A3}(hl:l.length<=14)(h:R0 He l=some r)(hlt:[0].all (λk=>Nat.blt k c)=true:=by kernel_rfl):HP:=tN d [0] c [(0,Bt l)] [.rsl 0 0 l.length] [(0,Bt r)] (Aet (gl:=gl) hl h) ⟨⟨rfl,.inr ⟨rfl,ac.imm l⟩⟩,trivial⟩ ⟨⟨rfl,.inr ⟨rfl,ac.imm r⟩⟩,trivial⟩ hlt
theorem Akx{a b:Int}(hn:ids.length<=14)(h:R0 He (ids.filter (Y3 d a b))=some r)(hle:r.length=(ids.filter (Y3 d a b)).length):iV prog gl 321 [aE aj ids,iG d,iG a,iG b] 36 r.length (r.flatMap aj):=by
 rw[hle];refine OW func321 ?_;refine Un (l:=ids) aa (λk:Nat=>(s0 41 gl [(1,iG d),(2,iG a),(3,iG b),(9,.rsl 0 0 ((ids.take k).filter (Y3 d a b)).length),(12,aE aj ids),(13,iG (ah ids)),(14,iG (k:Int))] [(0,Bt ((ids.take k).filter (Y3 d a b)))] 1 0)) 1110122 [] [hc (ac.imm [])] (λB k x hx c k5=>?_) (λB=>?_)
 .have hlt:=(cr hx).1;have hl:=KZ (Y3 d a b) (ids.take k);rw[LL] at hl;have e:(ids.take (k+1)).filter (Y3 d a b)=(ids.take k).filter (Y3 d a b)++(bif Y3 d a b x then[x] else[]):=by grind [Hp]
  rw[e] at k5;generalize (ids.take k).filter (Y3 d a b)=l at k5 hl⊢;unfold Y3 at k5;cases b1:decide (x.By=d) with
  |false=>rw[b1,A7,A7,Nj] at k5;exact jw [hr 15 (CM hx),Az 16 (ac.ixZ c),Az 17 (ac.ptZ aW c),hr 21 b1,hbb 38 (Xl (q:=k) aa)] [hc (el l),hc (ac.imm l)] k5
  |true=>
   rw[b1,ax] at k5;cases b2:decide (a<=x.Seq) with
   |false=>rw[b2,A7,A7,Nj] at k5;exact jw [hr 15 (CM hx),Az 16 (ac.ixZ c),Az 17 (ac.ptZ aW c),hr 21 b1,hr 26 b2,hbb 38 (Xl (q:=k) aa)] [hc (el l),hc (ac.imm l)] k5
   |true=>
    rw[b2,ax] at k5;cases b3:decide (x.Seq<=b) with
    |false=>rw[b3,A7,Nj] at k5;exact jw [hr 15 (CM hx),Az 16 (ac.ixZ c),Az 17 (ac.ptZ aW c),hr 21 b1,hr 26 b2,hr 32 b3,hbb 38 (Xl (q:=k) aa)] [hc (el l),hc (ac.imm l)] k5
    |true=>rw[b3,ax] at k5;exact jw [hr 15 (CM hx),Az 16 (ac.ixZ c),Az 17 (ac.ptZ aW c),hr 21 b1,hr 26 b2,hr 32 b3,Tn 37 ac 24 l x aa,hbb 38 (Xl (q:=k) aa)] [hc (el (l++[x])),hc (ac.imm (l++[x]))] k5
 .rw[D3];have hl:=KZ (Y3 d a b) ids;exact EI [hr 15 (DH (s:=ids)),hsm (gl:=gl) 40 1 aa h] (ac.imm r)
theorem Aky{a b:Int}(hn:ids.length<=14)(h:R0 He (ids.filter (Y3 d a b))=some r)(hle:r.length=(ids.filter (Y3 d a b)).length):ba prog gl 321 [aE aj ids,iG d,iG a,iG b] (aE aj r):=(Akx hn h hle).fn ac.sz (ac.len _) (ac.imm _)
end
def KX(x:Bf):List Value:=[.int .i64 x.Device,.int .i64 x.Seq]
theorem AaL(d:Nat)(i j:Bf):bt prog (Op.equalIn (d+3) 165 (.agg (KX i).toArray) (.agg (KX j).toArray))=some (decide (i=j)):=by obtain⟨a0,a1⟩:=i;obtain⟨b0,b1⟩:=j;unfold KX;rw[xV (fs:= #[⟨ "Device",3,0,false, "", "",0⟩,⟨ "Seq",3,1,false, "", "",8⟩]) aH aH];simp only[Array.toList];rw[uJ (k:= .i64) (k':= .i64) (a:=a0) (b:=b0) B5 aH aH aH];rw[uJ (k:= .i64) (k':= .i64) (a:=a1) (b:=b1) B5 aH aH aH];grind [Bf.mk.injEq,Op.eqFields,bz]
def EG(x:Bf):Value:= .agg (KX x).toArray
theorem OQ:MG prog 165 EG:=Qw (d:= .struct #[⟨ "Device",3,0,false, "", "",0⟩,⟨ "Seq",3,1,false, "", "",8⟩]) aH (λb k=>by cases b<;>(show _=_;kernel_rfl)) (λa b=>rfl) (λa b=>AaL 9997 a b)
theorem Amf(k:Bf):Instr.sameBits 10000 (EG k) (EG k)=true:=by(unfold EG KX;simp[Instr.sameBits])
abbrev tMk:Bn:=264
abbrev oMk(m:FM Bf Int):Option Ob:=some (Ng tMk EG iG m)
abbrev tMy:Bn:=265
abbrev oMy(m:FM Int Int):Option Ob:=some (Ng tMy JN iG m)
abbrev ZO(l:List Bf):Option Ob:=some ⟨165,l.flatMap Bu,none⟩
def UT(a b:Bf):Int:=AbK a.Device b.Device
section
variable {gl:Cd}
theorem Ail(a b:Bf):ba prog gl 214 [.agg (Bu a),.agg (Bu b)] (iG (UT a b)):=Wz gl (by unfold Uz;rw[AdH];rfl)
abbrev cmK:G:= .clo (.func 214) [] []
abbrev hcF(d:Nat)(x y:Bf):HP:=hf d (Ail (gl:=gl) x y)
theorem Amg{l w1 w2:List Bf}{i j:Int}{a b:Bf}(h1:ji l i b=some w1)(h2:ji w1 j a=some w2):fh prog 163 (.rsl 0 0 l.length) j=some (.ref 0 (0+j.toNat*2)):=by rw[hZ h1];exact Bg.ixsZ 0 h2
theorem Aim{a b:Int}{l r:List Bf}(h:inI UT a b l=some r):jg prog gl 357 [.rsl 0 0 l.length,iG a,iG b,cmK] [(0,ZO l)] 1 (.tup []) [(0,ZO r)] 1:=by
 unfold inI at h;refine pP func357 ?_;refine pN (λs:List Bf×Int=>(s0 53 gl [(0,.rsl 0 0 s.1.length),(1,iG a),(2,iG b),(3,cmK),(8,iG s.2)] [(0,ZO s.1)] 1 1)) 1122 h [] [hc (el l),hc (aG 20 cmK aH),hc (Bg.imm l)] (λB s w hs k5 f=>?_);obtain⟨l1,i⟩:=s;unfold AaH at hs;dsimp only at hs;rcases bC hs with⟨b1,hs⟩|⟨b1,hs⟩
 .obtain⟨l2,e2,hs⟩:=bS hs;obtain rfl:=Bo hs;refine Ix 11221021 (s0 53 gl [(0,.rsl 0 0 l2.length),(1,iG a),(2,iG b),(3,cmK),(8,iG i)] [(0,ZO l2)] 1 1) ?_ λkk=>?_
  .exact jw [] [hc (el l2),hc (aG 20 cmK aH),hc (Bg.imm l2)] (k5 _ rfl)
  refine pN (λs:List Bf×Int=>(s0 53 gl [(0,.rsl 0 0 s.1.length),(1,iG a),(2,iG b),(3,cmK),(8,iG i),(9,iG s.2)] [(0,ZO s.1)] 1 1)) 1122102122 e2 [hr 14 b1] [hc (el l1),hc (aG 20 cmK aH),hc (Bg.imm l1)] (λk z v hz g e=>?_);obtain⟨l3,j⟩:=z;unfold AaG at hz;dsimp only at hz;rcases bC hz with⟨b2,hz⟩|⟨b2,hz⟩
  .obtain⟨x,c,hz⟩:=bS hz;obtain⟨y,d,hz⟩:=bS hz;rcases bC hz with⟨b3,hz⟩|⟨b3,hz⟩
   .obtain⟨w1,e1,hz⟩:=bS hz;obtain⟨w2,e3,hz⟩:=bS hz;obtain rfl:=Bo hz;exact jw [hr 20 b2,Az 25 (Bg.ixrZ 0 c),Az 26 (Bg.pt0Z Hr c),Az 30 (Bg.ixrZ 0 d),Az 31 (Bg.pt0Z Hr d),hcF (gl:=gl) 32 x y,hr 33 b3,Az 45 (Bg.ixrZ 0 d),Az 46 (Bg.pt0Z Hr d),Az 49 (Bg.ixrZ 0 c),Az 50 (Bg.pt0Z Hr c),Az 51 (Bg.ixsZ 0 e1),hw 51 (w1.flatMap Bu) (Bg.putZ e1),Az 52 (Amg e1 e3),hw 52 (w2.flatMap Bu) (Bg.putZ e3)] [hc ((hZ e1).trans (hZ e3)),hc (aG 20 cmK aH),hc (Bg.imm w2)] (g _ rfl)
   .obtain rfl:=Bo hz;obtain rfl:=e _ rfl;exact yl 11221021 [hr 20 b2,Az 25 (Bg.ixrZ 0 c),Az 26 (Bg.pt0Z Hr c),Az 30 (Bg.ixrZ 0 d),Az 31 (Bg.pt0Z Hr d),hcF (gl:=gl) 32 x y,hr 33 b3] [hc (el l3),hc (aG 20 cmK aH),hc (Bg.imm l3)] kk
  .obtain rfl:=Bo hz;obtain rfl:=e _ rfl;exact yl 11221021 [hr 20 b2] [hc (el l3),hc (aG 20 cmK aH),hc (Bg.imm l3)] kk
 .obtain rfl:=Bo hs;obtain rfl:=f _ rfl;exact mt .normal (s0 53 gl [] [(0,ZO l1)] 1 1) [] [hr 14 b1] [hc (Bg.imm l1)] (kd:=[(0,.row)])
theorem Ain{l r:List Bf}(hl:l.length<=12)(h:inI UT ((0:Nat):Int) (l.length:Int) l=some r)(k:Int):jg prog gl 305 [.rsl 0 0 l.length,iG 0,iG (l.length:Int),iG k,cmK] [(0,ZO l)] 1 (.tup []) [(0,ZO r)] 1:=by have hs:=sb (a:=(l.length:Int)) (b:=((0:Nat):Int)) (z:=(l.length:Int)-((0:Nat):Int)) rfl aa;have hd:decide ((l.length:Int)-((0:Nat):Int)<=12)=true:=CO aa;refine pP func305 ?_;refine pN (λ_:Unit=>(s0 148 gl [(0,.rsl 0 0 l.length),(1,iG ((0:Nat):Int)),(2,iG (l.length:Int)),(3,iG k),(4,cmK)] [(0,ZO l)] 1 1)) 11122 Lg [] [hc (el l),hc (aG 20 cmK aH),hc (Bg.imm l)] (λc z v hz2 d e=>?_);exact mt .ret (s0 148 gl [] [(0,ZO r)] 1 1) [] [hbb 23 hs,hr 25 hd,tN 30 [0] 1 [(0,ZO l)] [.rsl 0 0 l.length,iG ((0:Nat):Int),iG (l.length:Int),cmK] [(0,ZO r)] (Aim (gl:=gl) h) ⟨⟨rfl,.inr ⟨rfl,Bg.imm l⟩⟩,trivial⟩ ⟨⟨rfl,.inr ⟨rfl,Bg.imm r⟩⟩,trivial⟩] [hc (Bg.imm r)] (kd:=[(0,.row)])
theorem AgG{l r:List Bf}(hl:l.length<=12)(h:inI UT ((0:Nat):Int) (l.length:Int) l=some r):jg prog gl 213 [.rsl 0 0 l.length,cmK] [(0,ZO l)] 1 (.tup []) [(0,ZO r)] 1:=by
 have e:wU (ah l)=l.length:=by unfold ah;rw[gP];omega
 have hb:ba prog gl 186 [uG (wU (ah l):Int)] (iG (WZ l.length:Int)):=by grind [RC]
 refine pP func213 ?_;exact mt .normal (s0 14 gl [] [(0,ZO r)] 1 1) [] [Az 10 (C8 (ah l)),hf 11 hb,tN 13 [0] 1 [(0,ZO l)] [.rsl 0 0 l.length,iG 0,iG (l.length:Int),iG (WZ l.length:Int),cmK] [(0,ZO r)] (Ain (gl:=gl) hl h (WZ l.length:Int)) ⟨⟨rfl,.inr ⟨rfl,Bg.imm l⟩⟩,trivial⟩ ⟨⟨rfl,.inr ⟨rfl,Bg.imm r⟩⟩,trivial⟩] [hc (Bg.imm r)] (kd:=[(0,.row)])
end
def fkT(s:FM Bf Int×FM Int Int)(x:Ab):FM Bf Int×FM Int Int:=
 (C6 s.1 ⟨x.By,x.Seq⟩ (wI ((s.1.get ⟨x.By,x.Seq⟩).getD 0+1)),bif wI ((s.1.get ⟨x.By,x.Seq⟩).getD 0+1)<2 then s.2 else bif(s.2.get x.By).isSome then(bif x.Seq<(s.2.get x.By).getD 0 then C6 s.2 x.By x.Seq else s.2)else C6 s.2 x.By x.Seq)
def Uw(ids:A3):FM Bf Int×FM Int Int:=ids.foldl fkT (⟨[],0⟩,⟨[],0⟩)
theorem AkA(h:RY s.1/\RY s.2):RY (fkT s x).1/\RY (fkT s x).2:=by grind [fkT,OO]
theorem XT(ids:A3):RY (Uw ids).1/\RY (Uw ids).2:=by
 have key:∀(l:A3) (s:FM Bf Int×FM Int Int),RY s.1/\RY s.2->RY (l.foldl fkT s).1/\RY (l.foldl fkT s).2:=by intro l;induction l<;>grind [AkA]
 exact key ids _ ⟨Akj,Akj⟩
theorem AbR(hx:ids[k]?=some x):Uw (ids.take (k+1))=fkT (Uw (ids.take k)) x:=by grind [Uw,Hp]
theorem lkF(m:FM Bf Int)(k:Bf){v:Int}(h:(m.get k).getD 0=v):bL prog [(0,oMk m)] tMk false (.mref 0) (.agg (Bu k))=some (iG v):=h▸(Te (et:=3) OQ aH (k:=k) rfl R9).trans (FM.look1 (et:=3) (v0:=0) OQ aH aH m k rfl _)
theorem lkY(m:FM Int Int)(k:Int){v:Int}{b:Bool}(h:(m.get k).getD 0=v)(hb:(m.get k).isSome=b):bL prog [(1,oMy m)] tMy true (.mref 1) (iG k)=some (.tup [iG v,bG b]):=h▸hb▸(Te (et:=3) PE aH (k:=k) rfl R9).trans (FM.look (et:=3) (v0:=0) PE aH aH m k rfl _)
def hnl(d:Nat){P:Br}{σ:aQ}{t:Bn}{ok:Bool}{i:Nat}{gk g:G}(ck:aQ->Bool)(h:bL P [(i,ag σ i)] t ok (.mref i) gk=some g/\∀W,ck W=true->bL P [(i,ag (W++σ) i)] t ok (.mref i) gk=some g):HP:=⟨some (.n d g ck),bL P [(i,ag σ i)] t ok (.mref i) gk=some g/\∀W,ck W=true->bL P [(i,ag (W++σ) i)] t ok (.mref i) gk=some g,h⟩
def hnk(ck:aQ->Bool)(U:aQ)(h:ck U=true):HP:=⟨some (.v 999999996 (.lit undef)),ck U=true,h⟩
noncomputable def ckE(V:aQ):aQ->Bool:=λW=> @decide (W=V) (Classical.propDecidable _)
theorem AgH{V W:aQ}:ckE V W=true↔W=V:= @decide_eq_true_iff _ (Classical.propDecidable _)
theorem mkI(m:FM Bf Int):∀e∈X3 EG iG m,bB e.2.1:=Q5 λv=>mN _
theorem myI(m:FM Int Int):∀e∈X3 JN iG m,bB e.2.1:=Q5 λv=>mN _
abbrev Amh(clock:Nat)(seen:Bq):Option Ob:=some ⟨tMy,[],some (.iter (some 0) clock seen clock)⟩
abbrev mkF(e:Int×Int×Nat):Bf:=⟨e.1,e.2.1⟩
section
variable {gl:Cd}
abbrev stF(gl:Cd)(l:FM Int Int)(seen:Bq)(a:List Bf):St:=(s0 75 gl [(12,.rsl 2 0 a.length),(60,.ref 1 0)] [(0,oMy l),(1,Amh l.clk seen),(2,ZO a)] 3 0)
abbrev fr4(ids:A3)(k:Nat):Fr:=[(5,.mref 0),(6,.mref 1),(17,aE aj ids),(18,iG (ah ids)),(19,iG (k:Int))]
theorem AbT{gg:Aj}{ids:A3}{r:List Bf}{n:Nat}(hn:ids.length<=1000)(h12:(Uw ids).2.es.length<=12)(he:(Uw ids).2.es.length=n)(hs:∀l:List Bf,l.Perm ((Uw ids).2.es.map mkF)->inI UT ((0:Nat):Int) (l.length:Int) l=some r):iV prog gl 116 [.ptr (Ag gg) 0,aE aj ids] 165 n (r.flatMap Bu):=by
 refine OW func116 ?_;refine Un (l:=ids) aa (λk:Nat=>(s0 75 gl (fr4 ids k) [(0,oMk (Uw (ids.take k)).1),(1,oMy (Uw (ids.take k)).2)] 2 0)) 11110122 [] [hc (mkI (Uw (ids.take 0)).1),hc (myI (Uw (ids.take 0)).2)] (λB k x hx hz k5=>?_) (λB=>?_) [] [(0,0),(1,1)] []
 .have hlt:=(cr hx).1;obtain⟨h1,h2⟩:=XT (ids.take k);rw[AbR hx] at k5;generalize Uw (ids.take k)=s at k5 h1 h2⊢;obtain⟨m,l⟩:=s;unfold fkT at k5;dsimp only at k5 h1 h2⊢;generalize hv1:(m.get ⟨x.By,x.Seq⟩).getD 0=v at k5;have h36:((C6 m ⟨x.By,x.Seq⟩ (wI (v+1))).get ⟨x.By,x.Seq⟩).getD 0=wI (v+1):=by rw[BA,Bz rfl];rfl
  refine pO 111101221102110 (s0 75 gl ([(8,.ref 2 0),(9,.ref 3 0)]++fr4 ids k) [(0,oMk m),(1,oMy l),ob 2 36 (aj x),ob 3 165 (Bu ⟨x.By,x.Seq⟩)] 4 0) [hr 20 (CM hx),Az 21 (ac.ixZ hz),Az 22 (ac.ptZ aW hz)] [hc (mkI m),hc (myI l)] ?_ [] [(0,0),(1,1),(2,2),(3,3)] [];refine pO 11110122110211100 (s0 75 gl ([(8,.ref 2 0),(9,.ref 3 0)]++fr4 ids k) [(0,oMk (C6 m ⟨x.By,x.Seq⟩ (wI (v+1)))),(1,oMy l),ob 2 36 (aj x),ob 3 165 (Bu ⟨x.By,x.Seq⟩)] 4 0) [hnl 30 (σ:=[(0,oMk m),(1,oMy l),ob 2 36 (aj x),ob 3 165 (Bu ⟨x.By,x.Seq⟩)]) (ckE [(0,some (Ng tMk EG iG (C6 m ⟨x.By,x.Seq⟩ ((m.get ⟨x.By,x.Seq⟩).getD 0))))]) ⟨lkF m ⟨x.By,x.Seq⟩ hv1,λW h=>by rw[AgH.1 h];exact lkF (C6 m ⟨x.By,x.Seq⟩ ((m.get ⟨x.By,x.Seq⟩).getD 0)) ⟨x.By,x.Seq⟩ (by rw[BA,Bz rfl];exact hv1)⟩,hnk (ckE [(0,some (Ng tMk EG iG (C6 m ⟨x.By,x.Seq⟩ ((m.get ⟨x.By,x.Seq⟩).getD 0))))]) [(0,some (Ng tMk EG iG (C6 m ⟨x.By,x.Seq⟩ ((m.get ⟨x.By,x.Seq⟩).getD 0))))] (AgH.2 rfl),hme 32 [0] 4 (AjV (P:=prog) (σ:=[(0,oMk m)]) (t:=tMk) (t':=tMk) (et:=3) (v0:=0) OQ Amf aH aH (k:=⟨x.By,x.Seq⟩) (gk:= .agg (Bu ⟨x.By,x.Seq⟩)) rfl R9),hms 33 [0] 4 (AjW (σ:=[(0,some (Ng tMk EG iG (C6 m ⟨x.By,x.Seq⟩ ((m.get ⟨x.By,x.Seq⟩).getD 0))))]) (i:=0) (t':=tMk) (kv:=EG) (vg:=iG) (m:=m) (k:=⟨x.By,x.Seq⟩) (v0:=(m.get ⟨x.By,x.Seq⟩).getD 0) h1.1 R9 (wI (v+1)))] [hc (mkI (C6 m ⟨x.By,x.Seq⟩ (wI (v+1)))),hc (myI l)] ?_ [] [(0,0),(1,1),(2,2),(3,3)] [];generalize C6 m ⟨x.By,x.Seq⟩ (wI (v+1))=m' at k5 h36⊢;generalize wI (v+1)=v' at k5 h36⊢;skip;clear hv1 h1;cases c1:decide (v'<2) with
  |true=>rw[c1,ax] at k5;exact jw [hlk 36 (lkF m' ⟨x.By,x.Seq⟩ h36),hr 37 c1,hbb 58 (Xl (q:=k) aa)] [hc (mkI m'),hc (myI l)] k5 [] [(0,0),(1,1)] []
  |false=>
   rw[c1,A7] at k5;have hput:=Af6 (P:=prog) (σ:=[(0,oMk m'),(1,oMy l),ob 2 36 (aj x),ob 3 165 (Bu ⟨x.By,x.Seq⟩)]) (i:=1) (t:=tMy) (t':=tMy) (et:=3) (vg:=iG) PE Adt aH (k:=x.By) (gk:=iG x.By) rfl (m:=l) rfl x.Seq;cases c2:(l.get x.By).isSome with
   |false=>rw[c2,A7] at k5;exact jw [hlk 36 (lkF m' ⟨x.By,x.Seq⟩ h36),hr 37 c1,hlk 42 (lkY l x.By rfl c2),hmp 4 hput,hbb 58 (Xl (q:=k) aa)] [hc (mkI m'),hc (myI (C6 l x.By x.Seq))] k5 [] [(0,0),(1,1)] []
   |true=>
    rw[c2,ax] at k5;generalize hw:(l.get x.By).getD 0=w at k5;cases c3:decide (x.Seq<w) with
    |true=>rw[c3,ax] at k5;exact jw [hlk 36 (lkF m' ⟨x.By,x.Seq⟩ h36),hr 37 c1,hlk 42 (lkY l x.By hw c2),hr 51 c3,hmp 4 hput,hbb 58 (Xl (q:=k) aa)] [hc (mkI m'),hc (myI (C6 l x.By x.Seq))] k5 [] [(0,0),(1,1)] []
    |false=>rw[c3,A7] at k5;exact jw [hlk 36 (lkF m' ⟨x.By,x.Seq⟩ h36),hr 37 c1,hlk 42 (lkY l x.By hw c2),hr 51 c3,hbb 58 (Xl (q:=k) aa)] [hc (mkI m'),hc (myI l)] k5 [] [(0,0),(1,1)] []
 .rw[D3];obtain⟨h1,h2⟩:=XT ids;generalize Uw ids=s at h1 h2 h12 he hs⊢;obtain⟨m,l⟩:=s;dsimp only at h1 h2 h12 he hs⊢;refine yl (Bs':=[]) [1,1,1,0,1] (J:=(s0 75 gl [(6,.mref 0)] [(0,oMy l)] 1 0)) [hr 20 (DH (s:=ids))] [hc (myI l)] ?_;refine pO 11111100 (s0 75 gl [(6,.mref 0),(12,Iy)] [(0,oMy l)] 1 0) [] [hc (myI l)] ?_ [] [(0,0)] [];refine yl (Bs':=[]) [1,1,1,1,1,0,0] (J:=stF gl l [] []) [] [hc (myI l),hc (Bg.imm [])] ?_;refine dNx 11111101 ?_;refine dMw 60 61 62 2 (iti:=1) (mi:=0) (clock:=l.clk) (since:=l.clk) (T:=tMy) (ty:=tMy) (es:=X3 JN iG l) (λseen=>stF gl l seen ((eQ l seen).map mkF)) (KsQ l) Aar (λe he=>by obtain⟨x,hx,rfl⟩:=Fo.1 he;exact h2.lt x hx) rfl (Le.refl _) (λseen=>rfl) (λseen=>rfl) (by grind) (λB seen k g nn hI hme hns c=>?_) (λseen hI d=>?_)
  .obtain⟨e,b,f⟩:=Fo.1 hme;simp only[Fw] at f;obtain⟨rfl,rfl,rfl⟩:=f;have c:=c (Aas hI b hns);rw[Agj h2.1 b,List.map_append] at c;have hal:((eQ l seen).map mkF).length<=12:=by rw[Ho];have:=Adz hI;have h3:(eQ l seen).length<=seen.length:=List.length_filterMap_le _ _;have h4:=Q9 hI.1 hI.2;rw[Ho] at h4;omega
   generalize (eQ l seen).map mkF=a at c hal⊢;have hge:jr ((1,Amh l.clk (seen++[e.2.2]))::(stF gl l seen a).σ) (.ref 1 0)=some (.tup [db (JN e.1),iG e.2.1]):=yo (iti:=1) (mi:=0) (since:=l.clk) (clock:=l.clk) (T:=tMy) (ty:=tMy) (seen:=seen) rfl rfl (by rw[Iu];exact h2.nd) hme;exact jw [YT 63 hge,Tn 71 Bg 16 a (mkF e) aa] [hc (el (a++[mkF e])),hc (myI l),hc (Bg.imm (a++[mkF e]))] c [] [(0,0),(1,1),(2,4)] [(2,.row)]
  .have hp:=(AdC h2.1 hI λe he=>d _ (Fo.2 ⟨e,he,rfl⟩)).map mkF;have hi:=hs _ hp;have hla:((eQ l seen).map mkF).length=n:=by rw[hp.length_eq,Ho,he]
   generalize (eQ l seen).map mkF=a at hi hla⊢;subst hla;exact EI [tN 73 [2] 3 [(2,ZO a)] [.rsl 2 0 a.length,cmK] [(0,ZO r)] (AgG (gl:=gl) aa hi) ⟨⟨rfl,.inr ⟨rfl,Bg.imm a⟩⟩,trivial⟩ ⟨⟨rfl,.inr ⟨rfl,Bg.imm r⟩⟩,trivial⟩] (Bg.imm r)
end
theorem Rh{a b:Ab}:He a b<0↔dt a b=true:=by grind [He]
theorem Qi:OrN He λ_=>True:=by grind [OrN,Rh,dt,EX]
theorem AbU{x y:Int}:AbK x y<0↔x<y:=by grind [AbK]
theorem TG{cmp:α->α->Int}(tr:∀x y z,cmp x y<0->cmp y z<0->cmp x z<0)(a:∀x,¬cmp x x<0){l r:List α}(hp:l.Perm r)(h1:l.Pairwise λx y=>cmp x y<0)(h2:r.Pairwise λx y=>cmp x y<0):l=r:=
 by grind [List.Perm.eq_of_pairwise]
def O6(ids:A3)(f:Bf):Nat:=(ids.filter λx=>decide (x.By=f.Device)&&decide (x.Seq=f.Seq)).length
theorem TH(p:A3)(x:Ab)(f:Bf):O6 (p++[x]) f=O6 p f+if(⟨x.By,x.Seq⟩:Bf)=f then 1 else 0:=by unfold O6;rw[O7,Ub];obtain⟨d,s⟩:=f;grind
theorem AgJ(p:A3)(f:Bf):O6 p f<=p.length:=KZ _ _
structure FkI (p:A3) (s:FM Bf Int×FM Int Int):Prop where
 n:∀f,(s.1.get f).getD 0=(O6 p f:Int)
 a:∀d v,s.2.get d=some v->2<=O6 p ⟨d,v⟩
 b:∀d v,2<=O6 p ⟨d,v⟩->∃w,s.2.get d=some w/\w<=v
theorem Ami{p:A3}(h:FkI p s)(hp:p.length<=1000):FkI (p++[x]) (fkT s x):=by
 have hle:=AgJ p ⟨x.By,x.Seq⟩;have hw:wI ((s.1.get ⟨x.By,x.Seq⟩).getD 0+1)=((O6 p ⟨x.By,x.Seq⟩+1:Nat):Int):=by grind [FkI.n,bM]
 have hset:∀(l:FM Int Int),l=C6 s.2 x.By x.Seq->1<=O6 p ⟨x.By,x.Seq⟩->(∀w,s.2.get x.By=some w->x.Seq<=w)->(∀d v,l.get d=some v->2<=O6 (p++[x]) ⟨d,v⟩)/\(∀d v,2<=O6 (p++[x]) ⟨d,v⟩->∃w,l.get d=some w/\w<=v):=by grind [BA,TH,FkI.a,FkI.b]
 have hold:∀(l:FM Int Int),l=s.2->(1<=O6 p ⟨x.By,x.Seq⟩->∃w,s.2.get x.By=some w/\w<=x.Seq)->(∀d v,l.get d=some v->2<=O6 (p++[x]) ⟨d,v⟩)/\(∀d v,2<=O6 (p++[x]) ⟨d,v⟩->∃w,l.get d=some w/\w<=v):=by grind [TH,FkI.a,FkI.b]
 have key:(∀d v,(fkT s x).2.get d=some v->2<=O6 (p++[x]) ⟨d,v⟩)/\(∀d v,2<=O6 (p++[x]) ⟨d,v⟩->∃w,(fkT s x).2.get d=some w/\w<=v):=by
  unfold fkT;dsimp only;rw[hw];cases c1:decide (((O6 p ⟨x.By,x.Seq⟩+1:Nat):Int)<2) with
  |true=>grind
  |false=>
   have h1:=Lw c1;rw[A7];cases c2:s.2.get x.By with
   |none=>grind
   |some w=>rw[Option.isSome_some,ax,MZ];cases c3:decide (x.Seq<w)<;>grind
 refine⟨λf=>?_,key.1,key.2⟩;grind [fkT,BA,TH,FkI.n]
theorem AgK(ids:A3)(hn:ids.length<=1000):FkI ids (Uw ids):=by
 have key:∀k,k<=ids.length->FkI (ids.take k) (Uw (ids.take k)):=by
  intro k;induction k with
  |zero=>exact λ_=>⟨λf=>rfl,λd v h=>(by cases h),λd v h=>absurd h (by show¬2<=0;omega)⟩
  |succ k ih=>intro hk;have hx:ids[k]?=some (ids[k]'aa):=EH _;rw[AbR hx,Hp,hx,Option.toList_some];grind [Ami]
 grind [D3]
theorem AdN{α:Type}(p:α->Bool):∀l:List α,l.length=(l.filter p).length+(l.filter λx=> !p x).length
 |[]=>rfl
 |a::r=>by have:=AdN p r;grind
theorem AbV:∀{ds:Bh} {ids:A3},ds.Nodup->(∀d∈ds,2<=(ids.filter λx=>decide (x.By=d)).length)->2*ds.length<=ids.length
 |[],ids,_,_=>aC
 |d::r,ids,hd,h=>by
  rw[Mi] at hd;have ih:=AbV (ids:=ids.filter λx=> !decide (x.By=d)) hd.2 λe he=>by have:=h e (by simp[he]);rw[List.filter_filter];grind
  have h1:=h d aC;grind [AdN]
theorem AaM{ids:A3}(hn:ids.length<=1000):2*(Uw ids).2.es.length<=ids.length:=by have hk:=(XT ids).2;have hI:=AgK ids hn;rw[<-Ho (f:=λe:Int×Int×Nat=>e.1)];refine AbV hk.kd λd hd=>?_;obtain⟨e,he,rfl⟩:=Fo.1 hd;have hg:=JI hk (k:=e.1) (v:=e.2.1) (n:=e.2.2) he;have h2:=hI.a _ _ hg;refine JF h2 ?_;unfold O6;rw[<-List.filter_filter];exact(List.Sublist.filter _ List.filter_sublist).length_le
theorem T0{ids:A3}{f:Bf}:f∈(Uw ids).2.es.map mkF↔(Uw ids).2.get f.Device=some f.Seq:=by grind [XT,JI,Hd]
theorem Ai0(ids:A3):OrN UT λf=>f∈(Uw ids).2.es.map mkF:=by grind [OrN,UT,AbU,T0]
theorem AgL{ids:A3}:((Uw ids).2.es.map mkF).Nodup:=List.Pairwise.of_map (S:=λa b:Int=>a≠b) (λf:Bf=>f.Device) (by grind) (by rw[Iu];exact(XT ids).2.kd)
theorem Ai1{ids:A3}(hn:ids.length<=14):∃r:List Bf,r.Perm ((Uw ids).2.es.map mkF)/\∀l:List Bf,l.Perm ((Uw ids).2.es.map mkF)->inI UT ((0:Nat):Int) (l.length:Int) l=some r:=by
 have hl:=AaM (ids:=ids) aa;have go:∀l:List Bf,l.Perm ((Uw ids).2.es.map mkF)->∃r,inI UT ((0:Nat):Int) (l.length:Int) l=some r/\r.Perm ((Uw ids).2.es.map mkF)/\r.Pairwise λx y=>UT x y<0:=λl hp=>by obtain⟨r,e,h1,h2⟩:=AaK (Ai0 ids) (a:=0) (b:=l.length) (hp.nodup_iff.2 AgL) (λz hz=>hp.mem_iff.1 hz) aa (Dl _) (by rw[hp.length_eq,Ho];omega);refine⟨r,e,h1.1.trans hp,?_⟩;rw[List.pairwise_iff_getElem];intro p q hp' c d;exact h2 p q _ _ (Nat.zero_le _) d (by rw[<-h1.len];exact c) (EH hp') (EH c)
 obtain⟨r,_,h2,h3⟩:=go _ (.refl _);refine⟨r,h2,λl hp=>?_⟩;obtain⟨r',e,k2,k3⟩:=go l hp;rw[e,TG (cmp:=UT) (Ai0 ids).tr (by grind [UT,AbU]) (k2.trans h2.symm) k3 h3]
def voP(ids:A3)(x:Ab):Bool:=ids.any λy=>decide (y.By=x.By/\y.Seq<=x.Seq/\2<=O6 ids ⟨y.By,y.Seq⟩)
section
variable {gl:Cd}
theorem Aio{fs:List Bf}{R:Bf->A3}(hF:ba prog gl 116 [.ptr (Ag gg) 0,aE aj ids] (aE Bu fs))(hfl:fs.length<=1000)(hR:∀f∈fs,ba prog gl 321 [aE aj ids,iG f.Device,iG f.Seq,iG 4611686018427387904] (aE aj (R f)))(hl:(fs.flatMap R).length<=14)(h:R0 He (fs.flatMap R)=some r)(hle:r.length=(fs.flatMap R).length):iV prog gl 227 [.ptr (Ag gg) 0,aE aj ids] 36 r.length (r.flatMap aj):=by
 rw[hle];refine OW func227 ?_;refine Un (l:=fs) aa (λk:Nat=>(s0 27 gl [(1,aE aj ids),(5,.rsl 0 0 ((fs.take k).flatMap R).length),(10,aE Bu fs),(11,iG (ah fs)),(12,iG (k:Int))] [(0,Bt ((fs.take k).flatMap R))] 1 0)) 1110122 [hf 10 hF] [hc (ac.imm [])] (λB k x hx hz k5=>?_) (λB=>?_)
 .have hlt:=(cr hx).1;have e:(fs.take (k+1)).flatMap R=(fs.take k).flatMap R++R x:=by grind [Hp]
  have hll:((fs.take k).flatMap R++R x).length<=14:=by grind [Pu]
  rw[e] at k5;generalize (fs.take k).flatMap R=l at k5 hll⊢;rw[Ub] at hll;exact jw [hr 13 (CM hx),Az 14 (Bg.ixZ hz),Az 15 (Bg.ptZ Hr hz),hf 22 (hR x (bO hx)),Am5 23 ac 24 l (R x) aa,hbb 24 (Xl (q:=k) aa)] [hc (el (l++R x)),hc (ac.imm (l++R x))] k5
 .rw[D3];exact EI [hr 13 (DH (s:=fs)),hsm (gl:=gl) 26 1 hl h] (ac.imm r)
end
theorem XU{α β:Type}{f:α->List β}:∀{l:List α},l.Nodup->(∀x∈l,(f x).Nodup)->(∀x∈l,∀y∈l,x≠y->∀z∈f x,z∉f y)->(l.flatMap f).Nodup
 |[],_,_,_=> .nil
 |a::r,hn,h1,h2=>by rw[Mi] at hn;rw[List.flatMap_cons,List.nodup_append];refine⟨h1 a aC,XU hn.2 (by grind) (by grind),λz hz w hw e=>?_⟩;grind
theorem Aip{gl:Cd}{gg:Aj}(hn:ids.length<=14)(hd:ids.Nodup)(hs:∀x∈ids,x.Seq<=4611686018427387904):∃r,ba prog gl 227 [.ptr (Ag gg) 0,aE aj ids] (aE aj r)/\r.Perm (ids.filter (voP ids))/\r.Pairwise λx y=>He x y<0:=by
 obtain⟨fs,hp,hi⟩:=Ai1 hn;have hl:=AaM (ids:=ids) aa;have hI:=AgK ids aa;have hF:=(AbT (gl:=gl) (gg:=gg) (ids:=ids) (r:=fs) (n:=fs.length) aa aa (by rw[hp.length_eq,Ho]) hi).fn Bg.sz (Bg.len _) (Bg.imm _);have hof:∀f:Bf,∃r,R0 He (ids.filter (Y3 f.Device f.Seq 4611686018427387904))=some r/\r.Perm (ids.filter (Y3 f.Device f.Seq 4611686018427387904)):=λf=>by have h1:=KZ (Y3 f.Device f.Seq 4611686018427387904) ids;obtain⟨r,e,h2,h3⟩:=Uv Qi (l:=ids.filter (Y3 f.Device f.Seq 4611686018427387904)) (hd.sublist List.filter_sublist) aa;exact⟨r,e,h2⟩
 let R:Bf->A3:=λf=>(R0 He (ids.filter (Y3 f.Device f.Seq 4611686018427387904))).getD [];have hRp:∀f,R0 He (ids.filter (Y3 f.Device f.Seq 4611686018427387904))=some (R f)/\(R f).Perm (ids.filter (Y3 f.Device f.Seq 4611686018427387904)):=λf=>by obtain⟨r,e,h2⟩:=hof f;grind
 have hRm:∀f x,x∈R f↔x∈ids/\x.By=f.Device/\f.Seq<=x.Seq:=λf x=>by rw[(hRp f).2.mem_iff,Hq];grind [Y3]
 clear_value R;have hfd:∀x∈fs,∀y∈fs,x≠y->x.Device≠y.Device:=by grind [T0]
 have hfn:(fs.flatMap R).Nodup:=XU (hp.nodup_iff.2 AgL) (by grind) (by grind);have hperm:(fs.flatMap R).Perm (ids.filter (voP ids)):=by
  refine(List.perm_ext_iff_of_nodup hfn (hd.sublist List.filter_sublist)).2 λx=>?_;rw[List.mem_flatMap,Hq];unfold voP;rw[List.any_eq_true];refine⟨λ⟨f,hf,hx⟩=>?_,λ⟨hx,y,hy,hv⟩=>?_⟩
  .obtain⟨h1,h2,h3⟩:=(hRm f x).1 hx;have h4:=T0.1 (hp.mem_iff.1 hf);have h5:=hI.a _ _ h4;refine⟨h1,?_⟩;have h6:0<(ids.filter λx=>decide (x.By=f.Device)&&decide (x.Seq=f.Seq)).length:=Nat.lt_of_lt_of_le Nat.zero_lt_two h5;obtain⟨y,hy⟩:=List.exists_mem_of_length_pos h6;grind
  .obtain⟨h1,h2,h3⟩:=DD hv;obtain⟨w,hw,hle⟩:=hI.b _ _ h3;refine⟨⟨y.By,w⟩,hp.mem_iff.2 (T0.2 hw),(by grind)⟩
 have hlen:(fs.flatMap R).length<=14:=by grind [List.Perm.length_eq,KZ]
 obtain⟨r,e,h2,h3⟩:=Uv Qi hfn hlen;refine⟨r,(Aio (gl:=gl) hF (by rw[hp.length_eq,Ho];omega) (by grind [Aky,List.Perm.length_eq]) hlen e h2.length_eq).fn ac.sz (ac.len _) (ac.imm _),h2.trans hperm,h3⟩
theorem Rb{l:List α}{x:α}(hx:l[k]?=some x):l.take (k+1)=l.take k++[x]:=by rw[Hp,hx];rfl
section
variable {g:AQ} {m:Jn} {N:Jk}
abbrev Bw(g:AQ)(m:Jn)(N:Jk):Gi:=Pl ⟨g.Cards,m,N⟩
theorem JD(w:Fq g){i:Nat}(h:g.IDs[i]?=some x):bu x g.IDs=some i:=by
 cases hk:bu x g.IDs with
 |none=>exact absurd (bO h) (Td hk)
 |some j=>rw[MT w.nd (gb hk).1 h]
abbrev HD(g:AQ)(l:Bh):A3:=l.map λp=>(g.IDs[p.toNat]?).getD ⟨0,0,0⟩
theorem OR(w:Fq g){l:Bh}(h:EF g l){z:Int}(hz:l[j]?=some z):∃(n:Nat) (y:Ab),z=(n:Int)/\n<g.L.length/\g.IDs[n]?=some y/\(HD g l)[j]?=some y:=by obtain⟨n,rfl,hn⟩:=h.nat (bO hz);have nI:=w.nI;obtain⟨y,hy,_⟩:=dk (l:=g.IDs) (k:=n) aa;refine⟨n,y,rfl,hn,hy,?_⟩;rw[LO,hz,Option.map_some,EO,hy];rfl
end
def X9(cs:Mw)(d:Int):Int:=match cs.find? λc=>decide (c.Device=d) with
 |some c=>c.Member
 |none=>0
structure Mr (x:AA) (y:Ef):Prop where
 role:y.Role=x.role
 no:x.guard=none->y.Is=false
 gd:∀g,x.guard=some g->y.Is=true/\y.ID=g.id/\y.Guards=g.guards/\y.Need=g.need/\y.Wait=g.wait/\y.Objected=g.objected/\y.Last=g.last
def AgW(V:List G8)(i:Ab)(b d a:Int):Prop:=∃v∈V,v.Of=i/\v.By=b/\v.Device=d/\v.At=a
structure Rr (R:Ad) (D:C7):Prop where
 card:∀d,Dx R d=X9 D.Cards d
 nd:(D.In++D.Gone).Nodup
 in_:∀d,R.in_.get d=if d∈D.In then some true else none
 was:∀d,R.was.get d=if d∈D.In\/d∈D.Gone then some true else none
 w0:R.was.es.length=D.In.length+D.Gone.length
 ln:(D.L.map (·.N)).Nodup
 no:∀m,R.members.get m=none->∀y∈D.L,y.N≠m
 mem:∀m x,R.members.get m=some x->∃y∈D.L,y.N=m/\Mr x y
 vou:∀m x g,R.members.get m=some x->x.guard=some g->∀b d a,g.vouches.get ⟨b,d⟩=some a↔AgW D.V g.id b d a
 vof:∀v∈D.V,∃m x g,R.members.get m=some x/\x.guard=some g/\v.Of=g.id
 vnd:(D.V.map λv=>(v.Of,v.By,v.Device)).Nodup
 back:R.back=D.Back
structure Sz (D:C7):Prop where
 c:D.Cards.length<=1000
 dev:D.In.length+D.Gone.length<=100000
 l:D.L.length<=100000
 v:D.V.length<=100000
theorem KE{l:Bh}{n:Int}:QF l n=decide (n∈l):=by grind [QF]
section
variable {R:Ad} {D:C7}
theorem Sz.i(z:Sz D):D.In.length<=1000000:=by grind [Sz]
theorem Sz.g(z:Sz D):D.Gone.length<=1000000:=by grind [Sz]
theorem ofE(z:Sz D)(d:Int):gE D d=some (X9 D.Cards d):=by
 have:=z.c;unfold gE;refine T.eq (.bind ((T.search D.Cards (λx=>decide (x.Device=d)) (λk x=>x.Member) aa (λk x hx hk=>?_) ?_).mono ?_))
 .grind [AR,eA,au,aq]
 .grind [AR,eF]
 .rintro r (⟨rfl,h⟩|⟨k,x,hx,hp,rfl,h⟩)
  .refine .some ?_;grind [X9]
  .refine .some ?_;grind [X9,List.find?_eq_some_iff_getElem]
theorem AmH(z:Sz D)(n:Int):T (dS D n) λv=>(v= -1/\∀y∈D.L,y.N≠n)\/∃(k:Nat) (y:Ef),v=(k:Int)/\D.L[k]?=some y/\y.N=n:=by
 have:=z.l;unfold dS;refine .bind ((T.search D.L (λx=>decide (x.N=n)) (λk _=>(k:Int)) aa (λk x hx hk=>?_) ?_).mono ?_)
 .grind [o5,eA,au,aq]
 .grind [o5,eF]
 .rintro r (⟨rfl,h⟩|⟨k,x,hx,hp,rfl,h⟩)
  .exact .some (by grind)
  .exact .some (by grind)
theorem Rr.at_(h:Rr R D){m:Int}{x:AA}(hx:R.members.get m=some x){y:Ef}(hy:y∈D.L)(hn:y.N=m):Mr x y:=by grind [mem,Nz,ln]
theorem Rr.of(h:Rr R D){y:Ef}(hy:y∈D.L):∃x,R.members.get y.N=some x/\Mr x y:=by cases hx:R.members.get y.N<;>grind [no,at_]
theorem Ya(z:Sz D)(h:Rr R D)(n:Int):T (dS D n) λv=>match R.members.get n with
  |none=>v= -1
  |some x=>∃(k:Nat) (y:Ef),v=(k:Int)/\D.L[k]?=some y/\y.N=n/\Mr x y:=by
 refine(AmH z n).mono λv hv=>?_
 grind [Rr,Rr.of]
theorem Aiq(z:Sz D)(h:Rr R D)(n:Int):se D n=some (MI R n):=by unfold se;refine T.eq (.bind ((Ya z h n).mono λv hv=>?_));grind [MI,T.some,au,Mr.role]
theorem Rr.ins(h:Rr R D)(d:Int):PO R d=decide (d∈D.In):=by grind [PO,in_,Hj]
theorem inE(z:Sz D)(h:Rr R D)(d:Int):fb D.In d=some (PO R d):=by rw[cX z.i,KE,h.ins]
theorem AmI(z:Sz D)(h:Rr R D)(d:Int):Fd D d=some (Hj (R.was.get d)):=by grind [Fd,cX,Sz.i,Sz.g,KE,Rr.was,Hj]
theorem ZP(z:Sz D)(h:Rr R D)(d:Int):nW D d=some (D4 R d):=by grind [nW,D4,AmI,ofE,Rr.card]
theorem AkX(z:Sz D)(i:Ab):T (jN D i) λv=>(v= -1/\∀y∈D.L,¬(y.Is=true/\y.ID=i))\/∃(k:Nat) (y:Ef),v=(k:Int)/\D.L[k]?=some y/\y.Is=true/\y.ID=i:=by
 have:=z.l;unfold jN;refine .bind ((T.search D.L (λx=>x.Is&&decide (x.ID=i)) (λk _=>(k:Int)) aa (λk x hx hk=>?_) ?_).mono ?_)
 .grind [qQ,eA,au,aq]
 .grind [qQ,eF]
 .rintro r (⟨rfl,hn⟩|⟨k,y,hy,hp,rfl,hn⟩)
  .exact .some (by grind)
  .have hp2:y.Is=true/\y.ID=i:=by grind
   exact .some (by grind)
theorem AkY(z:Sz D)(h:Rr R D)(hR:Bi R)(i:Ab):T (jN D i) λv=>match R.members.es.find? λe=>Lo e.2.1 i with
  |none=>v= -1
  |some e=>∃(k:Nat) (y:Ef) (g:CA),v=(k:Int)/\D.L[k]?=some y/\y.N=e.1/\Mr e.2.1 y/\e.2.1.guard=some g/\g.id=i/\R.members.get e.1=some e.2.1:=by
 refine(AkX z i).mono ?_
 rintro v (⟨rfl,hn⟩|⟨k,y,rfl,hy,hp2⟩)
 .cases hf:R.members.es.find? λe=>Lo e.2.1 i with
  |none=>rfl
  |some e=>obtain⟨hx,_⟩:=hR.mem (List.mem_of_find?_eq_some hf);grind [Rr.mem,Lo,Mr.gd]
 .have a:=bO hy
  obtain⟨x,hx,hm⟩:=h.of a
  cases hgd:x.guard with
  |none=>grind [Mr.no]
  |some g=>
   have h1:=hm.gd g hgd
   have hid:g.id=i:=by grind
   have hgx:Lo x i=true:=by grind [Lo]
   cases hf:R.members.es.find? λe=>Lo e.2.1 i<;>grind [Hd,Bi.mem,Bi.uni]
theorem ZQ(z:Sz D)(h:Rr R D)(hR:Bi R)(o:Bj):T (nY D o) λv=>v.2=(Dd R o).2/\((Dd R o).2=0->∃(k:Nat) (y:Ef) (x:AA) (g:CA),v.1=(k:Int)/\D.L[k]?=some y/\y.N=(Dd R o).1/\R.members.get (Dd R o).1=some x/\Mr x y/\x.guard=some g/\g.id=o.Of):=by
 unfold nY;refine .bind ((AkY z h hR o.Of).mono λv hv=>?_);cases hf:R.members.es.find? λe=>Lo e.2.1 o.Of with
 |none=>grind [Dd,T.some]
 |some e=>
  rw[hf] at hv;obtain⟨k,y,g,rfl,hy,a,hm,hgd,hid,hx⟩:=hv;have eS:Dd R o=bif g.guards.any λy=>decide (o.By=y)then(e.1,0)else(0,14):=by grind [Dd]
  have h1:=hm.gd g hgd;grind [Bi.gn,au,cX,KE,T.some]
end
theorem Afm{l:Bh}(hl:l.length<=3000):N4 l d=some ((O4 (l.length+1) l).filter λs=>decide (d∈s)).reverse:=by
 obtain⟨e0,hn⟩:=aas (l.length+1) l aa aa;obtain⟨v,e1,_,hy⟩:=u6 (l.length+1) l aa aa;rw[e0] at e1;obtain rfl:=Bo e1;unfold N4 z0;rw[e0,aL];generalize O4 (l.length+1) l=b at hn hy;have e:wI (ah b-1)=ah b-1:=by grind [bM,ah]
 rw[e];refine T.eq (.bind (T.mono (T.loop (Q:=λr:M0=>r=(b.filter λs=>decide (d∈s)).reverse) (λs=> -1<=s.2/\s.2<(b.length:Int)/\s.1=((b.drop (s.2+1).toNat).filter λs=>decide (d∈s)).reverse) (λs=>(s.2+1).toNat) ⟨by unfold ah;omega,by unfold ah;omega,?_⟩ (by grind [ah]) ?_) λ_ h=> .some h))
 .grind [List.drop_eq_nil_of_le,ah]
 rintro⟨a,i⟩ ⟨i1,f,c⟩;simp only at i1 f c;unfold AF;refine .dec (λh0=>?_) λh0=> .some (show a=_ from ?_)
 .replace h0:0<=i:=h0;obtain⟨k,rfl⟩:=Int.eq_ofNat_of_zero_le h0;have hk:k<b.length:=aa;have hw:wI ((k:Int)-1)=(k:Int)-1:=bM aa aa;have hz:aS b (k:Int)=some (b[k]'hk):=Bp (EH hk);have ha:a.length<=6000:=by grind
  dsimp only;rw[hz,aL,cX (by grind),aL,KE,hw];have ed:b.drop k=b[k]'hk::b.drop (k+1):=List.drop_eq_getElem_cons hk;rw[show((k:Int)+1).toNat=k+1 by omega] at c;by_cases hd:d∈b[k]'hk
  .rw[CO hd,ax,aL];refine .bind (.app (by grind) (.some ⟨⟨by show-1<=(k:Int)-1;omega,by show(k:Int)-1<_;omega,?_⟩,by show((k:Int)-1+1).toNat<((k:Int)+1).toNat;omega⟩));show a++[b[k]'hk]=((b.drop ((k:Int)-1+1).toNat).filter _).reverse;rw[show((k:Int)-1+1).toNat=k by omega,ed,List.filter_cons_of_pos (by simp[hd]),List.reverse_cons,c]
  .rw[C5 hd,A7];refine .some ⟨⟨by show-1<=(k:Int)-1;omega,by show(k:Int)-1<_;omega,?_⟩,by show((k:Int)-1+1).toNat<((k:Int)+1).toNat;omega⟩;show a=((b.drop ((k:Int)-1+1).toNat).filter _).reverse;rw[show((k:Int)-1+1).toNat=k by omega,ed,List.filter_cons_of_neg (by simp[hd]),c]
 .replace h0:¬0<=i:=h0;rw[c,show(i+1).toNat=0 by omega,List.drop_zero]
theorem Vb(d:Int):∀(n:Nat) (l:Bh),l.length<n->l.length<=1000000->(YA d n l).length<=l.length+1
 |0,_,h,_=>(by grind)
 |n+1,l,h,hl=>by
  unfold YA;split
  .simp
  .obtain⟨_,k1,k2⟩:=Zu (n:=l.length) aa hl;have a:=Vb d n (l.take (lfN l.length)) cq cq;have b:=Vb d n (l.drop (lfN l.length)) cq cq;grind
theorem Afn(d:Int):∀(n:Nat) (l:Bh),l.length<n->l.length<=1000000->d∈l->l.Nodup->(∀s∈YA d n l,d∈s/\s.length<=l.length/\s.Nodup)/\((YA d n l).Pairwise λa b=>b.length<a.length)/\(YA d n l).getLast?=some [d]
 |0,_,h,_,_,_=>(by grind)
 |n+1,l,h,hl,hd,hn=>by
  unfold YA;split
  .match l,hd,hn with
   |[a],hd,hn=>simp_all
   |a::b::r,_,_=>simp at*
  .obtain⟨_,k1,k2⟩:=Zu (n:=l.length) aa hl;have hx:d∈l.take (lfN l.length)\/d∈l.drop (lfN l.length):=by grind [Pu]
   have key:∀q:Bh,q.length<l.length->d∈q->q.Nodup->(∀s∈l::YA d n q,d∈s/\s.length<=l.length/\s.Nodup)/\((l::YA d n q).Pairwise λa b=>b.length<a.length)/\(l::YA d n q).getLast?=some [d]:=λq h1 h2 h3=>by obtain⟨a,b,c⟩:=Afn d n q aa aa h2 h3;refine⟨λs hs=>?_,(by grind [List.pairwise_cons]),by grind⟩;grind
   split
   .grind
   grind
def tpL(d:Int)(l:Bh):M0:=if d∈l then(YA d (l.length+1) l).reverse else[]
structure Aaa (d:Int) (ss:M0):Prop where
 n:ss.length<=3000
 m:∀s∈ss,d∈s/\s.length<=3000/\s.Nodup
 p:ss.Pairwise λa b=>a.length<b.length
 f:∀s,ss[0]?=some s->s=[d]
theorem Aab:Aaa d []:=⟨aC,aC,.nil,aC⟩
theorem AjA{l:Bh}(hl:l.length<=2000)(hn:l.Nodup):Aaa d (tpL d l):=by
 unfold tpL;split
 .rename_i hd;obtain⟨a,b,c⟩:=Afn d (l.length+1) l aa aa hd hn;have:=Vb d (l.length+1) l aa aa;constructor<;>grind
 .exact Aab
theorem Afo{l:Bh}(hl:l.length<=3000)(hn:l.Nodup):N4 l d=some (tpL d l):=by grind [Afm,aat,tpL]
theorem Afp{gl:Cd}{l:Bh}(hl:l.length<=3000):ba prog gl 131 [aE cZ l,iG d] (aE Jc (tpL d l)):=by
 unfold tpL;by_cases hd:d∈l
 .grind [Ahm,Vb,Adg,Afl]
 .rw[BW hd];refine Adg (a:=[]) (b:=[]) ?_ aC (by grind [Afl]) rfl;grind [PJ,UG]
end Go.Proofs.YtlijnaneopediaaGreatDoor
