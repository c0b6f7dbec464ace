/- Texts. -/
import Derived.Test.YtlimmeehdfbheaaGreatDoorVj
namespace Go.Proofs.YtlimmeehdfbheaaGreatDoor
set_option linter.unusedSectionVars false
set_option linter.unusedVariables false
set_option linter.unusedSimpArgs false
open Go.RowKit Tryz
attribute [local irreducible] Tr dz Gp
variable {α:Type}{ids l l0 row:AH}{a b j k p u v w:Nat}{s:FM Bg Int×FM Int Int}{r:List Bg}{L:Bo}{pv x:Ab}{gg:Aj}{d m:Int}{o:Bi}{y y':Hd}{x':Az}
def RnF(l:Bo):Prop:=∀κ,l.map (qg κ 19)=l
abbrev oN1(s:Nat):Option Ob:=some ⟨3,[iG (s:Int)],none⟩
def o2S(cmp:Ab->Ab->Int)(l:AH)(a b s:Nat):Option (Nat×Nat×Nat):=(l[b]?).bind λy=>(l[a]?).bind λx=>bif cmp y x<0 then some (b,a,s+1)else some (a,b,s)
def meS(cmp:Ab->Ab->Int)(l:AH)(a b c s:Nat):Option (Nat×Nat):=(o2S cmp l a b s).bind λd=>(o2S cmp l d.2.1 c d.2.2).bind λe=>(o2S cmp l d.1 e.1 e.2.2).bind λf=>some (f.2.1,f.2.2)
def chS(cmp:Ab->Ab->Int)(l:AH)(a:Nat):Option (Nat×Bool):=(meS cmp l (a+3) (a+6) (a+9) 0).bind λr=>bif r.2<=3 then some (r.1,decide ((r.2:Int)=0))else none
def scS(cmp:Ab->Ab->Int)(l:AH)(b k:Nat):Option (Nat⊕Nat):=bif ((k+1:Nat):Int)<(b:Int)then(l[k+1]?).bind λx=>(l[k]?).bind λy=>bif cmp x y<0 then some (.inr k)else some (.inl (k+1))else some (.inr k)
def piS(cmp:Ab->Ab->Int)(l:AH)(a b:Nat):Fw:=(AQ (scS cmp l b) a).bind λk=>some (decide (((k+1:Nat):Int)=(b:Int)))
section
variable {gl:CC} {fi:FuncId} {fa fc:Bo} {cmp:Ab->Ab->Int} (hv:CmV gl fi fa fc cmp)
include hv
theorem Aix{s:Nat}(hs:s<1000)(h:o2S cmp l a b s=some (u,v,w)):jg prog gl 363 [.rsl 0 0 l.length,iG (a:Int),iG (b:Int),.ref 1 0,Sm fi fa fc] [(0,Bt l),(1,oN1 s)] 2 (.tup [iG (u:Int),iG (v:Int)]) [(0,Bt l),(1,oN1 w)] 2:=by
 unfold o2S at h;obtain⟨y,hy,h⟩:=bS h;obtain⟨x,hx,h⟩:=bS h;refine pP func363 ?_;rcases bC h with⟨b1,h⟩|⟨b1,h⟩
 .simp only[Ft,Gb] at h;obtain⟨rfl,rfl,rfl⟩:=h;exact mt .ret (s0 32 gl [(10,iG (b:Int)),(11,iG (a:Int))] [(0,Bt l),(1,oN1 (s+1))] 2 2) [iG (b:Int),iG (a:Int)] [AA 15 (ac.ixrZ 0 (Bq hy)),AA 16 (ac.pt0Z aW (Bq hy)),AA 19 (ac.ixrZ 0 (Bq hx)),AA 20 (ac.pt0Z aW (Bq hx)),hcp 21 2 hv y x,hr 22 b1,hbb 26 (Xl (q:=s) aa)] [hc (ac.imm l)] (kd:=[(0,.row)])
 .simp only[Ft,Gb] at h;obtain⟨rfl,rfl,rfl⟩:=h;exact mt .ret (s0 32 gl [(10,iG (a:Int)),(11,iG (b:Int))] [(0,Bt l),(1,oN1 s)] 2 2) [iG (a:Int),iG (b:Int)] [AA 15 (ac.ixrZ 0 (Bq hy)),AA 16 (ac.pt0Z aW (Bq hy)),AA 19 (ac.ixrZ 0 (Bq hx)),AA 20 (ac.pt0Z aW (Bq hx)),hcp 21 2 hv y x,hr 22 b1] [hc (ac.imm l)] (kd:=[(0,.row)])
variable (ra:RnF fa) (rc:RnF fc)
include ra rc
theorem rn5{κ:Nat->FF}{a b c d:G}{e f g h:G}(h1:qg κ 20 a=e)(h2:qg κ 20 b=f)(h3:qg κ 20 c=g)(h4:qg κ 20 d=h):[a,b,c,d,Sm fi fa fc].map (qg κ 20)=[e,f,g,h,Sm fi fa fc]:=by show[qg κ 20 a,qg κ 20 b,qg κ 20 c,qg κ 20 d,.clo (.func fi) (fa.map (qg κ 19)) (fc.map (qg κ 19))]=_;rw[h1,h2,h3,h4,ra κ,rc κ]
abbrev ho2(d:Nat){l:AH}{a b s u v w:Nat}(hs:s<1000)(h:o2S cmp l a b s=some (u,v,w)):HP:=tN d [0,1] 2 [(0,Bt l),(1,oN1 s)] [.rsl 0 0 l.length,iG (a:Int),iG (b:Int),.ref 1 0,Sm fi fa fc] [(0,Bt l),(1,oN1 w)] (Aix hv hs h) ⟨⟨rfl,.inr ⟨rfl,ac.imm l⟩⟩,⟨rfl,.inl rfl⟩,trivial⟩ ⟨⟨rfl,.inr ⟨rfl,ac.imm l⟩⟩,⟨rfl,.inl rfl⟩,trivial⟩ (hgs:=rn5 hv ra rc rfl rfl rfl rfl)
theorem AmC{s:Nat}(h:o2S cmp l a b s=some (u,v,w)):w<=s+1/\((u=a/\v=b)\/(u=b/\v=a)):=by grind [o2S]
theorem AkJ{c s m:Nat}(hs:s<100)(h:meS cmp l a b c s=some (m,w)):jg prog gl 340 [.rsl 0 0 l.length,iG (a:Int),iG (b:Int),iG (c:Int),.ref 1 0,Sm fi fa fc] [(0,Bt l),(1,oN1 s)] 2 (iG (m:Int)) [(0,Bt l),(1,oN1 w)] 2:=by unfold meS at h;obtain⟨⟨u1,v1,w1⟩,e1,h⟩:=bS h;obtain⟨⟨f,v2,w2⟩,e2,h⟩:=bS h;obtain⟨⟨g,d,e⟩,e3,h⟩:=bS h;simp only[Ft,Gb] at h;obtain⟨rfl,rfl⟩:=h;have k1:=(AmC hv ra rc e1).1;have k2:=(AmC hv ra rc e2).1;dsimp only at e2 e3 k2;refine pP func340 ?_;exact mt .ret (s0 41 gl [(12,iG (d:Int))] [(0,Bt l),(1,oN1 e)] 2 2) [iG (d:Int)] [ho2 hv ra rc 19 aa e1,ho2 hv ra rc 28 aa e2,ho2 hv ra rc 37 aa e3] [hc (ac.imm l)] (kd:=[(0,.row)])
abbrev Big(a b:Nat):Prop:=a+13<=b/\b<=15
omit hv ra rc in
theorem AgI(h:Big a b):(a=0/\b=13)\/(a=0/\b=14)\/(a=0/\b=15)\/(a=1/\b=14)\/(a=1/\b=15)\/(a=2/\b=15):=aa
abbrev AmD(d:Nat){l:AH}{a b c m w:Nat}(h:meS cmp l a b c 0=some (m,w)):HP:=tN d [0,1] 2 [(0,Bt l),(1,oN1 0)] [.rsl 0 0 l.length,iG (a:Int),iG (b:Int),iG (c:Int),.ref 1 0,Sm fi fa fc] [(0,Bt l),(1,oN1 w)] (AkJ hv ra rc Cd h) ⟨⟨rfl,.inr ⟨rfl,ac.imm l⟩⟩,⟨rfl,.inl rfl⟩,trivial⟩ ⟨⟨rfl,.inr ⟨rfl,ac.imm l⟩⟩,⟨rfl,.inl rfl⟩,trivial⟩ (hgs:=congrArg (G.rsl 0 0 l.length::·) (rn5 hv ra rc rfl rfl rfl rfl))
theorem AkK{l:AH}{a b m:Nat}{f:Bool}(hB:Big a b)(h:chS cmp l a=some (m,f)):jg prog gl 291 [.rsl 0 0 l.length,iG (a:Int),iG (b:Int),Sm fi fa fc] [(0,Bt l)] 1 (.tup [iG (m:Int),iG (bif f then 1 else 0)]) [(0,Bt l)] 1:=by
 unfold chS at h;obtain⟨⟨c,w⟩,e,h⟩:=bS h;obtain⟨hw,h⟩:=JW h;have hw:=DP hw;dsimp only at hw;simp only[Ft,Gb] at h;obtain⟨rfl,rfl⟩:=h;have hn:decide ((w:Int)=12)=false:=C3 aa;refine pP func291 ?_;cases b1:decide ((w:Int)=0) with
 |true=>
  rcases AgI hB with⟨rfl,rfl⟩|⟨rfl,rfl⟩|⟨rfl,rfl⟩|⟨rfl,rfl⟩|⟨rfl,rfl⟩|⟨rfl,rfl⟩
  all_goals exact mt .ret (s0 63 gl [(8,iG (c:Int)),(9,iG 1)] [(0,Bt l)] 1 1) [iG (c:Int),iG 1] [AmD hv ra rc 54 e,hr 58 b1] [hc (ac.imm l)] (kd:=[(0,.row)])
 |false=>
  rcases AgI hB with⟨rfl,rfl⟩|⟨rfl,rfl⟩|⟨rfl,rfl⟩|⟨rfl,rfl⟩|⟨rfl,rfl⟩|⟨rfl,rfl⟩
  all_goals exact mt .ret (s0 63 gl [(8,iG (c:Int)),(9,iG 0)] [(0,Bt l)] 1 1) [iG (c:Int),iG 0] [AmD hv ra rc 54 e,hr 58 b1,hr 61 hn] [hc (ac.imm l)] (kd:=[(0,.row)])
omit ra rc
theorem AkL{l:AH}{a b:Nat}{f:Bool}(hl:l.length<=1000)(ha:a<1000)(hb:b<=1000)(hab:b-a<50)(h:piS cmp l a b=some f):jg prog gl 293 [.rsl 0 0 l.length,iG (a:Int),iG (b:Int),Sm fi fa fc] [(0,Bt l)] 1 (bG f) [(0,Bt l)] 1:=by
 unfold piS at h;obtain⟨k,ek,h⟩:=bS h;obtain rfl:=Bh h;refine pP func293 ?_;refine pN (λ_:Unit=>(s0 141 gl [(0,.rsl 0 0 l.length),(1,iG (a:Int)),(2,iG (b:Int)),(3,Sm fi fa fc),(9,iG ((a+1:Nat):Int)),(10,iG 0)] [(0,Bt l)] 1 1)) 1110122 Lg [hbb 14 (Xl (q:=a) aa)] [hc (el l),hc hv.im,hc (ac.imm l)] (λB z w hz2 g d=>?_);clear g d hz2;refine Ix 11101221020 (s0 141 gl [(0,.rsl 0 0 l.length),(1,iG (a:Int)),(2,iG (b:Int)),(3,Sm fi fa fc),(9,iG ((k+1:Nat):Int)),(10,iG 0)] [(0,Bt l)] 1 1) ?_ λkk=>?_;rotate_left
 .refine pN (λk:Nat=>(s0 141 gl [(0,.rsl 0 0 l.length),(1,iG (a:Int)),(2,iG (b:Int)),(3,Sm fi fa fc),(9,iG ((k+1:Nat):Int)),(10,iG 0)] [(0,Bt l)] 1 1)) 1110122102022 ek [] [hc (el l),hc hv.im,hc (ac.imm l)] (λi k v hz g d=>?_);unfold scS at hz;rcases bC hz with⟨b2,hz⟩|⟨b2,hz⟩
  .obtain⟨x,c,hz⟩:=bS hz;obtain⟨y,e,hz⟩:=bS hz;have hq:=(cr c).1;rcases bC hz with⟨b3,hz⟩|⟨b3,hz⟩
   .obtain rfl:=Bh hz;obtain rfl:=d _ rfl;exact yl 11101221020 [hr 21 b2,AA 26 (ac.ixrZ 0 (Bq c)),AA 27 (ac.pt0Z aW (Bq c)),hbb 30 (dec (q:=k) aa),AA 31 (ac.ixrZ 0 (Bq e)),AA 32 (ac.pt0Z aW (Bq e)),hcp 33 1 hv x y,hr 34 b3] [hc (el l),hc hv.im,hc (ac.imm l)] kk
   .obtain rfl:=Bh hz;exact jw [hr 21 b2,AA 26 (ac.ixrZ 0 (Bq c)),AA 27 (ac.pt0Z aW (Bq c)),hbb 30 (dec (q:=k) aa),AA 31 (ac.ixrZ 0 (Bq e)),AA 32 (ac.pt0Z aW (Bq e)),hcp 33 1 hv x y,hr 34 b3,hbb 38 (Xl (q:=k+1) aa)] [hc (el l),hc hv.im,hc (ac.imm l)] (g _ rfl)
  .obtain rfl:=Bh hz;obtain rfl:=d _ rfl;exact yl 11101221020 [hr 21 b2] [hc (el l),hc hv.im,hc (ac.imm l)] kk
 clear ek;cases b1:decide (((k+1:Nat):Int)=(b:Int)) with
 |true=>exact mt .ret (s0 141 gl [(8,bG true)] [(0,Bt l)] 1 1) [bG true] [hr 41 b1] [hc (ac.imm l)] (kd:=[(0,.row)])
 |false=>exact mt .ret (s0 141 gl [(8,bG false)] [(0,Bt l)] 1 1) [bG false] [hr 41 b1,hbb 44 (sb (a:=(b:Int)) (b:=(a:Int)) (z:=(b:Int)-(a:Int)) rfl aa),hr 45 (show decide ((b:Int)-(a:Int)<50)=true from CM aa)] [hc (ac.imm l)] (kd:=[(0,.row)])
omit hv
abbrev oXs(s:Nat):Option Ob:=some ⟨343,[uG (s:Int)],none⟩
def rnX:Bool->Nat->Nat
 |false,0=>13
 |false,1=>14069506893
 |false,2=>14988908846326605643
 |false,_=>3428281591454193221
 |true,0=>14
 |true,1=>15151776654
 |true,2=>16141901775903972233
 |true,_=>9417236295700912254
theorem AaH(d:Bool)(j:Nat)(h:j<3):jg prog gl 320 [.ref 0 0] [(0,oXs (rnX d j))] 1 (uG (rnX d (j+1):Int)) [(0,oXs (rnX d (j+1)))] 1:=by
 refine pP func320 ?_;rcases(by omega:j=0\/j=1\/j=2) with rfl|rfl|rfl<;>cases d
 .exact mt .ret (s0 33 gl [(2,uG 14069506893)] [(0,oXs 14069506893)] 1 1) [uG 14069506893] [] []
 .exact mt .ret (s0 33 gl [(2,uG 15151776654)] [(0,oXs 15151776654)] 1 1) [uG 15151776654] [] []
 .exact mt .ret (s0 33 gl [(2,uG 14988908846326605643)] [(0,oXs 14988908846326605643)] 1 1) [uG 14988908846326605643] [] []
 .exact mt .ret (s0 33 gl [(2,uG 16141901775903972233)] [(0,oXs 16141901775903972233)] 1 1) [uG 16141901775903972233] [] []
 .exact mt .ret (s0 33 gl [(2,uG 3428281591454193221)] [(0,oXs 3428281591454193221)] 1 1) [uG 3428281591454193221] [] []
 .exact mt .ret (s0 33 gl [(2,uG 9417236295700912254)] [(0,oXs 9417236295700912254)] 1 1) [uG 9417236295700912254] [] []
theorem AkM(d:Bool):ba prog gl 319 [iG (bif d then 14 else 13)] (uG 16):=by
 have h:=RC gl (n:=13) Cd;have h':=RC gl (n:=14) Cd;refine Gh func319 ?_;cases d
 .exact Ar [hf 5 h] []
 .exact Ar [hf 5 h'] []
end
theorem dJa{P:Br}{fn:Func}{Q:Exit->St->Prop}{Bs:List (St->Prop)}{m:Bool}{p:Bp}{st:St}(q:Bp)(J:St)(kk:Gp P fn Q Bs false q J)(h:Gp P fn Q Bs false q J->Gp P fn Q Bs m p st):Gp P fn Q Bs m p st:=h kk
def brO:Bool->Nat->Nat
 |_,0=>0
 |false,1=>11
 |true,1=>9
 |false,_=>5
 |true,_=>0
def brT(d:Bool)(a:Nat)(s:Nat×AH):Option ((Nat×AH)⊕AH):=match s.1 with
 |0=>(swZ s.2 (a+5) (a+brO d 0)).bind λl=>some (.inl (1,l))
 |1=>(swZ s.2 (a+6) (a+brO d 1)).bind λl=>some (.inl (2,l))
 |2=>(swZ s.2 (a+7) (a+brO d 2)).bind λl=>some (.inl (3,l))
 |3=>some (.inr s.2)
 |_=>none
def brG(l:AH)(a b c:Nat)(d:Bool):Option (AH×Nat):=bif d then some (l,c)else bif Nat.ble 1 a then(AQ (brT (Nat.beq (b-a) 14) a) (0,l)).bind λr=>bif Nat.beq l.length r.length then some (r,c-1)else none else none
def agG(cmp:Ab->Ab->Int)(l:AH)(a p:Nat):Fw:=bif Nat.blt 0 a then(l[a-1]?).bind λy=>(l[p]?).bind λx=>some (decide (cmp y x<0))else some true
def AgJ(a b:Nat):Bool:=Nat.ble (a+13) b&&Nat.ble b 15
theorem Aiy(h:AgJ a b=true):Big a b:=by unfold AgJ at h;rw[bA] at h;exact⟨EG h.1,EG h.2⟩
abbrev PdS:Type:=AH×Nat×Nat×Nat×Bool×Bool
def pdN(cmp:Ab->Ab->Int)(a b c:Nat)(m:Nat)(f:Bool)(l:AH):Option (PdS⊕AH):=
 bif a<=m/\m<b then(bif (m:Int)-(a:Int)<(b:Int)-(m:Int)then(inI cmp (a:Int) (m:Int) l).bind λl3=>bif Nat.beq l.length l3.length then some (.inl (l3,m+1,b,c,decide ((1:Int)<=(m:Int)-(a:Int)),f))else none
  else(inI cmp ((m+1:Nat):Int) (b:Int) l).bind λl3=>bif Nat.beq l.length l3.length then some (.inl (l3,a,m,c,decide ((1:Int)<=(b:Int)-(m:Int)),f))else none)else none
def pdT(cmp:Ab->Ab->Int)(s:PdS):Option (PdS⊕AH):=
 bif s.1.length<=1000/\s.2.1<=100/\s.2.2.1<=100 then
 bif (s.2.2.1:Int)-(s.2.1:Int)<=12 then(inI cmp (s.2.1:Int) (s.2.2.1:Int) s.1).bind λr=>some (.inr r)
 else bif AgJ s.2.1 s.2.2.1&&(Nat.blt 0 s.2.2.2.1&&Nat.ble s.2.2.2.1 100) then
  (brG s.1 s.2.1 s.2.2.1 s.2.2.2.1 s.2.2.2.2.1).bind λq=>bif q.1.length<=1000 then(chS cmp q.1 s.2.1).bind λc=>(bif s.2.2.2.2.1&&s.2.2.2.2.2&&c.2 then piS cmp q.1 s.2.1 s.2.2.1 else some false).bind λd=>bif d then some (.inr q.1) else
  (agG cmp q.1 s.2.1 c.1).bind λok=>bif ok then(paS cmp s.2.1 s.2.2.1 c.1 q.1).bind λr=>bif Nat.beq q.1.length r.2.2.length then pdN cmp s.2.1 s.2.2.1 q.2 r.1 r.2.1 r.2.2 else none else none else none
 else none else none
section
variable {gl:CC} {fi:FuncId} {fa fc:Bo} {cmp:Ab->Ab->Int} (hv:CmV gl fi fa fc cmp)
include hv
theorem AkO(hB:Big a b)(ha:1<=a){r:AH}(h:AQ (brT (Nat.beq (b-a) 14) a) (0,l)=some r):jg prog gl 290 [.rsl 0 0 l.length,iG (a:Int),iG (b:Int),Sm fi fa fc] [(0,Bt l)] 1 (.tup []) [(0,Bt r)] 1:=by
 rcases(by omega:(a=1/\b=14)\/(a=1/\b=15)\/(a=2/\b=15)) with⟨rfl,rfl⟩|⟨rfl,rfl⟩|⟨rfl,rfl⟩
 let a:Nat:=1;let d:Bool:=false;rotate_left
 let a:Nat:=1;let d:Bool:=true;rotate_left
 let a:Nat:=2;let d:Bool:=false;all_goals
  have hn:=AkM (gl:=gl) d
  have h0:=AaH (gl:=gl) d 0 Cd
  have h1:=AaH (gl:=gl) d 1 Cd
  have h2:=AaH (gl:=gl) d 2 Cd
  refine pP func290 ?_
  refine pN (λs:Nat×AH=>(s0 67 gl [(0,.rsl 0 0 s.2.length),(1,iG (a:Int)),(8,iG (bif d then 14 else 13)),(9,.ref 1 0),(10,uG 16),(11,iG ((a+5+s.1:Nat):Int))] [(0,Bt s.2),(1,oXs (rnX d s.1))] 2 1)) 111311122 h [hf 21 hn] [hc (el l),hc (ac.imm l)] (λB s w hs k5 c=>?_)
  obtain⟨j,l⟩:=s
  unfold brT at hs
  dsimp only at hs
  split at hs
  .obtain⟨l1,e1,hs⟩:=bS hs
   obtain rfl:=Bh hs
   obtain⟨x,y,hx,hy,e⟩:=I9 e1
   have hl:l.length=l1.length:=by rw[e];exact Ui
   exact jw (tN 38 [1] 2 [(1,oXs (rnX d 0))] [.ref 1 0] [(0,oXs (rnX d 1))] h0 ⟨⟨rfl,.inl rfl⟩,trivial⟩ ⟨⟨rfl,.inl rfl⟩,trivial⟩::hsw 59 63 65 66 hx hy e) [hc hl,hc (ac.imm l1)] (k5 _ rfl)
  .obtain⟨l1,e1,hs⟩:=bS hs
   obtain rfl:=Bh hs
   obtain⟨x,y,hx,hy,e⟩:=I9 e1
   have hl:l.length=l1.length:=by rw[e];exact Ui
   exact jw (tN 38 [1] 2 [(1,oXs (rnX d 1))] [.ref 1 0] [(0,oXs (rnX d 2))] h1 ⟨⟨rfl,.inl rfl⟩,trivial⟩ ⟨⟨rfl,.inl rfl⟩,trivial⟩::hsw 59 63 65 66 hx hy e) [hc hl,hc (ac.imm l1)] (k5 _ rfl)
  .obtain⟨l1,e1,hs⟩:=bS hs
   obtain rfl:=Bh hs
   obtain⟨x,y,hx,hy,e⟩:=I9 e1
   have hl:l.length=l1.length:=by rw[e];exact Ui
   exact jw (tN 38 [1] 2 [(1,oXs (rnX d 2))] [.ref 1 0] [(0,oXs (rnX d 3))] h2 ⟨⟨rfl,.inl rfl⟩,trivial⟩ ⟨⟨rfl,.inl rfl⟩,trivial⟩::hsw 59 63 65 66 hx hy e) [hc hl,hc (ac.imm l1)] (k5 _ rfl)
  .obtain rfl:=Bh hs
   obtain rfl:=c _ rfl
   exact mt .normal (s0 67 gl [] [(0,Bt l)] 1 1) [] [] [hc (ac.imm l)] (kd:=[(0,.row)])
  .cases hs
variable (ra:RnF fa) (rc:RnF fc)
include ra rc
theorem rnA{κ:Nat->FF}{x y:G}(h1:qg κ 20 x=y)(h:L.map (qg κ 20)=L):(x::(L++[Sm fi fa fc])).map (qg κ 20)=y::(L++[Sm fi fa fc]):=by rw[Fo,List.map_append,h1,h];show y::(L++[.clo (.func fi) (fa.map (qg κ 19)) (fc.map (qg κ 19))])=_;rw[ra κ,rc κ]
abbrev hI(d:Nat)(L:Bo){f:FuncId}{l r:AH}{res:G}(hM:jg prog gl f (.rsl 0 0 l.length::(L++[Sm fi fa fc])) [(0,Bt l)] 1 res [(0,Bt r)] 1)(hL:L.map (qg (vi [0]) 20)=L):HP:=tN d [0] 1 [(0,Bt l)] (.rsl 0 0 l.length::(L++[Sm fi fa fc])) [(0,Bt r)] hM ⟨⟨rfl,.inr ⟨rfl,ac.imm l⟩⟩,trivial⟩ ⟨⟨rfl,.inr ⟨rfl,ac.imm r⟩⟩,trivial⟩ (hgs:=rnA hv ra rc rfl hL)
omit hv ra rc in
theorem mcL{f:FuncId}{r:AH}{res:G}{n:Nat}(e:n=l.length)(hM:jg prog gl f (.rsl 0 0 l.length::L) [(0,Bt l)] 1 res [(0,Bt r)] 1):jg prog gl f (.rsl 0 0 n::L) [(0,Bt l)] 1 res [(0,Bt r)] 1:=e▸hM
abbrev hI2(d:Nat)(L:Bo){f:FuncId}{l r:AH}{res:G}{n:Nat}(e:n=l.length)(hM:jg prog gl f (.rsl 0 0 l.length::(L++[Sm fi fa fc])) [(0,Bt l)] 1 res [(0,Bt r)] 1)(hL:L.map (qg (vi [0]) 20)=L):HP:=tN d [0] 1 [(0,Bt l)] (.rsl 0 0 n::(L++[Sm fi fa fc])) [(0,Bt r)] (mcL e hM) ⟨⟨rfl,.inr ⟨rfl,ac.imm l⟩⟩,trivial⟩ ⟨⟨rfl,.inr ⟨rfl,ac.imm r⟩⟩,trivial⟩ (hgs:=rnA hv ra rc rfl hL)
theorem U2{a b:Nat}{r:AH}(ha:a<=1000)(hb:b<=1000)(hab:(b:Int)-(a:Int)<=12)(h:inI cmp (a:Int) (b:Int) l=some r)(k:Int):jg prog gl 210 [.rsl 0 0 l.length,iG (a:Int),iG (b:Int),iG k,Sm fi fa fc] [(0,Bt l)] 1 (.tup []) [(0,Bt r)] 1:=by have hs:=sb (a:=(b:Int)) (b:=(a:Int)) (z:=(b:Int)-(a:Int)) rfl aa;have hd:=CM hab;refine pP func210 ?_;refine pN (λ_:Unit=>(s0 148 gl [(0,.rsl 0 0 l.length),(1,iG (a:Int)),(2,iG (b:Int)),(3,iG k),(4,Sm fi fa fc)] [(0,Bt l)] 1 1)) 11122 Lg [] [hc (el l),hc hv.im,hc (ac.imm l)] (λc z v hz2 d e=>?_);exact mt .ret (s0 148 gl [] [(0,Bt r)] 1 1) [] [hbb 23 hs,hr 25 hd,hI hv ra rc 30 [iG (a:Int),iG (b:Int)] (AdI hv h) rfl] [hc (ac.imm r)] (kd:=[(0,.row)])
abbrev Aog(gl:CC)(fi:FuncId)(fa fc:Bo)(s:PdS):St:=(s0 148 gl [(0,.rsl 0 0 s.1.length),(1,iG (s.2.1:Int)),(2,iG (s.2.2.1:Int)),(3,iG (s.2.2.2.1:Int)),(4,Sm fi fa fc),(10,bG s.2.2.2.2.1),(11,bG s.2.2.2.2.2)] [(0,Bt s.1)] 1 1)
theorem AkP{s:PdS}{r:AH}(h:AQ (pdT cmp) s=some r)(h1:s.2.2.2.2=(true,true)):jg prog gl 210 [.rsl 0 0 s.1.length,iG (s.2.1:Int),iG (s.2.2.1:Int),iG (s.2.2.2.1:Int),Sm fi fa fc] [(0,Bt s.1)] 1 (.tup []) [(0,Bt r)] 1:=by
 refine pP func210 ?_;obtain⟨l,a,b,g,j,par⟩:=s;obtain⟨rfl,rfl⟩:=Prod.mk.inj h1;clear h1;refine pN (Aog gl fi fa fc) [1,1,2,2] h [] [hc (el l),hc hv.im,hc (ac.imm l)] (λB s w hs k5 A=>?_);clear h l a b g;obtain⟨l,a,b,g,j,par⟩:=s;unfold pdT at hs;dsimp only at hs;obtain⟨hg,hs⟩:=JW hs;obtain⟨hl,ha,hb⟩:=DP hg;have n:=sb (a:=(b:Int)) (b:=(a:Int)) (z:=(b:Int)-(a:Int)) rfl aa;rcases bC hs with⟨b1,hs⟩|⟨b1,hs⟩
 .obtain⟨r',v,hs⟩:=bS hs;obtain rfl:=Bh hs;obtain rfl:=A _ rfl;exact mt .ret (s0 148 gl [] [(0,Bt r')] 1 1) [] [hbb 23 n,hr 25 b1,hI hv ra rc 30 [iG (a:Int),iG (b:Int)] (AdI hv v) rfl] [hc (ac.imm r')] (kd:=[(0,.row)])
 obtain⟨t,hs⟩:=JW hs;simp only[bA] at t;obtain⟨hB,hl1,hl2⟩:=t;have hB:=Aiy hB;have hlim:0<g:=EG hl1;have hlim2:g<=100:=EG hl2;clear hl1 hl2;obtain⟨⟨l1,c⟩,k,hs⟩:=bS hs;dsimp only at hs;obtain⟨u,hs⟩:=JW hs;have hll:=DP u;obtain⟨⟨p,Xl⟩,C,hs⟩:=bS hs;dsimp only at hs;obtain⟨d,ed,hs⟩:=bS hs;refine dJa [1,1,2,2,2,1,1,1,1,0] (s0 148 gl [(0,.rsl 0 0 l1.length),(1,iG (a:Int)),(2,iG (b:Int)),(3,iG (c:Int)),(4,Sm fi fa fc),(10,bG j),(11,bG par),(12,iG ((b:Int)-(a:Int)))] [(0,Bt l1)] 1 1) ?_ λkk=>?_;rotate_left
 .have hn0:decide ((g:Int)=0)=false:=C3 aa;unfold brG at k;cases j with
  |true=>obtain⟨rfl,rfl⟩:=Prod.mk.inj (Bh k);exact pO 11122211110 _ [hbb 23 n,hr 25 b1,hr 32 hn0] [hc (el l),hc hv.im,hc (ac.imm l)] kk
  |false=>obtain⟨hab,k⟩:=JW k;have hab:=EG hab;obtain⟨r',v,k⟩:=bS k;obtain⟨hle,k⟩:=JW k;have hle:=bc hle;obtain⟨q,rfl⟩:∃q,g=q+1:=⟨g-1,aa⟩;rw[Nat.add_sub_cancel] at k;obtain⟨rfl,rfl⟩:=Prod.mk.inj (Bh k);exact pO 11122211110 _ [hbb 23 n,hr 25 b1,hr 32 hn0,hI hv ra rc 44 [iG (a:Int),iG (b:Int)] (AkO hv hB hab v) rfl,hbb 46 (dec (q:=q) aa)] [hc hle,hc hv.im,hc (ac.imm r')] kk
 clear k b1 n hlim hlim2;have i:=AkK hv ra rc (b:=b) hB C;have hpi:=λe=>AkL hv (l:=l1) (a:=a) (b:=b) (f:=d) hll aa aa aa e;cases d with
 |true=>
  obtain rfl:=Bh hs;obtain rfl:=A _ rfl;cases j with
  |false=>cases ed
  |true=>cases par with
   |false=>cases ed
   |true=>cases Xl with
    |false=>cases ed
    |true=>
     have hpi:=hpi ed
     exact mt .ret (s0 148 gl [] [(0,Bt l1)] 1 1) [] [hI hv ra rc 52 [iG (a:Int),iG (b:Int)] i rfl,hI hv ra rc 80 [iG (a:Int),iG (b:Int)] hpi rfl] [hc (ac.imm l1)] (kd:=[(0,.row)])
 |false=>
 refine dJa [1,1,2,2,2,1,1,1,1,1,1,1,0,0] (s0 148 gl [(0,.rsl 0 0 l1.length),(1,iG (a:Int)),(2,iG (b:Int)),(3,iG (c:Int)),(4,Sm fi fa fc),(12,iG ((b:Int)-(a:Int))),(13,iG (p:Int))] [(0,Bt l1)] 1 1) ?_ λkk=>?_;rotate_left
 .cases j with
  |false=>cases par<;>cases Xl<;>exact pO 111222111111100 _ [hI hv ra rc 52 [iG (a:Int),iG (b:Int)] i rfl] [hc (el l1),hc hv.im,hc (ac.imm l1)] kk
  |true=>cases par with
   |false=>cases Xl<;>exact pO 111222111111100 _ [hI hv ra rc 52 [iG (a:Int),iG (b:Int)] i rfl] [hc (el l1),hc hv.im,hc (ac.imm l1)] kk
   |true=>cases Xl with
    |false=>exact pO 111222111111100 _ [hI hv ra rc 52 [iG (a:Int),iG (b:Int)] i rfl] [hc (el l1),hc hv.im,hc (ac.imm l1)] kk
    |true=>
     have hpi:=hpi ed
     exact pO 111222111111100 _ [hI hv ra rc 52 [iG (a:Int),iG (b:Int)] i rfl,hI hv ra rc 80 [iG (a:Int),iG (b:Int)] hpi rfl] [hc (el l1),hc hv.im,hc (ac.imm l1)] kk
 clear i hpi ed C;rw[A9] at hs;obtain⟨ok,o,hs⟩:=bS hs;have D:=hB.2;have hq:lD .quo (iG ((b:Int)-(a:Int))) (iG 8)=some (iG 1):=by rcases(by omega:(b:Int)-(a:Int)=13\/(b:Int)-(a:Int)=14\/(b:Int)-(a:Int)=15) with e|e|e<;>rw[e]<;>kernel_rfl
 rcases a with _|q
 .clear o;obtain⟨hok,hs⟩:=JW hs;subst hok;obtain⟨⟨m,f,l2⟩,ep,hs⟩:=bS hs;dsimp only at hs;obtain⟨h2,hs⟩:=JW hs;have h2:=bc h2;unfold pdN at hs;obtain⟨hm,hs⟩:=JW hs;have hm:=DP hm;rcases bC hs with⟨b2,hs⟩|⟨b2,hs⟩
  .have b3:=DP b2;obtain⟨l3,e3,hs⟩:=bS hs;obtain⟨h3,hs⟩:=JW hs;have h3:=h2.trans (bc h3);obtain rfl:=Bh hs;exact jw [hI hv ra rc 111 [iG ((0:Nat):Int),iG (b:Int),iG (p:Int)] (U1 hv hll aa aa aa ep) rfl,hbb 117 (sb (a:=(m:Int)) (b:=((0:Nat):Int)) (z:=(m:Int)-((0:Nat):Int)) rfl aa),hbb 120 (sb (a:=(b:Int)) (b:=(m:Int)) (z:=(b:Int)-(m:Int)) rfl aa),hbb 122 hq,hr 125 b2,hI2 hv ra rc 134 [iG ((0:Nat):Int),iG (m:Int),iG (c:Int)] h2 (U2 hv ra rc aa aa aa e3 (c:Int)) rfl,hbb 136 (Go.Proofs.YtlimmeehdfbheaaGreatDoor.Xl (q:=m) aa)] [hc h3,hc hv.im,hc (ac.imm l3)] (k5 _ rfl)
  .have b3:=Np b2;obtain⟨l3,e3,hs⟩:=bS hs;obtain⟨h3,hs⟩:=JW hs;have h3:=h2.trans (bc h3);obtain rfl:=Bh hs;exact jw [hI hv ra rc 111 [iG ((0:Nat):Int),iG (b:Int),iG (p:Int)] (U1 hv hll aa aa aa ep) rfl,hbb 117 (sb (a:=(m:Int)) (b:=((0:Nat):Int)) (z:=(m:Int)-((0:Nat):Int)) rfl aa),hbb 120 (sb (a:=(b:Int)) (b:=(m:Int)) (z:=(b:Int)-(m:Int)) rfl aa),hbb 122 hq,hr 125 b2,hbb 142 (Go.Proofs.YtlimmeehdfbheaaGreatDoor.Xl (q:=m) aa),hI2 hv ra rc 146 [iG ((m+1:Nat):Int),iG (b:Int),iG (c:Int)] h2 (U2 hv ra rc aa aa aa e3 (c:Int)) rfl] [hc h3,hc hv.im,hc (ac.imm l3)] (k5 _ rfl)
 .obtain⟨y,hy,o⟩:=bS (show((l1[q]?).bind λy=>(l1[p]?).bind λx=>some (decide (cmp y x<0)))=some ok from o);obtain⟨x,hx,o⟩:=bS o;have o:=Bh o;have h0:decide ((0:Int)<((q+1:Nat):Int))=true:=CM aa;obtain⟨hok,hs⟩:=JW hs;subst hok;obtain⟨⟨m,f,l2⟩,ep,hs⟩:=bS hs;dsimp only at hs;obtain⟨h2,hs⟩:=JW hs;have h2:=bc h2;unfold pdN at hs;obtain⟨hm,hs⟩:=JW hs;have hm:=DP hm;rcases bC hs with⟨b2,hs⟩|⟨b2,hs⟩
  .have b3:=DP b2;obtain⟨l3,e3,hs⟩:=bS hs;obtain⟨h3,hs⟩:=JW hs;have h3:=h2.trans (bc h3);obtain rfl:=Bh hs;exact jw [hr 82 h0,hbb 87 (dec (q:=q) aa),AA 88 (ac.ixrZ 0 (Bq hy)),AA 89 (ac.pt0Z aW (Bq hy)),AA 92 (ac.ixrZ 0 (Bq hx)),AA 93 (ac.pt0Z aW (Bq hx)),hcp 94 1 hv y x,hr 95 o,hI hv ra rc 111 [iG ((q+1:Nat):Int),iG (b:Int),iG (p:Int)] (U1 hv hll aa aa aa ep) rfl,hbb 117 (sb (a:=(m:Int)) (b:=((q+1:Nat):Int)) (z:=(m:Int)-((q+1:Nat):Int)) rfl aa),hbb 120 (sb (a:=(b:Int)) (b:=(m:Int)) (z:=(b:Int)-(m:Int)) rfl aa),hbb 122 hq,hr 125 b2,hI2 hv ra rc 134 [iG ((q+1:Nat):Int),iG (m:Int),iG (c:Int)] h2 (U2 hv ra rc aa aa aa e3 (c:Int)) rfl,hbb 136 (Go.Proofs.YtlimmeehdfbheaaGreatDoor.Xl (q:=m) aa)] [hc h3,hc hv.im,hc (ac.imm l3)] (k5 _ rfl)
  .have b3:=Np b2;obtain⟨l3,e3,hs⟩:=bS hs;obtain⟨h3,hs⟩:=JW hs;have h3:=h2.trans (bc h3);obtain rfl:=Bh hs;exact jw [hr 82 h0,hbb 87 (dec (q:=q) aa),AA 88 (ac.ixrZ 0 (Bq hy)),AA 89 (ac.pt0Z aW (Bq hy)),AA 92 (ac.ixrZ 0 (Bq hx)),AA 93 (ac.pt0Z aW (Bq hx)),hcp 94 1 hv y x,hr 95 o,hI hv ra rc 111 [iG ((q+1:Nat):Int),iG (b:Int),iG (p:Int)] (U1 hv hll aa aa aa ep) rfl,hbb 117 (sb (a:=(m:Int)) (b:=((q+1:Nat):Int)) (z:=(m:Int)-((q+1:Nat):Int)) rfl aa),hbb 120 (sb (a:=(b:Int)) (b:=(m:Int)) (z:=(b:Int)-(m:Int)) rfl aa),hbb 122 hq,hr 125 b2,hbb 142 (Go.Proofs.YtlimmeehdfbheaaGreatDoor.Xl (q:=m) aa),hI2 hv ra rc 146 [iG ((m+1:Nat):Int),iG (b:Int),iG (c:Int)] h2 (U2 hv ra rc aa aa aa e3 (c:Int)) rfl] [hc h3,hc hv.im,hc (ac.imm l3)] (k5 _ rfl)
end
structure OrN {α:Type} (cmp:α->α->Int) (D:α->Prop):Prop where
 tr:∀x y z,cmp x y<0->cmp y z<0->cmp x z<0
 tt:∀x y,D x->D y->x≠y->cmp x y<0\/cmp y x<0
def Rg{α:Type}(a b:Nat)(l r:List α):Prop:=r.Perm l/\∀q,(q<a\/b<=q)->r[q]?=l[q]?
def SoR{α:Type}(cmp:α->α->Int)(a b:Nat)(l:List α):Prop:=∀p q x y,a<=p->p<q->q<b->l[p]?=some x->l[q]?=some y->cmp x y<0
def OrX{α:Type}(cmp:α->α->Int)(a b:Nat)(l:List α):Prop:=∀p q x y,p<q->¬(a<=p/\q<b)->l[p]?=some x->l[q]?=some y->cmp x y<0
theorem Rg.refl{α:Type}{a b:Nat}(l:List α):Rg a b l l:=⟨.refl _,λ_ _=>rfl⟩
theorem Rg.trans{α:Type}{a b:Nat}{l r s:List α}(h:Rg a b l r)(k:Rg a b r s):Rg a b l s:=⟨k.1.trans h.1,λq hq=>(k.2 q hq).trans (h.2 q hq)⟩
theorem Rg.mono{α:Type}{a b a' b':Nat}{l r:List α}(h:Rg a b l r)(ha:a'<=a)(hb:b<=b'):Rg a' b' l r:=⟨h.1,λq hq=>h.2 q aa⟩
theorem Rg.len{α:Type}{a b:Nat}{l r:List α}(h:Rg a b l r):r.length=l.length:=h.1.length_eq
theorem JX{l:List α}(h:l.Nodup){q:Nat}{x:α}(h1:l[p]?=some x)(h2:l[q]?=some x):p=q:=by grind [List.getElem?_inj]
theorem Rg.src{α:Type}{a b:Nat}{l r:List α}(h:Rg a b l r)(hn:l.Nodup){q:Nat}{y:α}(h1:a<=q)(h2:q<b)(hy:r[q]?=some y):∃c,a<=c/\c<b/\l[c]?=some y:=by
 obtain⟨c,hq⟩:=EO (h.1.mem_iff.1 (bO hy));refine⟨c,?_⟩;rcases(by omega:(c<a\/b<=c)\/(a<=c/\c<b)) with h3|h3
 .have:=JX (h.1.nodup_iff.2 hn) hy ((h.2 c h3).trans hq);omega
 .exact⟨h3.1,h3.2,hq⟩
theorem OrX.rg{α:Type}{cmp:α->α->Int}{a b:Nat}{l r:List α}(h:OrX cmp a b l)(k:Rg a b l r)(hn:l.Nodup):OrX cmp a b r:=by
 have src:∀q y,r[q]?=some y->∃c,l[c]?=some y/\(c=q\/(a<=q/\q<b/\a<=c/\c<b)):=λq y hy=>by
  rcases(by omega:(q<a\/b<=q)\/(a<=q/\q<b)) with h3|h3
  .exact⟨q,(k.2 q h3).symm.trans hy,.inl rfl⟩
  grind [Rg.src]
 intro p q x y e hb hx hy;obtain⟨f,hx',hp⟩:=src p x hx;obtain⟨c,d,hq⟩:=src q y hy;exact h f c x y aa aa hx' d
theorem AgK{l:List α}{i j:Nat}(hi:i<l.length)(hj:j<l.length):∃r,swZ l i j=some r/\r.Perm l/\∀q,r[q]?=if q=j then l[i]? else if q=i then l[j]? else l[q]? :=by refine⟨(l.set i l[j]).set j l[i],?_,List.set_set_perm hi hj,λq=>?_⟩;all_goals grind [swZ]
theorem AbJ{a b i j:Nat}{l r:List α}(h:r.Perm l)(hq:∀q,r[q]?=if q=j then l[i]? else if q=i then l[j]? else l[q]?)(h1:a<=i)(h2:i<b)(h3:a<=j)(h4:j<b):Rg a b l r:=by constructor<;>grind
section
variable {α:Type} {cmp:α->α->Int} {D:α->Prop} (hO:OrN cmp D)
include hO
theorem OrN.lt{l:List α}(hn:l.Nodup)(hD:∀z∈l,D z){p q:Nat}{x y:α}(hx:l[p]?=some x)(hy:l[q]?=some y)(a:p≠q)(h:¬cmp y x<0):cmp x y<0:=by grind [OrN,JX]
theorem SoR.all{a b:Nat}{l:List α}(h:SoR cmp a b l)(k:OrX cmp a b l):SoR cmp 0 l.length l:=λp q x y _ c _ hx hy=>by
 by_cases hh:a<=p/\q<b
 .exact h p q x y hh.1 c hh.2 hx hy
 .exact k p q x y c hh hx hy
theorem AaI{a b:Nat}{l:List α}(hn:l.Nodup)(hD:∀z∈l,D z)(ha:a<=1000)(hb:b<=l.length)(hl:l.length<=1000):T (inI cmp (a:Int) (b:Int) l) λr=>Rg a b l r/\SoR cmp a b r:=by
 unfold inI;rw[show wI ((a:Int)+1)=wI ((a:Nat)+1) from rfl];rw[aq aa];refine T.loop (λs=>∃i:Nat,s.2=(i:Int)/\a+1<=i/\(i<=b\/i=a+1)/\Rg a b l s.1/\SoR cmp a i s.1) (λs=>b-s.2.toNat) ⟨a+1,rfl,C6 _,.inr rfl,.refl l,λp q x y h1 h2 h3=>aa⟩ (by show b-_<_;omega) ?_;rintro⟨l1,A⟩ ⟨i,e,h1,h2,h3,h4⟩;dsimp only at e h3 h4;subst e;have f:=h3.1.nodup_iff.2 hn;have hl1:=h3.len;unfold AaE;dsimp only;refine .dec (λhlt=>?_) λhge=> .some ⟨h3,λp q x y k1 k2 k3=>h4 p q x y k1 k2 aa⟩;have hib:i<b:=aa;refine .bind ((T.loop (λs=>∃j:Nat,s.2=(j:Int)/\a<=j/\j<=i/\Rg a b l1 s.1/\∀p q x y,a<=p->p<q->q<=i->q≠j->s.1[p]?=some x->s.1[q]?=some y->cmp x y<0) (λs=>s.2.toNat) (Q:=λr=>Rg a b l1 r/\SoR cmp a (i+1) r) ⟨i,rfl,aa,C6 _,.refl l1,λp q x y k1 k2 k3 d=>h4 p q x y k1 k2 aa⟩ (by show((i:Int)).toNat<_;omega) ?_).mono λr hr=> .some ⟨⟨i+1,aq aa,aa,.inl aa,h3.trans hr.1,hr.2⟩,?_⟩)
 .rintro⟨l2,B⟩ ⟨j,e,k1,k2,k3,d⟩;dsimp only at e k3 d;subst e;have g:=k3.1.nodup_iff.2 f;have hl2:=k3.len;unfold AaD;dsimp only;refine .dec (λh=>?_) λh=> .some ⟨k3,λp q x y m1 m2 m3=>d p q x y m1 m2 aa aa⟩;obtain⟨k,rfl⟩:∃k,j=k+1:=⟨j-1,aa⟩;have ew:wI (((k+1:Nat):Int)-1)=(k:Int):=by grind [bM]
  have gx:l2[k+1]?=some (l2[k+1]'aa):=EA _;have gy:l2[k]?=some (l2[k]'aa):=EA _;generalize l2[k+1]'aa=x at gx;generalize l2[k]'aa=y at gy;rw[ew,au,au,gx,gy,aL,aL];refine .dec (λhc=>?_) λhc=> .some ⟨k3,λp q u v m1 m2 m3 hu hv=>?_⟩
  .obtain⟨r,t,pr,m⟩:=AgK (l:=l2) (i:=k+1) (j:=k) aa aa;obtain⟨C,E,hx',c,n⟩:=I9 t;rw[gx] at hx';rw[gy] at c;cases hx';cases c;rw[stZ (x:=y) gx,aL,Aiw (w:=x) (x:=x) (z:=y) (i:=k+1) gy,aL,<-n];refine .some ⟨⟨k,rfl,aa,aa,k3.trans (AbJ pr m aa aa aa aa),λp q u v m1 m2 m3 o hu hv=>?_⟩,by simp_all⟩;rw[m p] at hu;rw[m q] at hv;rw[BB o] at hv;by_cases c1:q=k+1
   .subst c1;rw[Bx rfl,gy] at hv;cases hv;by_cases c2:p=k
    .grind
    .rw[BB c2,BB aa] at hu;grind
   .rw[BB c1] at hv;by_cases c2:p=k
    .grind
    .rw[BB c2] at hu;by_cases c3:p=k+1;all_goals grind
  .have hyx:=hO.lt g (λz hz=>hD z (h3.1.mem_iff.1 (k3.1.mem_iff.1 hz))) gy gx aa hc;by_cases c1:q=k+1
   .subst c1;rw[gx] at hv;cases hv;by_cases c2:p=k
    .grind
    .exact hO.tr _ _ _ (d p k u y m1 aa aa aa hu gy) hyx
   grind
 .show b-((wI ((i:Int)+1))).toNat<b-((i:Int)).toNat;rw[aq aa];omega
end
section
variable {cmp:Ab->Ab->Int} (hO:OrN cmp λ_=>True)
include hO
structure PI (cmp:Ab->Ab->Int) (l0:AH) (a b:Nat) (pv:Ab) (l:AH) (i j:Nat):Prop where
 rg:Rg a b l0 l
 gp:l[a]?=some pv
 hi:a+1<=i
 hj:j<b
 hij:i<=j+1
 lo:∀q x,a<q->q<i->l[q]?=some x->cmp x pv<0
 up:∀q x,j<q->q<b->l[q]?=some x->¬cmp x pv<0
omit hO in
theorem AgL{i:Nat}{β:Type}{K:Nat->Nat->Option β}{Q:β->Prop}(h:PI cmp l0 a b pv l i j)(hb:b<=l.length)(hl:l.length<=1000)
  (g:∀e d,PI cmp l0 a b pv l e d->d<=j->(d<e\/(e<d/\(∃x,l[e]?=some x/\¬cmp x pv<0)/\∃y,l[d]?=some y/\cmp y pv<0))->T (K e d) Q):
  T ((AQ (scU cmp l a j) i).bind λe=>(AQ (scD cmp l a e) j).bind λd=>K e d) Q:=by
 have hj:=h.hj
 refine .bind ((T.loop (λe=>PI cmp l0 a b pv l e j) (λe=>j+1-e) (Q:=λe=>PI cmp l0 a b pv l e j/\(j<e\/∃x,l[e]?=some x/\¬cmp x pv<0)) h aa λe h'=>?_).mono λe hi=>?_)
 .unfold scU
  refine .dec (λhc=>?_) λhc=> .some ⟨h',.inl aa⟩
  have gx:l[e]?=some (l[e]'aa):=EA _
  generalize l[e]'aa=x at gx
  rw[gx,h'.gp,aL,aL]
  refine .dec (λhx=> .some ⟨⟨h'.rg,h'.gp,Nat.le_succ_of_le h'.hi,h'.hj,aa,λq y k1 k2 hy=>?_,h'.up⟩,aa⟩) λhx=> .some ⟨h',.inr ⟨x,gx,hx⟩⟩
  grind [PI.lo]
 .obtain⟨hi,hx⟩:=hi
  refine .bind ((T.loop (λd=>PI cmp l0 a b pv l e d/\d<=j) (λd=>d) (Q:=λd=>(PI cmp l0 a b pv l e d/\d<=j)/\(d<e\/∃y,l[d]?=some y/\cmp y pv<0)) ⟨hi,C6 _⟩ aa λd ⟨h',f⟩=>?_).mono λd hj'=>?_)
  .unfold scD
   refine .dec (λhc=>?_) λhc=> .some ⟨⟨h',f⟩,.inl aa⟩
   have:=h'.hi
   have:=h'.hj
   have gx:l[d]?=some (l[d]'aa):=EA _
   generalize l[d]'aa=y at gx
   rw[gx,h'.gp,aL,aL]
   refine .dec (λhy=> .some ⟨⟨h',f⟩,.inr ⟨y,gx,hy⟩⟩) λhy=>?_
   rw[show Nat.blt 0 d=true from Ng aa,ax]
   refine .some ⟨⟨⟨h'.rg,h'.gp,h'.hi,aa,aa,h'.lo,λq x k1 k2 hx=>?_⟩,aa⟩,aa⟩
   by_cases c:q=d
   .grind
   .exact h'.up q x aa k2 hx
  grind
omit hO in
theorem Ajh{i:Nat}{y:Ab}(h:PI cmp l0 a b pv l i j)(hb:b<=l.length)(hij:i<j)(gx:l[i]?=some x)(hx:¬cmp x pv<0)(gy:l[j]?=some y)(hy:cmp y pv<0):∃r,swZ l i j=some r/\PI cmp l0 a b pv r (i+1) (j-1)/\0<j:=by
 have h1:=h.hi;have h2:=h.hj;obtain⟨r,e,pr,d⟩:=AgK (l:=l) (i:=i) (j:=j) aa aa;refine⟨r,e,⟨h.rg.trans (AbJ pr d aa aa aa aa),?_,aa,aa,aa,λq z k1 k2 hz=>?_,λq z k1 k2 hz=>?_⟩,aa⟩
 .grind [PI.gp]
 .grind [PI.lo]
 .rw[d q] at hz;by_cases c:q=j
  .grind
  .rw[BB c,BB aa] at hz;exact h.up q z aa k2 hz
def Prt(cmp:Ab->Ab->Int)(a b m:Nat)(l:AH):Prop:=a<=m/\m<b/\∃c,l[m]?=some c/\(∀q x,a<=q->q<m->l[q]?=some x->cmp x c<0)/\∀q x,m<q->q<b->l[q]?=some x->¬cmp x c<0
omit hO in
theorem AgM{i:Nat}(h:PI cmp l0 a b pv l i j)(hb:b<=l.length)(hij:j<i):∃r,swZ l j a=some r/\Rg a b l0 r/\Prt cmp a b j r:=by
 have h1:=h.hi;have h2:=h.hj;have h3:=h.hij;obtain⟨r,c,pr,d⟩:=AgK (l:=l) (i:=j) (j:=a) aa aa;refine⟨r,c,h.rg.trans (AbJ pr d aa aa aa aa),aa,aa,pv,?_,λq x k1 k2 hx=>?_,λq x k1 k2 hx=>?_⟩
 .grind [PI.gp]
 .grind [PI]
 grind [PI.up]
theorem AmG(hl:l.length<=1000)(hb:b<=l.length)(hap:a<=p)(c:p<b):T (paS cmp a b p l) λr=>Rg a b l r.2.2/\Prt cmp a b r.1 r.2.2:=by
 obtain⟨l0,e0,d,q0⟩:=AgK (l:=l) (i:=a) (j:=p) aa aa;have hl0:=d.length_eq;have g:=AbJ (a:=a) (b:=b) d q0 (C6 _) aa hap c;unfold paS;refine .eqb e0 ?_;have gp:l0[a]?=some (l0[a]'aa):=EA _;generalize l0[a]'aa=pv at gp;have h0:PI cmp l a b pv l0 (a+1) (b-1):=by grind [PI]
 refine AgL h0 aa aa λi j h1 _ h2=>?_;refine .dec (λhc=>?_) λhc=>?_
 .grind [AgM,T.some]
 .rcases h2 with h2|⟨h2,⟨x,gx,hx⟩,y,gy,hy⟩
  .omega
  obtain⟨l1,e1,k1,k2⟩:=Ajh h1 aa h2 gx hx gy hy;rw[show Nat.blt 0 j=true from Ng k2,ax];refine .eqb e1 (.bind ((T.loop (λs=>PI cmp l a b pv s.1 s.2.1 s.2.2) (λs=>s.2.2) (Q:=λs=>∃i,PI cmp l a b pv s.1 i s.2/\s.2<i) k1 (by grind) ?_).mono λs hs=>?_))
  .rintro⟨l2,h,e⟩ h3;dsimp only at h3;have hl2:=h3.rg.len;unfold paT;dsimp only;rw[CM aa,ax];refine AgL h3 aa aa λi j h4 f h5=>?_;refine .dec (λhc=> .some ⟨i,h4,by show j<i;omega⟩) λhc=>?_;rcases h5 with h5|⟨h5,⟨x,gx,hx⟩,y,gy,hy⟩
   .omega
   obtain⟨l3,e3,m1,m2⟩:=Ajh h4 aa h5 gx hx gy hy;rw[show Nat.blt 0 j=true from Ng m2,ax];refine .eqb e3 (.some ⟨m1,?_⟩);show j-1<e;omega
  .obtain⟨i,h3,h4⟩:=hs;have:=h3.rg.len;grind [AgM,T.some]
omit hO in
theorem AkQ{x y s:Nat}(hx:x<l.length)(hy:y<l.length):T (o2S cmp l x y s) λr=>((r.1=x/\r.2.1=y)\/(r.1=y/\r.2.1=x))/\r.2.2<=s+1:=by grind [o2S,T.some]
omit hO in
theorem Aoh(hB:Big a b)(hb:b<=l.length):T (chS cmp l a) λr=>a<=r.1/\r.1<b:=by have h9:a+9<b:=aa;unfold chS meS;refine .bind (.bind ((AkQ aa aa).mono λd h1=> .bind ((AkQ aa aa).mono λe h2=> .bind ((AkQ aa aa).mono λc h3=> .some ?_))));dsimp only at*;rw[CM (show c.2.2<=3 by omega),ax];exact .some (show a<=c.2.1/\c.2.1<b by omega)
theorem Aoi(hn:l.Nodup)(hb:b<=l.length)(hab:a<b)(hl:l.length<=1000):T (piS cmp l a b) λf=>f=true->SoR cmp a b l:=by
 have adj:∀k,(∀q x y,a<=q->q<k->l[q]?=some x->l[q+1]?=some y->cmp x y<0)->SoR cmp a (k+1) l:=λk h=>by
  have key:∀n p x y,a<=p->p+n+1<=k->l[p]?=some x->l[p+n+1]?=some y->cmp x y<0:=by
   intro n;induction n with
   |zero=>grind
   |succ n ih=>intro p x y h1 h2 hx hy;have hlt:=(cr hy).1;have hz:l[p+n+1]?=some (l[p+n+1]'aa):=EA _;exact hO.tr _ _ _ (ih p x _ h1 aa hx hz) (h (p+n+1) _ y aa aa hz hy)
  intro p q x y h1 h2 h3 hx hy;obtain⟨n,rfl⟩:∃n,q=p+n+1:=⟨q-p-1,aa⟩;exact key n p x y h1 aa hx hy
 unfold piS;refine .bind ((T.loop (λk=>a<=k/\k<b/\∀q x y,a<=q->q<k->l[q]?=some x->l[q+1]?=some y->cmp x y<0) (λk=>b-k) (Q:=λk=>k<b/\∀q x y,a<=q->q<k->l[q]?=some x->l[q+1]?=some y->cmp x y<0) (by grind) aa λk hk=>?_).mono λk hk=> .some λhf=>?_)
 .obtain⟨h1,h2,h3⟩:=hk;unfold scS;refine .dec (λhc=>?_) λhc=> .some ⟨h2,h3⟩;have gx:l[k+1]?=some (l[k+1]'aa):=EA _;have gy:l[k]?=some (l[k]'aa):=EA _;generalize l[k+1]'aa=x at gx;generalize l[k]'aa=y at gy;rw[gx,gy,aL,aL];refine .dec (λhx=> .some ⟨h2,h3⟩) λhx=> .some ⟨⟨aa,aa,λq u v k1 k2 hu hv=>?_⟩,aa⟩;by_cases c:q=k
  .subst c;grind [OrN.lt]
  grind
 .have hf:=DP hf;have:=adj k hk.2;grind
omit hO in
theorem Aoj{d:Bool}{l:AH}(hl:a+13<=l.length):T (AQ (brT d a) (0,l)) λr=>Rg a (a+13) l r:=by
 have ho:∀j,brO d j<=12:=λj=>by rcases j with _|_|j<;>cases d<;>exact EG rfl
 refine T.loop (λs=>s.1<=3/\Rg a (a+13) l s.2) (λs=>3-s.1) ⟨Nat.zero_le _,.refl l⟩ (show 3-0<4611686018427387904 by decide) ?_;rintro⟨j,r⟩ ⟨h1,h2⟩;dsimp only at h1 h2;have hr:=h2.len;have key:∀i k,i<=12->k<=12->∃r',swZ r (a+i) (a+k)=some r'/\Rg a (a+13) l r':=λi k hi hk=>by obtain⟨r',e,p,q⟩:=AgK (l:=r) (i:=a+i) (j:=a+k) aa aa;exact⟨r',e,h2.trans (AbJ p q aa aa aa aa)⟩
 unfold brT;rcases(by omega:j=0\/j=1\/j=2\/j=3) with rfl|rfl|rfl|rfl
 .obtain⟨r',e,h⟩:=key 5 _ Cd (ho 0);exact .eqb e (.some ⟨⟨show 1<=3 by decide,h⟩,show 3-1<3-0 by decide⟩)
 .obtain⟨r',e,h⟩:=key 6 _ Cd (ho 1);exact .eqb e (.some ⟨⟨show 2<=3 by decide,h⟩,show 3-2<3-1 by decide⟩)
 .obtain⟨r',e,h⟩:=key 7 _ Cd (ho 2);exact .eqb e (.some ⟨⟨show 3<=3 by decide,h⟩,show 3-3<3-2 by decide⟩)
 .exact .some h2
structure PdI (cmp:Ab->Ab->Int) (l0:AH) (s:PdS):Prop where
 pm:s.1.Perm l0
 ab:s.2.1<=s.2.2.1
 bn:s.2.2.1<=l0.length
 ox:OrX cmp s.2.1 s.2.2.1 s.1
 lm:12<s.2.2.1-s.2.1->4<=s.2.2.2.1+(15-(s.2.2.1-s.2.1))
 lh:s.2.2.2.1<=100
 bl:s.2.2.2.2.1=false->s.2.2.1-s.2.1<=12\/1<=s.2.1
theorem AmH(hn:l0.Nodup)(hl:l0.length<=15){s:PdS}(h0:PdI cmp l0 s):T (AQ (pdT cmp) s) λr=>r.Perm l0/\SoR cmp 0 r.length r:=by
 refine T.loop (PdI cmp l0) (λs=>s.2.2.1-s.2.1) h0 (by grind [PdI]) ?_;rintro⟨l,a,b,e,w,par⟩ ⟨pm,ab,bn,ox,lm,lh,bl⟩;dsimp only at pm ab bn ox lm lh bl;have hll:=pm.length_eq;have hnl:=pm.nodup_iff.2 hn;unfold pdT;dsimp only;rw[CM (by grind),ax];refine .dec (λhc=>?_) λhc=>?_
 .refine .bind ((AaI hO hnl (λ_ _=>trivial) aa aa aa).mono λr hr=> .some ⟨hr.1.1.trans pm,?_⟩);grind [SoR.all,OrX.rg]
 have hbig:12<b-a:=aa;have lm:=lm hbig;have hB:Big a b:=aa;have hBb:AgJ a b=true:=by unfold AgJ;rw[Ng hB.1,Ng hB.2];rfl
 rw[hBb,show Nat.blt 0 e=true from Ng aa,show Nat.ble e 100=true from Ng lh];simp only[Bool.and_self,ax];have hbr:T (brG l a b e w) λq=>Rg a b l q.1/\e<=q.2+1/\q.2<=e:=by
  unfold brG;cases w with
  |true=>exact .some ⟨.refl _,by show e<=e+1;omega,C6 _⟩
  |false=>
   have h1:1<=a:=by have:=bl rfl;omega
   rw[A9,Ng h1,ax];refine .bind ((Aoj (l:=l) aa).mono λr hr=>?_);rw[hr.len,Nat.beq_refl,ax];exact .some ⟨hr.mono (C6 _) hB.1,by show e<=e-1+1;omega,by show e-1<=e;omega⟩
 refine .bind (hbr.mono ?_);rintro⟨l1,g⟩ ⟨j,m1,m2⟩;dsimp only at j m1 m2⊢;have hl1:=j.len;have A:=j.1.nodup_iff.2 hnl;have ox1:=ox.rg j hnl;rw[CM (show l1.length<=1000 by omega),ax];refine .bind ((Aoh hB aa).mono ?_);rintro⟨p,C⟩ ⟨hp1,hp2⟩;dsimp only at hp1 hp2⊢;have hpi:T (bif w&&par&&C then piS cmp l1 a b else some false) λf=>f=true->SoR cmp a b l1:=by grind [Aoi,T.some]
 refine .bind (hpi.mono λd hd=> .ite (λE=> .some ⟨j.1.trans pm,SoR.all hO (hd E) ox1⟩) λ_=>?_);have hag:agG cmp l1 a p=some true:=by
  unfold agG;cases hza:Nat.blt 0 a with
  |false=>rfl
  |true=>have hza:=EG hza;have g1:l1[a-1]?=some (l1[a-1]'aa):=EA _;have g2:l1[p]?=some (l1[p]'aa):=EA _;rw[ax,g1,g2,aL,aL,CM (ox1 (a-1) p _ _ aa aa g1 g2)]
 refine .eqb hag ?_;rw[ax];refine .bind ((AmG hO aa aa hp1 hp2).mono ?_);rintro⟨m,f,l2⟩ ⟨k,H,I,z,o,lo,up⟩;dsimp only at k H I o lo up⊢;have hl2:=k.len;have i:=k.1.nodup_iff.2 A;have ox2:=ox1.rg k A;rw[show Nat.beq l1.length l2.length=true by rw[hl2];exact Nat.beq_refl _,ax];unfold pdN;rw[CM ⟨H,I⟩,ax];have pvx:∀q x,m<q->q<b->l2[q]?=some x->cmp z x<0:=λq x h1 h2 hx=>hO.lt i (λ_ _=>trivial) o hx aa (up q x h1 h2 hx);refine .dec (λF=>?_) λF=>?_
 .refine .bind ((AaI hO i (λ_ _=>trivial) (a:=a) (b:=m) aa aa aa).mono λl3 ⟨c,so3⟩=>?_);have rg3':=c.mono (a':=a) (b':=b) (C6 _) aa;have hl3:=c.len;rw[show Nat.beq l2.length l3.length=true by rw[hl3];exact Nat.beq_refl _,ax];have gp3:l3[m]?=some z:=(c.2 m (.inr (C6 _))).trans o;have lo3:∀q x,a<=q->q<m->l3[q]?=some x->cmp x z<0:=λq x h1 h2 hx=>by obtain⟨J,k1,k2,k3⟩:=c.src i h1 h2 hx;exact lo J x k1 k2 k3
  have up3:∀q x,m<q->q<b->l3[q]?=some x->cmp z x<0:=λq x h1 h2 hx=>pvx q x h1 h2 ((c.2 q (.inr aa)).symm.trans hx);have ox3:=ox2.rg rg3' i;refine .some ⟨⟨c.1.trans (k.1.trans (j.1.trans pm)),by show m+1<=b;omega,bn,λu v x y n hh hx hy=>?_,λt=>by show 4<=g+_;have:12<b-(m+1):=t;show 4<=g+(15-(b-(m+1)));omega,by show g<=100;omega,λB=>?_⟩,by show b-(m+1)<b-a;omega⟩
  .have hh:¬(m+1<=u/\v<b):=hh;by_cases c0:a<=u/\v<b
   .rcases(by omega:v<m\/v=m\/(u=m/\m<v)\/(u<m/\m<v)) with h|rfl|⟨rfl,h⟩|⟨h1,h2⟩
    .exact so3 u v x y c0.1 n h hx hy
    .grind
    .grind
    .exact hO.tr _ _ _ (lo3 u x c0.1 h1 hx) (up3 v y h2 c0.2 hy)
   .exact ox3 u v x y n c0 hx hy
  .exact .inr (by show 1<=m+1;omega)
 .refine .bind ((AaI hO i (λ_ _=>trivial) (a:=m+1) (b:=b) aa aa aa).mono λl3 ⟨c,so3⟩=>?_);have rg3':=c.mono (a':=a) (b':=b) aa (C6 _);have hl3:=c.len;rw[show Nat.beq l2.length l3.length=true by rw[hl3];exact Nat.beq_refl _,ax];have gp3:l3[m]?=some z:=(c.2 m (.inl aa)).trans o;have lo3:∀q x,a<=q->q<m->l3[q]?=some x->cmp x z<0:=λq x h1 h2 hx=>lo q x h1 h2 ((c.2 q (.inl aa)).symm.trans hx);have up3:∀q x,m<q->q<b->l3[q]?=some x->cmp z x<0:=λq x h1 h2 hx=>by obtain⟨J,k1,k2,k3⟩:=c.src i aa h2 hx;grind
  have ox3:=ox2.rg rg3' i;refine .some ⟨⟨c.1.trans (k.1.trans (j.1.trans pm)),H,by show m<=l0.length;omega,λu v x y n hh hx hy=>?_,λt=>by have:12<m-a:=t;show 4<=g+(15-(m-a));omega,by show g<=100;omega,λB=>?_⟩,by show m-a<b-a;omega⟩
  .have hh:¬(a<=u/\v<m):=hh;by_cases c0:a<=u/\v<b
   .rcases(by omega:m+1<=u\/(u=m/\m<v)\/(u<m/\v=m)\/(u<m/\m<v)) with h|⟨rfl,h⟩|⟨h,rfl⟩|⟨h1,h2⟩
    .exact so3 u v x y h n c0.2 hx hy
    .grind
    .grind
    .exact hO.tr _ _ _ (lo3 u x c0.1 h1 hx) (up3 v y h2 c0.2 hy)
   .exact ox3 u v x y n c0 hx hy
  grind
end
def Pm(cmp:Ab->Ab->Int)(l:AH):Option AH:=AQ (pdT cmp) (l,0,l.length,WZ l.length,true,true)
theorem Uk{cmp:Ab->Ab->Int}(hO:OrN cmp λ_=>True){l:AH}(hn:l.Nodup)(hl:l.length<=15):T (Pm cmp l) λr=>r.Perm l/\r.Pairwise λx y=>cmp x y<0:=by
 refine(AmH hO hn hl (s:=(l,0,l.length,WZ l.length,true,true)) ⟨.refl _,Nat.zero_le _,C6 _,λp q x y h1 h2 hx hy=>?_,λh=>?_,?_,λh=>by cases h⟩).mono λr hr=>⟨hr.1,?_⟩
 .grind
 .have h:12<l.length-0:=h;show 4<=WZ l.length+(15-(l.length-0));rcases(by omega:l.length=13\/l.length=14\/l.length=15) with e|e|e<;>rw[e]<;>decide
 .show WZ l.length<=100;generalize l.length=n at hl;rcases(by omega:n=0\/n=1\/n=2\/n=3\/n=4\/n=5\/n=6\/n=7\/n=8\/n=9\/n=10\/n=11\/n=12\/n=13\/n=14\/n=15) with rfl|rfl|rfl|rfl|rfl|rfl|rfl|rfl|rfl|rfl|rfl|rfl|rfl|rfl|rfl|rfl<;>decide
 .rw[List.pairwise_iff_getElem];intro p q hp hq a;exact hr.2 p q _ _ (Nat.zero_le _) a hq (EA hp) (EA hq)
section
variable {gl:CC} {fi:FuncId} {fa fc:Bo} {cmp:Ab->Ab->Int}
theorem AbK(hv:CmV gl fi fa fc cmp)(a:RnF fa)(b:RnF fc){r:AH}(hl:l.length<=15)(h:Pm cmp l=some r):jg prog gl 120 [.rsl 0 0 l.length,Sm fi fa fc] [(0,Bt l)] 1 (.tup []) [(0,Bt r)] 1:=by
 have e:wU (ah l)=l.length:=by unfold ah;rw[gP];omega
 have hb:ba prog gl 158 [uG (wU (ah l):Int)] (iG (WZ l.length:Int)):=by grind [RC]
 have hp:=AkP hv a b h rfl;dsimp only at hp;refine pP func120 ?_;exact mt .normal (s0 14 gl [] [(0,Bt r)] 1 1) [] [AA 10 (C8 (ah l)),hf 11 hb,hI hv a b 13 [iG ((0:Nat):Int),iG (l.length:Int),iG (WZ l.length:Int)] hp rfl] [hc (ac.imm r)] (kd:=[(0,.row)])
theorem AbL(h:Ug gg):CmV gl 231 [.agg (Nw ⟨gg⟩)] [] (M4 (Rf gg)):=⟨aH,aY (aG 20 (.agg (Nw ⟨gg⟩)) aH) bf,bf,(by grind [Air])⟩
theorem AgN(h:Ug gg)(hn:ids.length<=15)(hr:Pm (M4 (Rf gg)) ids=some row)(hle:row.length=ids.length):iV prog gl 145 [.ptr (Ag gg) 0,aE aj ids] 42 row.length (row.flatMap aj):=by
 have hcl:cU ids=some ids:=by grind [cU,aT]
 rw[hle];refine OW func145 ?_;exact EI [ho 7 [aE aj ids] [] (jY gl hcl) (Zy _),hI (gl:=gl) (AbL h) (λκ=>rfl) (λκ=>rfl) 12 [] (AbK (gl:=gl) (AbL h) (λκ=>rfl) (λκ=>rfl) hn hr) rfl] (ac.imm row)
theorem AbM(h:Ug gg)(hn:ids.length<=15)(hr:Pm (M4 (Rf gg)) ids=some row)(hle:row.length=ids.length):ba prog gl 145 [.ptr (Ag gg) 0,aE aj ids] (aE aj row):=(AgN h hn hr hle).fn ac.sz (ac.len _) (ac.imm _)
theorem Tm(a b:Ab):ba prog gl 99 [.agg (aj a),.agg (aj b)] (bG (dt a b)):=Ny gl (EW a b)
theorem Aiz(a b:Ab):ba prog gl 317 [.agg (aj a),.agg (aj b)] (iG (Gu a b)):=by
 have h1:=Tm (gl:=gl) a b;have h2:=Tm (gl:=gl) b a;unfold Gu;refine Gh func317 ?_;cases c1:dt a b with
 |true=>rw[c1] at h1;exact Ar [hf 7 h1] []
 |false=>
  rw[c1] at h1;cases c2:dt b a with
  |true=>rw[c2] at h2;exact Ar [hf 7 h1,hf 10 h2] []
  |false=>rw[c2] at h2;exact Ar [hf 7 h1,hf 10 h2] []
abbrev hso(d c:Nat){l r:AH}{fi:FuncId}{cmp:Ab->Ab->Int}(hv:CmV gl fi [] [] cmp)(hl:l.length<=15)(h:Pm cmp l=some r)(hlt:[0].all (λk=>Nat.blt k c)=true:=by kernel_rfl):HP:=tN d [0] c [(0,Bt l)] [.rsl 0 0 l.length,.clo (.func fi) [] []] [(0,Bt r)] (AbK hv (λκ=>rfl) (λκ=>rfl) hl h) ⟨⟨rfl,.inr ⟨rfl,ac.imm l⟩⟩,trivial⟩ ⟨⟨rfl,.inr ⟨rfl,ac.imm r⟩⟩,trivial⟩ hlt
theorem AkR:CmV gl 317 [] [] Gu:=⟨aH,bf,bf,(by grind [Aiz])⟩
theorem Aet{r:AH}(hl:l.length<=15)(h:Pm Gu l=some r):jg prog gl 233 [.rsl 0 0 l.length] [(0,Bt l)] 1 (.rsl 0 0 l.length) [(0,Bt r)] 1:=by refine pP func233 ?_;exact mt .ret (s0 6 gl [(2,.rsl 0 0 l.length)] [(0,Bt r)] 1 1) [.rsl 0 0 l.length] [hso (gl:=gl) 4 1 AkR hl h] [hc (el l),hc (ac.imm r)]
def Yi(d a b:Int)(x:Ab):Bool:=bif x.By=d then(bif a<=x.Seq then decide (x.Seq<=b)else false)else false
abbrev hsm(d c:Nat){l r:AH}(hl:l.length<=15)(h:Pm Gu l=some r)(hlt:[0].all (λk=>Nat.blt k c)=true:=by kernel_rfl):HP:=tN d [0] c [(0,Bt l)] [.rsl 0 0 l.length] [(0,Bt r)] (Aet (gl:=gl) hl h) ⟨⟨rfl,.inr ⟨rfl,ac.imm l⟩⟩,trivial⟩ ⟨⟨rfl,.inr ⟨rfl,ac.imm r⟩⟩,trivial⟩ hlt
theorem AkS{r:AH}{a b:Int}(hn:ids.length<=15)(h:Pm Gu (ids.filter (Yi d a b))=some r)(hle:r.length=(ids.filter (Yi d a b)).length):iV prog gl 232 [aE aj ids,iG d,iG a,iG b] 42 r.length (r.flatMap aj):=by
 rw[hle];refine OW func232 ?_;refine dLl (l:=ids) aa (λk:Nat=>(s0 41 gl [(1,iG d),(2,iG a),(3,iG b),(9,.rsl 0 0 ((ids.take k).filter (Yi d a b)).length),(12,aE aj ids),(13,iG (ah ids)),(14,iG (k:Int))] [(0,Bt ((ids.take k).filter (Yi d a b)))] 1 0)) 1110122 [] [hc (ac.imm [])] (λB k x hx c k5=>?_) (λB=>?_)
 .have hlt:=(cr hx).1;have hl:=Nr (Yi d a b) (ids.take k);rw[Ns] at hl;have e:(ids.take (k+1)).filter (Yi d a b)=(ids.take k).filter (Yi d a b)++(bif Yi d a b x then[x] else[]):=by grind [Hv]
  rw[e] at k5;generalize (ids.take k).filter (Yi d a b)=l at k5 hl⊢;unfold Yi at k5;cases b1:decide (x.By=d) with
  |false=>rw[b1,A9,A9,LK] at k5;exact jw [hr 15 (Dk hx),AA 16 (ac.ixZ c),AA 17 (ac.ptZ aW c),hr 21 b1,hbb 38 (Xl (q:=k) aa)] [hc (el l),hc (ac.imm l)] k5
  |true=>
   rw[b1,ax] at k5;cases b2:decide (a<=x.Seq) with
   |false=>rw[b2,A9,A9,LK] at k5;exact jw [hr 15 (Dk hx),AA 16 (ac.ixZ c),AA 17 (ac.ptZ aW c),hr 21 b1,hr 26 b2,hbb 38 (Xl (q:=k) aa)] [hc (el l),hc (ac.imm l)] k5
   |true=>
    rw[b2,ax] at k5;cases b3:decide (x.Seq<=b) with
    |false=>rw[b3,A9,LK] at k5;exact jw [hr 15 (Dk hx),AA 16 (ac.ixZ c),AA 17 (ac.ptZ aW c),hr 21 b1,hr 26 b2,hr 32 b3,hbb 38 (Xl (q:=k) aa)] [hc (el l),hc (ac.imm l)] k5
    |true=>rw[b3,ax] at k5;exact jw [hr 15 (Dk hx),AA 16 (ac.ixZ c),AA 17 (ac.ptZ aW c),hr 21 b1,hr 26 b2,hr 32 b3,Tn 37 ac 24 l x aa,hbb 38 (Xl (q:=k) aa)] [hc (el (l++[x])),hc (ac.imm (l++[x]))] k5
 .rw[D5];have hl:=Nr (Yi d a b) ids;exact EI [hr 15 (Fe (s:=ids)),hsm (gl:=gl) 40 1 aa h] (ac.imm r)
theorem AkT{r:AH}{a b:Int}(hn:ids.length<=15)(h:Pm Gu (ids.filter (Yi d a b))=some r)(hle:r.length=(ids.filter (Yi d a b)).length):ba prog gl 232 [aE aj ids,iG d,iG a,iG b] (aE aj r):=(AkS hn h hle).fn ac.sz (ac.len _) (ac.imm _)
end
def Lm(x:Bg):List Value:=[.int .i64 x.Device,.int .i64 x.Seq]
theorem AaJ(d:Nat)(i j:Bg):bt prog (Op.equalIn (d+3) 186 (.agg (Lm i).toArray) (.agg (Lm j).toArray))=some (decide (i=j)):=by obtain⟨a0,a1⟩:=i;obtain⟨b0,b1⟩:=j;unfold Lm;rw[xV (fs:= #[⟨ "Device",3,0,false, "", "",0⟩,⟨ "Seq",3,1,false, "", "",8⟩]) aH aH];simp only[Array.toList];rw[uJ (k:= .i64) (k':= .i64) (a:=a0) (b:=b0) Cd aH aH aH];rw[uJ (k:= .i64) (k':= .i64) (a:=a1) (b:=b1) Cd aH aH aH];grind [Bg.mk.injEq,Op.eqFields,bz]
def EQ(x:Bg):Value:= .agg (Lm x).toArray
theorem OY:M5 prog 186 EQ:=Qw (d:= .struct #[⟨ "Device",3,0,false, "", "",0⟩,⟨ "Seq",3,1,false, "", "",8⟩]) aH (λb k=>by cases b<;>(show _=_;kernel_rfl)) (λa b=>rfl) (λa b=>AaJ 9997 a b)
theorem AmI(k:Bg):Instr.sameBits 10000 (EQ k) (EQ k)=true:=by(unfold EQ Lm;simp[Instr.sameBits])
abbrev tMk:Bn:=265
abbrev oMk(m:FM Bg Int):Option Ob:=some (No tMk EQ iG m)
abbrev tMy:Bn:=210
abbrev oMy(m:FM Int Int):Option Ob:=some (No tMy JR iG m)
abbrev ZI(l:List Bg):Option Ob:=some ⟨186,l.flatMap Bu,none⟩
def UJ(a b:Bg):Int:=AbG a.Device b.Device
section
variable {gl:CC}
theorem AiD(a b:Bg):ba prog gl 216 [.agg (Bu a),.agg (Bu b)] (iG (UJ a b)):=VA gl (by unfold Un;rw[AdF];rfl)
abbrev cmK:G:= .clo (.func 216) [] []
abbrev hcF(d:Nat)(x y:Bg):HP:=hf d (AiD (gl:=gl) x y)
theorem AmJ{l w1 w2:List Bg}{i j:Int}{a b:Bg}(h1:ji l i b=some w1)(h2:ji w1 j a=some w2):fh prog 184 (.rsl 0 0 l.length) j=some (.ref 0 (0+j.toNat*2)):=by rw[hZ h1];exact Bk.ixsZ 0 h2
theorem AiE{a b:Int}{l:List Bg}(h:inI UJ a b l=some r):jg prog gl 341 [.rsl 0 0 l.length,iG a,iG b,cmK] [(0,ZI l)] 1 (.tup []) [(0,ZI r)] 1:=by
 unfold inI at h;refine pP func341 ?_;refine pN (λs:List Bg×Int=>(s0 53 gl [(0,.rsl 0 0 s.1.length),(1,iG a),(2,iG b),(3,cmK),(8,iG s.2)] [(0,ZI s.1)] 1 1)) 1122 h [] [hc (el l),hc (aG 20 cmK aH),hc (Bk.imm l)] (λB s w hs k5 f=>?_);obtain⟨l1,i⟩:=s;unfold AaE at hs;dsimp only at hs;rcases bC hs with⟨b1,hs⟩|⟨b1,hs⟩
 .obtain⟨l2,e2,hs⟩:=bS hs;obtain rfl:=Bh hs;refine Ix 11221021 (s0 53 gl [(0,.rsl 0 0 l2.length),(1,iG a),(2,iG b),(3,cmK),(8,iG i)] [(0,ZI l2)] 1 1) ?_ λkk=>?_
  .exact jw [] [hc (el l2),hc (aG 20 cmK aH),hc (Bk.imm l2)] (k5 _ rfl)
  refine pN (λs:List Bg×Int=>(s0 53 gl [(0,.rsl 0 0 s.1.length),(1,iG a),(2,iG b),(3,cmK),(8,iG i),(9,iG s.2)] [(0,ZI s.1)] 1 1)) 1122102122 e2 [hr 14 b1] [hc (el l1),hc (aG 20 cmK aH),hc (Bk.imm l1)] (λk z v hz g e=>?_);obtain⟨l3,j⟩:=z;unfold AaD at hz;dsimp only at hz;rcases bC hz with⟨b2,hz⟩|⟨b2,hz⟩
  .obtain⟨x,c,hz⟩:=bS hz;obtain⟨y,d,hz⟩:=bS hz;rcases bC hz with⟨b3,hz⟩|⟨b3,hz⟩
   .obtain⟨w1,e1,hz⟩:=bS hz;obtain⟨w2,e3,hz⟩:=bS hz;obtain rfl:=Bh hz;exact jw [hr 20 b2,AA 25 (Bk.ixrZ 0 c),AA 26 (Bk.pt0Z Hw c),AA 30 (Bk.ixrZ 0 d),AA 31 (Bk.pt0Z Hw d),hcF (gl:=gl) 32 x y,hr 33 b3,AA 45 (Bk.ixrZ 0 d),AA 46 (Bk.pt0Z Hw d),AA 49 (Bk.ixrZ 0 c),AA 50 (Bk.pt0Z Hw c),AA 51 (Bk.ixsZ 0 e1),hw 51 (w1.flatMap Bu) (Bk.putZ e1),AA 52 (AmJ e1 e3),hw 52 (w2.flatMap Bu) (Bk.putZ e3)] [hc ((hZ e1).trans (hZ e3)),hc (aG 20 cmK aH),hc (Bk.imm w2)] (g _ rfl)
   .obtain rfl:=Bh hz;obtain rfl:=e _ rfl;exact yl 11221021 [hr 20 b2,AA 25 (Bk.ixrZ 0 c),AA 26 (Bk.pt0Z Hw c),AA 30 (Bk.ixrZ 0 d),AA 31 (Bk.pt0Z Hw d),hcF (gl:=gl) 32 x y,hr 33 b3] [hc (el l3),hc (aG 20 cmK aH),hc (Bk.imm l3)] kk
  .obtain rfl:=Bh hz;obtain rfl:=e _ rfl;exact yl 11221021 [hr 20 b2] [hc (el l3),hc (aG 20 cmK aH),hc (Bk.imm l3)] kk
 .obtain rfl:=Bh hs;obtain rfl:=f _ rfl;exact mt .normal (s0 53 gl [] [(0,ZI l1)] 1 1) [] [hr 14 b1] [hc (Bk.imm l1)] (kd:=[(0,.row)])
theorem AiF{l:List Bg}(hl:l.length<=12)(h:inI UJ ((0:Nat):Int) (l.length:Int) l=some r)(k:Int):jg prog gl 297 [.rsl 0 0 l.length,iG 0,iG (l.length:Int),iG k,cmK] [(0,ZI l)] 1 (.tup []) [(0,ZI r)] 1:=by have hs:=sb (a:=(l.length:Int)) (b:=((0:Nat):Int)) (z:=(l.length:Int)-((0:Nat):Int)) rfl aa;have hd:decide ((l.length:Int)-((0:Nat):Int)<=12)=true:=CM aa;refine pP func297 ?_;refine pN (λ_:Unit=>(s0 148 gl [(0,.rsl 0 0 l.length),(1,iG ((0:Nat):Int)),(2,iG (l.length:Int)),(3,iG k),(4,cmK)] [(0,ZI l)] 1 1)) 11122 Lg [] [hc (el l),hc (aG 20 cmK aH),hc (Bk.imm l)] (λc z v hz2 d e=>?_);exact mt .ret (s0 148 gl [] [(0,ZI r)] 1 1) [] [hbb 23 hs,hr 25 hd,tN 30 [0] 1 [(0,ZI l)] [.rsl 0 0 l.length,iG ((0:Nat):Int),iG (l.length:Int),cmK] [(0,ZI r)] (AiE (gl:=gl) h) ⟨⟨rfl,.inr ⟨rfl,Bk.imm l⟩⟩,trivial⟩ ⟨⟨rfl,.inr ⟨rfl,Bk.imm r⟩⟩,trivial⟩] [hc (Bk.imm r)] (kd:=[(0,.row)])
theorem AgO{l:List Bg}(hl:l.length<=12)(h:inI UJ ((0:Nat):Int) (l.length:Int) l=some r):jg prog gl 215 [.rsl 0 0 l.length,cmK] [(0,ZI l)] 1 (.tup []) [(0,ZI r)] 1:=by
 have e:wU (ah l)=l.length:=by unfold ah;rw[gP];omega
 have hb:ba prog gl 158 [uG (wU (ah l):Int)] (iG (WZ l.length:Int)):=by grind [RC]
 refine pP func215 ?_;exact mt .normal (s0 14 gl [] [(0,ZI r)] 1 1) [] [AA 10 (C8 (ah l)),hf 11 hb,tN 13 [0] 1 [(0,ZI l)] [.rsl 0 0 l.length,iG 0,iG (l.length:Int),iG (WZ l.length:Int),cmK] [(0,ZI r)] (AiF (gl:=gl) hl h (WZ l.length:Int)) ⟨⟨rfl,.inr ⟨rfl,Bk.imm l⟩⟩,trivial⟩ ⟨⟨rfl,.inr ⟨rfl,Bk.imm r⟩⟩,trivial⟩] [hc (Bk.imm r)] (kd:=[(0,.row)])
end
def fkT(s:FM Bg Int×FM Int Int)(x:Ab):FM Bg Int×FM Int Int:=
 (C4 s.1 ⟨x.By,x.Seq⟩ (wI ((s.1.get ⟨x.By,x.Seq⟩).getD 0+1)),bif wI ((s.1.get ⟨x.By,x.Seq⟩).getD 0+1)<2 then s.2 else bif(s.2.get x.By).isSome then(bif x.Seq<(s.2.get x.By).getD 0 then C4 s.2 x.By x.Seq else s.2)else C4 s.2 x.By x.Seq)
def Ul(ids:AH):FM Bg Int×FM Int Int:=ids.foldl fkT (⟨[],0⟩,⟨[],0⟩)
theorem AkV(h:Q9 s.1/\Q9 s.2):Q9 (fkT s x).1/\Q9 (fkT s x).2:=by grind [fkT,OQ]
theorem Xe(ids:AH):Q9 (Ul ids).1/\Q9 (Ul ids).2:=by
 have key:∀(l:AH) (s:FM Bg Int×FM Int Int),Q9 s.1/\Q9 s.2->Q9 (l.foldl fkT s).1/\Q9 (l.foldl fkT s).2:=by intro l;induction l<;>grind [AkV]
 exact key ids _ ⟨AkE,AkE⟩
theorem AbO(hx:ids[k]?=some x):Ul (ids.take (k+1))=fkT (Ul (ids.take k)) x:=by grind [Ul,Hv]
theorem lkF(m:FM Bg Int)(k:Bg){v:Int}(h:(m.get k).getD 0=v):bL prog [(0,oMk m)] tMk false (.mref 0) (.agg (Bu k))=some (iG v):=h▸(S8 (et:=3) OY aH (k:=k) rfl RW).trans (FM.look1 (et:=3) (v0:=0) OY aH aH m k rfl _)
theorem lkY(m:FM Int Int)(k:Int){v:Int}{b:Bool}(h:(m.get k).getD 0=v)(hb:(m.get k).isSome=b):bL prog [(1,oMy m)] tMy true (.mref 1) (iG k)=some (.tup [iG v,bG b]):=h▸hb▸(S8 (et:=3) PE aH (k:=k) rfl RW).trans (FM.look (et:=3) (v0:=0) PE aH aH m k rfl _)
def hnl(d:Nat){P:Br}{σ:aQ}{t:Bn}{ok:Bool}{i:Nat}{gk g:G}(ck:aQ->Bool)(h:bL P [(i,ag σ i)] t ok (.mref i) gk=some g/\∀W,ck W=true->bL P [(i,ag (W++σ) i)] t ok (.mref i) gk=some g):HP:=⟨some (.n d g ck),bL P [(i,ag σ i)] t ok (.mref i) gk=some g/\∀W,ck W=true->bL P [(i,ag (W++σ) i)] t ok (.mref i) gk=some g,h⟩
def hnk(ck:aQ->Bool)(U:aQ)(h:ck U=true):HP:=⟨some (.v 999999996 (.lit undef)),ck U=true,h⟩
noncomputable def ckE(V:aQ):aQ->Bool:=λW=> @decide (W=V) (Classical.propDecidable _)
theorem AgP{V W:aQ}:ckE V W=true↔W=V:= @decide_eq_true_iff _ (Classical.propDecidable _)
theorem mkI(m:FM Bg Int):∀e∈mEs EQ iG m,bB e.2.1:=Q1 λv=>mN _
theorem myI(m:FM Int Int):∀e∈mEs JR iG m,bB e.2.1:=Q1 λv=>mN _
abbrev AmK(clock:Nat)(seen:Bp):Option Ob:=some ⟨tMy,[],some (.iter (some 0) clock seen clock)⟩
abbrev mkF(e:Int×Int×Nat):Bg:=⟨e.1,e.2.1⟩
section
variable {gl:CC}
abbrev stF(gl:CC)(l:FM Int Int)(seen:Bp)(a:List Bg):St:=(s0 75 gl [(12,.rsl 2 0 a.length),(60,.ref 1 0)] [(0,oMy l),(1,AmK l.clk seen),(2,ZI a)] 3 0)
abbrev fr4(ids:AH)(k:Nat):Fr:=[(5,.mref 0),(6,.mref 1),(17,aE aj ids),(18,iG (ah ids)),(19,iG (k:Int))]
theorem AbQ{gg:Aj}{ids:AH}{r:List Bg}{n:Nat}(hn:ids.length<=1000)(h12:(Ul ids).2.es.length<=12)(he:(Ul ids).2.es.length=n)(hs:∀l:List Bg,l.Perm ((Ul ids).2.es.map mkF)->inI UJ ((0:Nat):Int) (l.length:Int) l=some r):iV prog gl 126 [.ptr (Ag gg) 0,aE aj ids] 186 n (r.flatMap Bu):=by
 refine OW func126 ?_;refine dLl (l:=ids) aa (λk:Nat=>(s0 75 gl (fr4 ids k) [(0,oMk (Ul (ids.take k)).1),(1,oMy (Ul (ids.take k)).2)] 2 0)) 11110122 [] [hc (mkI (Ul (ids.take 0)).1),hc (myI (Ul (ids.take 0)).2)] (λB k x hx hz k5=>?_) (λB=>?_) [] [(0,0),(1,1)] []
 .have hlt:=(cr hx).1;obtain⟨h1,h2⟩:=Xe (ids.take k);rw[AbO hx] at k5;generalize Ul (ids.take k)=s at k5 h1 h2⊢;obtain⟨m,l⟩:=s;unfold fkT at k5;dsimp only at k5 h1 h2⊢;generalize hv1:(m.get ⟨x.By,x.Seq⟩).getD 0=v at k5;have h36:((C4 m ⟨x.By,x.Seq⟩ (wI (v+1))).get ⟨x.By,x.Seq⟩).getD 0=wI (v+1):=by rw[BA,Bx rfl];rfl
  refine pO 111101221102110 (s0 75 gl ([(8,.ref 2 0),(9,.ref 3 0)]++fr4 ids k) [(0,oMk m),(1,oMy l),ob 2 42 (aj x),ob 3 186 (Bu ⟨x.By,x.Seq⟩)] 4 0) [hr 20 (Dk hx),AA 21 (ac.ixZ hz),AA 22 (ac.ptZ aW hz)] [hc (mkI m),hc (myI l)] ?_ [] [(0,0),(1,1),(2,2),(3,3)] [];refine pO 11110122110211100 (s0 75 gl ([(8,.ref 2 0),(9,.ref 3 0)]++fr4 ids k) [(0,oMk (C4 m ⟨x.By,x.Seq⟩ (wI (v+1)))),(1,oMy l),ob 2 42 (aj x),ob 3 186 (Bu ⟨x.By,x.Seq⟩)] 4 0) [hnl 30 (σ:=[(0,oMk m),(1,oMy l),ob 2 42 (aj x),ob 3 186 (Bu ⟨x.By,x.Seq⟩)]) (ckE [(0,some (No tMk EQ iG (C4 m ⟨x.By,x.Seq⟩ ((m.get ⟨x.By,x.Seq⟩).getD 0))))]) ⟨lkF m ⟨x.By,x.Seq⟩ hv1,λW f=>by rw[AgP.1 f];exact lkF (C4 m ⟨x.By,x.Seq⟩ ((m.get ⟨x.By,x.Seq⟩).getD 0)) ⟨x.By,x.Seq⟩ (by rw[BA,Bx rfl];exact hv1)⟩,hnk (ckE [(0,some (No tMk EQ iG (C4 m ⟨x.By,x.Seq⟩ ((m.get ⟨x.By,x.Seq⟩).getD 0))))]) [(0,some (No tMk EQ iG (C4 m ⟨x.By,x.Seq⟩ ((m.get ⟨x.By,x.Seq⟩).getD 0))))] (AgP.2 rfl),hme 32 [0] 4 (Akg (P:=prog) (σ:=[(0,oMk m)]) (t:=tMk) (t':=tMk) (et:=3) (v0:=0) OY AmI aH aH (k:=⟨x.By,x.Seq⟩) (gk:= .agg (Bu ⟨x.By,x.Seq⟩)) rfl RW),hms 33 [0] 4 (Akh (σ:=[(0,some (No tMk EQ iG (C4 m ⟨x.By,x.Seq⟩ ((m.get ⟨x.By,x.Seq⟩).getD 0))))]) (i:=0) (t':=tMk) (kv:=EQ) (vg:=iG) (m:=m) (k:=⟨x.By,x.Seq⟩) (v0:=(m.get ⟨x.By,x.Seq⟩).getD 0) h1.1 RW (wI (v+1)))] [hc (mkI (C4 m ⟨x.By,x.Seq⟩ (wI (v+1)))),hc (myI l)] ?_ [] [(0,0),(1,1),(2,2),(3,3)] [];generalize C4 m ⟨x.By,x.Seq⟩ (wI (v+1))=m' at k5 h36⊢;generalize wI (v+1)=v' at k5 h36⊢;skip;clear hv1 h1;cases c1:decide (v'<2) with
  |true=>rw[c1,ax] at k5;exact jw [hlk 36 (lkF m' ⟨x.By,x.Seq⟩ h36),hr 37 c1,hbb 58 (Xl (q:=k) aa)] [hc (mkI m'),hc (myI l)] k5 [] [(0,0),(1,1)] []
  |false=>
   rw[c1,A9] at k5;have hput:=Agc (P:=prog) (σ:=[(0,oMk m'),(1,oMy l),ob 2 42 (aj x),ob 3 186 (Bu ⟨x.By,x.Seq⟩)]) (i:=1) (t:=tMy) (t':=tMy) (et:=3) (vg:=iG) PE Adn aH (k:=x.By) (gk:=iG x.By) rfl (m:=l) rfl x.Seq;cases c2:(l.get x.By).isSome with
   |false=>rw[c2,A9] at k5;exact jw [hlk 36 (lkF m' ⟨x.By,x.Seq⟩ h36),hr 37 c1,hlk 42 (lkY l x.By rfl c2),hmp 4 hput,hbb 58 (Xl (q:=k) aa)] [hc (mkI m'),hc (myI (C4 l x.By x.Seq))] k5 [] [(0,0),(1,1)] []
   |true=>
    rw[c2,ax] at k5;generalize hw:(l.get x.By).getD 0=w at k5;cases c3:decide (x.Seq<w) with
    |true=>rw[c3,ax] at k5;exact jw [hlk 36 (lkF m' ⟨x.By,x.Seq⟩ h36),hr 37 c1,hlk 42 (lkY l x.By hw c2),hr 51 c3,hmp 4 hput,hbb 58 (Xl (q:=k) aa)] [hc (mkI m'),hc (myI (C4 l x.By x.Seq))] k5 [] [(0,0),(1,1)] []
    |false=>rw[c3,A9] at k5;exact jw [hlk 36 (lkF m' ⟨x.By,x.Seq⟩ h36),hr 37 c1,hlk 42 (lkY l x.By hw c2),hr 51 c3,hbb 58 (Xl (q:=k) aa)] [hc (mkI m'),hc (myI l)] k5 [] [(0,0),(1,1)] []
 .rw[D5];obtain⟨h1,h2⟩:=Xe ids;generalize Ul ids=s at h1 h2 h12 he hs⊢;obtain⟨m,l⟩:=s;dsimp only at h1 h2 h12 he hs⊢;refine yl (Bs':=[]) [1,1,1,0,1] (J:=(s0 75 gl [(6,.mref 0)] [(0,oMy l)] 1 0)) [hr 20 (Fe (s:=ids))] [hc (myI l)] ?_;refine pO 11111100 (s0 75 gl [(6,.mref 0),(12,Iy)] [(0,oMy l)] 1 0) [] [hc (myI l)] ?_ [] [(0,0)] [];refine yl (Bs':=[]) [1,1,1,1,1,0,0] (J:=stF gl l [] []) [] [hc (myI l),hc (Bk.imm [])] ?_;refine dNx 11111101 ?_;refine dMw 60 61 62 2 (iti:=1) (mi:=0) (clock:=l.clk) (since:=l.clk) (T:=tMy) (ty:=tMy) (es:=mEs JR iG l) (λseen=>stF gl l seen ((eQ l seen).map mkF)) (KsQ l) Aar (λe he=>by obtain⟨x,hx,rfl⟩:=E7.1 he;exact h2.lt x hx) rfl (Le.refl _) (λseen=>rfl) (λseen=>rfl) (by grind) (λB seen k g nn hI hme hns c=>?_) (λseen hI hse=>?_)
  .obtain⟨e,b,d⟩:=E7.1 hme;simp only[Gb] at d;obtain⟨rfl,rfl,rfl⟩:=d;have c:=c (Aas hI b hns);rw[Agn h2.1 b,List.map_append] at c;have hal:((eQ l seen).map mkF).length<=12:=by rw[Hm];have:=Adu hI;have h3:(eQ l seen).length<=seen.length:=List.length_filterMap_le _ _;have h4:=Q4 hI.1 hI.2;rw[Hm] at h4;omega
   generalize (eQ l seen).map mkF=a at c hal⊢;have hge:jr ((1,AmK l.clk (seen++[e.2.2]))::(stF gl l seen a).σ) (.ref 1 0)=some (.tup [db (JR e.1),iG e.2.1]):=yo (iti:=1) (mi:=0) (since:=l.clk) (clock:=l.clk) (T:=tMy) (ty:=tMy) (seen:=seen) rfl rfl (by rw[IX];exact h2.nd) hme;exact jw [YT 63 hge,Tn 71 Bk 16 a (mkF e) aa] [hc (el (a++[mkF e])),hc (myI l),hc (Bk.imm (a++[mkF e]))] c [] [(0,0),(1,1),(2,4)] [(2,.row)]
  .have hp:=(Ady h2.1 hI λe he=>hse _ (E7.2 ⟨e,he,rfl⟩)).map mkF;have hi:=hs _ hp;have hla:((eQ l seen).map mkF).length=n:=by rw[hp.length_eq,Hm,he]
   generalize (eQ l seen).map mkF=a at hi hla⊢;subst hla;exact EI [tN 73 [2] 3 [(2,ZI a)] [.rsl 2 0 a.length,cmK] [(0,ZI r)] (AgO (gl:=gl) aa hi) ⟨⟨rfl,.inr ⟨rfl,Bk.imm a⟩⟩,trivial⟩ ⟨⟨rfl,.inr ⟨rfl,Bk.imm r⟩⟩,trivial⟩] (Bk.imm r)
end
theorem N6{a b:Ab}:Gu a b<0↔dt a b=true:=by grind [Gu]
theorem Lo:OrN Gu λ_=>True:=by grind [OrN,N6,dt,EX]
theorem AbR{x y:Int}:AbG x y<0↔x<y:=by grind [AbG]
theorem JK{cmp:α->α->Int}(tr:∀x y z,cmp x y<0->cmp y z<0->cmp x z<0)(a:∀x,¬cmp x x<0){l r:List α}(hp:l.Perm r)(h1:l.Pairwise λx y=>cmp x y<0)(h2:r.Pairwise λx y=>cmp x y<0):l=r:=
 by grind [List.Perm.eq_of_pairwise]
def Nf(ids:AH)(f:Bg):Nat:=(ids.filter λx=>decide (x.By=f.Device)&&decide (x.Seq=f.Seq)).length
theorem Lq(p:AH)(x:Ab)(f:Bg):Nf (p++[x]) f=Nf p f+if(⟨x.By,x.Seq⟩:Bg)=f then 1 else 0:=by unfold Nf;rw[O8,Sv];obtain⟨d,s⟩:=f;grind
theorem AgR(p:AH)(f:Bg):Nf p f<=p.length:=Nr _ _
structure FkI (p:AH) (s:FM Bg Int×FM Int Int):Prop where
 n:∀f,(s.1.get f).getD 0=(Nf p f:Int)
 a:∀d v,s.2.get d=some v->2<=Nf p ⟨d,v⟩
 b:∀d v,2<=Nf p ⟨d,v⟩->∃w,s.2.get d=some w/\w<=v
theorem AmL{p:AH}(h:FkI p s)(hp:p.length<=1000):FkI (p++[x]) (fkT s x):=by
 have hle:=AgR p ⟨x.By,x.Seq⟩;have hw:wI ((s.1.get ⟨x.By,x.Seq⟩).getD 0+1)=((Nf p ⟨x.By,x.Seq⟩+1:Nat):Int):=by grind [FkI.n,bM]
 have hset:∀(l:FM Int Int),l=C4 s.2 x.By x.Seq->1<=Nf p ⟨x.By,x.Seq⟩->(∀w,s.2.get x.By=some w->x.Seq<=w)->(∀d v,l.get d=some v->2<=Nf (p++[x]) ⟨d,v⟩)/\(∀d v,2<=Nf (p++[x]) ⟨d,v⟩->∃w,l.get d=some w/\w<=v):=by grind [BA,Lq,FkI.a,FkI.b]
 have hold:∀(l:FM Int Int),l=s.2->(1<=Nf p ⟨x.By,x.Seq⟩->∃w,s.2.get x.By=some w/\w<=x.Seq)->(∀d v,l.get d=some v->2<=Nf (p++[x]) ⟨d,v⟩)/\(∀d v,2<=Nf (p++[x]) ⟨d,v⟩->∃w,l.get d=some w/\w<=v):=by grind [Lq,FkI.a,FkI.b]
 have key:(∀d v,(fkT s x).2.get d=some v->2<=Nf (p++[x]) ⟨d,v⟩)/\(∀d v,2<=Nf (p++[x]) ⟨d,v⟩->∃w,(fkT s x).2.get d=some w/\w<=v):=by
  unfold fkT;dsimp only;rw[hw];cases c1:decide (((Nf p ⟨x.By,x.Seq⟩+1:Nat):Int)<2) with
  |true=>grind
  |false=>
   have h1:=Np c1;rw[A9];cases c2:s.2.get x.By with
   |none=>grind
   |some w=>rw[Option.isSome_some,ax,Nt];cases c3:decide (x.Seq<w)<;>grind
 refine⟨λf=>?_,key.1,key.2⟩;grind [fkT,BA,Lq,FkI.n]
theorem AgS(ids:AH)(hn:ids.length<=1000):FkI ids (Ul ids):=by
 have key:∀k,k<=ids.length->FkI (ids.take k) (Ul (ids.take k)):=by
  intro k;induction k with
  |zero=>exact λ_=>⟨λf=>rfl,λd v h=>(by cases h),λd v h=>absurd h (by show¬2<=0;omega)⟩
  |succ k ih=>intro hk;have hx:ids[k]?=some (ids[k]'aa):=EA _;rw[AbO hx,Hv,hx,Option.toList_some];grind [AmL]
 grind [D5]
theorem AdL{α:Type}(p:α->Bool):∀l:List α,l.length=(l.filter p).length+(l.filter λx=> !p x).length
 |[]=>rfl
 |a::r=>by have:=AdL p r;grind
theorem AbS:∀{ds:Bj} {ids:AH},ds.Nodup->(∀d∈ds,2<=(ids.filter λx=>decide (x.By=d)).length)->2*ds.length<=ids.length
 |[],ids,_,_=>aC
 |d::r,ids,hd,h=>by
  rw[M2] at hd;have ih:=AbS (ids:=ids.filter λx=> !decide (x.By=d)) hd.2 λe he=>by have:=h e (by simp[he]);rw[List.filter_filter];grind
  have h1:=h d aC;grind [AdL]
theorem AaK{ids:AH}(hn:ids.length<=1000):2*(Ul ids).2.es.length<=ids.length:=by have hk:=(Xe ids).2;have hI:=AgS ids hn;rw[<-Hm (f:=λe:Int×Int×Nat=>e.1)];refine AbS hk.kd λd hd=>?_;obtain⟨e,he,rfl⟩:=E7.1 hd;have hg:=JJ hk (k:=e.1) (v:=e.2.1) (n:=e.2.2) he;have h2:=hI.a _ _ hg;refine M1 h2 ?_;unfold Nf;rw[<-List.filter_filter];exact(List.Sublist.filter _ List.filter_sublist).length_le
theorem Tz{ids:AH}{f:Bg}:f∈(Ul ids).2.es.map mkF↔(Ul ids).2.get f.Device=some f.Seq:=by grind [Xe,JJ,Ge]
theorem Aji(ids:AH):OrN UJ λf=>f∈(Ul ids).2.es.map mkF:=by grind [OrN,UJ,AbR,Tz]
theorem AgT{ids:AH}:((Ul ids).2.es.map mkF).Nodup:=List.Pairwise.of_map (S:=λa b:Int=>a≠b) (λf:Bg=>f.Device) (by grind) (by rw[IX];exact(Xe ids).2.kd)
theorem Ajj{ids:AH}(hn:ids.length<=15):∃r:List Bg,r.Perm ((Ul ids).2.es.map mkF)/\∀l:List Bg,l.Perm ((Ul ids).2.es.map mkF)->inI UJ ((0:Nat):Int) (l.length:Int) l=some r:=by
 have hl:=AaK (ids:=ids) aa;have go:∀l:List Bg,l.Perm ((Ul ids).2.es.map mkF)->∃r,inI UJ ((0:Nat):Int) (l.length:Int) l=some r/\r.Perm ((Ul ids).2.es.map mkF)/\r.Pairwise λx y=>UJ x y<0:=λl hp=>by obtain⟨r,e,h1,h2⟩:=AaI (Aji ids) (a:=0) (b:=l.length) (hp.nodup_iff.2 AgT) (λz hz=>hp.mem_iff.1 hz) aa (C6 _) (by rw[hp.length_eq,Hm];omega);refine⟨r,e,h1.1.trans hp,?_⟩;rw[List.pairwise_iff_getElem];intro p q hp' c d;exact h2 p q _ _ (Nat.zero_le _) d (by rw[<-h1.len];exact c) (EA hp') (EA c)
 obtain⟨r,_,h2,h3⟩:=go _ (.refl _);refine⟨r,h2,λl hp=>?_⟩;obtain⟨r',e,k2,k3⟩:=go l hp;rw[e,JK (cmp:=UJ) (Aji ids).tr (by grind [UJ,AbR]) (k2.trans h2.symm) k3 h3]
def Rh(ids:AH)(x:Ab):Bool:=ids.any λy=>decide (y.By=x.By/\y.Seq<=x.Seq/\2<=Nf ids ⟨y.By,y.Seq⟩)
section
variable {gl:CC}
theorem AiG{r:AH}{fs:List Bg}{R:Bg->AH}(hF:ba prog gl 126 [.ptr (Ag gg) 0,aE aj ids] (aE Bu fs))(hfl:fs.length<=1000)(hR:∀f∈fs,ba prog gl 232 [aE aj ids,iG f.Device,iG f.Seq,iG 4611686018427387904] (aE aj (R f)))(hl:(fs.flatMap R).length<=15)(h:Pm Gu (fs.flatMap R)=some r)(hle:r.length=(fs.flatMap R).length):iV prog gl 146 [.ptr (Ag gg) 0,aE aj ids] 42 r.length (r.flatMap aj):=by
 rw[hle];refine OW func146 ?_;refine dLl (l:=fs) aa (λk:Nat=>(s0 27 gl [(1,aE aj ids),(5,.rsl 0 0 ((fs.take k).flatMap R).length),(10,aE Bu fs),(11,iG (ah fs)),(12,iG (k:Int))] [(0,Bt ((fs.take k).flatMap R))] 1 0)) 1110122 [hf 10 hF] [hc (ac.imm [])] (λB k x hx hz k5=>?_) (λB=>?_)
 .have hlt:=(cr hx).1;have e:(fs.take (k+1)).flatMap R=(fs.take k).flatMap R++R x:=by grind [Hv]
  have hll:((fs.take k).flatMap R++R x).length<=15:=by grind [Pt]
  rw[e] at k5;generalize (fs.take k).flatMap R=l at k5 hll⊢;rw[Sv] at hll;exact jw [hr 13 (Dk hx),AA 14 (Bk.ixZ hz),AA 15 (Bk.ptZ Hw hz),hf 22 (hR x (bO hx)),AnA 23 ac 24 l (R x) aa,hbb 24 (Xl (q:=k) aa)] [hc (el (l++R x)),hc (ac.imm (l++R x))] k5
 .rw[D5];exact EI [hr 13 (Fe (s:=fs)),hsm (gl:=gl) 26 1 hl h] (ac.imm r)
end
theorem Xf{α β:Type}{f:α->List β}:∀{l:List α},l.Nodup->(∀x∈l,(f x).Nodup)->(∀x∈l,∀y∈l,x≠y->∀z∈f x,z∉f y)->(l.flatMap f).Nodup
 |[],_,_,_=> .nil
 |a::r,hn,h1,h2=>by rw[M2] at hn;rw[List.flatMap_cons,List.nodup_append];refine⟨h1 a aC,Xf hn.2 (by grind) (by grind),λz hz w hw e=>?_⟩;grind
theorem AiH{gl:CC}{gg:Aj}(hn:ids.length<=15)(hd:ids.Nodup)(hs:∀x∈ids,x.Seq<=4611686018427387904):∃r,ba prog gl 146 [.ptr (Ag gg) 0,aE aj ids] (aE aj r)/\r.Perm (ids.filter (Rh ids))/\r.Pairwise λx y=>Gu x y<0:=by
 obtain⟨fs,hp,hi⟩:=Ajj hn;have hl:=AaK (ids:=ids) aa;have hI:=AgS ids aa;have hF:=(AbQ (gl:=gl) (gg:=gg) (ids:=ids) (r:=fs) (n:=fs.length) aa aa (by rw[hp.length_eq,Hm]) hi).fn Bk.sz (Bk.len _) (Bk.imm _);have hof:∀f:Bg,∃r,Pm Gu (ids.filter (Yi f.Device f.Seq 4611686018427387904))=some r/\r.Perm (ids.filter (Yi f.Device f.Seq 4611686018427387904)):=λf=>by have h1:=Nr (Yi f.Device f.Seq 4611686018427387904) ids;obtain⟨r,e,h2,h3⟩:=Uk Lo (l:=ids.filter (Yi f.Device f.Seq 4611686018427387904)) (hd.sublist List.filter_sublist) aa;exact⟨r,e,h2⟩
 let R:Bg->AH:=λf=>(Pm Gu (ids.filter (Yi f.Device f.Seq 4611686018427387904))).getD [];have hRp:∀f,Pm Gu (ids.filter (Yi f.Device f.Seq 4611686018427387904))=some (R f)/\(R f).Perm (ids.filter (Yi f.Device f.Seq 4611686018427387904)):=λf=>by obtain⟨r,e,h2⟩:=hof f;grind
 have hRm:∀f x,x∈R f↔x∈ids/\x.By=f.Device/\f.Seq<=x.Seq:=λf x=>by rw[(hRp f).2.mem_iff,HE];grind [Yi]
 clear_value R;have hfd:∀x∈fs,∀y∈fs,x≠y->x.Device≠y.Device:=by grind [Tz]
 have hfn:(fs.flatMap R).Nodup:=Xf (hp.nodup_iff.2 AgT) (by grind) (by grind);have hperm:(fs.flatMap R).Perm (ids.filter (Rh ids)):=by
  refine(List.perm_ext_iff_of_nodup hfn (hd.sublist List.filter_sublist)).2 λx=>?_;rw[List.mem_flatMap,HE];unfold Rh;rw[List.any_eq_true];refine⟨λ⟨f,hf,hx⟩=>?_,λ⟨hx,y,hy,hv⟩=>?_⟩
  .obtain⟨h1,h2,h3⟩:=(hRm f x).1 hx;have h4:=Tz.1 (hp.mem_iff.1 hf);have h5:=hI.a _ _ h4;refine⟨h1,?_⟩;have h6:0<(ids.filter λx=>decide (x.By=f.Device)&&decide (x.Seq=f.Seq)).length:=Nat.lt_of_lt_of_le Nat.zero_lt_two h5;obtain⟨y,hy⟩:=List.exists_mem_of_length_pos h6;grind
  .obtain⟨h1,h2,h3⟩:=DP hv;obtain⟨w,hw,hle⟩:=hI.b _ _ h3;refine⟨⟨y.By,w⟩,hp.mem_iff.2 (Tz.2 hw),(by grind)⟩
 have hlen:(fs.flatMap R).length<=15:=by grind [List.Perm.length_eq,Nr]
 obtain⟨r,e,h2,h3⟩:=Uk Lo hfn hlen;refine⟨r,(AiG (gl:=gl) hF (by rw[hp.length_eq,Hm];omega) (by grind [AkT,List.Perm.length_eq]) hlen e h2.length_eq).fn ac.sz (ac.len _) (ac.imm _),h2.trans hperm,h3⟩
theorem Rb{l:List α}{x:α}(hx:l[k]?=some x):l.take (k+1)=l.take k++[x]:=by rw[Hv,hx];rfl
section
variable {g:AB} {m:Hj} {N:Hl}
abbrev BW(g:AB)(m:Hj)(N:Hl):Gi:=Rf ⟨g.Cards,m,N⟩
theorem KE(w:Fv g){i:Nat}(h:g.IDs[i]?=some x):bu x g.IDs=some i:=by
 cases hk:bu x g.IDs with
 |none=>exact absurd (bO h) (S7 hk)
 |some j=>rw[JX w.nd (gb hk).1 h]
abbrev Jd(g:AB)(l:Bj):AH:=l.map λp=>(g.IDs[p.toNat]?).getD ⟨0,0,0⟩
theorem Pr(w:Fv g){l:Bj}(h:EF g l){z:Int}(hz:l[j]?=some z):∃(n:Nat) (y:Ab),z=(n:Int)/\n<g.L.length/\g.IDs[n]?=some y/\(Jd g l)[j]?=some y:=by obtain⟨n,rfl,hn⟩:=h.nat (bO hz);have nI:=w.nI;obtain⟨y,hy,_⟩:=dk (l:=g.IDs) (k:=n) aa;refine⟨n,y,rfl,hn,hy,?_⟩;rw[Nh,hz,Option.map_some,Fm,hy];rfl
end
def XJ(cs:LP)(d:Int):Int:=match cs.find? λc=>decide (c.Device=d) with
 |some c=>c.Member
 |none=>0
structure Mr (x:Az) (y:Hd):Prop where
 role:y.Role=x.role
 no:x.guard=none->y.Is=false
 gd:∀g,x.guard=some g->y.Is=true/\y.ID=g.id/\y.Guards=g.guards/\y.Need=g.need/\y.Wait=g.wait/\y.Objected=g.objected/\y.Last=g.last
def Ag1(V:List Jb)(i:Ab)(b d a:Int):Prop:=∃v∈V,v.Of=i/\v.By=b/\v.Device=d/\v.At=a
structure Rr (R:Ad) (D:C7):Prop where
 card:∀d,Dq R d=XJ D.Cards d
 nd:(D.In++D.Gone).Nodup
 in_:∀d,R.in_.get d=if d∈D.In then some true else none
 was:∀d,R.was.get d=if d∈D.In\/d∈D.Gone then some true else none
 w0:R.was.es.length=D.In.length+D.Gone.length
 ln:(D.L.map (·.N)).Nodup
 no:∀m,R.members.get m=none->∀y∈D.L,y.N≠m
 mem:∀m x,R.members.get m=some x->∃y∈D.L,y.N=m/\Mr x y
 vou:∀m x g,R.members.get m=some x->x.guard=some g->∀b d a,g.vouches.get ⟨b,d⟩=some a↔Ag1 D.V g.id b d a
 vof:∀v∈D.V,∃m x g,R.members.get m=some x/\x.guard=some g/\v.Of=g.id
 vnd:(D.V.map λv=>(v.Of,v.By,v.Device)).Nodup
 back:R.back=D.Back
 d6:∀d∈D.In++D.Gone,1<=d/\d<=6
structure Sz (D:C7):Prop where
 c:D.Cards.length<=1000
 dev:D.In.length+D.Gone.length<=100000
 l:D.L.length<=100000
 v:D.V.length<=100000
theorem LE{l:Bj}{n:Int}:QF l n=decide (n∈l):=by grind [QF]
section
variable {R:Ad} {D:C7}
theorem Sz.i(z:Sz D):D.In.length<=1000000:=by grind [Sz]
theorem Sz.g(z:Sz D):D.Gone.length<=1000000:=by grind [Sz]
theorem ofE(z:Sz D)(d:Int):gE D d=some (XJ D.Cards d):=by
 have:=z.c;unfold gE;refine T.eq (.bind ((T.search D.Cards (λx=>decide (x.Device=d)) (λk x=>x.Member) aa (λk x hx hk=>?_) ?_).mono ?_))
 .grind [AR,eA,au,aq]
 .grind [AR,eF]
 .rintro r (⟨rfl,h⟩|⟨k,x,hx,hp,rfl,h⟩)
  .refine .some ?_;grind [XJ]
  .refine .some ?_;grind [XJ,List.find?_eq_some_iff_getElem]
theorem Anb(z:Sz D)(n:Int):T (dS D n) λv=>(v= -1/\∀y∈D.L,y.N≠n)\/∃(k:Nat) (y:Hd),v=(k:Int)/\D.L[k]?=some y/\y.N=n:=by
 have:=z.l;unfold dS;refine .bind ((T.search D.L (λx=>decide (x.N=n)) (λk _=>(k:Int)) aa (λk x hx hk=>?_) ?_).mono ?_)
 .grind [o5,eA,au,aq]
 .grind [o5,eF]
 .rintro r (⟨rfl,h⟩|⟨k,x,hx,hp,rfl,h⟩)
  .exact .some (by grind)
  .exact .some (by grind)
theorem Rr.at_(h:Rr R D){m:Int}{x:Az}(hx:R.members.get m=some x){y:Hd}(hy:y∈D.L)(hn:y.N=m):Mr x y:=by grind [mem,N3,ln]
theorem Rr.of(h:Rr R D){y:Hd}(hy:y∈D.L):∃x,R.members.get y.N=some x/\Mr x y:=by cases hx:R.members.get y.N<;>grind [no,at_]
theorem XK(z:Sz D)(h:Rr R D)(n:Int):T (dS D n) λv=>match R.members.get n with
  |none=>v= -1
  |some x=>∃(k:Nat) (y:Hd),v=(k:Int)/\D.L[k]?=some y/\y.N=n/\Mr x y:=by
 refine(Anb z n).mono λv hv=>?_
 grind [Rr,Rr.of]
theorem AiI(z:Sz D)(h:Rr R D)(n:Int):se D n=some (M7 R n):=by unfold se;refine T.eq (.bind ((XK z h n).mono λv hv=>?_));grind [M7,T.some,au,Mr.role]
theorem Rr.ins(h:Rr R D)(d:Int):Pl R d=decide (d∈D.In):=by grind [Pl,in_,Hi]
theorem inE(z:Sz D)(h:Rr R D)(d:Int):fb D.In d=some (Pl R d):=by rw[cX z.i,LE,h.ins]
theorem Anc(z:Sz D)(h:Rr R D)(d:Int):Fd D d=some (Hi (R.was.get d)):=by grind [Fd,cX,Sz.i,Sz.g,LE,Rr.was,Hi]
theorem ZJ(z:Sz D)(h:Rr R D)(d:Int):nW D d=some (DZ R d):=by grind [nW,DZ,Anc,ofE,Rr.card]
theorem Alj(z:Sz D)(i:Ab):T (jN D i) λv=>(v= -1/\∀y∈D.L,¬(y.Is=true/\y.ID=i))\/∃(k:Nat) (y:Hd),v=(k:Int)/\D.L[k]?=some y/\y.Is=true/\y.ID=i:=by
 have:=z.l;unfold jN;refine .bind ((T.search D.L (λx=>x.Is&&decide (x.ID=i)) (λk _=>(k:Int)) aa (λk x hx hk=>?_) ?_).mono ?_)
 .grind [qQ,eA,au,aq]
 .grind [qQ,eF]
 .rintro r (⟨rfl,hn⟩|⟨k,y,hy,hp,rfl,hn⟩)
  .exact .some (by grind)
  .have hp2:y.Is=true/\y.ID=i:=by grind
   exact .some (by grind)
theorem Alk(z:Sz D)(h:Rr R D)(hR:Bf R)(i:Ab):T (jN D i) λv=>match R.members.es.find? λe=>LB e.2.1 i with
  |none=>v= -1
  |some e=>∃(k:Nat) (y:Hd) (g:CA),v=(k:Int)/\D.L[k]?=some y/\y.N=e.1/\Mr e.2.1 y/\e.2.1.guard=some g/\g.id=i/\R.members.get e.1=some e.2.1:=by
 refine(Alj z i).mono ?_
 rintro v (⟨rfl,hn⟩|⟨k,y,rfl,hy,hp2⟩)
 .cases hf:R.members.es.find? λe=>LB e.2.1 i with
  |none=>rfl
  |some e=>obtain⟨hx,_⟩:=hR.mem (List.mem_of_find?_eq_some hf);grind [Rr.mem,LB,Mr.gd]
 .have a:=bO hy
  obtain⟨x,hx,hm⟩:=h.of a
  cases hgd:x.guard with
  |none=>grind [Mr.no]
  |some g=>
   have h1:=hm.gd g hgd
   have hid:g.id=i:=by grind
   have hgx:LB x i=true:=by grind [LB]
   cases hf:R.members.es.find? λe=>LB e.2.1 i<;>grind [Ge,Bf.mem,Bf.uni]
theorem ZK(z:Sz D)(h:Rr R D)(hR:Bf R)(o:Bi):T (nY D o) λv=>v.2=(Dd R o).2/\((Dd R o).2=0->∃(k:Nat) (y:Hd) (x:Az) (g:CA),v.1=(k:Int)/\D.L[k]?=some y/\y.N=(Dd R o).1/\R.members.get (Dd R o).1=some x/\Mr x y/\x.guard=some g/\g.id=o.Of):=by
 unfold nY;refine .bind ((Alk z h hR o.Of).mono λv hv=>?_);cases hf:R.members.es.find? λe=>LB e.2.1 o.Of with
 |none=>grind [Dd,T.some]
 |some e=>
  rw[hf] at hv;obtain⟨k,y,g,rfl,hy,a,hm,hgd,hid,hx⟩:=hv;have eS:Dd R o=bif g.guards.any λy=>decide (o.By=y)then(e.1,0)else(0,14):=by grind [Dd]
  have h1:=hm.gd g hgd;grind [Bf.gn,au,cX,LE,T.some]
end
theorem Afr{l:Bj}(hl:l.length<=3000):N9 l d=some ((O5 (l.length+1) l).filter λs=>decide (d∈s)).reverse:=by
 obtain⟨e0,hn⟩:=aaj (l.length+1) l aa aa;obtain⟨v,e1,_,hy⟩:=Ow (l.length+1) l aa aa;rw[e0] at e1;obtain rfl:=Bh e1;unfold N9 z0;rw[e0,aL];generalize O5 (l.length+1) l=v1 at hn hy;have e:wI (ah v1-1)=ah v1-1:=by grind [bM,ah]
 rw[e];refine T.eq (.bind (T.mono (T.loop (Q:=λr:Ni=>r=(v1.filter λs=>decide (d∈s)).reverse) (λs=> -1<=s.2/\s.2<(v1.length:Int)/\s.1=((v1.drop (s.2+1).toNat).filter λs=>decide (d∈s)).reverse) (λs=>(s.2+1).toNat) ⟨by unfold ah;omega,by unfold ah;omega,?_⟩ (by grind [ah]) ?_) λ_ h=> .some h))
 .grind [List.drop_eq_nil_of_le,ah]
 rintro⟨a,i⟩ ⟨i1,c,b⟩;simp only at i1 c b;unfold AF;refine .dec (λh0=>?_) λh0=> .some (show a=_ from ?_)
 .replace h0:0<=i:=h0;obtain⟨k,rfl⟩:=Int.eq_ofNat_of_zero_le h0;have hk:k<v1.length:=aa;have hw:wI ((k:Int)-1)=(k:Int)-1:=bM aa aa;have hz:aS v1 (k:Int)=some (v1[k]'hk):=Bq (EA hk);have ha:a.length<=6000:=by grind
  dsimp only;rw[hz,aL,cX (by grind),aL,LE,hw];have ed:v1.drop k=v1[k]'hk::v1.drop (k+1):=List.drop_eq_getElem_cons hk;rw[show((k:Int)+1).toNat=k+1 by omega] at b;by_cases hd:d∈v1[k]'hk
  .rw[CM hd,ax,aL];refine .bind (.app (by grind) (.some ⟨⟨by show-1<=(k:Int)-1;omega,by show(k:Int)-1<_;omega,?_⟩,by show((k:Int)-1+1).toNat<((k:Int)+1).toNat;omega⟩));show a++[v1[k]'hk]=((v1.drop ((k:Int)-1+1).toNat).filter _).reverse;rw[show((k:Int)-1+1).toNat=k by omega,ed,List.filter_cons_of_pos (by simp[hd]),List.reverse_cons,b]
  .rw[C3 hd,A9];refine .some ⟨⟨by show-1<=(k:Int)-1;omega,by show(k:Int)-1<_;omega,?_⟩,by show((k:Int)-1+1).toNat<((k:Int)+1).toNat;omega⟩;show a=((v1.drop ((k:Int)-1+1).toNat).filter _).reverse;rw[show((k:Int)-1+1).toNat=k by omega,ed,List.filter_cons_of_neg (by simp[hd]),b]
 .replace h0:¬0<=i:=h0;rw[b,show(i+1).toNat=0 by omega,List.drop_zero]
theorem UR(d:Int):∀(n:Nat) (l:Bj),l.length<n->l.length<=1000000->(UQ d n l).length<=l.length+1
 |0,_,h,_=>(by grind)
 |n+1,l,h,hl=>by
  unfold UQ;split
  .simp
  .obtain⟨_,k1,k2⟩:=V2 (n:=l.length) aa hl;have a:=UR d n (l.take (Uz l.length)) cq cq;have b:=UR d n (l.drop (Uz l.length)) cq cq;grind
theorem Afs(d:Int):∀(n:Nat) (l:Bj),l.length<n->l.length<=1000000->d∈l->l.Nodup->(∀s∈UQ d n l,d∈s/\s.length<=l.length/\s.Nodup)/\((UQ d n l).Pairwise λa b=>b.length<a.length)/\(UQ d n l).getLast?=some [d]
 |0,_,h,_,_,_=>(by grind)
 |n+1,l,h,hl,hd,hn=>by
  unfold UQ;split
  .match l,hd,hn with
   |[a],hd,hn=>simp_all
   |a::b::r,_,_=>simp at*
  .obtain⟨_,k1,k2⟩:=V2 (n:=l.length) aa hl;have hx:d∈l.take (Uz l.length)\/d∈l.drop (Uz l.length):=by grind [Pt]
   have key:∀q:Bj,q.length<l.length->d∈q->q.Nodup->(∀s∈l::UQ d n q,d∈s/\s.length<=l.length/\s.Nodup)/\((l::UQ d n q).Pairwise λa b=>b.length<a.length)/\(l::UQ d n q).getLast?=some [d]:=λq h1 h2 h3=>by obtain⟨a,b,c⟩:=Afs d n q aa aa h2 h3;refine⟨λs hs=>?_,(by grind [List.pairwise_cons]),by grind⟩;grind
   split
   .grind
   grind
def tpL(d:Int)(l:Bj):Ni:=if d∈l then(UQ d (l.length+1) l).reverse else[]
structure Aaa (d:Int) (ss:Ni):Prop where
 n:ss.length<=3000
 m:∀s∈ss,d∈s/\s.length<=3000/\s.Nodup
 p:ss.Pairwise λa b=>a.length<b.length
 f:∀s,ss[0]?=some s->s=[d]
theorem Aab:Aaa d []:=⟨aC,aC,.nil,aC⟩
theorem AjT{l:Bj}(hl:l.length<=2000)(hn:l.Nodup):Aaa d (tpL d l):=by
 unfold tpL;split
 .rename_i hd;obtain⟨a,b,c⟩:=Afs d (l.length+1) l aa aa hd hn;have:=UR d (l.length+1) l aa aa;constructor<;>grind
 .exact Aab
theorem Afu{l:Bj}(hl:l.length<=3000)(hn:l.Nodup):N9 l d=some (tpL d l):=by grind [Afr,aal,tpL]
theorem Afv{gl:CC}{l:Bj}(hl:l.length<=3000):ba prog gl 287 [aE cZ l,iG d] (aE Jc (tpL d l)):=by
 unfold tpL;by_cases hd:d∈l
 .grind [Ahz,UR,Adb,Afq]
 .rw[BB hd];refine Adb (a:=[]) (b:=[]) ?_ aC (by grind [Afq]) rfl;grind [PJ,Uv]
theorem Ajl{l:Bj}{x:Int}(hp:PO l)(h1:∀i y,i<j->l[i]?=some y->y<=x)(h2:∀y,l[j]?=some y->x<=y):PO (l.take j++[x]++l.drop j):=by
 have hpj:(l.take j++l.drop j).Pairwise λa b=>a<=b:=by rw[Pt];exact hp
 rw[List.pairwise_append] at hpj;have hlt:∀a∈l.take j,a<=x:=by grind [EO]
 have hgt:∀b∈l.drop j,x<=b:=λb hb=>by cases hc:l[j]? <;>grind [List.drop_eq_nil_of_le,List.drop_eq_getElem_cons,List.pairwise_cons]
 grind [PO]
theorem ZL{l:Bj}(hl:l.length<=1000000):T (lg l) λr=>r.Perm l/\PO r:=by
 unfold lg;refine .bind (T.mono (Q:=λr:Bj=>r.Perm l/\PO r) (T.forA l.length (λk acc=>acc.Perm (l.take k)/\PO acc) aa ⟨aC,.nil⟩ (λk acc hk hj=>?_) λacc hj=>?_) λx hx=> .some hx)
 .obtain⟨y,hy,hm⟩:=dk hk;have hal:acc.length=k:=by rw[hj.1.length_eq,Ns];omega
  unfold pb;simp only[eA hk,ax,au,hy,aL];refine .bind (T.mono (Q:=λn:Int=>∃j:Nat,n=(j:Int)/\j<=acc.length/\(∀i z,i<j->acc[i]?=some z->z<=y)/\∀z,acc[j]?=some z->y<=z) (T.forI acc.length (λj=>∀i z,i<j->acc[i]?=some z->z<=y) aa (λi z h=>aa) (λj hjl hq=>?_) λhq=>?_) λn hn=>?_)
  .obtain⟨z,hz,a⟩:=dk hjl;unfold pa;simp only[eA hjl,ax,au,hz,hy,aL];refine .dec (λhc=> .some ⟨aq aa,λi b hi hz'=>?_⟩) λhc=> .some ⟨j,rfl,aa,hq,λb hz'=>?_⟩;all_goals grind
  .unfold pa;dsimp only;rw[eF,A9,aL,A9];refine .some ⟨acc.length,rfl,C6 _,hq,λz hz=>?_⟩;grind
  .obtain⟨j,rfl,hjl,q1,c⟩:=hn;refine .bind (.pre aa aa (.bind (.app cq (.bind (.app cq (.bind (.suf aa aa (.bind (.app cq (.some ⟨aq aa,?_⟩))))))))));rw[Pu,Fm];constructor<;>grind [Ajl,Rb,Cy]
 .unfold pb;dsimp only;rw[eF,A9];rw[D5] at hj;exact .some hj
theorem Su{a b:Bj}(hp:a.Perm b)(h1:PO a)(h2:PO b):a=b:=List.Perm.eq_of_pairwise (le:=λa b=>a<=b) (by grind) h1 h2 hp
theorem ZM{α β γ:Type}{f:α->β}{g:α->γ}:∀{l:List α},(l.map g).Nodup->(∀x∈l,∀y∈l,f x=f y->g x=g y)->(l.map f).Nodup
 |[],_,_=> .nil
 |a::r,hd,h=>by rw[Fo,M2] at hd⊢;refine⟨λhm=>?_,ZM hd.2 (by grind)⟩;grind
section
variable {R:Ad} {D:C7}
abbrev atV(V:List Jb)(i:Ab)(d:Int):Bj:=(V.filter λv=>decide (v.Of=i)&&decide (v.Device=d)).map (·.At)
theorem Alm(h:Rr R D)(hR:Bf R){x:Az}{g:CA}(hx:R.members.get m=some x)(hg:x.guard=some g)(d:Int):(atV D.V g.id d).Perm (dvE d g.vouches.es):=by
 have hv:=hR.cv _ _ g hx hg;have hp:((D.V.filter λv=>decide (v.Of=g.id)&&decide (v.Device=d)).map λv=>(v.By,v.At)).Perm ((g.vouches.es.filter λe=>decide (e.1.device=d)).map λe=>(e.1.by_,e.2.1)):=by
  refine(List.perm_ext_iff_of_nodup ?_ ?_).2 λ⟨b,a⟩=>?_
  .refine ZM (g:=λv:Jb=>(v.Of,v.By,v.Device)) (h.vnd.sublist (List.filter_sublist.map _)) λp hp q hq e=>?_;grind
  .refine ZM (g:=λe:CY×Int×Nat=>e.1) (hv.kd.sublist (List.filter_sublist.map _)) λp hp q hq e=>?_;rw[HE] at hp hq;have h1:=DP hp.2;have h2:=DP hq.2;simp only[Gb] at e;cases hp1:p.1;cases i:q.1;grind
  .have hb:=h.vou m x g hx hg b d a;constructor
   .intro hm;obtain⟨v,hv1,hv2⟩:=E7.1 hm;rw[HE] at hv1;have h1:v.Of=g.id/\v.Device=d:=by simpa using hv1.2
    simp only[Gb] at hv2;obtain⟨n,hn⟩:=Ge (hb.2 ⟨v,hv1.1,h1.1,hv2.1,h1.2,hv2.2⟩);exact E7.2 ⟨_,HE.2 ⟨hn,CM rfl⟩,rfl⟩
   .intro hm;obtain⟨e,c,f⟩:=E7.1 hm;rw[HE] at c;have h1:=DP c.2;simp only[Gb] at f;have hge:=JJ hv (k:=e.1) (v:=e.2.1) (n:=e.2.2) c.1;have hk:e.1=⟨b,d⟩:=by cases hq:e.1;grind
    rw[hk,f.2] at hge;obtain⟨v,k1,k2,k3,j,k5⟩:=hb.1 hge;grind
 have:=hp.map Prod.snd;rw[IX,IX] at this;exact this
theorem atT(z:Sz D)(d:Int)(y:Hd):AQ (Qs D d y) ([],0)=some (atV D.V y.ID d):=by
 have:=z.v;refine T.eq (T.forA D.V.length (λk acc=>acc=atV (D.V.take k) y.ID d) aa (by simp[atV]) (λk acc hk hj=>?_) λacc hj=>?_)
 .obtain⟨v,hv,_⟩:=dk hk;have hal:acc.length<=k:=by grind
  have e:atV (D.V.take (k+1)) y.ID d=acc++(if v.Of=y.ID/\v.Device=d then[v.At] else[]):=by unfold atV;rw[Rb hv,O8,List.map_append];grind
  unfold Qs;simp only[eA hk,ax,au,hv,aL];by_cases c1:v.Of=y.ID
  .by_cases c2:v.Device=d
   .simp only[c1,c2,decide_true,ax,aL];rw[Bx ⟨c1,c2⟩] at e;exact .bind (.app cq (.some ⟨aq aa,e.symm⟩))
   .simp only[c1,c2,decide_true,decide_false,ax,A9,aL];rw[BB λc=>c2 c.2,LK] at e;exact .some ⟨aq aa,e.symm⟩
  .simp only[c1,decide_false,A9,aL];rw[BB λc=>c1 c.1,LK] at e;exact .some ⟨aq aa,e.symm⟩
 .unfold Qs;dsimp only;rw[eF,A9];refine .some (show acc=_ from ?_);rw[hj,D5]
theorem And(z:Sz D)(h:Rr R D)(hR:Bf R)(m d:Int):Ff D m d=some (X8 R m d):=by
 unfold Ff;refine T.eq (.bind ((XK z h m).mono λv hv=>?_));unfold X8;cases hx:R.members.get m with
 |none=>grind [T.some]
 |some x=>
  rw[hx] at hv;obtain⟨k,y,rfl,hy,_,hm⟩:=hv;rw[show decide ((k:Int)<0)=false from C3 aa,A9,au,hy,aL];dsimp only;cases hg:x.guard with
  |none=>grind [Mr.no,T.some]
  |some g=>
   have h1:=hm.gd g hg;have hv:=hR.cv _ _ g hx hg;have hb:=hR.vb _ _ g hx hg;have hn:=hR.gN _ _ g hx hg;have h6:=Aau hv.kd hb (List.Pairwise.of_map (λx=>x.1) (by grind) hv.kd) (λe he=>he) d;obtain⟨srt,e1,a,s1⟩:=Abz (l:=dvE d g.vouches.es) aa;have hda:AcD g d=srt:=by unfold AcD;rw[e1];rfl
   have hp:=Alm h hR hx hg d;rw[h1.1,atT z d y,aL];simp only[Bool.not_true,A9];rw[hda,h1.2.1];refine .bind ((ZL (by rw[hp.length_eq];omega)).mono λv hv=>?_);obtain rfl:v=srt:=Su (hv.1.trans (hp.trans a.symm)) hv.2 s1;rw[h1.2.2.2.1,h1.2.2.2.2.1,h1.2.2.2.2.2.1,h1.2.2.2.2.2.2];refine .dec (by grind [T.some]) λhc=>?_;rw[C3 hc,A9];have hc2:g.need<=(v.length:Int):=by unfold ah at hc;omega
   have hz0:aS v 0=some (v.getD 0 0):=by grind [au]
   have hz1:aS v (wI (g.need-1))=some (v.getD (g.need.toNat-1) 0):=by grind [bM,au]
   grind [T.some]
theorem AeA(z:Sz D)(h:Rr R D)(o:Bi)(m:Int):o9 D o m (decide (M7 R m=3))=some (Aei R o m):=by
 unfold o9 Aei Jm;rw[inE z h,ofE z,h.card,aL,aL];cases decide (o.Device≠0) with
 |true=>grind
 |false=>refine T.eq (.bind ((XK z h o.Member).mono λv hv=>?_));grind [T.some]
theorem Ane(z:Sz D)(h:Rr R D)(hR:Bf R)(hk:o.Kind=11):mB D o=some (Aej R o):=by
 unfold mB Aej;refine T.eq (.bind ((ZK z h hR o).mono λv hv=>?_));rw[hv.1];cases c0:decide ((Dd R o).2≠0) with
 |true=>exact .some rfl
 |false=>
  have c1:(Dd R o).2=0:=by simpa using c0
  obtain⟨k,y,x,g,hv1,hy,a,hx,hm,hgd,hid⟩:=hv.2 c1;rw[A9,hv1,au,hy,aL,ofE z,ZJ z h,h.card,a,hk];grind [T.some]
theorem Anf(z:Sz D)(h:Rr R D)(hR:Bf R)(hk:o.Kind=13):mB D o=some (Aek R o):=by
 unfold mB Aek Akm;refine T.eq (.bind ((ZK z h hR o).mono λv hv=>?_));rw[hv.1];cases c0:decide ((Dd R o).2≠0) with
 |true=>exact .some rfl
 |false=>
  have c1:(Dd R o).2=0:=by simpa using c0
  obtain⟨k,y,x,g,hv1,hy,a,hx,hm,hgd,hid⟩:=hv.2 c1;rw[A9,hv1,au,hy,aL,ofE z,ofE z,ZJ z h,inE z h,h.card,h.card,a,hk,And z h hR];simp only[Int.reduceEq,decide_true,decide_false,ax,A9,aL];generalize X8 R (Dd R o).1 o.Device=q;cases Pl R o.Old with
  |false=>exact .some rfl
  |true=>simp only[Bool.not_true,A9,ax];cases decide (XJ D.Cards o.Old≠(Dd R o).1)<;>grind [T.some]
theorem Aln(z:Sz D)(h:Rr R D)(hR:Bf R)(hgl:o.Guards.length<=1000000)(i:Ab):AX D o i=some (Re R o):=by
 have e:=z.dev;unfold AX;rw[ofE z,aL,<-h.card];unfold Re;by_cases k1:o.Kind=1
 .grind [Rr.w0,ah]
 rw[BB k1,C3 k1,A9,inE z h,aL];cases Pl R o.By with
 |false=>rfl
 |true=>
 rw[Bool.not_true,A9,ax,AiI z h,aL];unfold AcE;by_cases k2:o.Kind=2
 .grind [ZJ,ofE,Agj,Jm,Rr.card]
 rw[BB k2,C3 k2,A9];by_cases k3:o.Kind=3
 .grind [AeA]
 rw[BB k3,C3 k3,A9];by_cases k5:o.Kind=5
 .rw[Bx k5,CM k5,ax];unfold Agk Jm;cases decide (M7 R (Dq R o.By)=3) with
  |false=>rfl
  |true=>simp only[Bool.not_true,A9,ax];refine T.eq (.bind ((XK z h o.Member).mono λv hv=>?_));grind [T.some]
 rw[BB k5,C3 k5,A9];by_cases k6:o.Kind=6
 .grind [Agl]
 rw[BB k6,C3 k6,A9];by_cases k8:o.Kind=8
 .grind [ofE,Agm,Jm,Rr.card]
 rw[BB k8,C3 k8,A9];by_cases k9:o.Kind=9
 .rw[Bx k9,CM k9,ax];unfold Ago;refine T.eq (.bind ((T.search o.Guards (λx=> !Pl R x) (λk _=>(17:Int)) aa (λk x hx hk=>?_) ?_).mono ?_))
  .grind [TC,eA,au,inE,aq]
  .unfold TC;rw[eF,A9]
  .rintro r (⟨rfl,hn⟩|⟨k,x,hx,hp,rfl,hn⟩)
   .refine .some ?_;grind
   .refine .some ?_;grind
 rw[BB k9,C3 k9,A9];have hO:T ((dS D (Dq R o.By)).bind λa=>bif a<0 then(some 25)else(((aS D.L a).bind λb=>bif(!b.Is)then(some true)else((aS D.L a).bind λc=>some (!decide (c.ID=o.Of)))).bind λd=>bif d then(some 25)else(some 0))) λw=>w=AbD R o (Dq R o.By):=by
  refine .bind ((XK z h (Dq R o.By)).mono λv hv=>?_);unfold AbD;cases hx:R.members.get (Dq R o.By) with
  |none=>grind [T.some]
  |some x=>rw[hx] at hv;grind [au,Mr.no,T.some,Mr.gd]
 grind [T.eq,Ane,Anf]
end
theorem Ang{K V:Type}[DecidableEq K]{m:FM K V}{k:K}{p:V}:(C4 m k p).es.length=if(m.get k).isSome then m.es.length else m.es.length+1:=by
 unfold C4;cases hk:bu k (m.es.map (·.1)) with
 |none=>rw[S9 hk];simp
 |some j=>obtain⟨e,_,_,h⟩:=Nd hk;rw[h];simp
structure Sy (D:C7):Prop where
 c:D.Cards.length<=1000
 dev:D.In.length+D.Gone.length<=2000
 l:D.L.length<=2000
 v:D.V.length<=2000
structure Gw (D D':C7):Prop where
 c:D'.Cards=D.Cards
 v:D'.V.length<=D.V.length
structure Gv (D D':C7):Prop where
 c:D'.Cards=D.Cards
 v:D'.V.length<=D.V.length+1
theorem Gw.rfl'{D:C7}:Gw D D:=⟨rfl,C6 _⟩
theorem Gw.gv{D D':C7}(h:Gw D D'):Gv D D':=⟨h.c,Nat.le_succ_of_le h.v⟩
theorem Sy.z{D:C7}(h:Sy D):Sz D:=by grind [Sy,Sz]
section
variable {R:Ad} {D:C7}
theorem AcP(h:Rr R D)(hR:Bf R)(c:D.Cards.length<=1000)(v:D.V.length<=2000):Sy D:=by
 have h1:=EC h.nd (m:=[1,2,3,4,5,6]) λd hd=>by have:=h.d6 d hd;grind
 have h2:=EC h.ln (m:=[1,2,3]) λk hk=>by obtain⟨y,hy,rfl⟩:=E7.1 hk;obtain⟨x,hx,_⟩:=h.of hy;obtain⟨n,hn⟩:=Ge hx;have:=hR.m3 _ hn;grind
 rw[Sv] at h1;rw[Hm] at h2;exact⟨c,M1 h1 Cd,M1 h2 Cd,v⟩
theorem Alo(h:Rr R D)(h1:d∉D.In)(h2:d∉D.Gone)(h6:1<=d/\d<=6):Rr {R with in_:=C4 R.in_ d true,was:=C4 R.was d true} {D with In:=D.In++[d]} where
 card:=h.card
 nd:=by show(D.In++[d]++D.Gone).Nodup;rw[List.append_assoc,List.singleton_append,List.perm_middle.nodup_iff,M2];grind [Rr.nd]
 in_ e:=by grind [BA,Rr.in_]
 was e:=by grind [BA,Rr.was]
 w0:=by grind [Rr.was,Ang,Rr.w0]
 ln:=h.ln
 no:=h.no
 mem:=h.mem
 vou:=h.vou
 vof:=h.vof
 vnd:=h.vnd
 back:=h.back
 d6 e he:=by have:=h.d6 e;rw[Hp] at this;simp at he;grind
theorem Ajm(h:Rr R D){m role:Int}(hm:R.members.get m=none):Rr {R with members:=C4 R.members m ⟨role,none⟩} {D with L:=D.L++[⟨m,role,false,⟨0,0,0⟩,[],0,0,false,0⟩]} where
 card:=h.card
 nd:=h.nd
 in_:=h.in_
 was:=h.was
 w0:=h.w0
 ln:=by show((D.L++[(⟨m,role,false,⟨0,0,0⟩,[],0,0,false,0⟩:Hd)]).map (·.N)).Nodup;rw[List.map_append,Fo,List.map_nil,List.perm_append_comm.nodup_iff,List.singleton_append,M2];grind [Rr.ln,Rr.no]
 no k hk y hy:=by grind [BA,Rr.no]
 mem k x hk:=by
  have hk:(C4 R.members m ⟨role,none⟩).get k=some x:=hk;rw[BA] at hk;split at hk
  .rename_i e;cases hk;exact⟨_,Hp.2 (.inr (List.mem_singleton.2 rfl)),e.symm,rfl,λ_=>rfl,λg hg=>by cases hg⟩
  grind [Rr.mem]
 vou k x g hk hg:=by grind [BA,Rr.vou]
 vof v hv:=by obtain⟨k,x,g,hk,hg,e⟩:=h.vof v hv;refine⟨k,x,g,?_,hg,e⟩;grind [BA]
 vnd:=h.vnd
 back:=h.back
 d6:=h.d6
theorem AbY(z:Sy D)(h:Rr R D)(hR:Bf R)(d role:Int):T (nX D d role) λD'=>Rr (Jk R d role) D'/\Gw D D':=by
 have a:=z.dev;have b:=z.l;unfold nX Jk;rw[ZJ z.z h,aL];cases hf:DZ R d with
 |false=>exact .some ⟨h,.rfl'⟩
 |true=>
  rw[Bool.not_true,A9,ax];have hw:R.was.get d=none:=by grind [Rr.was,DZ,Hi]
  have hnd:d∉D.In/\d∉D.Gone:=by grind [Rr.was]
  refine .bind (.app cq (.bind (.app cq ?_)));rw[Pu];have h':=Alo h hnd.1 hnd.2 (hR.c6 d (by unfold DZ at hf;rw[bA] at hf;exact DP hf.1));rw[show gE {D with In:=D.In++[d]} d=gE D d from rfl,ofE z.z,aL,<-h.card];rw[show dS {D with In:=D.In++[d]} (Dq R d)=dS D (Dq R d) from rfl];refine .bind ((XK z.z h (Dq R d)).mono λv hv=>?_);cases hx:R.members.get (Dq R d) with
  |none=>rw[hx] at hv;subst hv;rw[show decide ((-1:Int)<0)=true from rfl,ax];refine .bind (.bind (.app cq (.bind (.app cq (.some ?_)))));rw[Pu];exact .some ⟨Ajm (role:=role) h' hx,rfl,C6 _⟩
  |some x=>rw[hx] at hv;obtain⟨k,y,rfl,_⟩:=hv;rw[show decide ((k:Int)<0)=false from C3 aa,A9];exact .some ⟨h',rfl,C6 _⟩
theorem AeB(h:Rr R D)(hy:D.L[k]?=some y)(hn:y.N=m)(a:y'.N=m):((D.L.set k y').map (·.N)).Nodup:=by grind [List.map_set,Rr.ln]
theorem AeC(h:Rr R D)(a:y'.N=m)(q:Int)(hq:(C4 R.members m x').get q=none)(z:Hd)(hz:z∈D.L.set k y'):z.N≠q:=by grind [BA,Rr.no]
theorem ZN(h:Rr R D)(hy:D.L[k]?=some y)(hn:y.N=m)(a:y'.N=m)(hM:Mr x' y')(q:Int)(z:Az)(hq:(C4 R.members m x').get q=some z):∃y∈D.L.set k y',y.N=q/\Mr z y:=by
 rw[BA] at hq;split at hq
 .rename_i e;cases hq;exact⟨y',bO (i:=k) (by grind),a.trans e.symm,hM⟩
 .rename_i hne;obtain⟨w,hw,b,c⟩:=h.mem q z hq;obtain⟨j,hj⟩:=EO hw;have hkj:¬k=j:=by grind
  exact⟨w,bO (i:=j) (by grind),b,c⟩
theorem AeD(h:Rr R D){x:Az}(hx:R.members.get m=some x)(hy:D.L[k]?=some y)(hn:y.N=m)(b:y'.N=m)(hM:Mr x' y')(h1:∀a,x'.guard=some a->∃g,x.guard=some g/\a.id=g.id/\a.vouches=g.vouches)(h2:∀g,x.guard=some g->∃a,x'.guard=some a/\a.id=g.id):Rr (IH R m x') {D with L:=D.L.set k y'} where
 card:=h.card
 nd:=h.nd
 in_:=h.in_
 was:=h.was
 w0:=h.w0
 ln:=AeB h hy hn b
 no q hq z hz:=AeC h b q hq z hz
 mem q z hq:=ZN h hy hn b hM q z hq
 vou q z a hq hg':=by grind [BA,Rr.vou]
 vof v hv:=by
  obtain⟨q,z,g,hq,hg,e⟩:=h.vof v hv;by_cases c:q=m
  .subst c;rw[hx] at hq;cases hq;obtain⟨a,e1,e2⟩:=h2 g hg;exact⟨q,x',a,by grind [BA],e1,e.trans e2.symm⟩
  .exact⟨q,z,g,by grind [BA],hg,e⟩
 vnd:=h.vnd
 back:=h.back
 d6:=h.d6
theorem Alp(z:Sy D)(h:Rr R D)(o:Bi):T ((dS D o.Member).bind λa=>bif 0<=a then((aS D.L a).bind λb=>(o6 D.L a ({b with Role:=o.Role})).bind λc=>some ({D with L:=c}))else(some D)) λD'=>Rr (Uu R o) D'/\Gw D D':=by
 have d:=z.l;refine .bind ((XK z.z h o.Member).mono λv hv=>?_);unfold Uu;cases hx:R.members.get o.Member with
 |none=>grind [T.some,Gw.rfl']
 |some x=>rw[hx] at hv;obtain⟨k,y,rfl,hy,hn,hM⟩:=hv;have hk:=(cr hy).1;rw[show decide ((0:Int)<=(k:Int))=true from CM aa,ax,au,hy,aL];unfold o6;refine .bind (.bind (.app cq (.bind (.set aa cq (.some (.some ?_))))));rw[Pu,Fm];exact⟨by grind [AeD,Mr],rfl,C6 _⟩
abbrev inF(l:Bj)(d:Int):Bj:=l.filter λx=>decide (x≠d)
abbrev lF(l:List Hd)(m:Int):List Hd:=l.filter λy=>decide (y.N≠m)
def ZO(l:List Hd)(i:Ab):Bool:=l.any λy=>y.Is&&decide (y.ID=i)
theorem Ps{l:List Hd}{i:Ab}:ZO l i=true↔∃y∈l,y.Is=true/\y.ID=i:=by grind [ZO]
theorem Alq(z:Sz D)(i:Ab):T (jN D i) λv=>decide (0<=v)=ZO D.L i:=by grind [T.mono,Alj,Ps]
theorem ZP:∀{l:Bj} {d:Int},l.Nodup->d∈l->(inF l d).length+1=l.length
 |[],d,_,h=>by cases h
 |x::r,d,hn,h=>by
  rw[M2] at hn;by_cases e:x=d
  .grind [List.filter_eq_self]
  .have:=ZP hn.2 ((EY.1 h).resolve_left λc=>e c.symm);grind
theorem Ajn(h:Rr R D)(hR:Bf R)(hd:d∈D.In):Rr (I6 R d) {D with In:=inF D.In d,Gone:=D.Gone++[d]} where
 card:=h.card
 nd:=by show(inF D.In d++(D.Gone++[d])).Nodup;have h1:=List.nodup_append.1 h.nd;grind
 in_ e:=by grind [N5,Bf.ci,Rr.in_]
 was e:=by grind [Rr.was]
 w0:=by grind [ZP,Rr.nd,Rr.w0]
 ln:=h.ln
 no:=h.no
 mem:=h.mem
 vou:=h.vou
 vof:=h.vof
 vnd:=h.vnd
 back:=h.back
 d6 e he:=by have:=h.d6 e;rw[Hp] at this;simp at he;grind
theorem Ajo(h:Rr R D)(hR:Bf R)(m:Int):Rr (Sb R m) {D with L:=lF D.L m,V:=D.V.filter λv=>ZO (lF D.L m) v.Of}:=by
 have hg:∀k,(Sb R m).members.get k=if k=m then none else R.members.get k:=λk=>N5 hR.cm k
 have hmem:∀y,y∈lF D.L m↔y∈D.L/\y.N≠m:=by grind
 constructor<;>try grind [Rr.nd,Rr.in_,Rr.was,Rr.w0,Rr.ln,Rr.of,Rr.vnd,Rr.back]
 .exact h.card
 .exact(by grind [Rr.mem])
 .exact λk x g hk hgd b d a=>by
   rw[hg] at hk;split at hk
   .cases hk
   .rename_i hne;rw[h.vou k x g hk hgd b d a];obtain⟨y,hy,hn,hm⟩:=h.mem k x hk;have h1:=hm.gd g hgd;have hown:ZO (lF D.L m) g.id=true:=by grind [Ps]
    constructor
    .rintro⟨v,hv,e1,e2⟩;exact⟨v,(by grind),e1,e2⟩
    .rintro⟨v,hv,e⟩;exact⟨v,(HE.1 hv).1,e⟩
 .exact λv hv=>by obtain⟨y,hy,h1,h2⟩:=Ps.1 (HE.1 hv).2;have c:=(hmem y).1 hy;obtain⟨x,hx,hm⟩:=h.of c.1;cases hgd:x.guard<;>grind [Mr.no,Mr.gd]
 .exact h.d6
theorem Alr(z:Sy D)(d f:Int):T (AQ (uj D d f) ([],false,0)) λx=>x=(inF D.In d,(inF D.In d).any λx=>decide (XJ D.Cards x=f)):=by
 have hd:=z.dev;refine T.loop (λs=>∃k:Nat,k<=D.In.length/\s.2.2=(k:Int)/\s.1=inF (D.In.take k) d/\s.2.1=(inF (D.In.take k) d).any λx=>decide (XJ D.Cards x=f)) (λs=>D.In.length-s.2.2.toNat) (by grind) cq ?_;rintro⟨a,b,i⟩ ⟨k,hk,rfl,ha,hb⟩;dsimp only at ha hb;subst ha;unfold uj;dsimp only;rcases JF k D.In.length with hlt|hge
 .obtain⟨x,hx,_⟩:=dk hlt;have hla:(inF (D.In.take k) d).length<=k:=by grind
  simp only[eA hlt,ax,au,hx,aL,ofE z.z];have ew:=aq (show k<2305843009213693952 by omega);have e:inF (D.In.take (k+1)) d=inF (D.In.take k) d++(if x≠d then[x] else[]):=by unfold inF;rw[Rb hx,O8];by_cases c:x=d<;>simp[c]
  refine .dec (λhc=>?_) λhc=>?_
  .rw[Bx hc] at e;refine .bind (.app cq (.bind (x:=bif b then some true else some (decide (XJ D.Cards x=f))) (T.mono (Q:=λq=>q=(b||decide (XJ D.Cards x=f))) (by cases b<;>exact .some rfl) λq hq=> .some ⟨⟨k+1,aa,ew,e.symm,?_⟩,?_⟩)));all_goals grind
  .rw[BB hc,LK] at e;refine .some ⟨(by grind),?_⟩;rw[ew];simp;omega
 .obtain rfl:k=D.In.length:=aa;rw[eF,A9];refine .some (show(_,_)=_ from ?_);rw[hb,D5]
theorem Als(z:Sy D)(m:Int):T (AQ (ui D m) ([],[],0)) λx=>x=(lF D.L m,[]):=by
 have hd:=z.l;refine T.loop (λs=>∃k:Nat,k<=D.L.length/\s.2.2=(k:Int)/\s.1=lF (D.L.take k) m/\s.2.1=[]) (λs=>D.L.length-s.2.2.toNat) (by grind) cq ?_;rintro⟨a,b,i⟩ ⟨k,hk,rfl,ha,hb⟩;dsimp only at ha hb;subst ha;subst hb;unfold ui;dsimp only;rcases JF k D.L.length with hlt|hge
 .obtain⟨x,hx,_⟩:=dk hlt;have hla:(lF (D.L.take k) m).length<=k:=by grind
  simp only[eA hlt,ax,au,hx,aL];have ew:=aq (show k<2305843009213693952 by omega);have e:lF (D.L.take (k+1)) m=lF (D.L.take k) m++(if x.N≠m then[x] else[]):=by unfold lF;rw[Rb hx,O8];grind
  refine .dec (λhc=>?_) λhc=>?_
  .rw[Bx hc] at e;refine .bind (.app cq (.some ⟨(by grind),?_⟩));rw[ew];simp;omega
  .rw[BB hc,LK] at e;refine .some ⟨(by grind),?_⟩;rw[ew];simp;omega
 .obtain rfl:k=D.L.length:=aa;rw[eF,A9];refine .some (show(_,_)=_ from ?_);rw[D5]
theorem Alt{step:List Jb×Int->Option ((List Jb×Int)⊕List Jb)}{V:List Jb}{p:Jb->Bool}(hn:V.length<=2000)(hs:∀(k:Nat) (v:Jb) (acc:List Jb),V[k]?=some v->acc.length<=2000->T (step (acc,(k:Int))) λq=>q= .inl (if p v then acc++[v]else acc,wI ((k:Int)+1)))(he:∀acc,step (acc,(V.length:Int))=some (.inr acc)):T (AQ step ([],0)) λx=>x=V.filter p:=by
 refine T.forA V.length (λk acc=>acc=(V.take k).filter p) aa aC (λk acc hk hj=>?_) λacc hj=>?_
 .obtain⟨v,hv,_⟩:=dk hk;have hal:acc.length<=k:=by grind
  refine(hs k v acc hv aa).mono λq hq=>?_;subst hq;refine⟨aq aa,?_⟩;dsimp only;rw[Rb hv,O8,<-hj];cases hp:p v<;>simp[hp]
 .rw[he];refine .some (show acc=_ from ?_);rw[hj,D5]
theorem AiJ(z:Sy D)(h:Rr R D)(hR:Bf R)(d:Int):T (sh D d) λD'=>Rr (Hg R d) D'/\Gw D D':=by
 have f:=z.dev;have a:=z.l;have b:=z.v;have z4:=z.c;unfold sh Hg;rw[inE z.z h,aL];cases hi:Pl R d with
 |false=>exact .some ⟨h,.rfl'⟩
 |true=>
  have hd:d∈D.In:=by grind [Rr.ins]
  rw[Bool.not_true,A9,ax,ofE z.z,aL,<-h.card];refine .bind ((Alr z d (Dq R d)).mono λx hx=>?_);subst hx;have ho:=Ajn h hR hd;have hlen:=ZP (List.nodup_append.1 h.nd).1 hd;have hst:MJ (I6 R d) (Dq R d)=(inF D.In d).any λx=>decide (XJ D.Cards x=Dq R d):=by
   unfold MJ;rw[Bool.eq_iff_iff,List.any_eq_true,List.any_eq_true];constructor
   .rintro⟨e,he,hc⟩;have hg:=JJ (UU hR.ci) (k:=e.1) (v:=e.2.1) (n:=e.2.2) he;have hge:=ho.in_ e.1;grind [Rr]
   .rintro⟨x,hx,hc⟩;have hge:=ho.in_ x;rw[Bx hx] at hge;obtain⟨n,hn⟩:=Ge hge;grind [Rr]
  refine .bind (.app cq (.bind (.app cq ?_)));rw[Pu];dsimp only;rw[hst];cases hb:(inF D.In d).any λx=>decide (XJ D.Cards x=Dq R d) with
  |true=>exact .some ⟨ho,rfl,C6 _⟩
  |false=>
   rw[A9,A9];refine .bind ((Als z (Dq R d)).mono λx hx=>?_);subst hx;have hlf:(lF D.L (Dq R d)).length<=2000:=M1 (Nr _ _) a;have hif:(inF D.In d).length<=D.In.length:=Nr _ _;refine .bind ((Alt (p:=λv=>ZO (lF D.L (Dq R d)) v.Of) b (λk v acc hv hal=>?_) λacc=>?_).mono λx hx=>?_)
   .have hk:=(cr hv).1;unfold uh;simp only[eA hk,ax,au,hv,aL];grind [T.bind,T.mono,Alq,Sz,T.app,T.some]
   .grind [uh,eF]
   .subst hx;exact .some ⟨Ajo ho (Aaj hR d) (Dq R d),rfl,Nr _ _⟩
end
structure Rq (Q Q':Ad):Prop where
 c:∀d,Dq Q' d=Dq Q d
 i:∀d,Q'.in_.get d=Q.in_.get d
 w:∀d,Q'.was.get d=Q.was.get d
 n:Q'.was.es.length=Q.was.es.length
 m:∀k,Q'.members.get k=Q.members.get k
 b:Q'.back=Q.back
theorem Rq.rr{Q Q':Ad}{D:C7}(q:Rq Q Q')(h:Rr Q D):Rr Q' D where
 card d:=(q.c d).trans (h.card d)
 nd:=h.nd
 in_ d:=(q.i d).trans (h.in_ d)
 was d:=(q.w d).trans (h.was d)
 w0:=q.n.trans h.w0
 ln:=h.ln
 no m hm:=h.no m ((q.m m).symm.trans hm)
 mem m x hm:=h.mem m x ((q.m m).symm.trans hm)
 vou m x g hm hg:=by grind [Rr,m]
 vof v hv:=by grind [Rr.vof,m]
 vnd:=h.vnd
 back:=q.b.trans h.back
 d6:=h.d6
structure Go (R Q:Ad) (m:Int) (p:Bj):Prop where
 c:∀d,Dq Q d=Dq R d
 w:Q.was=R.was
 b:Q.back=R.back
 i:∀e,Q.in_.get e=if e∈p then none else R.in_.get e
 m1:p=[]\/(∃e v,Q.in_.get e=some v/\Dq R e=m)->∀k,Q.members.get k=R.members.get k
 m2:p≠[]->(∀e v,Q.in_.get e=some v->Dq R e≠m)->∀k,Q.members.get k=if k=m then none else R.members.get k
theorem Go.step{R Q:Ad}{m:Int}{p:Bj}{d:Int}(h:Go R Q m p)(hQ:Bf Q)(hp:d∉p)(hi:R.in_.get d=some true)(hm:Dq R d=m):Go R (Hg Q d) m (p++[d]):=by
 have hq:Q.in_.get d=some true:=by rw[h.i,BB hp,hi]
 have hin:Pl Q d=true:=by unfold Pl;rw[hq];rfl
 have ho:∀e,(I6 Q d).in_.get e=if e∈p++[d]then none else R.in_.get e:=by grind [N5,Bf.ci,i]
 have hst:MJ (I6 Q d) (Dq Q d)=true↔∃e v,(I6 Q d).in_.get e=some v/\Dq R e=m:=by
  unfold MJ;rw[List.any_eq_true,h.c,hm];constructor
  .rintro⟨e,he,hc⟩;exact⟨e.1,e.2.1,(by grind [JJ,UU,Bf.ci]),(h.c e.1).symm.trans (DP hc)⟩
  .rintro⟨e,v,hg,hc⟩;obtain⟨n,hn⟩:=Ge hg;exact⟨_,hn,CM ((h.c e).trans hc)⟩
 have a:=h.m1 (.inr ⟨d,true,hq,hm⟩);unfold Hg;rw[hin,ax];cases hs:MJ (I6 Q d) (Dq Q d) with
 |true=>have hx:=hst.1 hs;exact⟨h.c,h.w,h.b,ho,λ_=>a,(by grind)⟩
 |false=>
  have hx:¬∃e v,(I6 Q d).in_.get e=some v/\Dq R e=m:=by grind
  refine⟨h.c,h.w,h.b,ho,λc=>?_,λ_ _ k=>?_⟩;all_goals grind [N5,Bf.cm,c]
theorem Go.fold{R:Ad}{m:Int}:∀{l p:Bj} {Q:Ad},Go R Q m p->Bf Q->(p++l).Nodup->(∀d∈l,R.in_.get d=some true/\Dq R d=m)->Go R (l.foldl Hg Q) m (p++l)
 |[],p,Q,h,_,_,_=>by rw[LK];exact h
 |d::r,p,Q,h,hQ,hn,hl=>by
  have hp:d∉p:=by grind
  have h1:=h.step hQ hp (hl d aC).1 (hl d aC).2;have:=Go.fold (l:=r) h1 (K3 hQ d) (by rw[List.append_assoc];exact hn) (by grind);rw[List.append_assoc] at this;exact this
theorem TD{R:Ad}{m:Int}:∀{l:Bj} {Q:Ad},(∀d,Dq Q d=Dq R d)->l.foldl (Td m) Q=(l.filter λd=>decide (Dq R d=m)).foldl Hg Q
 |[],Q,_=>rfl
 |d::r,Q,h=>by
  have hc:∀e,Dq (Hg Q d) e=Dq R e:=by grind [Hg,Dq]
  have e:Td m Q d=bif Dq R d=m then Hg Q d else Q:=by unfold Td;rw[h d]
  rw[List.foldl_cons,e];by_cases c:Dq R d=m
  .rw[CM c,ax,List.filter_cons_of_pos (p:=λd=>decide (Dq R d=m)) (CM c),List.foldl_cons];exact TD hc
  .rw[C3 c,A9,List.filter_cons_of_neg (p:=λd=>decide (Dq R d=m)) (by simpa using c)];exact TD h
section
variable {R:Ad} {D:C7}
theorem AiK(l:Bj)(hl:l.length<=2000)(z:Sy D)(h:Rr R D)(hR:Bf R):T (AQ (AT l) (D,0)) λD'=>Rr (l.foldl Hg R) D'/\Gw D D':=by
 refine(T.forA l.length (λk D'=>Rr ((l.take k).foldl Hg R) D'/\Bf ((l.take k).foldl Hg R)/\Gw D D') aa ⟨h,hR,.rfl'⟩ (λk D' hk hj=>?_) λD' hj=>?_)
 .obtain⟨x,hx,_⟩:=dk hk;unfold AT;simp only[eA hk,ax,au,hx,aL];refine .bind ((AiJ (AcP hj.1 hj.2.1 (hj.2.2.c▸z.c) (M1 hj.2.2.v z.v)) hj.1 hj.2.1 x).mono λa h2=> .some ⟨aq aa,?_⟩);rw[Rb hx,LF];grind [K3,Gw]
 .unfold AT;dsimp only;rw[eF,A9];rw[D5] at hj;exact .some ⟨hj.1,hj.2.2⟩
theorem Anh(z:Sy D)(o:Bi){st:Bj×Int->Option ((Bj×Int)⊕Bj)}(hst:st=Pj D o):AQ st ([],0)=some (D.In.filter λx=>decide (XJ D.Cards x=o.Member)):=by
 have a:=z.dev;subst hst;refine T.eq (T.forA D.In.length (λk acc=>acc=(D.In.take k).filter λx=>decide (XJ D.Cards x=o.Member)) aa aC (λk acc hk hj=>?_) λacc hj=>?_)
 .obtain⟨x,hx,_⟩:=dk hk;have hal:acc.length<=k:=by grind
  unfold Pj;simp only[eA hk,ax,au,hx,aL,ofE z.z];have e:(D.In.take (k+1)).filter (λx=>decide (XJ D.Cards x=o.Member))=acc++(if XJ D.Cards x=o.Member then[x] else[]):=by rw[Rb hx,O8,<-hj];grind
  refine .dec (λhc=>?_) λhc=>?_
  .rw[Bx hc] at e;exact .bind (.app cq (.some ⟨aq aa,e.symm⟩))
  .rw[BB hc,LK] at e;exact .some ⟨aq aa,e.symm⟩
 .unfold Pj;dsimp only;rw[eF,A9];refine .some (show acc=_ from ?_);rw[hj,D5]
theorem Ani(z:Sy D)(h:Rr R D)(hR:Bf R)(o:Bi):T (AQ (AT (D.In.filter λx=>decide (XJ D.Cards x=o.Member))) (D,0)) λD'=>Rr (Agi R o) D'/\Gw D D':=by
 have j:=z.dev;have hn:=(List.nodup_append.1 h.nd).1;refine(AiK _ (by grind) z h hR).mono λD' hD=>?_;unfold Agi;rw[TD λd=>rfl];obtain⟨m,f,_⟩:=IK hR;generalize hA:(D.In.filter λx=>decide (XJ D.Cards x=o.Member))=A at hD;generalize hB:((D3 R).filter λd=>decide (Dq R d=o.Member))=B;have hAB:∀e,e∈A↔e∈B:=λe=>by
  rw[<-hA,<-hB,HE,HE,f.mem_iff,h.card];refine and_congr ?_ Iff.rfl;have hi:=h.in_ e;constructor
  .grind [Ge]
  .intro he;obtain⟨q,hq,rfl⟩:=E7.1 he;have hg:=JJ hR.ci (k:=q.1) (v:=q.2.1) (n:=q.2.2) hq;grind
 have hin:∀d∈A,R.in_.get d=some true/\Dq R d=o.Member:=by grind [Rr.in_]
 have h0:Go R R o.Member []:=by constructor<;>grind
 have gA:=Go.fold (l:=A) h0 hR (by rw[Pu,<-hA];exact hn.sublist List.filter_sublist) hin;have gB:=Go.fold (l:=B) h0 hR (by rw[Pu,<-hB];exact((f.nodup_iff.2 hR.ci.kd).sublist List.filter_sublist)) λd hd=>hin d ((hAB d).2 hd);rw[Pu] at gA gB;have hfin:∀{Q:Ad} {p:Bj},(∀e,e∈p↔e∈A)->Go R Q o.Member p->∀k,Q.members.get k=if A=[]then R.members.get k else if k=o.Member then none else R.members.get k:=λ{Q p} hp g k=>by
  by_cases c:A=[]
  .have hp0:p=[]:=by
    cases p with
    |nil=>rfl
    |cons a r=>have:=(hp a).1 aC;rw[c] at this;cases this
   grind [Go.m1]
  .rw[BB c];have hp0:p≠[]:=λe=>by
    cases hA':A with
    |nil=>exact c hA'
    |cons a r=>have:=(hp a).2 (by rw[hA'];simp);rw[e] at this;cases this
   refine g.m2 hp0 (λe v he hc=>?_) k;grind [Go.i,Rr.in_,Rr.card]
 have q:Rq (A.foldl Hg R) (B.foldl Hg R):=⟨(by grind [Go]),λd=>by rw[gA.i,gB.i];simp only[hAB],λd=>by rw[gA.w,gB.w],by rw[gA.w,gB.w],(by grind),by rw[gA.b,gB.b]⟩;exact⟨q.rr hD.1,hD.2⟩
def NoG(R:Ad)(i:Ab):Prop:=∀q z g,R.members.get q=some z->z.guard=some g->g.id≠i
theorem Ajp{l:List Hd}{z:Hd}(hz:z∈l.set k y'):z=y'\/∃j,j≠k/\l[j]?=some z:=by grind [EO]
theorem Ajq(h:Rr R D){x:Az}{g:CA}{i:Ab}(hx:R.members.get m=some x)(hy:D.L[k]?=some y)(hn:y.N=m)(f:y'.N=m)(hM:Mr x' y')(hg:x'.guard=some g)(hi:g.id=i)(he:∀q,g.vouches.get q=none)(hf:NoG R i):Rr (IH R m x') {D with L:=D.L.set k y',V:=D.V.filter λv=>ZO (D.L.set k y') v.Of} where
 card:=h.card
 nd:=h.nd
 in_:=h.in_
 was:=h.was
 w0:=h.w0
 ln:=AeB h hy hn f
 no q hq z hz:=AeC h f q hq z hz
 mem q z hq:=ZN h hy hn f hM q z hq
 vou q z g' hq hg':=by
  have hz:∃w∈D.L.set k y',w.N=q/\Mr z w:=ZN h hy hn f hM q z hq;have hq:(C4 R.members m x').get q=some z:=hq;intro b d a;rw[BA] at hq;split at hq
  .cases hq;rw[hg] at hg';cases hg';rw[he];constructor
   .intro c;cases c
   .rintro⟨v,hv,e1,_⟩;obtain⟨l,n,g2,k1,k2,k3⟩:=h.vof v (HE.1 hv).1;exact absurd (k3.symm.trans (e1.trans hi)) (hf l n g2 k1 k2)
  .rw[h.vou q z g' hq hg'];obtain⟨w,hw,_,hm⟩:=hz;have h1:=hm.gd g' hg';have hown:ZO (D.L.set k y') g'.id=true:=by grind [Ps]
   constructor
   .rintro⟨v,hv,e1,e2⟩;exact⟨v,(by grind),e1,e2⟩
   .rintro⟨v,hv,e⟩;exact⟨v,(HE.1 hv).1,e⟩
 vof v hv:=by
  obtain⟨w,hw,h1,h2⟩:=Ps.1 (HE.1 hv).2;obtain⟨l,n,g2,k1,k2,k3⟩:=h.vof v (HE.1 hv).1;rcases Ajp hw with rfl|⟨j,hj,o⟩
  .have:=(hM.gd g hg).2.1;exact absurd (by grind) (hf l n g2 k1 k2)
  .obtain⟨z,hz,hm⟩:=h.of (bO o);have hne:w.N≠m:=λc=>by
    have e1:(D.L.map (·.N))[j]?=some m:=by grind
    have e2:(D.L.map (·.N))[k]?=some m:=by grind
    exact hj (JX h.ln e1 e2)
   cases hgd:z.guard with
   |none=>rw[hm.no hgd] at h1;cases h1
   |some p=>exact⟨w.N,z,p,by grind [BA],hgd,by grind [Mr.gd]⟩
 vnd:=h.vnd.sublist (List.filter_sublist.map _)
 back:=h.back
 d6:=h.d6
theorem Alu(z:Sy D)(h:Rr R D){o:Bi}{i:Ab}:T (o7 D o i) λD'=>(NoG R i->Rr (Aao R o i) D')/\Gw D D':=by
 have b:=z.l;have a:=z.v;have z4:=z.c;have d:=z.dev;unfold o7 Aao;rw[ofE z.z,aL,<-h.card];refine .bind ((XK z.z h (Dq R o.By)).mono λv hv=>?_);cases hx:R.members.get (Dq R o.By) with
 |none=>exact(by grind [T.some,Gw.rfl'])
 |some x=>
  rw[hx] at hv;obtain⟨k,y,rfl,hy,hn,hM⟩:=hv;have hk:=(cr hy).1;rw[show decide ((k:Int)<0)=false from C3 aa,A9,au,hy,aL,aL];unfold o6;refine .bind (.bind (.app cq (.bind (.set aa cq (.some ?_)))));rw[Pu,Fm];refine .bind ((Alt (p:=λv=>ZO (D.L.set k ⟨y.N,y.Role,true,i,o.Guards,o.Need,o.Wait,false,0⟩) v.Of) a (λj v acc hv hal=>?_) λacc=>?_).mono λq hq=>?_)
  .have hj:=(cr hv).1;unfold ni;simp only[eA hj,ax,au,hv,aL];grind [T.bind,T.mono,Alq,Sz,T.app,T.some]
  .grind [ni,eF]
  .subst hq;refine .some ⟨Ajq h hx hy hn hn ⟨hM.role,λc=>(by cases c),λg hg=>?_⟩ rfl rfl (λq=>rfl),rfl,Nr _ _⟩;cases hg;exact⟨rfl,rfl,rfl,rfl,rfl,rfl,rfl⟩
def Ju(o:Bi)(v:Jb):Bool:=decide (v.Of=o.Of)&&(decide (v.By=o.By)&&decide (v.Device=o.Device))
theorem AeE{v:Jb}:Ju o v=true↔v.Of=o.Of/\v.By=o.By/\v.Device=o.Device:=by grind [Ju]
theorem Ank(z:Sy D)(h:Rr R D)(o:Bi):T (AQ (nj D o) (o.At,[],0)) λx=>x.2=D.V.filter (λv=> !Ju o v)/\((x.1=o.At/\∀v∈D.V,Ju o v=false)\/∃v∈D.V,Ju o v=true/\x.1=iI o.At v.At):=by
 have a:=z.v;refine T.loop (λs=>∃k:Nat,k<=D.V.length/\s.2.2=(k:Int)/\s.2.1=(D.V.take k).filter (λv=> !Ju o v)/\((s.1=o.At/\∀v∈D.V.take k,Ju o v=false)\/∃(j:Nat) (v:Jb),j<k/\D.V[j]?=some v/\Ju o v=true/\s.1=iI o.At v.At)) (λs=>D.V.length-s.2.2.toNat) (by grind) cq ?_;rintro⟨b,acc,i⟩ ⟨k,hk,rfl,ha,hm⟩;dsimp only at ha hm;subst ha;unfold nj;dsimp only;rcases JF k D.V.length with hlt|hge
 .obtain⟨v,hv,_⟩:=dk hlt;have hla:((D.V.take k).filter (λv=> !Ju o v)).length<=k:=by grind
  have ew:=aq (show k<2305843009213693952 by omega);have e:(D.V.take (k+1)).filter (λv=> !Ju o v)=(D.V.take k).filter (λv=> !Ju o v)++(if Ju o v=true then[] else[v]):=by rw[Rb hv,O8];cases c:Ju o v<;>simp[c]
  simp only[eA hlt,ax,au,hv,aL];refine .bind (T.mono (Q:=λq=>q=Ju o v) (by grind [Ju,T.some]) λq hq=>?_)
  subst hq;cases c:Ju o v with
  |true=>
   rw[c,Bx rfl,LK] at e;rw[ax];refine .some ⟨⟨k+1,aa,ew,e.symm,.inr ⟨k,v,aa,hv,c,?_⟩⟩,by rw[ew];simp;omega⟩;rcases hm with⟨rfl,_⟩|⟨j,w,hj,hw,hc,_⟩
   .rfl
   .have kc:∀u:Jb,Ju o u=true->(u.Of,u.By,u.Device)=(o.Of,o.By,o.Device):=by grind [Ju]
    have e1:(D.V.map λv=>(v.Of,v.By,v.Device))[j]?=some (o.Of,o.By,o.Device):=by grind
    have e2:(D.V.map λv=>(v.Of,v.By,v.Device))[k]?=some (o.Of,o.By,o.Device):=by grind
    have:=JX h.vnd e1 e2;omega
  |false=>rw[c,BB aC] at e;rw[A9];refine .bind (.app cq (.some ⟨⟨k+1,aa,ew,e.symm,?_⟩,by rw[ew];simp;omega⟩));grind [Rb]
 .obtain rfl:k=D.V.length:=aa;rw[eF,A9];rw[D5] at hm⊢;refine .some ⟨rfl,?_⟩;grind
theorem AeF(h:Rr R D)(hR:Bf R){x:Az}{g g2:CA}{a:Int}{M:FM Int Az}(hx:R.members.get m=some x)(hg:x.guard=some g)(hid:g.id=o.Of)(e2:∀y,Mr x y->Mr ⟨x.role,some g2⟩ y)(ei:g2.id=g.id)(hM:∀q,M.get q=if q=m then some ⟨x.role,some g2⟩else R.members.get q)(hv:∀q,g2.vouches.get q=if q=WA o then some a else g.vouches.get q):Rr {R with members:=M} {D with V:=D.V.filter (λv=> !Ju o v)++[⟨o.Of,o.By,o.Device,a⟩]} where
 card:=h.card
 nd:=h.nd
 in_:=h.in_
 was:=h.was
 w0:=h.w0
 ln:=h.ln
 no q hq y hy:=by grind [Rr.no]
 mem q z hq:=by grind [Rr.mem]
 vou q z g' hq hg':=by
  have hq:M.get q=some z:=hq;intro b d c;have hkb:∀v:Jb,(!Ju o v)=true↔¬(v.Of=o.Of/\v.By=o.By/\v.Device=o.Device):=by grind [AeE]
  have hV:∀i,Ag1 (D.V.filter (λv=> !Ju o v)++[⟨o.Of,o.By,o.Device,a⟩]) i b d c↔(i=o.Of/\b=o.By/\d=o.Device/\c=a)\/(¬(i=o.Of/\b=o.By/\d=o.Device)/\Ag1 D.V i b d c):=λi=>by
   constructor
   .rintro⟨v,hv,e1,e2,e3,e4⟩;rcases Hp.1 hv with hv|hv
    .rw[HE,hkb,e1,e2,e3] at hv;exact .inr ⟨hv.2,v,hv.1,e1,e2,e3,e4⟩
    grind
   .rintro(⟨rfl,rfl,rfl,rfl⟩|⟨hne,v,hv,e1,e2,e3,e4⟩)
    .exact⟨_,Hp.2 (.inr (List.mem_singleton.2 rfl)),rfl,rfl,rfl,rfl⟩
    .exact⟨v,(by grind),e1,e2,e3,e4⟩
  show _↔Ag1 (D.V.filter (λv=> !Ju o v)++[⟨o.Of,o.By,o.Device,a⟩]) g'.id b d c;rw[hV];rw[hM] at hq;split at hq
  .grind [Rr.vou]
  .rename_i hne;rw[h.vou q z g' hq hg'];have hd:g'.id≠o.Of:=by grind [Bf]
   grind
 vof v e:=by grind [Rr.vof]
 vnd:=by show((D.V.filter (λv=> !Ju o v)++[(⟨o.Of,o.By,o.Device,a⟩:Jb)]).map λv=>(v.Of,v.By,v.Device)).Nodup;rw[List.map_append,Fo,List.map_nil,List.perm_append_comm.nodup_iff,List.singleton_append,M2];refine⟨λhh=>?_,h.vnd.sublist (List.filter_sublist.map _)⟩;grind [Ju]
 back:=h.back
 d6:=h.d6
theorem Anl(z:Sy D)(h:Rr R D)(hR:Bf R)(o:Bi):T (o8 D o) λD'=>Rr (XW R o) D'/\Gv D D':=by
 have c:=z.v;unfold o8;refine .bind ((ZK z.z h hR o).mono λv hv=>?_);rw[hv.1];cases hf:R.members.es.find? λe=>LB e.2.1 o.Of with
 |none=>grind [Dd,XW,T.some,Gw.gv,Gw.rfl']
 |some e=>
  obtain⟨hx,_⟩:=hR.mem (List.mem_of_find?_eq_some hf);have hge:LB e.2.1 o.Of=true:=by have:=List.find?_some hf;exact this
  obtain⟨q,⟨role,gd⟩,n⟩:=e;dsimp only at hx hge;cases gd with
  |none=>cases hge
  |some g=>
  have hid:g.id=o.Of:=DP hge;have e1:Dd R o=bif g.guards.any (λy=>decide (o.By=y))then(q,0)else(0,14):=by unfold Dd;rw[hf]
  have e2:XW R o=bif(g.guards.any λy=>decide (o.By=y))&&Aan g o then IH R q ⟨role,some (Acs g o)⟩else R:=by unfold XW;rw[hf]
  rw[e1,e2];cases hb:g.guards.any λy=>decide (o.By=y) with
  |false=>exact .some ⟨h,Gw.rfl'.gv⟩
  |true=>
  rw[ax,Bool.true_and];refine .bind ((Ank z h o).mono λx hx2=>?_);obtain⟨b,V'⟩:=x;obtain⟨h1,h2⟩:=hx2;dsimp only at h1 h2;subst h1;have hfl:(D.V.filter λv=> !Ju o v).length<=D.V.length:=Nr _ _;refine .bind (.app cq (.some ⟨?_,rfl,by simp;omega⟩));have key:∀a,g.vouches.get (WA o)=some a↔∃v∈D.V,Ju o v=true/\v.At=a:=λa=>by
   rw[show WA o=⟨o.By,o.Device⟩ from rfl,h.vou q _ g hx rfl];constructor
   .rintro⟨v,hv,k1,k2,k3,d⟩;grind [Ju]
   .rintro⟨v,hv,k1,k2⟩;unfold Ju at k1;simp only[bA,decide_eq_true_eq] at k1;exact⟨v,hv,k1.1.trans hid.symm,k1.2.1,k1.2.2,k2⟩
  have keep:g.vouches.get (WA o)=some b->Rr R {D with V:=D.V.filter (λv=> !Ju o v)++[⟨o.Of,o.By,o.Device,b⟩]}:=λhk=>AeF (M:=R.members) (g2:=g) (a:=b) h hR hx rfl hid (λy hy=>hy) rfl (by grind) (by grind);have new:b=o.At->Rr (IH R q ⟨role,some (Acs g o)⟩) {D with V:=D.V.filter (λv=> !Ju o v)++[⟨o.Of,o.By,o.Device,b⟩]}:=λhk=>AeF (M:=C4 R.members q ⟨role,some (Acs g o)⟩) (g2:=Acs g o) (a:=b) h hR hx rfl hid (by grind [Mr]) rfl (λp=>by rw[BA]) (by grind [BA]);cases hg:g.vouches.get (WA o) with
  |none=>
   have hN:Aan g o=true:=by unfold Aan;rw[hg]
   rw[hN];rcases h2 with⟨h2,_⟩|⟨v,hv,h3,h4⟩
   .exact new h2
   .have:=(key v.At).2 ⟨v,hv,h3,rfl⟩;rw[hg] at this;cases this
  |some a=>
   have hN:Aan g o=decide (o.At<a):=by unfold Aan;rw[hg]
   obtain⟨w,hw,k1,k2⟩:=(key a).1 hg;have hmn:b=iI o.At a:=by
    rcases h2 with⟨_,h2⟩|⟨v,hv,h3,h4⟩
    .rw[h2 w hw] at k1;cases k1
    .have:=(key v.At).2 ⟨v,hv,h3,rfl⟩;grind
   grind [iI]
theorem Anm(z:Sy D)(h:Rr R D)(hR:Bf R)(o:Bi):T ((bif 0<ah D.In then(some true)else(bif 0<ah D.Gone then(some true)else((gE D o.By).bind λa=>some (decide (a=0))))).bind λb=>bif b then(some D)else((nX D o.By 3).bind λd=>some ({d with Back:=o.Need}))) λD'=>Rr (Aby R o) D'/\Gw D D':=by
 have hw:=h.w0;unfold Aby;rw[ofE z.z,<-h.card,aL];unfold ah;rcases Nat.eq_zero_or_pos D.In.length with c1|c1
 .rcases Nat.eq_zero_or_pos D.Gone.length with c2|c2
  .have hi:D.In=[]:=List.eq_nil_of_length_eq_zero c1;have hg:D.Gone=[]:=List.eq_nil_of_length_eq_zero c2;have hf:DZ R o.By=decide (0<Dq R o.By):=by grind [Rr.was,DZ,Hi]
   rw[c1,c2,hw,c1,c2,hf];have h0:=(hR.c3 o.By).1;have h0:0<=Dq R o.By:=h0;rw[show decide ((0:Int)<((0:Nat):Int))=false from rfl,A9,A9,aL,show decide ((((0+0:Nat)):Int)=0)=true from rfl,Bool.true_and];by_cases c3:Dq R o.By=0
   .rw[CM c3,c3];exact .some ⟨h,.rfl'⟩
   .rw[C3 c3,show decide (0<Dq R o.By)=true from CM aa,A9,ax];refine .bind ((AbY z h hR o.By 3).mono λD' hD=> .some ?_);have h1:=hD.1;exact⟨⟨h1.card,h1.nd,h1.in_,h1.was,h1.w0,h1.ln,h1.no,h1.mem,h1.vou,h1.vof,h1.vnd,rfl,h1.d6⟩,hD.2.c,hD.2.v⟩
  grind [T.some,Gw.rfl']
 grind [T.some,Gw.rfl']
theorem Ann(z:Sy D)(h:Rr R D)(o:Bi){a:Int}(hv:match R.members.get (Dq R o.By) with
  |none=>a= -1
  |some x=>∃(k:Nat) (y:Hd),a=(k:Int)/\D.L[k]?=some y/\y.N=Dq R o.By/\Mr x y):T ((bif 0<=a then((aS D.L (Fi a 0)).bind λc=>bif c.Is then((aS D.L (Fi a 0)).bind λd=>some (decide (d.ID=o.Of)))else(some false))else(some false)).bind λf=>bif f then((aS D.L a).bind λb=>(o6 D.L a ({b with Objected:=true,Last:=Fi b.Last o.At})).bind λi=>some ({D with L:=i}))else(some D)) λD'=>Rr (UG R o) D'/\Gw D D':=by
 have j:=z.l
 cases hx:R.members.get (Dq R o.By) with
 |none=>
  grind [UG,T.some,Gw.rfl']
 |some x=>
  rw[hx] at hv
  obtain⟨k,y,rfl,hy,hn,hM⟩:=hv
  have hk:=(cr hy).1
  have hmx:Fi (k:Int) 0=(k:Int):=by unfold Fi;rw[BB aa]
  rw[show decide ((0:Int)<=(k:Int))=true from CM aa,ax,hmx,au,hy,aL,aL]
  obtain⟨role,gd⟩:=x
  cases gd with
  |none=>
   grind [UG,Mr.no,T.some,Gw.rfl']
  |some g=>
   have h1:=hM.gd g rfl
   have e:UG R o=bif g.id=o.Of then IH R (Dq R o.By) ⟨role,some {g with objected:=true,last:=Fi g.last o.At}⟩else R:=by unfold UG;rw[hx]
   rw[e,h1.1,h1.2.1,ax,aL]
   cases decide (g.id=o.Of) with
   |false=>exact .some ⟨h,.rfl'⟩
   |true=>
    rw[ax,ax,aL]
    unfold o6
    refine .bind (.bind (.app cq (.bind (.set aa cq (.some (.some ?_))))))
    rw[Pu,Fm]
    refine⟨AeD h hx hy hn hn (by grind [Mr]) (λm hg'=>?_) (by grind),rfl,C6 _⟩
    all_goals grind
theorem Ano(z:Sy D)(h:Rr R D)(hR:Bf R)(o:Bi):T ((jN D o.Of).bind λb=>(bif 0<=b then((fb D.In o.Old).bind λj=>bif j then((gE D o.Old).bind λl=>(aS D.L (Fi b 0)).bind λm=>bif l=m.N then((gE D o.Device).bind λn=>(aS D.L (Fi b 0)).bind λp=>some (decide (n=p.N)))else(some false))else(some false))else(some false)).bind λq=>bif q then((gE D o.Device).bind λd=>(se D d).bind λf=>(nX D o.Device f).bind λi=>(sh i o.Old).bind λa=>some a)else(some D)) λD'=>Rr (XX R o) D'/\Gw D D':=by
 refine .bind ((Alk z.z h hR o.Of).mono λv hv=>?_);have fin:T (bif Acu R o then((gE D o.Device).bind λd=>(se D d).bind λf=>(nX D o.Device f).bind λi=>(sh i o.Old).bind λa=>some a)else(some D)) λD'=>Rr (XX R o) D'/\Gw D D':=by
  unfold XX;cases Acu R o with
  |false=>exact .some ⟨h,.rfl'⟩
  |true=>rw[ax,ax,ofE z.z,aL,<-h.card,AiI z.z h,aL];refine .bind ((AbY z h hR _ _).mono λD' hD=>?_);refine .bind ((AiJ (AcP hD.1 (HB hR _ _) (hD.2.c▸z.c) (M1 hD.2.v z.v)) hD.1 (HB hR _ _) o.Old).mono λv hv=> .some ⟨hv.1,hv.2.c.trans hD.2.c,M1 hv.2.v hD.2.v⟩)
 cases hf:R.members.es.find? λe=>LB e.2.1 o.Of with
 |none=>grind [Acu,HC]
 |some e=>
  rw[hf] at hv;obtain⟨k,y,g,rfl,hy,hn,_,_,_,hx⟩:=hv;have hw:HC R o.Of=e.1:=by unfold HC;rw[hf]
  have h3:=hR.m3 e (List.mem_of_find?_eq_some hf);have hB:Acu R o=bif Pl R o.Old then(bif Dq R o.Old=e.1 then decide (Dq R o.Device=e.1)else false)else false:=by grind [Acu]
  have hmx:Fi (k:Int) 0=(k:Int):=by unfold Fi;rw[BB aa]
  rw[show decide ((0:Int)<=(k:Int))=true from CM aa,ax,inE z.z h,aL,hmx,au,hy];grind [ofE,Sy.z,Rr.card]
theorem doE(z:Sy D)(h:Rr R D)(hR:Bf R){o:Bi}{i:Ab}(hf:o.Kind=9->NoG R i):T (DM D o i) λD'=>Rr (Sd R o i) D'/\Gv D D':=by
 unfold DM;refine .eqb (ofE z.z o.By) ?_;rw[<-h.card];refine .bind ((XK z.z h (Dq R o.By)).mono λe hv=>?_);unfold Sd;refine .dec (λk1=>?_) λk1=>?_
 .rw[Bx k1];exact(Anm z h hR o).mono λ_ q=>⟨q.1,q.2.gv⟩
 rw[BB k1];refine .dec (λk2=>?_) λk2=>?_
 .rw[Bx k2];exact .bind ((AbY z h hR _ _).mono λ_ q=> .some ⟨q.1,q.2.gv⟩)
 rw[BB k2];refine .dec (λk3=>?_) λk3=>?_
 .rw[Bx k3];by_cases c:o.Device=0
  .rw[Bx c,CM c,ax,Anh z o rfl,aL,aL];exact .bind ((Ani z h hR o).mono λ_ q=> .some ⟨q.1,q.2.gv⟩)
  .rw[BB c,C3 c,A9,aL];exact .bind ((AiK [o.Device] aC z h hR).mono λ_ q=> .some ⟨q.1,q.2.gv⟩)
 rw[BB k3];refine .dec (λk5=>?_) λk5=>?_
 .rw[Bx k5];exact(Alp z h o).mono λ_ q=>⟨q.1,q.2.gv⟩
 rw[BB k5];refine .dec (λk9=>?_) λk9=>?_
 .rw[Bx k9];exact .bind ((Alu z h).mono λ_ q=> .some ⟨q.1 (hf k9),q.2.gv⟩)
 have a:=Anl z h hR o;have b:=(Ann z h o hv).mono λ_ q=>(⟨q.1,q.2.gv⟩:Rr (UG R o) _/\Gv D _);have c:=(Ano z h hR o).mono λ_ q=>(⟨q.1,q.2.gv⟩:Rr (XX R o) _/\Gv D _);have d:=Gw.rfl'.gv (D:=D);grind [T.some]
theorem Alv{cs:LP}(hc:∀d,Dq (Ha cs) d=XJ cs d):T (AV cs) (Rr (Ha cs)):=by
 refine .some ⟨hc,.nil,λd=>?_,λd=>?_,rfl,.nil,(by grind),λm x hm=>(by cases hm),λm x g hm=>(by cases hm),λv hv=>(by cases hv),.nil,rfl,λd hd=>(by cases hd)⟩
 .rw[BB aC];rfl
 .rw[BB aC];rfl
end
end Go.Proofs.YtlimmeehdfbheaaGreatDoor
