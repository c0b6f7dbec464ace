/- Texts. -/
import Derived.Test.YtghphhhpagagbaaGreatDoorVh
namespace Go.Proofs.YtghphhhpagagbaaGreatDoor
set_option linter.unusedSectionVars false
set_option linter.unusedVariables false
set_option linter.unusedSimpArgs false
open Go.RowKit Tryz
attribute [local irreducible] Tr dz Gp
variable {α:Type}{ids l l0 row vs:Bf}{a b j k n p u v w:Nat}{s:FM Bh Int×FM Int Int}{r:List Bh}{L:Bn}{pv x:Ab}{y y':Ef}{gg:Aj}{d m:Int}{o:Bq}{x':Az}{cs:Md}{dl:JW}{al:A3}
def RnF(l:Bn):Prop:=∀κ,l.map (qg κ 19)=l
abbrev oN1(s:Nat):Option Ob:=some ⟨3,[iG (s:Int)],none⟩
def o2S(cmp:Ab->Ab->Int)(l:Bf)(a b s:Nat):Option (Nat×Nat×Nat):=(l[b]?).bind λy=>(l[a]?).bind λx=>bif decide (cmp y x<0) then some (b,a,s+1) else some (a,b,s)
def meS(cmp:Ab->Ab->Int)(l:Bf)(a b c s:Nat):Option (Nat×Nat):=(o2S cmp l a b s).bind λd=>(o2S cmp l d.2.1 c d.2.2).bind λe=>(o2S cmp l d.1 e.1 e.2.2).bind λf=>some (f.2.1,f.2.2)
def chS(cmp:Ab->Ab->Int)(l:Bf)(a:Nat):Option (Nat×Bool):=(meS cmp l (a+3) (a+6) (a+9) 0).bind λr=>bif decide (r.2<=3) then some (r.1,decide ((r.2:Int)=0)) else none
def scS(cmp:Ab->Ab->Int)(l:Bf)(b k:Nat):Option (Nat⊕Nat):=bif decide (((k+1:Nat):Int)<(b:Int)) then(l[k+1]?).bind λx=>(l[k]?).bind λy=>bif decide (cmp x y<0) then some (.inr k) else some (.inl (k+1)) else some (.inr k)
def piS(cmp:Ab->Ab->Int)(l:Bf)(a b:Nat):Fp:=(AB (scS cmp l b) a).bind λk=>some (decide (((k+1:Nat):Int)=(b:Int)))
section
variable {gl:CO} {fi:FuncId} {fa fc:Bn} {cmp:Ab->Ab->Int} (hv:CmV gl fi fa fc cmp)
include hv
theorem AhP{s:Nat}(hs:s<1000)(h:o2S cmp l a b s=some (u,v,w)):jg prog gl 376 [.rsl 0 0 l.length,iG (a:Int),iG (b:Int),.ref 1 0,Sb fi fa fc] [(0,BA l),(1,oN1 s)] 2 (.tup [iG (u:Int),iG (v:Int)]) [(0,BA l),(1,oN1 w)] 2:=by
 unfold o2S at h;obtain⟨y,hy,h⟩:=bS h;obtain⟨x,hx,h⟩:=bS h;refine pP func376 ?_;rcases bC h with⟨b1,h⟩|⟨b1,h⟩
 .simp only[Fl,Ge] at h;obtain⟨rfl,rfl,rfl⟩:=h;exact Ju .ret (s0 32 gl [(10,iG (b:Int)),(11,iG (a:Int))] [(0,BA l),(1,oN1 (s+1))] 2 2) [iG (b:Int),iG (a:Int)] [AA 15 (ac.ixrZ 0 (AH hy)),AA 16 (ac.pt0Z aW (AH hy)),AA 19 (ac.ixrZ 0 (AH hx)),AA 20 (ac.pt0Z aW (AH hx)),hcp 21 2 hv y x,hr 22 b1,hbb 26 (Xl (q:=s) aa)] [hc (ac.imm l)] (ρ:=[(0,0),(1,1)]) (kd:=[(0,.row)])
 .simp only[Fl,Ge] at h;obtain⟨rfl,rfl,rfl⟩:=h;exact Ju .ret (s0 32 gl [(10,iG (a:Int)),(11,iG (b:Int))] [(0,BA l),(1,oN1 s)] 2 2) [iG (a:Int),iG (b:Int)] [AA 15 (ac.ixrZ 0 (AH hy)),AA 16 (ac.pt0Z aW (AH hy)),AA 19 (ac.ixrZ 0 (AH hx)),AA 20 (ac.pt0Z aW (AH hx)),hcp 21 2 hv y x,hr 22 b1] [hc (ac.imm l)] (ρ:=[(0,0),(1,1)]) (kd:=[(0,.row)])
variable (ra:RnF fa) (rc:RnF fc)
include ra rc
theorem rn5{κ:Nat->Ft}{a b c d:G}{e f g h:G}(h1:qg κ 20 a=e)(h2:qg κ 20 b=f)(h3:qg κ 20 c=g)(h4:qg κ 20 d=h):[a,b,c,d,Sb fi fa fc].map (qg κ 20)=[e,f,g,h,Sb fi fa fc]:=by show[qg κ 20 a,qg κ 20 b,qg κ 20 c,qg κ 20 d,.clo (.func fi) (fa.map (qg κ 19)) (fc.map (qg κ 19))]=_;rw[h1,h2,h3,h4,ra κ,rc κ]
abbrev ho2(d:Nat){l:Bf}{a b s u v w:Nat}(hs:s<1000)(h:o2S cmp l a b s=some (u,v,w)):HP:=tN d [0,1] 2 [(0,BA l),(1,oN1 s)] [.rsl 0 0 l.length,iG (a:Int),iG (b:Int),.ref 1 0,Sb fi fa fc] [(0,BA l),(1,oN1 w)] (AhP hv hs h) ⟨⟨rfl,.inr ⟨rfl,ac.imm l⟩⟩,⟨rfl,.inl rfl⟩,trivial⟩ ⟨⟨rfl,.inr ⟨rfl,ac.imm l⟩⟩,⟨rfl,.inl rfl⟩,trivial⟩ (hgs:=rn5 hv ra rc rfl rfl rfl rfl)
theorem AlM{s:Nat}(h:o2S cmp l a b s=some (u,v,w)):w<=s+1/\((u=a/\v=b)\/(u=b/\v=a)):=by grind [o2S]
theorem AjW{c s m:Nat}(hs:s<100)(h:meS cmp l a b c s=some (m,w)):jg prog gl 346 [.rsl 0 0 l.length,iG (a:Int),iG (b:Int),iG (c:Int),.ref 1 0,Sb fi fa fc] [(0,BA l),(1,oN1 s)] 2 (iG (m:Int)) [(0,BA l),(1,oN1 w)] 2:=by unfold meS at h;obtain⟨⟨u1,f,g⟩,e1,h⟩:=bS h;obtain⟨⟨i,j,k⟩,e2,h⟩:=bS h;obtain⟨⟨n,d,e⟩,e3,h⟩:=bS h;simp only[Fl,Ge] at h;obtain⟨rfl,rfl⟩:=h;have k1:=(AlM hv ra rc e1).1;have k2:=(AlM hv ra rc e2).1;dsimp only at e2 e3 k2;refine pP func346 ?_;exact Ju .ret (s0 41 gl [(12,iG (d:Int))] [(0,BA l),(1,oN1 e)] 2 2) [iG (d:Int)] [ho2 hv ra rc 19 aa e1,ho2 hv ra rc 28 aa e2,ho2 hv ra rc 37 aa e3] [hc (ac.imm l)] (ρ:=[(0,0),(1,1)]) (kd:=[(0,.row)])
def Big(a b:Nat):Prop:=(a=0/\b=13)\/(a=0/\b=14)\/(a=1/\b=14)
abbrev AlN(d:Nat){l:Bf}{a b c m w:Nat}(h:meS cmp l a b c 0=some (m,w)):HP:=tN d [0,1] 2 [(0,BA l),(1,oN1 0)] [.rsl 0 0 l.length,iG (a:Int),iG (b:Int),iG (c:Int),.ref 1 0,Sb fi fa fc] [(0,BA l),(1,oN1 w)] (AjW hv ra rc Cd h) ⟨⟨rfl,.inr ⟨rfl,ac.imm l⟩⟩,⟨rfl,.inl rfl⟩,trivial⟩ ⟨⟨rfl,.inr ⟨rfl,ac.imm l⟩⟩,⟨rfl,.inl rfl⟩,trivial⟩ (hgs:=congrArg (G.rsl 0 0 l.length::·) (rn5 hv ra rc rfl rfl rfl rfl))
theorem AjX{l:Bf}{a b m:Nat}{f:Bool}(hB:Big a b)(h:chS cmp l a=some (m,f)):jg prog gl 270 [.rsl 0 0 l.length,iG (a:Int),iG (b:Int),Sb fi fa fc] [(0,BA l)] 1 (.tup [iG (m:Int),iG (bif f then 1 else 0)]) [(0,BA l)] 1:=by
 unfold chS at h;obtain⟨⟨c,w⟩,e,h⟩:=bS h;obtain⟨hw,h⟩:=Hr h;have hw:=DP hw;dsimp only at hw;simp only[Fl,Ge] at h;obtain⟨rfl,rfl⟩:=h;have hn:decide ((w:Int)=12)=false:=Dd aa;refine pP func270 ?_;cases b1:decide ((w:Int)=0) with
 |true=>
  rcases hB with⟨rfl,rfl⟩|⟨rfl,rfl⟩|⟨rfl,rfl⟩
  all_goals exact Ju .ret (s0 63 gl [(8,iG (c:Int)),(9,iG 1)] [(0,BA l)] 1 1) [iG (c:Int),iG 1] [AlN hv ra rc 54 e,hr 58 b1] [hc (ac.imm l)] (ρ:=[(0,0)]) (kd:=[(0,.row)])
 |false=>
  rcases hB with⟨rfl,rfl⟩|⟨rfl,rfl⟩|⟨rfl,rfl⟩
  all_goals exact Ju .ret (s0 63 gl [(8,iG (c:Int)),(9,iG 0)] [(0,BA l)] 1 1) [iG (c:Int),iG 0] [AlN hv ra rc 54 e,hr 58 b1,hr 61 hn] [hc (ac.imm l)] (ρ:=[(0,0)]) (kd:=[(0,.row)])
omit ra rc
theorem AjY{l:Bf}{a b:Nat}{f:Bool}(hl:l.length<=1000)(ha:a<1000)(hb:b<=1000)(g:b-a<50)(h:piS cmp l a b=some f):jg prog gl 272 [.rsl 0 0 l.length,iG (a:Int),iG (b:Int),Sb fi fa fc] [(0,BA l)] 1 (bG f) [(0,BA l)] 1:=by
 unfold piS at h;obtain⟨k,ek,h⟩:=bS h;obtain rfl:=A9 h;refine pP func272 ?_;refine pN (λ_:Unit=>(s0 141 gl [(0,.rsl 0 0 l.length),(1,iG (a:Int)),(2,iG (b:Int)),(3,Sb fi fa fc),(9,iG ((a+1:Nat):Int)),(10,iG 0)] [(0,BA l)] 1 1)) 1110122 Lg [hbb 14 (Xl (q:=a) aa)] [hc (el l),hc hv.im,hc (ac.imm l)] (λB z w hz2 e c=>?_) [] [(0,0)] [(0,.row)];clear e c hz2;refine Ix 11101221020 (s0 141 gl [(0,.rsl 0 0 l.length),(1,iG (a:Int)),(2,iG (b:Int)),(3,Sb fi fa fc),(9,iG ((k+1:Nat):Int)),(10,iG 0)] [(0,BA l)] 1 1) ?_ λkk=>?_;rotate_left
 .refine pN (λk:Nat=>(s0 141 gl [(0,.rsl 0 0 l.length),(1,iG (a:Int)),(2,iG (b:Int)),(3,Sb fi fa fc),(9,iG ((k+1:Nat):Int)),(10,iG 0)] [(0,BA l)] 1 1)) 1110122102022 ek [] [hc (el l),hc hv.im,hc (ac.imm l)] (λi k v hz e c=>?_) [] [(0,0)] [(0,.row)];unfold scS at hz;rcases bC hz with⟨b2,hz⟩|⟨b2,hz⟩
  .obtain⟨x,ex,hz⟩:=bS hz;obtain⟨y,d,hz⟩:=bS hz;have hq:=(cr ex).1;rcases bC hz with⟨b3,hz⟩|⟨b3,hz⟩
   .obtain rfl:=A9 hz;obtain rfl:=c _ rfl;exact yl 11101221020 [hr 21 b2,AA 26 (ac.ixrZ 0 (AH ex)),AA 27 (ac.pt0Z aW (AH ex)),hbb 30 (dec (q:=k) aa),AA 31 (ac.ixrZ 0 (AH d)),AA 32 (ac.pt0Z aW (AH d)),hcp 33 1 hv x y,hr 34 b3] [hc (el l),hc hv.im,hc (ac.imm l)] kk [] [(0,0)] [(0,.row)]
   .obtain rfl:=A9 hz;exact jw [hr 21 b2,AA 26 (ac.ixrZ 0 (AH ex)),AA 27 (ac.pt0Z aW (AH ex)),hbb 30 (dec (q:=k) aa),AA 31 (ac.ixrZ 0 (AH d)),AA 32 (ac.pt0Z aW (AH d)),hcp 33 1 hv x y,hr 34 b3,hbb 38 (Xl (q:=k+1) aa)] [hc (el l),hc hv.im,hc (ac.imm l)] (e _ rfl) [] [(0,0)] [(0,.row)]
  .obtain rfl:=A9 hz;obtain rfl:=c _ rfl;exact yl 11101221020 [hr 21 b2] [hc (el l),hc hv.im,hc (ac.imm l)] kk [] [(0,0)] [(0,.row)]
 clear ek;cases b1:decide (((k+1:Nat):Int)=(b:Int)) with
 |true=>exact Ju .ret (s0 141 gl [(8,bG true)] [(0,BA l)] 1 1) [bG true] [hr 41 b1] [hc (ac.imm l)] (ρ:=[(0,0)]) (kd:=[(0,.row)])
 |false=>exact Ju .ret (s0 141 gl [(8,bG false)] [(0,BA l)] 1 1) [bG false] [hr 41 b1,hbb 44 (sb (a:=(b:Int)) (b:=(a:Int)) (z:=(b:Int)-(a:Int)) rfl aa),hr 45 (show decide ((b:Int)-(a:Int)<50)=true from C6 aa)] [hc (ac.imm l)] (ρ:=[(0,0)]) (kd:=[(0,.row)])
omit hv
abbrev oXs(s:Nat):Option Ob:=some ⟨367,[uG (s:Int)],none⟩
def rnX:Nat->Nat
 |0=>13
 |1=>14069506893
 |2=>14988908846326605643
 |_=>3428281591454193221
theorem AaA(j:Nat)(h:j<3):jg prog gl 344 [.ref 0 0] [(0,oXs (rnX j))] 1 (uG (rnX (j+1):Int)) [(0,oXs (rnX (j+1)))] 1:=by
 refine pP func344 ?_;rcases(by omega:j=0\/j=1\/j=2) with rfl|rfl|rfl
 .exact Ju .ret (s0 33 gl [(2,uG 14069506893)] [(0,oXs 14069506893)] 1 1) [uG 14069506893] [] []
 .exact Ju .ret (s0 33 gl [(2,uG 14988908846326605643)] [(0,oXs 14988908846326605643)] 1 1) [uG 14988908846326605643] [] []
 .exact Ju .ret (s0 33 gl [(2,uG 3428281591454193221)] [(0,oXs 3428281591454193221)] 1 1) [uG 3428281591454193221] [] []
theorem AjZ:ba prog gl 343 [iG 13] (uG 16):=by have h:=RC gl (n:=13) Cd;refine Gh func343 ?_;exact Ar [hf 5 h] []
end
theorem dJa{P:Bu}{fn:Func}{Q:Exit->St->Prop}{Bs:List (St->Prop)}{m:Bool}{p:Br}{st:St}(q:Br)(J:St)(kk:Gp P fn Q Bs false q J)(h:Gp P fn Q Bs false q J->Gp P fn Q Bs m p st):Gp P fn Q Bs m p st:=h kk
def brT(s:Nat×Bf):Option ((Nat×Bf)⊕Bf):=match s.1 with
 |0=>(swZ s.2 6 1).bind λl=>some (.inl (1,l))
 |1=>(swZ s.2 7 12).bind λl=>some (.inl (2,l))
 |2=>(swZ s.2 8 6).bind λl=>some (.inl (3,l))
 |3=>some (.inr s.2)
 |_=>none
def brG(l:Bf)(a b c:Nat)(d:Bool):Option (Bf×Nat):=bif d then some (l,c) else bif Nat.beq a 1&&Nat.beq b 14 then(AB brT (0,l)).bind λr=>bif Nat.beq l.length r.length then some (r,c-1) else none else none
def agG(cmp:Ab->Ab->Int)(l:Bf)(a p:Nat):Fp:=bif Nat.blt 0 a then(l[a-1]?).bind λy=>(l[p]?).bind λx=>some (decide (cmp y x<0)) else some true
def AhQ(a b:Nat):Bool:=(Nat.beq a 0&&Nat.beq b 13)||((Nat.beq a 0&&Nat.beq b 14)||(Nat.beq a 1&&Nat.beq b 14))
theorem AhR(h:AhQ a b=true):Big a b:=by
 unfold AhQ at h;simp only[Bool.or_eq_true,bA] at h;rcases h with⟨h1,h2⟩|⟨h1,h2⟩|⟨h1,h2⟩
 .exact .inl ⟨bc h1,bc h2⟩
 .exact .inr (by grind [bc])
 .exact .inr (by grind [bc])
abbrev PdS:Type:=Bf×Nat×Nat×Nat×Bool×Bool
def pdN(cmp:Ab->Ab->Int)(a b c:Nat)(m:Nat)(f:Bool)(l:Bf):Option (PdS⊕Bf):=
 bif decide (a<=m/\m<b) then(bif decide ((m:Int)-(a:Int)<(b:Int)-(m:Int)) then(inI cmp (a:Int) (m:Int) l).bind λl3=>bif Nat.beq l.length l3.length then some (.inl (l3,m+1,b,c,decide ((1:Int)<=(m:Int)-(a:Int)),f)) else none
  else(inI cmp ((m+1:Nat):Int) (b:Int) l).bind λl3=>bif Nat.beq l.length l3.length then some (.inl (l3,a,m,c,decide ((1:Int)<=(b:Int)-(m:Int)),f)) else none) else none
def pdT(cmp:Ab->Ab->Int)(s:PdS):Option (PdS⊕Bf):=
 bif decide (s.1.length<=1000/\s.2.1<=100/\s.2.2.1<=100) then
 bif decide ((s.2.2.1:Int)-(s.2.1:Int)<=12) then(inI cmp (s.2.1:Int) (s.2.2.1:Int) s.1).bind λr=>some (.inr r)
 else bif AhQ s.2.1 s.2.2.1&&(Nat.blt 0 s.2.2.2.1&&Nat.ble s.2.2.2.1 100) then
  (brG s.1 s.2.1 s.2.2.1 s.2.2.2.1 s.2.2.2.2.1).bind λq=>bif decide (q.1.length<=1000) then(chS cmp q.1 s.2.1).bind λc=>(bif s.2.2.2.2.1&&s.2.2.2.2.2&&c.2 then piS cmp q.1 s.2.1 s.2.2.1 else some false).bind λd=>bif d then some (.inr q.1) else
  (agG cmp q.1 s.2.1 c.1).bind λok=>bif ok then(paS cmp s.2.1 s.2.2.1 c.1 q.1).bind λr=>bif Nat.beq q.1.length r.2.2.length then pdN cmp s.2.1 s.2.2.1 q.2 r.1 r.2.1 r.2.2 else none else none else none
 else none else none
section
variable {gl:CO} {fi:FuncId} {fa fc:Bn} {cmp:Ab->Ab->Int} (hv:CmV gl fi fa fc cmp)
include hv
theorem Aj1{r:Bf}(h:AB brT (0,l)=some r):jg prog gl 269 [.rsl 0 0 l.length,iG 1,iG 14,Sb fi fa fc] [(0,BA l)] 1 (.tup []) [(0,BA r)] 1:=by
 have hn:=AjZ (gl:=gl);have h0:=AaA (gl:=gl) 0 Cd;have h1:=AaA (gl:=gl) 1 Cd;have h2:=AaA (gl:=gl) 2 Cd;refine pP func269 ?_;refine pN (λs:Nat×Bf=>(s0 67 gl [(0,.rsl 0 0 s.2.length),(1,iG 1),(8,iG 13),(9,.ref 1 0),(10,uG 16),(11,iG ((6+s.1:Nat):Int))] [(0,BA s.2),(1,oXs (rnX s.1))] 2 1)) 111311122 h [hf 21 hn] [hc (el l),hc (ac.imm l)] (λB s w hs k5 a=>?_) [] [(0,0),(1,1)] [(0,.row)];obtain⟨j,l⟩:=s;unfold brT at hs;dsimp only at hs;split at hs
 .obtain⟨l1,e1,hs⟩:=bS hs;obtain rfl:=A9 hs;obtain⟨x,y,hx,hy,e⟩:=I3 e1;have hl:l.length=l1.length:=by rw[e];exact Ul
  exact jw (tN 38 [1] 2 [(1,oXs (rnX 0))] [.ref 1 0] [(0,oXs (rnX 1))] h0 ⟨⟨rfl,.inl rfl⟩,trivial⟩ ⟨⟨rfl,.inl rfl⟩,trivial⟩::hsw 59 63 65 66 hx hy e) [hc hl,hc (ac.imm l1)] (k5 _ rfl) [] [(0,0),(1,1)] [(0,.row)]
 .obtain⟨l1,e1,hs⟩:=bS hs;obtain rfl:=A9 hs;obtain⟨x,y,hx,hy,e⟩:=I3 e1;have hl:l.length=l1.length:=by rw[e];exact Ul
  exact jw (tN 38 [1] 2 [(1,oXs (rnX 1))] [.ref 1 0] [(0,oXs (rnX 2))] h1 ⟨⟨rfl,.inl rfl⟩,trivial⟩ ⟨⟨rfl,.inl rfl⟩,trivial⟩::hsw 59 63 65 66 hx hy e) [hc hl,hc (ac.imm l1)] (k5 _ rfl) [] [(0,0),(1,1)] [(0,.row)]
 .obtain⟨l1,e1,hs⟩:=bS hs;obtain rfl:=A9 hs;obtain⟨x,y,hx,hy,e⟩:=I3 e1;have hl:l.length=l1.length:=by rw[e];exact Ul
  exact jw (tN 38 [1] 2 [(1,oXs (rnX 2))] [.ref 1 0] [(0,oXs (rnX 3))] h2 ⟨⟨rfl,.inl rfl⟩,trivial⟩ ⟨⟨rfl,.inl rfl⟩,trivial⟩::hsw 59 63 65 66 hx hy e) [hc hl,hc (ac.imm l1)] (k5 _ rfl) [] [(0,0),(1,1)] [(0,.row)]
 .obtain rfl:=A9 hs;obtain rfl:=a _ rfl;exact Ju .normal (s0 67 gl [] [(0,BA l)] 1 1) [] [] [hc (ac.imm l)] (ρ:=[(0,0)]) (kd:=[(0,.row)])
 .cases hs
variable (ra:RnF fa) (rc:RnF fc)
include ra rc
theorem rnA{κ:Nat->Ft}{x y:G}(h1:qg κ 20 x=y)(h:L.map (qg κ 20)=L):(x::(L++[Sb fi fa fc])).map (qg κ 20)=y::(L++[Sb fi fa fc]):=by rw[EZ,List.map_append,h1,h];show y::(L++[.clo (.func fi) (fa.map (qg κ 19)) (fc.map (qg κ 19))])=_;rw[ra κ,rc κ]
abbrev hI(d:Nat)(L:Bn){f:FuncId}{l r:Bf}{res:G}(hM:jg prog gl f (.rsl 0 0 l.length::(L++[Sb fi fa fc])) [(0,BA l)] 1 res [(0,BA r)] 1)(hL:L.map (qg (vi [0]) 20)=L):HP:=tN d [0] 1 [(0,BA l)] (.rsl 0 0 l.length::(L++[Sb fi fa fc])) [(0,BA r)] hM ⟨⟨rfl,.inr ⟨rfl,ac.imm l⟩⟩,trivial⟩ ⟨⟨rfl,.inr ⟨rfl,ac.imm r⟩⟩,trivial⟩ (hgs:=rnA hv ra rc rfl hL)
omit hv ra rc in
theorem mcL{f:FuncId}{r:Bf}{res:G}(e:n=l.length)(hM:jg prog gl f (.rsl 0 0 l.length::L) [(0,BA l)] 1 res [(0,BA r)] 1):jg prog gl f (.rsl 0 0 n::L) [(0,BA l)] 1 res [(0,BA r)] 1:=e▸hM
abbrev hI2(d:Nat)(L:Bn){f:FuncId}{l r:Bf}{res:G}{n:Nat}(e:n=l.length)(hM:jg prog gl f (.rsl 0 0 l.length::(L++[Sb fi fa fc])) [(0,BA l)] 1 res [(0,BA r)] 1)(hL:L.map (qg (vi [0]) 20)=L):HP:=tN d [0] 1 [(0,BA l)] (.rsl 0 0 n::(L++[Sb fi fa fc])) [(0,BA r)] (mcL e hM) ⟨⟨rfl,.inr ⟨rfl,ac.imm l⟩⟩,trivial⟩ ⟨⟨rfl,.inr ⟨rfl,ac.imm r⟩⟩,trivial⟩ (hgs:=rnA hv ra rc rfl hL)
theorem Qt{a b:Nat}{r:Bf}(ha:a<=1000)(hb:b<=1000)(c:(b:Int)-(a:Int)<=12)(h:inI cmp (a:Int) (b:Int) l=some r)(k:Int):jg prog gl 192 [.rsl 0 0 l.length,iG (a:Int),iG (b:Int),iG k,Sb fi fa fc] [(0,BA l)] 1 (.tup []) [(0,BA r)] 1:=by have hs:=sb (a:=(b:Int)) (b:=(a:Int)) (z:=(b:Int)-(a:Int)) rfl aa;have hd:=C6 c;refine pP func192 ?_;refine pN (λ_:Unit=>(s0 148 gl [(0,.rsl 0 0 l.length),(1,iG (a:Int)),(2,iG (b:Int)),(3,iG k),(4,Sb fi fa fc)] [(0,BA l)] 1 1)) 11122 Lg [] [hc (el l),hc hv.im,hc (ac.imm l)] (λd z v hz2 e f=>?_) [] [(0,0)] [(0,.row)];exact Ju .ret (s0 148 gl [] [(0,BA r)] 1 1) [] [hbb 23 hs,hr 25 hd,hI hv ra rc 30 [iG (a:Int),iG (b:Int)] (Ads hv h) rfl] [hc (ac.imm r)] (ρ:=[(0,0)]) (kd:=[(0,.row)])
abbrev Anu(gl:CO)(fi:FuncId)(fa fc:Bn)(s:PdS):St:=(s0 148 gl [(0,.rsl 0 0 s.1.length),(1,iG (s.2.1:Int)),(2,iG (s.2.2.1:Int)),(3,iG (s.2.2.2.1:Int)),(4,Sb fi fa fc),(10,bG s.2.2.2.2.1),(11,bG s.2.2.2.2.2)] [(0,BA s.1)] 1 1)
theorem Aj2{s:PdS}{r:Bf}(h:AB (pdT cmp) s=some r)(h1:s.2.2.2.2=(true,true)):jg prog gl 192 [.rsl 0 0 s.1.length,iG (s.2.1:Int),iG (s.2.2.1:Int),iG (s.2.2.2.1:Int),Sb fi fa fc] [(0,BA s.1)] 1 (.tup []) [(0,BA r)] 1:=by
 refine pP func192 ?_;obtain⟨l,a,b,g,j,par⟩:=s;obtain⟨rfl,rfl⟩:=Prod.mk.inj h1;clear h1;refine pN (Anu gl fi fa fc) [1,1,2,2] h [] [hc (el l),hc hv.im,hc (ac.imm l)] (λB s w hs k5 C=>?_) [] [(0,0)] [(0,.row)];clear h l a b g;obtain⟨l,a,b,g,j,par⟩:=s;unfold pdT at hs;dsimp only at hs;obtain⟨hg,hs⟩:=Hr hs;obtain⟨hl,ha,hb⟩:=DP hg;have o:=sb (a:=(b:Int)) (b:=(a:Int)) (z:=(b:Int)-(a:Int)) rfl aa;rcases bC hs with⟨b1,hs⟩|⟨b1,hs⟩
 .obtain⟨r',A,hs⟩:=bS hs;obtain rfl:=A9 hs;obtain rfl:=C _ rfl;exact Ju .ret (s0 148 gl [] [(0,BA r')] 1 1) [] [hbb 23 o,hr 25 b1,hI hv ra rc 30 [iG (a:Int),iG (b:Int)] (Ads hv A) rfl] [hc (ac.imm r')] (ρ:=[(0,0)]) (kd:=[(0,.row)])
 obtain⟨u,hs⟩:=Hr hs;simp only[bA] at u;obtain⟨hB,hl1,hl2⟩:=u;have hB:=AhR hB;have hlim:0<g:=E7 hl1;have hlim2:g<=100:=E7 hl2;clear hl1 hl2;obtain⟨⟨l1,c⟩,k,hs⟩:=bS hs;dsimp only at hs;obtain⟨v,hs⟩:=Hr hs;have hll:=DP v;obtain⟨⟨p,Xl⟩,D,hs⟩:=bS hs;dsimp only at hs;obtain⟨d,ed,hs⟩:=bS hs;refine dJa [1,1,2,2,2,1,1,1,1,0] (s0 148 gl [(0,.rsl 0 0 l1.length),(1,iG (a:Int)),(2,iG (b:Int)),(3,iG (c:Int)),(4,Sb fi fa fc),(10,bG j),(11,bG par),(12,iG ((b:Int)-(a:Int)))] [(0,BA l1)] 1 1) ?_ λkk=>?_;rotate_left
 .have hn0:decide ((g:Int)=0)=false:=Dd aa;unfold brG at k;cases j with
  |true=>obtain⟨rfl,rfl⟩:=Prod.mk.inj (A9 k);exact pO 11122211110 _ [hbb 23 o,hr 25 b1,hr 32 hn0] [hc (el l),hc hv.im,hc (ac.imm l)] kk [] [(0,0)] [(0,.row)]
  |false=>obtain⟨t,k⟩:=Hr k;rw[bA] at t;obtain rfl:=bc t.1;obtain rfl:=bc t.2;obtain⟨r',A,k⟩:=bS k;obtain⟨hle,k⟩:=Hr k;have hle:=bc hle;obtain⟨q,rfl⟩:∃q,g=q+1:=⟨g-1,aa⟩;rw[Nat.add_sub_cancel] at k;obtain⟨rfl,rfl⟩:=Prod.mk.inj (A9 k);exact pO 11122211110 _ [hbb 23 o,hr 25 b1,hr 32 hn0,hI hv ra rc 44 [iG 1,iG 14] (Aj1 hv A) rfl,hbb 46 (dec (q:=q) aa)] [hc hle,hc hv.im,hc (ac.imm r')] kk [] [(0,0)] [(0,.row)]
 clear k b1 o hlim hlim2;have i:=AjX hv ra rc (b:=b) hB D;have hpi:=λe=>AjY hv (l:=l1) (a:=a) (b:=b) (f:=d) hll aa aa (by rcases hB with⟨rfl,rfl⟩|⟨rfl,rfl⟩|⟨rfl,rfl⟩<;>decide) e;cases d with
 |true=>
  obtain rfl:=A9 hs;obtain rfl:=C _ rfl;cases j with
  |false=>cases ed
  |true=>cases par with
   |false=>cases ed
   |true=>cases Xl with
    |false=>cases ed
    |true=>
     have hpi:=hpi ed
     exact Ju .ret (s0 148 gl [] [(0,BA l1)] 1 1) [] [hI hv ra rc 52 [iG (a:Int),iG (b:Int)] i rfl,hI hv ra rc 80 [iG (a:Int),iG (b:Int)] hpi rfl] [hc (ac.imm l1)] (ρ:=[(0,0)]) (kd:=[(0,.row)])
 |false=>
 refine dJa [1,1,2,2,2,1,1,1,1,1,1,1,0,0] (s0 148 gl [(0,.rsl 0 0 l1.length),(1,iG (a:Int)),(2,iG (b:Int)),(3,iG (c:Int)),(4,Sb fi fa fc),(12,iG ((b:Int)-(a:Int))),(13,iG (p:Int))] [(0,BA l1)] 1 1) ?_ λkk=>?_;rotate_left
 .cases j with
  |false=>cases par<;>cases Xl<;>exact pO 111222111111100 _ [hI hv ra rc 52 [iG (a:Int),iG (b:Int)] i rfl] [hc (el l1),hc hv.im,hc (ac.imm l1)] kk [] [(0,0)] [(0,.row)]
  |true=>cases par with
   |false=>cases Xl<;>exact pO 111222111111100 _ [hI hv ra rc 52 [iG (a:Int),iG (b:Int)] i rfl] [hc (el l1),hc hv.im,hc (ac.imm l1)] kk [] [(0,0)] [(0,.row)]
   |true=>cases Xl with
    |false=>exact pO 111222111111100 _ [hI hv ra rc 52 [iG (a:Int),iG (b:Int)] i rfl] [hc (el l1),hc hv.im,hc (ac.imm l1)] kk [] [(0,0)] [(0,.row)]
    |true=>
     have hpi:=hpi ed
     exact pO 111222111111100 _ [hI hv ra rc 52 [iG (a:Int),iG (b:Int)] i rfl,hI hv ra rc 80 [iG (a:Int),iG (b:Int)] hpi rfl] [hc (el l1),hc hv.im,hc (ac.imm l1)] kk [] [(0,0)] [(0,.row)]
 clear i hpi ed D;rw[Bg] at hs;obtain⟨ok,n,hs⟩:=bS hs;rcases hB with⟨rfl,rfl⟩|⟨rfl,rfl⟩|⟨rfl,rfl⟩
 .clear n;obtain⟨hok,hs⟩:=Hr hs;subst hok;obtain⟨⟨m,f,l2⟩,ep,hs⟩:=bS hs;dsimp only at hs;obtain⟨h2,hs⟩:=Hr hs;have h2:=bc h2;unfold pdN at hs;obtain⟨hm,hs⟩:=Hr hs;have hm:=DP hm;rcases bC hs with⟨b2,hs⟩|⟨b2,hs⟩
  .have b3:=DP b2;obtain⟨l3,e3,hs⟩:=bS hs;obtain⟨h3,hs⟩:=Hr hs;have h3:=h2.trans (bc h3);obtain rfl:=A9 hs;exact jw [hI hv ra rc 111 [iG ((0:Nat):Int),iG ((13:Nat):Int),iG (p:Int)] (Qs hv hll aa aa aa ep) rfl,hbb 117 (sb (a:=(m:Int)) (b:=((0:Nat):Int)) (z:=(m:Int)-((0:Nat):Int)) rfl aa),hbb 120 (sb (a:=((13:Nat):Int)) (b:=(m:Int)) (z:=((13:Nat):Int)-(m:Int)) rfl aa),hr 125 b2,hI2 hv ra rc 134 [iG ((0:Nat):Int),iG (m:Int),iG (c:Int)] h2 (Qt hv ra rc aa aa aa e3 (c:Int)) rfl,hbb 136 (Go.Proofs.YtghphhhpagagbaaGreatDoor.Xl (q:=m) aa)] [hc h3,hc hv.im,hc (ac.imm l3)] (k5 _ rfl) [] [(0,0)] [(0,.row)]
  .have b3:=Lz b2;obtain⟨l3,e3,hs⟩:=bS hs;obtain⟨h3,hs⟩:=Hr hs;have h3:=h2.trans (bc h3);obtain rfl:=A9 hs;exact jw [hI hv ra rc 111 [iG ((0:Nat):Int),iG ((13:Nat):Int),iG (p:Int)] (Qs hv hll aa aa aa ep) rfl,hbb 117 (sb (a:=(m:Int)) (b:=((0:Nat):Int)) (z:=(m:Int)-((0:Nat):Int)) rfl aa),hbb 120 (sb (a:=((13:Nat):Int)) (b:=(m:Int)) (z:=((13:Nat):Int)-(m:Int)) rfl aa),hr 125 b2,hbb 142 (Go.Proofs.YtghphhhpagagbaaGreatDoor.Xl (q:=m) aa),hI2 hv ra rc 146 [iG ((m+1:Nat):Int),iG ((13:Nat):Int),iG (c:Int)] h2 (Qt hv ra rc aa aa aa e3 (c:Int)) rfl] [hc h3,hc hv.im,hc (ac.imm l3)] (k5 _ rfl) [] [(0,0)] [(0,.row)]
 .clear n;obtain⟨hok,hs⟩:=Hr hs;subst hok;obtain⟨⟨m,f,l2⟩,ep,hs⟩:=bS hs;dsimp only at hs;obtain⟨h2,hs⟩:=Hr hs;have h2:=bc h2;unfold pdN at hs;obtain⟨hm,hs⟩:=Hr hs;have hm:=DP hm;rcases bC hs with⟨b2,hs⟩|⟨b2,hs⟩
  .have b3:=DP b2;obtain⟨l3,e3,hs⟩:=bS hs;obtain⟨h3,hs⟩:=Hr hs;have h3:=h2.trans (bc h3);obtain rfl:=A9 hs;exact jw [hI hv ra rc 111 [iG ((0:Nat):Int),iG ((14:Nat):Int),iG (p:Int)] (Qs hv hll aa aa aa ep) rfl,hbb 117 (sb (a:=(m:Int)) (b:=((0:Nat):Int)) (z:=(m:Int)-((0:Nat):Int)) rfl aa),hbb 120 (sb (a:=((14:Nat):Int)) (b:=(m:Int)) (z:=((14:Nat):Int)-(m:Int)) rfl aa),hr 125 b2,hI2 hv ra rc 134 [iG ((0:Nat):Int),iG (m:Int),iG (c:Int)] h2 (Qt hv ra rc aa aa aa e3 (c:Int)) rfl,hbb 136 (Go.Proofs.YtghphhhpagagbaaGreatDoor.Xl (q:=m) aa)] [hc h3,hc hv.im,hc (ac.imm l3)] (k5 _ rfl) [] [(0,0)] [(0,.row)]
  .have b3:=Lz b2;obtain⟨l3,e3,hs⟩:=bS hs;obtain⟨h3,hs⟩:=Hr hs;have h3:=h2.trans (bc h3);obtain rfl:=A9 hs;exact jw [hI hv ra rc 111 [iG ((0:Nat):Int),iG ((14:Nat):Int),iG (p:Int)] (Qs hv hll aa aa aa ep) rfl,hbb 117 (sb (a:=(m:Int)) (b:=((0:Nat):Int)) (z:=(m:Int)-((0:Nat):Int)) rfl aa),hbb 120 (sb (a:=((14:Nat):Int)) (b:=(m:Int)) (z:=((14:Nat):Int)-(m:Int)) rfl aa),hr 125 b2,hbb 142 (Go.Proofs.YtghphhhpagagbaaGreatDoor.Xl (q:=m) aa),hI2 hv ra rc 146 [iG ((m+1:Nat):Int),iG ((14:Nat):Int),iG (c:Int)] h2 (Qt hv ra rc aa aa aa e3 (c:Int)) rfl] [hc h3,hc hv.im,hc (ac.imm l3)] (k5 _ rfl) [] [(0,0)] [(0,.row)]
 .obtain⟨y,hy,n⟩:=bS (show((l1[0]?).bind λy=>(l1[p]?).bind λx=>some (decide (cmp y x<0)))=some ok from n);obtain⟨x,hx,n⟩:=bS n;have n:=A9 n;obtain⟨hok,hs⟩:=Hr hs;subst hok;obtain⟨⟨m,f,l2⟩,ep,hs⟩:=bS hs;dsimp only at hs;obtain⟨h2,hs⟩:=Hr hs;have h2:=bc h2;unfold pdN at hs;obtain⟨hm,hs⟩:=Hr hs;have hm:=DP hm;rcases bC hs with⟨b2,hs⟩|⟨b2,hs⟩
  .have b3:=DP b2;obtain⟨l3,e3,hs⟩:=bS hs;obtain⟨h3,hs⟩:=Hr hs;have h3:=h2.trans (bc h3);obtain rfl:=A9 hs;exact jw [AA 88 (ac.ixrZ 0 (AH hy)),AA 89 (ac.pt0Z aW (AH hy)),AA 92 (ac.ixrZ 0 (AH hx)),AA 93 (ac.pt0Z aW (AH hx)),hcp 94 1 hv y x,hr 95 n,hI hv ra rc 111 [iG ((1:Nat):Int),iG ((14:Nat):Int),iG (p:Int)] (Qs hv hll aa aa aa ep) rfl,hbb 117 (sb (a:=(m:Int)) (b:=((1:Nat):Int)) (z:=(m:Int)-((1:Nat):Int)) rfl aa),hbb 120 (sb (a:=((14:Nat):Int)) (b:=(m:Int)) (z:=((14:Nat):Int)-(m:Int)) rfl aa),hr 125 b2,hI2 hv ra rc 134 [iG ((1:Nat):Int),iG (m:Int),iG (c:Int)] h2 (Qt hv ra rc aa aa aa e3 (c:Int)) rfl,hbb 136 (Go.Proofs.YtghphhhpagagbaaGreatDoor.Xl (q:=m) aa)] [hc h3,hc hv.im,hc (ac.imm l3)] (k5 _ rfl) [] [(0,0)] [(0,.row)]
  .have b3:=Lz b2;obtain⟨l3,e3,hs⟩:=bS hs;obtain⟨h3,hs⟩:=Hr hs;have h3:=h2.trans (bc h3);obtain rfl:=A9 hs;exact jw [AA 88 (ac.ixrZ 0 (AH hy)),AA 89 (ac.pt0Z aW (AH hy)),AA 92 (ac.ixrZ 0 (AH hx)),AA 93 (ac.pt0Z aW (AH hx)),hcp 94 1 hv y x,hr 95 n,hI hv ra rc 111 [iG ((1:Nat):Int),iG ((14:Nat):Int),iG (p:Int)] (Qs hv hll aa aa aa ep) rfl,hbb 117 (sb (a:=(m:Int)) (b:=((1:Nat):Int)) (z:=(m:Int)-((1:Nat):Int)) rfl aa),hbb 120 (sb (a:=((14:Nat):Int)) (b:=(m:Int)) (z:=((14:Nat):Int)-(m:Int)) rfl aa),hr 125 b2,hbb 142 (Go.Proofs.YtghphhhpagagbaaGreatDoor.Xl (q:=m) aa),hI2 hv ra rc 146 [iG ((m+1:Nat):Int),iG ((14:Nat):Int),iG (c:Int)] h2 (Qt hv ra rc aa aa aa e3 (c:Int)) rfl] [hc h3,hc hv.im,hc (ac.imm l3)] (k5 _ rfl) [] [(0,0)] [(0,.row)]
end
structure OrN {α:Type} (cmp:α->α->Int) (D:α->Prop):Prop where
 tr:∀x y z,cmp x y<0->cmp y z<0->cmp x z<0
 tt:∀x y,D x->D y->x≠y->cmp x y<0\/cmp y x<0
def Rg{α:Type}(a b:Nat)(l r:List α):Prop:=r.Perm l/\∀q,(q<a\/b<=q)->r[q]?=l[q]?
def SoR{α:Type}(cmp:α->α->Int)(a b:Nat)(l:List α):Prop:=∀p q x y,a<=p->p<q->q<b->l[p]?=some x->l[q]?=some y->cmp x y<0
def OrX{α:Type}(cmp:α->α->Int)(a b:Nat)(l:List α):Prop:=∀p q x y,p<q->¬(a<=p/\q<b)->l[p]?=some x->l[q]?=some y->cmp x y<0
theorem Rg.refl{α:Type}{a b:Nat}(l:List α):Rg a b l l:=⟨.refl _,λ_ _=>rfl⟩
theorem Rg.trans{α:Type}{a b:Nat}{l r s:List α}(h:Rg a b l r)(k:Rg a b r s):Rg a b l s:=⟨k.1.trans h.1,λq hq=>(k.2 q hq).trans (h.2 q hq)⟩
theorem Rg.mono{α:Type}{a b a' b':Nat}{l r:List α}(h:Rg a b l r)(ha:a'<=a)(hb:b<=b'):Rg a' b' l r:=⟨h.1,λq hq=>h.2 q aa⟩
theorem Rg.len{α:Type}{a b:Nat}{l r:List α}(h:Rg a b l r):r.length=l.length:=h.1.length_eq
theorem MT{l:List α}(h:l.Nodup){q:Nat}{x:α}(h1:l[p]?=some x)(h2:l[q]?=some x):p=q:=by grind [List.getElem?_inj]
theorem Rg.src{α:Type}{a b:Nat}{l r:List α}(h:Rg a b l r)(hn:l.Nodup){q:Nat}{y:α}(h1:a<=q)(h2:q<b)(hy:r[q]?=some y):∃c,a<=c/\c<b/\l[c]?=some y:=by
 obtain⟨c,hq⟩:=Hb (h.1.mem_iff.1 (bO hy));refine⟨c,?_⟩;rcases(by omega:(c<a\/b<=c)\/(a<=c/\c<b)) with h3|h3
 .have:=MT (h.1.nodup_iff.2 hn) hy ((h.2 c h3).trans hq);omega
 .exact⟨h3.1,h3.2,hq⟩
theorem OrX.rg{α:Type}{cmp:α->α->Int}{a b:Nat}{l r:List α}(h:OrX cmp a b l)(k:Rg a b l r)(hn:l.Nodup):OrX cmp a b r:=by
 have src:∀q y,r[q]?=some y->∃c,l[c]?=some y/\(c=q\/(a<=q/\q<b/\a<=c/\c<b)):=λq y hy=>by
  rcases(by omega:(q<a\/b<=q)\/(a<=q/\q<b)) with h3|h3
  .exact⟨q,(k.2 q h3).symm.trans hy,.inl rfl⟩
  grind [Rg.src]
 intro p q x y e hb hx hy;obtain⟨f,hx',hp⟩:=src p x hx;obtain⟨c,d,hq⟩:=src q y hy;exact h f c x y aa aa hx' d
theorem AcH{l:List α}{i j:Nat}(hi:i<l.length)(hj:j<l.length):∃r,swZ l i j=some r/\r.Perm l/\∀q,r[q]?=if q=j then l[i]? else if q=i then l[j]? else l[q]? :=by refine⟨(l.set i l[j]).set j l[i],?_,List.set_set_perm hi hj,λq=>?_⟩;all_goals grind [swZ]
theorem Xg{a b i j:Nat}{l r:List α}(h:r.Perm l)(hq:∀q,r[q]?=if q=j then l[i]? else if q=i then l[j]? else l[q]?)(h1:a<=i)(h2:i<b)(h3:a<=j)(h4:j<b):Rg a b l r:=by constructor<;>grind
section
variable {α:Type} {cmp:α->α->Int} {D:α->Prop} (hO:OrN cmp D)
include hO
theorem OrN.lt{l:List α}(hn:l.Nodup)(hD:∀z∈l,D z){p q:Nat}{x y:α}(hx:l[p]?=some x)(hy:l[q]?=some y)(a:p≠q)(h:¬cmp y x<0):cmp x y<0:=by grind [OrN,MT]
theorem SoR.all{a b:Nat}{l:List α}(h:SoR cmp a b l)(k:OrX cmp a b l):SoR cmp 0 l.length l:=λp q x y _ c _ hx hy=>by
 by_cases hh:a<=p/\q<b
 .exact h p q x y hh.1 c hh.2 hx hy
 .exact k p q x y c hh hx hy
theorem AaB{a b:Nat}{l:List α}(hn:l.Nodup)(hD:∀z∈l,D z)(ha:a<=1000)(hb:b<=l.length)(hl:l.length<=1000):T (inI cmp (a:Int) (b:Int) l) λr=>Rg a b l r/\SoR cmp a b r:=by
 unfold inI;rw[show wI ((a:Int)+1)=wI ((a:Nat)+1) from rfl];rw[aq aa];refine T.loop (λs=>∃i:Nat,s.2=(i:Int)/\a+1<=i/\(i<=b\/i=a+1)/\Rg a b l s.1/\SoR cmp a i s.1) (λs=>b-s.2.toNat) ⟨a+1,rfl,Dq _,.inr rfl,.refl l,λp q x y h1 h2 h3=>aa⟩ (by show b-_<_;omega) ?_;rintro⟨l1,A⟩ ⟨i,e,h1,h2,h3,h4⟩;dsimp only at e h3 h4;subst e;have f:=h3.1.nodup_iff.2 hn;have hl1:=h3.len;unfold Aay;dsimp only;refine .dec (λhlt=>?_) λhge=> .some ⟨h3,λp q x y k1 k2 k3=>h4 p q x y k1 k2 aa⟩;have hib:i<b:=aa;refine .bind ((T.loop (λs=>∃j:Nat,s.2=(j:Int)/\a<=j/\j<=i/\Rg a b l1 s.1/\∀p q x y,a<=p->p<q->q<=i->q≠j->s.1[p]?=some x->s.1[q]?=some y->cmp x y<0) (λs=>s.2.toNat) (Q:=λr=>Rg a b l1 r/\SoR cmp a (i+1) r) ⟨i,rfl,aa,Dq _,.refl l1,λp q x y k1 k2 k3 d=>h4 p q x y k1 k2 aa⟩ (by show((i:Int)).toNat<_;omega) ?_).mono λr hr=> .some ⟨⟨i+1,aq aa,aa,.inl aa,h3.trans hr.1,hr.2⟩,?_⟩)
 .rintro⟨l2,B⟩ ⟨j,e,k1,k2,k3,d⟩;dsimp only at e k3 d;subst e;have g:=k3.1.nodup_iff.2 f;have hl2:=k3.len;unfold Aax;dsimp only;refine .dec (λh=>?_) λh=> .some ⟨k3,λp q x y m1 m2 m3=>d p q x y m1 m2 aa aa⟩;obtain⟨k,rfl⟩:∃k,j=k+1:=⟨j-1,aa⟩;have ew:wI (((k+1:Nat):Int)-1)=(k:Int):=by grind [bM]
  have gx:l2[k+1]?=some (l2[k+1]'aa):=DQ _;have gy:l2[k]?=some (l2[k]'aa):=DQ _;generalize l2[k+1]'aa=x at gx;generalize l2[k]'aa=y at gy;rw[ew,au,au,gx,gy,Bp,Bp];refine .dec (λhc=>?_) λhc=> .some ⟨k3,λp q u v m1 m2 m3 hu hv=>?_⟩
  .obtain⟨r,t,pr,m⟩:=AcH (l:=l2) (i:=k+1) (j:=k) aa aa;obtain⟨C,E,hx',c,n⟩:=I3 t;rw[gx] at hx';rw[gy] at c;cases hx';cases c;rw[stZ (x:=y) gx,Bp,AhO (w:=x) (x:=x) (z:=y) (i:=k+1) gy,Bp,<-n];refine .some ⟨⟨k,rfl,aa,aa,k3.trans (Xg pr m aa aa aa aa),λp q u v m1 m2 m3 o hu hv=>?_⟩,by simp_all⟩;rw[m p] at hu;rw[m q] at hv;rw[BB o] at hv;by_cases c1:q=k+1
   .subst c1;rw[Bz rfl,gy] at hv;cases hv;by_cases c2:p=k
    .grind
    .rw[BB c2,BB aa] at hu;grind
   .rw[BB c1] at hv;by_cases c2:p=k
    .grind
    .rw[BB c2] at hu;by_cases c3:p=k+1;all_goals grind
  .have hyx:=hO.lt g (λz hz=>hD z (h3.1.mem_iff.1 (k3.1.mem_iff.1 hz))) gy gx aa hc;by_cases c1:q=k+1
   .subst c1;rw[gx] at hv;cases hv;by_cases c2:p=k
    .grind
    .exact hO.tr _ _ _ (d p k u y m1 aa aa aa hu gy) hyx
   grind
 .show b-((wI ((i:Int)+1))).toNat<b-((i:Int)).toNat;rw[aq aa];omega
end
section
variable {cmp:Ab->Ab->Int} (hO:OrN cmp λ_=>True)
include hO
structure PI (cmp:Ab->Ab->Int) (l0:Bf) (a b:Nat) (pv:Ab) (l:Bf) (i j:Nat):Prop where
 rg:Rg a b l0 l
 gp:l[a]?=some pv
 hi:a+1<=i
 hj:j<b
 hij:i<=j+1
 lo:∀q x,a<q->q<i->l[q]?=some x->cmp x pv<0
 up:∀q x,j<q->q<b->l[q]?=some x->¬cmp x pv<0
omit hO in
theorem Agb{i:Nat}{β:Type}{K:Nat->Nat->Option β}{Q:β->Prop}(h:PI cmp l0 a b pv l i j)(hb:b<=l.length)(hl:l.length<=1000)
  (hK:∀e d,PI cmp l0 a b pv l e d->d<=j->(d<e\/(e<d/\(∃x,l[e]?=some x/\¬cmp x pv<0)/\∃y,l[d]?=some y/\cmp y pv<0))->T (K e d) Q):
  T ((AB (scU cmp l a j) i).bind λe=>(AB (scD cmp l a e) j).bind λd=>K e d) Q:=by
 have hj:=h.hj
 refine .bind ((T.loop (λe=>PI cmp l0 a b pv l e j) (λe=>j+1-e) (Q:=λe=>PI cmp l0 a b pv l e j/\(j<e\/∃x,l[e]?=some x/\¬cmp x pv<0)) h aa λe h'=>?_).mono λe hi=>?_)
 .unfold scU
  refine .dec (λhc=>?_) λhc=> .some ⟨h',.inl aa⟩
  have gx:l[e]?=some (l[e]'aa):=DQ _
  generalize l[e]'aa=x at gx
  rw[gx,h'.gp,Bp,Bp]
  refine .dec (λhx=> .some ⟨⟨h'.rg,h'.gp,Nat.le_succ_of_le h'.hi,h'.hj,aa,λq y k1 k2 hy=>?_,h'.up⟩,aa⟩) λhx=> .some ⟨h',.inr ⟨x,gx,hx⟩⟩
  grind [PI.lo]
 .obtain⟨hi,hx⟩:=hi
  refine .bind ((T.loop (λd=>PI cmp l0 a b pv l e d/\d<=j) (λd=>d) (Q:=λd=>(PI cmp l0 a b pv l e d/\d<=j)/\(d<e\/∃y,l[d]?=some y/\cmp y pv<0)) ⟨hi,Dq _⟩ aa λd ⟨h',f⟩=>?_).mono λd hj'=>?_)
  .unfold scD
   refine .dec (λhc=>?_) λhc=> .some ⟨⟨h',f⟩,.inl aa⟩
   have:=h'.hi
   have:=h'.hj
   have gx:l[d]?=some (l[d]'aa):=DQ _
   generalize l[d]'aa=y at gx
   rw[gx,h'.gp,Bp,Bp]
   refine .dec (λhy=> .some ⟨⟨h',f⟩,.inr ⟨y,gx,hy⟩⟩) λhy=>?_
   rw[show Nat.blt 0 d=true from QM aa,ax]
   refine .some ⟨⟨⟨h'.rg,h'.gp,h'.hi,aa,aa,h'.lo,λq x k1 k2 hx=>?_⟩,aa⟩,aa⟩
   by_cases c:q=d
   .grind
   .exact h'.up q x aa k2 hx
  grind
omit hO in
theorem Aiy{i:Nat}{y:Ab}(h:PI cmp l0 a b pv l i j)(hb:b<=l.length)(hij:i<j)(gx:l[i]?=some x)(hx:¬cmp x pv<0)(gy:l[j]?=some y)(hy:cmp y pv<0):∃r,swZ l i j=some r/\PI cmp l0 a b pv r (i+1) (j-1)/\0<j:=by
 have h1:=h.hi;have h2:=h.hj;obtain⟨r,e,pr,d⟩:=AcH (l:=l) (i:=i) (j:=j) aa aa;refine⟨r,e,⟨h.rg.trans (Xg pr d aa aa aa aa),?_,aa,aa,aa,λq z k1 k2 hz=>?_,λq z k1 k2 hz=>?_⟩,aa⟩
 .grind [PI.gp]
 .grind [PI.lo]
 .rw[d q] at hz;by_cases c:q=j
  .grind
  .rw[BB c,BB aa] at hz;exact h.up q z aa k2 hz
def Prt(cmp:Ab->Ab->Int)(a b m:Nat)(l:Bf):Prop:=a<=m/\m<b/\∃c,l[m]?=some c/\(∀q x,a<=q->q<m->l[q]?=some x->cmp x c<0)/\∀q x,m<q->q<b->l[q]?=some x->¬cmp x c<0
omit hO in
theorem Agc{i:Nat}(h:PI cmp l0 a b pv l i j)(hb:b<=l.length)(hij:j<i):∃r,swZ l j a=some r/\Rg a b l0 r/\Prt cmp a b j r:=by
 have h1:=h.hi;have h2:=h.hj;have h3:=h.hij;obtain⟨r,c,pr,d⟩:=AcH (l:=l) (i:=j) (j:=a) aa aa;refine⟨r,c,h.rg.trans (Xg pr d aa aa aa aa),aa,aa,pv,?_,λq x k1 k2 hx=>?_,λq x k1 k2 hx=>?_⟩
 .grind [PI.gp]
 .grind [PI]
 grind [PI.up]
theorem AlR(hl:l.length<=1000)(hb:b<=l.length)(hap:a<=p)(c:p<b):T (paS cmp a b p l) λr=>Rg a b l r.2.2/\Prt cmp a b r.1 r.2.2:=by
 obtain⟨l0,e0,d,q0⟩:=AcH (l:=l) (i:=a) (j:=p) aa aa;have hl0:=d.length_eq;have g:=Xg (a:=a) (b:=b) d q0 (Dq _) aa hap c;unfold paS;refine .eqb e0 ?_;have gp:l0[a]?=some (l0[a]'aa):=DQ _;generalize l0[a]'aa=pv at gp;have h0:PI cmp l a b pv l0 (a+1) (b-1):=by grind [PI]
 refine Agb h0 aa aa λi j h1 _ h2=>?_;refine .dec (λhc=>?_) λhc=>?_
 .grind [Agc,T.some]
 .rcases h2 with h2|⟨h2,⟨x,gx,hx⟩,y,gy,hy⟩
  .omega
  obtain⟨l1,e1,k1,k2⟩:=Aiy h1 aa h2 gx hx gy hy;rw[show Nat.blt 0 j=true from QM k2,ax];refine .eqb e1 (.bind ((T.loop (λs=>PI cmp l a b pv s.1 s.2.1 s.2.2) (λs=>s.2.2) (Q:=λs=>∃i,PI cmp l a b pv s.1 i s.2/\s.2<i) k1 (by grind) ?_).mono λs hs=>?_))
  .rintro⟨l2,h,e⟩ h3;dsimp only at h3;have hl2:=h3.rg.len;unfold paT;dsimp only;rw[C6 aa,ax];refine Agb h3 aa aa λi j h4 f h5=>?_;refine .dec (λhc=> .some ⟨i,h4,by show j<i;omega⟩) λhc=>?_;rcases h5 with h5|⟨h5,⟨x,gx,hx⟩,y,gy,hy⟩
   .omega
   obtain⟨l3,e3,m1,m2⟩:=Aiy h4 aa h5 gx hx gy hy;rw[show Nat.blt 0 j=true from QM m2,ax];refine .eqb e3 (.some ⟨m1,?_⟩);show j-1<e;omega
  .obtain⟨i,h3,h4⟩:=hs;have:=h3.rg.len;grind [Agc,T.some]
omit hO in
theorem Aj3{x y s:Nat}(hx:x<l.length)(hy:y<l.length):T (o2S cmp l x y s) λr=>((r.1=x/\r.2.1=y)\/(r.1=y/\r.2.1=x))/\r.2.2<=s+1:=by grind [o2S,T.some]
omit hO in
theorem Anv(hB:Big a b)(hb:b<=l.length):T (chS cmp l a) λr=>a<=r.1/\r.1<b:=by
 have h9:a+9<b:=by rcases hB with⟨rfl,rfl⟩|⟨rfl,rfl⟩|⟨rfl,rfl⟩<;>omega
 unfold chS meS;refine .bind (.bind ((Aj3 aa aa).mono λd h1=> .bind ((Aj3 aa aa).mono λe h2=> .bind ((Aj3 aa aa).mono λc h3=> .some ?_))));dsimp only at*;rw[C6 (show c.2.2<=3 by omega),ax];exact .some (show a<=c.2.1/\c.2.1<b by omega)
theorem Anw(hn:l.Nodup)(hb:b<=l.length)(d:a<b)(hl:l.length<=1000):T (piS cmp l a b) λf=>f=true->SoR cmp a b l:=by
 have adj:∀k,(∀q x y,a<=q->q<k->l[q]?=some x->l[q+1]?=some y->cmp x y<0)->SoR cmp a (k+1) l:=λk h=>by
  have key:∀n p x y,a<=p->p+n+1<=k->l[p]?=some x->l[p+n+1]?=some y->cmp x y<0:=by
   intro n;induction n with
   |zero=>grind
   |succ n ih=>intro p x y h1 h2 hx hy;have hlt:=(cr hy).1;have hz:l[p+n+1]?=some (l[p+n+1]'aa):=DQ _;exact hO.tr _ _ _ (ih p x _ h1 aa hx hz) (h (p+n+1) _ y aa aa hz hy)
  intro p q x y h1 h2 h3 hx hy;obtain⟨n,rfl⟩:∃n,q=p+n+1:=⟨q-p-1,aa⟩;exact key n p x y h1 aa hx hy
 unfold piS;refine .bind ((T.loop (λk=>a<=k/\k<b/\∀q x y,a<=q->q<k->l[q]?=some x->l[q+1]?=some y->cmp x y<0) (λk=>b-k) (Q:=λk=>k<b/\∀q x y,a<=q->q<k->l[q]?=some x->l[q+1]?=some y->cmp x y<0) (by grind) aa λk hk=>?_).mono λk hk=> .some λhf=>?_)
 .obtain⟨h1,h2,h3⟩:=hk;unfold scS;refine .dec (λhc=>?_) λhc=> .some ⟨h2,h3⟩;have gx:l[k+1]?=some (l[k+1]'aa):=DQ _;have gy:l[k]?=some (l[k]'aa):=DQ _;generalize l[k+1]'aa=x at gx;generalize l[k]'aa=y at gy;rw[gx,gy,Bp,Bp];refine .dec (λhx=> .some ⟨h2,h3⟩) λhx=> .some ⟨⟨aa,aa,λq u v k1 k2 hu hv=>?_⟩,aa⟩;by_cases c:q=k
  .subst c;grind [OrN.lt]
  grind
 .have hf:=DP hf;have:=adj k hk.2;grind
omit hO in
theorem Anx(hl:l.length=14):T (AB brT (0,l)) λr=>Rg 1 14 l r:=by
 refine T.loop (λs=>s.1<=3/\Rg 1 14 l s.2) (λs=>3-s.1) ⟨Nat.zero_le _,.refl l⟩ (show 3-0<4611686018427387904 by decide) ?_;rintro⟨j,r⟩ ⟨h1,h2⟩;dsimp only at h1 h2;have hr:=h2.len;unfold brT;rcases(by omega:j=0\/j=1\/j=2\/j=3) with rfl|rfl|rfl|rfl
 .obtain⟨r',e,p,q⟩:=AcH (l:=r) (i:=6) (j:=1) aa aa;exact .eqb e (.some ⟨⟨show 1<=3 by decide,h2.trans (Xg p q Cd Cd Cd Cd)⟩,show 3-1<3-0 by decide⟩)
 .obtain⟨r',e,p,q⟩:=AcH (l:=r) (i:=7) (j:=12) aa aa;exact .eqb e (.some ⟨⟨show 2<=3 by decide,h2.trans (Xg p q Cd Cd Cd Cd)⟩,show 3-2<3-1 by decide⟩)
 .obtain⟨r',e,p,q⟩:=AcH (l:=r) (i:=8) (j:=6) aa aa;exact .eqb e (.some ⟨⟨show 3<=3 by decide,h2.trans (Xg p q Cd Cd Cd Cd)⟩,show 3-3<3-2 by decide⟩)
 .exact .some h2
structure PdI (cmp:Ab->Ab->Int) (l0:Bf) (s:PdS):Prop where
 pm:s.1.Perm l0
 ab:s.2.1<=s.2.2.1
 bn:s.2.2.1<=l0.length
 ox:OrX cmp s.2.1 s.2.2.1 s.1
 lm:12<s.2.2.1-s.2.1->4<=s.2.2.2.1+(14-(s.2.2.1-s.2.1))
 lh:s.2.2.2.1<=100
 bl:s.2.2.2.2.1=false->s.2.2.1-s.2.1<=12\/(s.2.1=1/\s.2.2.1=14)
theorem AlS(hn:l0.Nodup)(hl:l0.length<=14){s:PdS}(h0:PdI cmp l0 s):T (AB (pdT cmp) s) λr=>r.Perm l0/\SoR cmp 0 r.length r:=by
 refine T.loop (PdI cmp l0) (λs=>s.2.2.1-s.2.1) h0 (by grind [PdI]) ?_;rintro⟨l,a,b,n,A,par⟩ ⟨pm,ab,bn,ox,lm,lh,bl⟩;dsimp only at pm ab bn ox lm lh bl;have hll:=pm.length_eq;have hnl:=pm.nodup_iff.2 hn;unfold pdT;dsimp only;rw[C6 (by grind),ax];refine .dec (λhc=>?_) λhc=>?_
 .refine .bind ((AaB hO hnl (λ_ _=>trivial) aa aa aa).mono λr hr=> .some ⟨hr.1.1.trans pm,?_⟩);grind [SoR.all,OrX.rg]
 have hbig:12<b-a:=aa;have lm:=lm hbig;have hB:Big a b:=by
  rcases(by omega:(a=0/\b=13)\/(a=0/\b=14)\/(a=1/\b=14)) with⟨rfl,rfl⟩|⟨rfl,rfl⟩|⟨rfl,rfl⟩
  .exact .inl ⟨rfl,rfl⟩
  .exact .inr (.inl ⟨rfl,rfl⟩)
  .exact .inr (.inr ⟨rfl,rfl⟩)
 have hBb:AhQ a b=true:=by rcases hB with⟨rfl,rfl⟩|⟨rfl,rfl⟩|⟨rfl,rfl⟩<;>rfl
 rw[hBb,show Nat.blt 0 n=true from QM aa,show Nat.ble n 100=true from QM lh];simp only[Bool.and_self,ax];have hbr:T (brG l a b n A) λq=>Rg a b l q.1/\n<=q.2+1/\q.2<=n:=by grind [brG,T.some,Rg.refl,T.bind,T.mono,Anx,Rg.len,Nat.beq_refl]
 refine .bind (hbr.mono ?_);rintro⟨l1,e⟩ ⟨i,m1,m2⟩;dsimp only at i m1 m2⊢;have hl1:=i.len;have z:=i.1.nodup_iff.2 hnl;have ox1:=ox.rg i hnl;rw[C6 (show l1.length<=1000 by omega),ax];refine .bind ((Anv hB aa).mono ?_);rintro⟨p,B⟩ ⟨hp1,hp2⟩;dsimp only at hp1 hp2⊢;have hpi:T (bif A&&par&&B then piS cmp l1 a b else some false) λf=>f=true->SoR cmp a b l1:=by grind [Anw,T.some]
 refine .bind (hpi.mono λd hd=> .ite (λhdt=> .some ⟨i.1.trans pm,SoR.all hO (hd hdt) ox1⟩) λ_=>?_);have hag:agG cmp l1 a p=some true:=by
  unfold agG;cases hza:Nat.blt 0 a with
  |false=>rfl
  |true=>have hza:=E7 hza;have g1:l1[a-1]?=some (l1[a-1]'aa):=DQ _;have g2:l1[p]?=some (l1[p]'aa):=DQ _;rw[ax,g1,g2,Bp,Bp,C6 (ox1 (a-1) p _ _ aa aa g1 g2)]
 refine .eqb hag ?_;rw[ax];refine .bind ((AlR hO aa aa hp1 hp2).mono ?_);rintro⟨m,f,l2⟩ ⟨j,E,F,w,o,lo,up⟩;dsimp only at j E F o lo up⊢;have hl2:=j.len;have g:=j.1.nodup_iff.2 z;have ox2:=ox1.rg j z;rw[show Nat.beq l1.length l2.length=true by rw[hl2];exact Nat.beq_refl _,ax];unfold pdN;rw[C6 ⟨E,F⟩,ax];have pvx:∀q x,m<q->q<b->l2[q]?=some x->cmp w x<0:=λq x h1 h2 hx=>hO.lt g (λ_ _=>trivial) o hx aa (up q x h1 h2 hx);refine .dec (λC=>?_) λC=>?_
 .refine .bind ((AaB hO g (λ_ _=>trivial) (a:=a) (b:=m) aa aa aa).mono λl3 ⟨c,so3⟩=>?_);have rg3':=c.mono (a':=a) (b':=b) (Dq _) aa;have hl3:=c.len;rw[show Nat.beq l2.length l3.length=true by rw[hl3];exact Nat.beq_refl _,ax];have gp3:l3[m]?=some w:=(c.2 m (.inr (Dq _))).trans o;have lo3:∀q x,a<=q->q<m->l3[q]?=some x->cmp x w<0:=λq x h1 h2 hx=>by obtain⟨H,k1,k2,k3⟩:=c.src g h1 h2 hx;exact lo H x k1 k2 k3
  have up3:∀q x,m<q->q<b->l3[q]?=some x->cmp w x<0:=λq x h1 h2 hx=>pvx q x h1 h2 ((c.2 q (.inr aa)).symm.trans hx);have ox3:=ox2.rg rg3' g;refine .some ⟨⟨c.1.trans (j.1.trans (i.1.trans pm)),by show m+1<=b;omega,bn,λu v x y k hh hx hy=>?_,λt=>by show 4<=e+_;have:12<b-(m+1):=t;show 4<=e+(14-(b-(m+1)));omega,by show e<=100;omega,λhbal=>?_⟩,by show b-(m+1)<b-a;omega⟩
  .have hh:¬(m+1<=u/\v<b):=hh;by_cases c0:a<=u/\v<b
   .rcases(by omega:v<m\/v=m\/(u=m/\m<v)\/(u<m/\m<v)) with h|rfl|⟨rfl,h⟩|⟨h1,h2⟩
    .exact so3 u v x y c0.1 k h hx hy
    .grind
    .grind
    .exact hO.tr _ _ _ (lo3 u x c0.1 h1 hx) (up3 v y h2 c0.2 hy)
   .exact ox3 u v x y k c0 hx hy
  .have hbal:decide ((1:Int)<=(m:Int)-(a:Int))=false:=hbal;have:=Lz hbal;show b-(m+1)<=12\/(m+1=1/\b=14);omega
 .refine .bind ((AaB hO g (λ_ _=>trivial) (a:=m+1) (b:=b) aa aa aa).mono λl3 ⟨c,so3⟩=>?_);have rg3':=c.mono (a':=a) (b':=b) aa (Dq _);have hl3:=c.len;rw[show Nat.beq l2.length l3.length=true by rw[hl3];exact Nat.beq_refl _,ax];have gp3:l3[m]?=some w:=(c.2 m (.inl aa)).trans o;have lo3:∀q x,a<=q->q<m->l3[q]?=some x->cmp x w<0:=λq x h1 h2 hx=>lo q x h1 h2 ((c.2 q (.inl aa)).symm.trans hx);have up3:∀q x,m<q->q<b->l3[q]?=some x->cmp w x<0:=λq x h1 h2 hx=>by obtain⟨H,k1,k2,k3⟩:=c.src g aa h2 hx;grind
  have ox3:=ox2.rg rg3' g;refine .some ⟨⟨c.1.trans (j.1.trans (i.1.trans pm)),E,by show m<=l0.length;omega,λu v x y k hh hx hy=>?_,λt=>by have:12<m-a:=t;show 4<=e+(14-(m-a));omega,by show e<=100;omega,λhbal=>?_⟩,by show m-a<b-a;omega⟩
  .have hh:¬(a<=u/\v<m):=hh;by_cases c0:a<=u/\v<b
   .rcases(by omega:m+1<=u\/(u=m/\m<v)\/(u<m/\v=m)\/(u<m/\m<v)) with h|⟨rfl,h⟩|⟨h,rfl⟩|⟨h1,h2⟩
    .exact so3 u v x y h k c0.2 hx hy
    .grind
    .grind
    .exact hO.tr _ _ _ (lo3 u x c0.1 h1 hx) (up3 v y h2 c0.2 hy)
   .exact ox3 u v x y k c0 hx hy
  grind
end
def OY(cmp:Ab->Ab->Int)(l:Bf):Option Bf:=AB (pdT cmp) (l,0,l.length,WZ l.length,true,true)
theorem Sc{cmp:Ab->Ab->Int}(hO:OrN cmp λ_=>True){l:Bf}(hn:l.Nodup)(hl:l.length<=14):T (OY cmp l) λr=>r.Perm l/\r.Pairwise λx y=>cmp x y<0:=by
 refine(AlS hO hn hl (s:=(l,0,l.length,WZ l.length,true,true)) ⟨.refl _,Nat.zero_le _,Dq _,λp q x y h1 h2 hx hy=>?_,λh=>?_,?_,λh=>by cases h⟩).mono λr hr=>⟨hr.1,?_⟩
 .grind
 .have h:12<l.length-0:=h;show 4<=WZ l.length+(14-(l.length-0));rcases(by omega:l.length=13\/l.length=14) with e|e<;>rw[e]<;>decide
 .show WZ l.length<=100;generalize l.length=n at hl;rcases(by omega:n=0\/n=1\/n=2\/n=3\/n=4\/n=5\/n=6\/n=7\/n=8\/n=9\/n=10\/n=11\/n=12\/n=13\/n=14) with rfl|rfl|rfl|rfl|rfl|rfl|rfl|rfl|rfl|rfl|rfl|rfl|rfl|rfl|rfl<;>decide
 .rw[List.pairwise_iff_getElem];intro p q hp hq a;exact hr.2 p q _ _ (Nat.zero_le _) a hq (DQ hp) (DQ hq)
section
variable {gl:CO} {fi:FuncId} {fa fc:Bn} {cmp:Ab->Ab->Int}
theorem AbG(hv:CmV gl fi fa fc cmp)(a:RnF fa)(b:RnF fc){r:Bf}(hl:l.length<=14)(h:OY cmp l=some r):jg prog gl 103 [.rsl 0 0 l.length,Sb fi fa fc] [(0,BA l)] 1 (.tup []) [(0,BA r)] 1:=by
 have e:wU (ah l)=l.length:=by unfold ah;rw[gP];omega
 have hb:ba prog gl 193 [uG (wU (ah l):Int)] (iG (WZ l.length:Int)):=by grind [RC]
 have hp:=Aj2 hv a b h rfl;dsimp only at hp;refine pP func103 ?_;exact Ju .normal (s0 14 gl [] [(0,BA r)] 1 1) [] [AA 10 (C8 (ah l)),hf 11 hb,hI hv a b 13 [iG ((0:Nat):Int),iG (l.length:Int),iG (WZ l.length:Int)] hp rfl] [hc (ac.imm r)] (ρ:=[(0,0)]) (kd:=[(0,.row)])
theorem AbH(h:Td gg):CmV gl 87 [.agg (Ni ⟨gg⟩)] [] (JK (OR gg)):=⟨aH,aY (aG 20 (.agg (Ni ⟨gg⟩)) aH) bf,bf,(by grind [Adp])⟩
theorem Agd(h:Td gg)(hn:ids.length<=14)(hr:OY (JK (OR gg)) ids=some row)(hle:row.length=ids.length):iV prog gl 47 [.ptr (Ag gg) 0,aE aj ids] 25 row.length (row.flatMap aj):=by
 have hcl:cU ids=some ids:=by grind [cU,aT]
 rw[hle];refine OW func47 ?_;exact EI [ho 7 [aE aj ids] [] (jY gl hcl) (Zy _),hI (gl:=gl) (AbH h) (λκ=>rfl) (λκ=>rfl) 12 [] (AbG (gl:=gl) (AbH h) (λκ=>rfl) (λκ=>rfl) hn hr) rfl] (ac.imm row)
theorem Xh(h:Td gg)(hn:ids.length<=14)(hr:OY (JK (OR gg)) ids=some row)(hle:row.length=ids.length):ba prog gl 47 [.ptr (Ag gg) 0,aE aj ids] (aE aj row):=(Agd h hn hr hle).fn ac.sz (ac.len _) (ac.imm _)
theorem Tl(a b:Ab):ba prog gl 124 [.agg (aj a),.agg (aj b)] (bG (dt a b)):=Nj gl (EW a b)
theorem AhS(a b:Ab):ba prog gl 357 [.agg (aj a),.agg (aj b)] (iG (GK a b)):=by
 have h1:=Tl (gl:=gl) a b;have h2:=Tl (gl:=gl) b a;unfold GK;refine Gh func357 ?_;cases c1:dt a b with
 |true=>rw[c1] at h1;exact Ar [hf 7 h1] []
 |false=>
  rw[c1] at h1;cases c2:dt b a with
  |true=>rw[c2] at h2;exact Ar [hf 7 h1,hf 10 h2] []
  |false=>rw[c2] at h2;exact Ar [hf 7 h1,hf 10 h2] []
abbrev hso(d c:Nat){l r:Bf}{fi:FuncId}{cmp:Ab->Ab->Int}(hv:CmV gl fi [] [] cmp)(hl:l.length<=14)(h:OY cmp l=some r)(hlt:[0].all (λk=>Nat.blt k c)=true:=by kernel_rfl):HP:=tN d [0] c [(0,BA l)] [.rsl 0 0 l.length,.clo (.func fi) [] []] [(0,BA r)] (AbG hv (λκ=>rfl) (λκ=>rfl) hl h) ⟨⟨rfl,.inr ⟨rfl,ac.imm l⟩⟩,trivial⟩ ⟨⟨rfl,.inr ⟨rfl,ac.imm r⟩⟩,trivial⟩ hlt
theorem Aj4:CmV gl 357 [] [] GK:=⟨aH,bf,bf,(by grind [AhS])⟩
theorem Ad7{r:Bf}(hl:l.length<=14)(h:OY GK l=some r):jg prog gl 300 [.rsl 0 0 l.length] [(0,BA l)] 1 (.rsl 0 0 l.length) [(0,BA r)] 1:=by refine pP func300 ?_;exact Ju .ret (s0 6 gl [(2,.rsl 0 0 l.length)] [(0,BA r)] 1 1) [.rsl 0 0 l.length] [hso (gl:=gl) 4 1 Aj4 hl h] [hc (el l),hc (ac.imm r)]
def Yb(d a b:Int)(x:Ab):Bool:=bif decide (x.By=d) then(bif decide (a<=x.Seq) then decide (x.Seq<=b) else false) else false
abbrev hsm(d c:Nat){l r:Bf}(hl:l.length<=14)(h:OY GK l=some r)(hlt:[0].all (λk=>Nat.blt k c)=true:=by kernel_rfl):HP:=tN d [0] c [(0,BA l)] [.rsl 0 0 l.length] [(0,BA r)] (Ad7 (gl:=gl) hl h) ⟨⟨rfl,.inr ⟨rfl,ac.imm l⟩⟩,trivial⟩ ⟨⟨rfl,.inr ⟨rfl,ac.imm r⟩⟩,trivial⟩ hlt
theorem Aj5{r:Bf}{a b:Int}(hn:ids.length<=14)(h:OY GK (ids.filter (Yb d a b))=some r)(hle:r.length=(ids.filter (Yb d a b)).length):iV prog gl 299 [aE aj ids,iG d,iG a,iG b] 25 r.length (r.flatMap aj):=by
 rw[hle];refine OW func299 ?_;refine pN (λk:Nat=>(s0 41 gl [(1,iG d),(2,iG a),(3,iG b),(9,.rsl 0 0 ((ids.take k).filter (Yb d a b)).length),(12,aE aj ids),(13,iG (ah ids)),(14,iG (k:Int))] [(0,BA ((ids.take k).filter (Yb d a b)))] 1 0)) 1110122 (DV (n:=ids.length) aa) [] [hc (ac.imm [])] (λB k w hs k5 c=>?_) [25] [(0,0)] [(0,.row)];unfold Ja at hs;split at hs
 .rename_i hlt;obtain rfl:=A9 hs;obtain⟨x,hx⟩:∃x,ids[k]?=some x:=⟨_,DQ hlt⟩;have hzx:=AH hx;have k5:=k5 _ rfl;have hl:=KY (Yb d a b) (ids.take k);rw[Mh] at hl;have e:(ids.take (k+1)).filter (Yb d a b)=(ids.take k).filter (Yb d a b)++(bif Yb d a b x then[x] else[]):=by grind [JM]
  rw[e] at k5;generalize (ids.take k).filter (Yb d a b)=l at k5 hl⊢;unfold Yb at k5;cases b1:decide (x.By=d) with
  |false=>rw[b1,Bg,Bg,Nf] at k5;exact jw [hr 15 (C5 hx),AA 16 (ac.ixZ hzx),AA 17 (ac.ptZ aW hzx),hr 21 b1,hbb 38 (Xl (q:=k) aa)] [hc (el l),hc (ac.imm l)] k5 [] [(0,0)] [(0,.row)]
  |true=>
   rw[b1,ax] at k5;cases b2:decide (a<=x.Seq) with
   |false=>rw[b2,Bg,Bg,Nf] at k5;exact jw [hr 15 (C5 hx),AA 16 (ac.ixZ hzx),AA 17 (ac.ptZ aW hzx),hr 21 b1,hr 26 b2,hbb 38 (Xl (q:=k) aa)] [hc (el l),hc (ac.imm l)] k5 [] [(0,0)] [(0,.row)]
   |true=>
    rw[b2,ax] at k5;cases b3:decide (x.Seq<=b) with
    |false=>rw[b3,Bg,Nf] at k5;exact jw [hr 15 (C5 hx),AA 16 (ac.ixZ hzx),AA 17 (ac.ptZ aW hzx),hr 21 b1,hr 26 b2,hr 32 b3,hbb 38 (Xl (q:=k) aa)] [hc (el l),hc (ac.imm l)] k5 [] [(0,0)] [(0,.row)]
    |true=>rw[b3,ax] at k5;exact jw [hr 15 (C5 hx),AA 16 (ac.ixZ hzx),AA 17 (ac.ptZ aW hzx),hr 21 b1,hr 26 b2,hr 32 b3,Tn 37 ac 24 l x aa,hbb 38 (Xl (q:=k) aa)] [hc (el (l++[x])),hc (ac.imm (l++[x]))] k5 [] [(0,3)] [(0,.row)]
 .split at hs
  .rename_i he;subst he;rw[EY];have hl:=KY (Yb d a b) ids;exact EI [hr 15 (DG (s:=ids)),hsm (gl:=gl) 40 1 aa h] (ac.imm r)
  .cases hs
theorem Aj6{r:Bf}{a b:Int}(hn:ids.length<=14)(h:OY GK (ids.filter (Yb d a b))=some r)(hle:r.length=(ids.filter (Yb d a b)).length):ba prog gl 299 [aE aj ids,iG d,iG a,iG b] (aE aj r):=(Aj5 hn h hle).fn ac.sz (ac.len _) (ac.imm _)
end
def K0(x:Bh):List Value:=[.int .i64 x.Device,.int .i64 x.Seq]
theorem AaC(d:Nat)(i j:Bh):bt prog (Op.equalIn (d+3) 123 (.agg (K0 i).toArray) (.agg (K0 j).toArray))=some (decide (i=j)):=by obtain⟨a0,a1⟩:=i;obtain⟨b0,b1⟩:=j;unfold K0;rw[xV (fs:= #[⟨ "Device",3,0,false, "", "",0⟩,⟨ "Seq",3,1,false, "", "",8⟩]) aH aH];simp only[Array.toList];rw[uJ (k:= .i64) (k':= .i64) (a:=a0) (b:=b0) Cd aH aH aH];rw[uJ (k:= .i64) (k':= .i64) (a:=a1) (b:=b1) Cd aH aH aH];grind [Bh.mk.injEq,Op.eqFields,bz]
def EG(x:Bh):Value:= .agg (K0 x).toArray
theorem Oo:MG prog 123 EG:=Qw (d:= .struct #[⟨ "Device",3,0,false, "", "",0⟩,⟨ "Seq",3,1,false, "", "",8⟩]) aH (λb k=>by cases b<;>(show _=_;kernel_rfl)) (λa b=>rfl) (λa b=>AaC 9997 a b)
theorem AlT(k:Bh):Instr.sameBits 10000 (EG k) (EG k)=true:=by(unfold EG K0;simp[Instr.sameBits])
abbrev tMk:Bo:=189
abbrev oMk(m:FM Bh Int):Option Ob:=some (M5 tMk EG iG m)
abbrev tMy:Bo:=190
abbrev oMy(m:FM Int Int):Option Ob:=some (M5 tMy JR iG m)
abbrev Zb(l:List Bh):Option Ob:=some ⟨123,l.flatMap Bv,none⟩
def UI(a b:Bh):Int:=AbD a.Device b.Device
section
variable {gl:CO}
theorem AhW(a b:Bh):ba prog gl 136 [.agg (Bv a),.agg (Bv b)] (iG (UI a b)):=Vp gl (by unfold Uo;rw[Ado];rfl)
abbrev cmK:G:= .clo (.func 136) [] []
abbrev hcF(d:Nat)(x y:Bh):HP:=hf d (AhW (gl:=gl) x y)
theorem AlU{l c d:List Bh}{i j:Int}{a b:Bh}(h1:ji l i b=some c)(h2:ji c j a=some d):fh prog 121 (.rsl 0 0 l.length) j=some (.ref 0 (0+j.toNat*2)):=by rw[hZ h1];exact Bi.ixsZ 0 h2
theorem AhX{a b:Int}{l:List Bh}(h:inI UI a b l=some r):jg prog gl 285 [.rsl 0 0 l.length,iG a,iG b,cmK] [(0,Zb l)] 1 (.tup []) [(0,Zb r)] 1:=by
 unfold inI at h;refine pP func285 ?_;refine pN (λs:List Bh×Int=>(s0 53 gl [(0,.rsl 0 0 s.1.length),(1,iG a),(2,iG b),(3,cmK),(8,iG s.2)] [(0,Zb s.1)] 1 1)) 1122 h [] [hc (el l),hc (aG 20 cmK aH),hc (Bi.imm l)] (λB s w hs k5 f=>?_) [] [(0,0)] [(0,.row)];obtain⟨l1,i⟩:=s;unfold Aay at hs;dsimp only at hs;rcases bC hs with⟨b1,hs⟩|⟨b1,hs⟩
 .obtain⟨l2,e2,hs⟩:=bS hs;obtain rfl:=A9 hs;refine Ix 11221021 (s0 53 gl [(0,.rsl 0 0 l2.length),(1,iG a),(2,iG b),(3,cmK),(8,iG i)] [(0,Zb l2)] 1 1) ?_ λkk=>?_
  .exact jw [] [hc (el l2),hc (aG 20 cmK aH),hc (Bi.imm l2)] (k5 _ rfl) [] [(0,0)] [(0,.row)]
  refine pN (λs:List Bh×Int=>(s0 53 gl [(0,.rsl 0 0 s.1.length),(1,iG a),(2,iG b),(3,cmK),(8,iG i),(9,iG s.2)] [(0,Zb s.1)] 1 1)) 1122102122 e2 [hr 14 b1] [hc (el l1),hc (aG 20 cmK aH),hc (Bi.imm l1)] (λm z v hz g d=>?_) [] [(0,0)] [(0,.row)];obtain⟨l3,j⟩:=z;unfold Aax at hz;dsimp only at hz;rcases bC hz with⟨b2,hz⟩|⟨b2,hz⟩
  .obtain⟨x,ex,hz⟩:=bS hz;obtain⟨y,c,hz⟩:=bS hz;rcases bC hz with⟨b3,hz⟩|⟨b3,hz⟩
   .obtain⟨k,e1,hz⟩:=bS hz;obtain⟨e,e3,hz⟩:=bS hz;obtain rfl:=A9 hz;exact jw [hr 20 b2,AA 25 (Bi.ixrZ 0 ex),AA 26 (Bi.pt0Z Hk ex),AA 30 (Bi.ixrZ 0 c),AA 31 (Bi.pt0Z Hk c),hcF (gl:=gl) 32 x y,hr 33 b3,AA 45 (Bi.ixrZ 0 c),AA 46 (Bi.pt0Z Hk c),AA 49 (Bi.ixrZ 0 ex),AA 50 (Bi.pt0Z Hk ex),AA 51 (Bi.ixsZ 0 e1),hw 51 (k.flatMap Bv) (Bi.putZ e1),AA 52 (AlU e1 e3),hw 52 (e.flatMap Bv) (Bi.putZ e3)] [hc ((hZ e1).trans (hZ e3)),hc (aG 20 cmK aH),hc (Bi.imm e)] (g _ rfl) [] [(0,0)] [(0,.row)]
   .obtain rfl:=A9 hz;obtain rfl:=d _ rfl;exact yl 11221021 [hr 20 b2,AA 25 (Bi.ixrZ 0 ex),AA 26 (Bi.pt0Z Hk ex),AA 30 (Bi.ixrZ 0 c),AA 31 (Bi.pt0Z Hk c),hcF (gl:=gl) 32 x y,hr 33 b3] [hc (el l3),hc (aG 20 cmK aH),hc (Bi.imm l3)] kk [] [(0,0)] [(0,.row)]
  .obtain rfl:=A9 hz;obtain rfl:=d _ rfl;exact yl 11221021 [hr 20 b2] [hc (el l3),hc (aG 20 cmK aH),hc (Bi.imm l3)] kk [] [(0,0)] [(0,.row)]
 .obtain rfl:=A9 hs;obtain rfl:=f _ rfl;exact Ju .normal (s0 53 gl [] [(0,Zb l1)] 1 1) [] [hr 14 b1] [hc (Bi.imm l1)] (ρ:=[(0,0)]) (kd:=[(0,.row)])
theorem AhY{l:List Bh}(hl:l.length<=12)(h:inI UI ((0:Nat):Int) (l.length:Int) l=some r)(k:Int):jg prog gl 218 [.rsl 0 0 l.length,iG 0,iG (l.length:Int),iG k,cmK] [(0,Zb l)] 1 (.tup []) [(0,Zb r)] 1:=by have hs:=sb (a:=(l.length:Int)) (b:=((0:Nat):Int)) (z:=(l.length:Int)-((0:Nat):Int)) rfl aa;have hd:decide ((l.length:Int)-((0:Nat):Int)<=12)=true:=C6 aa;refine pP func218 ?_;refine pN (λ_:Unit=>(s0 148 gl [(0,.rsl 0 0 l.length),(1,iG ((0:Nat):Int)),(2,iG (l.length:Int)),(3,iG k),(4,cmK)] [(0,Zb l)] 1 1)) 11122 Lg [] [hc (el l),hc (aG 20 cmK aH),hc (Bi.imm l)] (λc z v hz2 d e=>?_) [] [(0,0)] [(0,.row)];exact Ju .ret (s0 148 gl [] [(0,Zb r)] 1 1) [] [hbb 23 hs,hr 25 hd,tN 30 [0] 1 [(0,Zb l)] [.rsl 0 0 l.length,iG ((0:Nat):Int),iG (l.length:Int),cmK] [(0,Zb r)] (AhX (gl:=gl) h) ⟨⟨rfl,.inr ⟨rfl,Bi.imm l⟩⟩,trivial⟩ ⟨⟨rfl,.inr ⟨rfl,Bi.imm r⟩⟩,trivial⟩] [hc (Bi.imm r)] (ρ:=[(0,0)]) (kd:=[(0,.row)])
theorem Age{l:List Bh}(hl:l.length<=12)(h:inI UI ((0:Nat):Int) (l.length:Int) l=some r):jg prog gl 135 [.rsl 0 0 l.length,cmK] [(0,Zb l)] 1 (.tup []) [(0,Zb r)] 1:=by
 have e:wU (ah l)=l.length:=by unfold ah;rw[gP];omega
 have hb:ba prog gl 193 [uG (wU (ah l):Int)] (iG (WZ l.length:Int)):=by grind [RC]
 refine pP func135 ?_;exact Ju .normal (s0 14 gl [] [(0,Zb r)] 1 1) [] [AA 10 (C8 (ah l)),hf 11 hb,tN 13 [0] 1 [(0,Zb l)] [.rsl 0 0 l.length,iG 0,iG (l.length:Int),iG (WZ l.length:Int),cmK] [(0,Zb r)] (AhY (gl:=gl) hl h (WZ l.length:Int)) ⟨⟨rfl,.inr ⟨rfl,Bi.imm l⟩⟩,trivial⟩ ⟨⟨rfl,.inr ⟨rfl,Bi.imm r⟩⟩,trivial⟩] [hc (Bi.imm r)] (ρ:=[(0,0)]) (kd:=[(0,.row)])
end
def fkT(s:FM Bh Int×FM Int Int)(x:Ab):FM Bh Int×FM Int Int:=
 (C7 s.1 ⟨x.By,x.Seq⟩ (wI ((s.1.get ⟨x.By,x.Seq⟩).getD 0+1)),bif decide (wI ((s.1.get ⟨x.By,x.Seq⟩).getD 0+1)<2) then s.2 else bif(s.2.get x.By).isSome then(bif decide (x.Seq<(s.2.get x.By).getD 0) then C7 s.2 x.By x.Seq else s.2) else C7 s.2 x.By x.Seq)
def Um(ids:Bf):FM Bh Int×FM Int Int:=ids.foldl fkT (⟨[],0⟩,⟨[],0⟩)
theorem Aj8(h:Q4 s.1/\Q4 s.2):Q4 (fkT s x).1/\Q4 (fkT s x).2:=by grind [fkT,Oa]
theorem Xi(ids:Bf):Q4 (Um ids).1/\Q4 (Um ids).2:=by
 have key:∀(l:Bf) (s:FM Bh Int×FM Int Int),Q4 s.1/\Q4 s.2->Q4 (l.foldl fkT s).1/\Q4 (l.foldl fkT s).2:=by intro l;induction l<;>grind [Aj8]
 exact key ids _ ⟨AjR,AjR⟩
theorem AbJ(hx:ids[k]?=some x):Um (ids.take (k+1))=fkT (Um (ids.take k)) x:=by grind [Um,JM]
theorem lkF(m:FM Bh Int)(k:Bh){v:Int}(h:(m.get k).getD 0=v):bL prog [(0,oMk m)] tMk false (.mref 0) (.agg (Bv k))=some (iG v):=h▸(SO (et:=3) Oo aH (k:=k) rfl Rh).trans (FM.look1 (et:=3) (v0:=0) Oo aH aH m k rfl _)
theorem lkY(m:FM Int Int)(k:Int){v:Int}{b:Bool}(h:(m.get k).getD 0=v)(hb:(m.get k).isSome=b):bL prog [(1,oMy m)] tMy true (.mref 1) (iG k)=some (.tup [iG v,bG b]):=h▸hb▸(SO (et:=3) Pr aH (k:=k) rfl Rh).trans (FM.look (et:=3) (v0:=0) Pr aH aH m k rfl _)
def hnl(d:Nat){P:Bu}{σ:aQ}{t:Bo}{ok:Bool}{i:Nat}{gk g:G}(ck:aQ->Bool)(h:bL P [(i,ag σ i)] t ok (.mref i) gk=some g/\∀W,ck W=true->bL P [(i,ag (W++σ) i)] t ok (.mref i) gk=some g):HP:=⟨some (.n d g ck),bL P [(i,ag σ i)] t ok (.mref i) gk=some g/\∀W,ck W=true->bL P [(i,ag (W++σ) i)] t ok (.mref i) gk=some g,h⟩
def hnk(ck:aQ->Bool)(U:aQ)(h:ck U=true):HP:=⟨some (.v 999999996 (.lit undef)),ck U=true,h⟩
noncomputable def ckE(V:aQ):aQ->Bool:=λW=> @decide (W=V) (Classical.propDecidable _)
theorem Agf{V W:aQ}:ckE V W=true↔W=V:= @decide_eq_true_iff _ (Classical.propDecidable _)
theorem mkI(m:FM Bh Int):∀e∈mEs EG iG m,bB e.2.1:=P2 λv=>mN _
theorem myI(m:FM Int Int):∀e∈mEs JR iG m,bB e.2.1:=P2 λv=>mN _
abbrev AlV(clock:Nat)(seen:Br):Option Ob:=some ⟨tMy,[],some (.iter (some 0) clock seen clock)⟩
abbrev mkF(e:Int×Int×Nat):Bh:=⟨e.1,e.2.1⟩
section
variable {gl:CO}
abbrev stF(gl:CO)(l:FM Int Int)(seen:Br)(a:List Bh):St:=(s0 75 gl [(12,.rsl 2 0 a.length),(60,.ref 1 0)] [(0,oMy l),(1,AlV l.clk seen),(2,Zb a)] 3 0)
abbrev fr4(ids:Bf)(k:Nat):Fr:=[(5,.mref 0),(6,.mref 1),(17,aE aj ids),(18,iG (ah ids)),(19,iG (k:Int))]
theorem AbL{gg:Aj}{ids:Bf}{r:List Bh}{n:Nat}(hn:ids.length<=1000)(h12:(Um ids).2.es.length<=12)(he:(Um ids).2.es.length=n)(hs:∀l:List Bh,l.Perm ((Um ids).2.es.map mkF)->inI UI ((0:Nat):Int) (l.length:Int) l=some r):iV prog gl 68 [.ptr (Ag gg) 0,aE aj ids] 123 n (r.flatMap Bv):=by
 refine OW func68 ?_;refine pN (λk:Nat=>(s0 75 gl (fr4 ids k) [(0,oMk (Um (ids.take k)).1),(1,oMy (Um (ids.take k)).2)] 2 0)) 11110122 (DV (n:=ids.length) aa) [] [hc (mkI (Um (ids.take 0)).1),hc (myI (Um (ids.take 0)).2)] (λB k w hs k5 j=>?_) [] [(0,0),(1,1)] [];unfold Ja at hs;split at hs
 .rename_i hlt;obtain rfl:=A9 hs;obtain⟨x,hx⟩:∃x,ids[k]?=some x:=⟨_,DQ hlt⟩;have hz:=AH hx;have k5:=k5 _ rfl;obtain⟨h1,h2⟩:=Xi (ids.take k);rw[AbJ hx] at k5;generalize Um (ids.take k)=s at k5 h1 h2⊢;obtain⟨m,l⟩:=s;unfold fkT at k5;dsimp only at k5 h1 h2⊢;generalize hv1:(m.get ⟨x.By,x.Seq⟩).getD 0=v at k5;have h36:((C7 m ⟨x.By,x.Seq⟩ (wI (v+1))).get ⟨x.By,x.Seq⟩).getD 0=wI (v+1):=by rw[BG,Bz rfl];rfl
  refine pO 111101221102110 (s0 75 gl ([(8,.ref 2 0),(9,.ref 3 0)]++fr4 ids k) [(0,oMk m),(1,oMy l),ob 2 25 (aj x),ob 3 123 (Bv ⟨x.By,x.Seq⟩)] 4 0) [hr 20 (C5 hx),AA 21 (ac.ixZ hz),AA 22 (ac.ptZ aW hz)] [hc (mkI m),hc (myI l)] ?_ [] [(0,0),(1,1),(2,2),(3,3)] [];refine pO 11110122110211100 (s0 75 gl ([(8,.ref 2 0),(9,.ref 3 0)]++fr4 ids k) [(0,oMk (C7 m ⟨x.By,x.Seq⟩ (wI (v+1)))),(1,oMy l),ob 2 25 (aj x),ob 3 123 (Bv ⟨x.By,x.Seq⟩)] 4 0) [hnl 30 (σ:=[(0,oMk m),(1,oMy l),ob 2 25 (aj x),ob 3 123 (Bv ⟨x.By,x.Seq⟩)]) (ckE [(0,some (M5 tMk EG iG (C7 m ⟨x.By,x.Seq⟩ ((m.get ⟨x.By,x.Seq⟩).getD 0))))]) ⟨lkF m ⟨x.By,x.Seq⟩ hv1,λW o=>by rw[Agf.1 o];exact lkF (C7 m ⟨x.By,x.Seq⟩ ((m.get ⟨x.By,x.Seq⟩).getD 0)) ⟨x.By,x.Seq⟩ (by rw[BG,Bz rfl];exact hv1)⟩,hnk (ckE [(0,some (M5 tMk EG iG (C7 m ⟨x.By,x.Seq⟩ ((m.get ⟨x.By,x.Seq⟩).getD 0))))]) [(0,some (M5 tMk EG iG (C7 m ⟨x.By,x.Seq⟩ ((m.get ⟨x.By,x.Seq⟩).getD 0))))] (Agf.2 rfl),hme 32 [0] 4 (Ajt (P:=prog) (σ:=[(0,oMk m)]) (t:=tMk) (t':=tMk) (et:=3) (v0:=0) Oo AlT aH aH (k:=⟨x.By,x.Seq⟩) (gk:= .agg (Bv ⟨x.By,x.Seq⟩)) rfl Rh),hms 33 [0] 4 (Aju (σ:=[(0,some (M5 tMk EG iG (C7 m ⟨x.By,x.Seq⟩ ((m.get ⟨x.By,x.Seq⟩).getD 0))))]) (i:=0) (t':=tMk) (kv:=EG) (vg:=iG) (m:=m) (k:=⟨x.By,x.Seq⟩) (v0:=(m.get ⟨x.By,x.Seq⟩).getD 0) h1.1 Rh (wI (v+1)))] [hc (mkI (C7 m ⟨x.By,x.Seq⟩ (wI (v+1)))),hc (myI l)] ?_ [] [(0,0),(1,1),(2,2),(3,3)] [];generalize C7 m ⟨x.By,x.Seq⟩ (wI (v+1))=m' at k5 h36⊢;generalize wI (v+1)=v' at k5 h36⊢;skip;clear hv1 h1;cases c1:decide (v'<2) with
  |true=>rw[c1,ax] at k5;exact jw [hlk 36 (lkF m' ⟨x.By,x.Seq⟩ h36),hr 37 c1,hbb 58 (Xl (q:=k) aa)] [hc (mkI m'),hc (myI l)] k5 [] [(0,0),(1,1)] []
  |false=>
   rw[c1,Bg] at k5;have hput:=Afz (P:=prog) (σ:=[(0,oMk m'),(1,oMy l),ob 2 25 (aj x),ob 3 123 (Bv ⟨x.By,x.Seq⟩)]) (i:=1) (t:=tMy) (t':=tMy) (et:=3) (vg:=iG) Pr Ada aH (k:=x.By) (gk:=iG x.By) rfl (m:=l) rfl x.Seq;cases c2:(l.get x.By).isSome with
   |false=>rw[c2,Bg] at k5;exact jw [hlk 36 (lkF m' ⟨x.By,x.Seq⟩ h36),hr 37 c1,hlk 42 (lkY l x.By rfl c2),hmp 4 hput,hbb 58 (Xl (q:=k) aa)] [hc (mkI m'),hc (myI (C7 l x.By x.Seq))] k5 [] [(0,0),(1,1)] []
   |true=>
    rw[c2,ax] at k5;generalize hw:(l.get x.By).getD 0=w at k5;cases c3:decide (x.Seq<w) with
    |true=>rw[c3,ax] at k5;exact jw [hlk 36 (lkF m' ⟨x.By,x.Seq⟩ h36),hr 37 c1,hlk 42 (lkY l x.By hw c2),hr 51 c3,hmp 4 hput,hbb 58 (Xl (q:=k) aa)] [hc (mkI m'),hc (myI (C7 l x.By x.Seq))] k5 [] [(0,0),(1,1)] []
    |false=>rw[c3,Bg] at k5;exact jw [hlk 36 (lkF m' ⟨x.By,x.Seq⟩ h36),hr 37 c1,hlk 42 (lkY l x.By hw c2),hr 51 c3,hbb 58 (Xl (q:=k) aa)] [hc (mkI m'),hc (myI l)] k5 [] [(0,0),(1,1)] []
 .split at hs
  .rename_i d;subst d;clear j k5 hs;rw[EY];obtain⟨h1,h2⟩:=Xi ids;generalize Um ids=s at h1 h2 h12 he hs⊢;obtain⟨m,l⟩:=s;dsimp only at h1 h2 h12 he hs⊢;refine yl (Bs':=[]) [1,1,1,0,1] (J:=(s0 75 gl [(6,.mref 0)] [(0,oMy l)] 1 0)) [hr 20 (DG (s:=ids))] [hc (myI l)] ?_;refine pO 11111100 (s0 75 gl [(6,.mref 0),(12,Iy)] [(0,oMy l)] 1 0) [] [hc (myI l)] ?_ [] [(0,0)] [];refine yl (Bs':=[]) [1,1,1,1,1,0,0] (J:=stF gl l [] []) [] [hc (myI l),hc (Bi.imm [])] ?_;refine dNx 11111101 ?_;refine dMw 60 61 62 2 (iti:=1) (mi:=0) (clock:=l.clk) (since:=l.clk) (T:=tMy) (ty:=tMy) (es:=mEs JR iG l) (λseen=>stF gl l seen ((eQ l seen).map mkF)) (KsQ l) Aan (λe he=>by obtain⟨x,hx,rfl⟩:=Fm.1 he;exact h2.lt x hx) rfl (Le.refl _) (λseen=>rfl) (λseen=>rfl) (by grind) (λB seen k g nn hI hme hns c=>?_) (λseen hI f=>?_)
   .obtain⟨e,b,h⟩:=Fm.1 hme;simp only[Ge] at h;obtain⟨rfl,rfl,rfl⟩:=h;have c:=c (Aao hI b hns);rw[AfM h2.1 b,List.map_append] at c;have hal:((eQ l seen).map mkF).length<=12:=by rw[Ht];have:=Adh hI;have h3:(eQ l seen).length<=seen.length:=List.length_filterMap_le _ _;have h4:=Qi hI.1 hI.2;rw[Ht] at h4;omega
    generalize (eQ l seen).map mkF=a at c hal⊢;have hge:jr ((1,AlV l.clk (seen++[e.2.2]))::(stF gl l seen a).σ) (.ref 1 0)=some (.tup [db (JR e.1),iG e.2.1]):=yo (iti:=1) (mi:=0) (since:=l.clk) (clock:=l.clk) (T:=tMy) (ty:=tMy) (seen:=seen) rfl rfl (by rw[It];exact h2.nd) hme;exact jw [YT 63 hge,Tn 71 Bi 16 a (mkF e) aa] [hc (el (a++[mkF e])),hc (myI l),hc (Bi.imm (a++[mkF e]))] c [] [(0,0),(1,1),(2,4)] [(2,.row)]
   .have hp:=(Adk h2.1 hI λe he=>f _ (Fm.2 ⟨e,he,rfl⟩)).map mkF;have hi:=hs _ hp;have hla:((eQ l seen).map mkF).length=n:=by rw[hp.length_eq,Ht,he]
    generalize (eQ l seen).map mkF=a at hi hla⊢;subst hla;exact EI [tN 73 [2] 3 [(2,Zb a)] [.rsl 2 0 a.length,cmK] [(0,Zb r)] (Age (gl:=gl) aa hi) ⟨⟨rfl,.inr ⟨rfl,Bi.imm a⟩⟩,trivial⟩ ⟨⟨rfl,.inr ⟨rfl,Bi.imm r⟩⟩,trivial⟩] (Bi.imm r)
  .cases hs
end
theorem QI{a b:Ab}:GK a b<0↔dt a b=true:=by grind [GK]
theorem PJ:OrN GK λ_=>True:=by grind [OrN,QI,dt,EX]
theorem AbM{x y:Int}:AbD x y<0↔x<y:=by grind [AbD]
theorem Tz{cmp:α->α->Int}(tr:∀x y z,cmp x y<0->cmp y z<0->cmp x z<0)(a:∀x,¬cmp x x<0){l r:List α}(hp:l.Perm r)(h1:l.Pairwise λx y=>cmp x y<0)(h2:r.Pairwise λx y=>cmp x y<0):l=r:=
 by grind [List.Perm.eq_of_pairwise]
def ON(ids:Bf)(f:Bh):Nat:=(ids.filter λx=>decide (x.By=f.Device)&&decide (x.Seq=f.Seq)).length
theorem TB(p:Bf)(x:Ab)(f:Bh):ON (p++[x]) f=ON p f+if(⟨x.By,x.Seq⟩:Bh)=f then 1 else 0:=by unfold ON;rw[RT,RU];obtain⟨d,s⟩:=f;grind
theorem Agh(p:Bf)(f:Bh):ON p f<=p.length:=KY _ _
structure FkI (p:Bf) (s:FM Bh Int×FM Int Int):Prop where
 n:∀f,(s.1.get f).getD 0=(ON p f:Int)
 a:∀d v,s.2.get d=some v->2<=ON p ⟨d,v⟩
 b:∀d v,2<=ON p ⟨d,v⟩->∃w,s.2.get d=some w/\w<=v
theorem AlW{p:Bf}(h:FkI p s)(hp:p.length<=1000):FkI (p++[x]) (fkT s x):=by
 have hle:=Agh p ⟨x.By,x.Seq⟩;have hw:wI ((s.1.get ⟨x.By,x.Seq⟩).getD 0+1)=((ON p ⟨x.By,x.Seq⟩+1:Nat):Int):=by grind [FkI.n,bM]
 have hset:∀(l:FM Int Int),l=C7 s.2 x.By x.Seq->1<=ON p ⟨x.By,x.Seq⟩->(∀w,s.2.get x.By=some w->x.Seq<=w)->(∀d v,l.get d=some v->2<=ON (p++[x]) ⟨d,v⟩)/\(∀d v,2<=ON (p++[x]) ⟨d,v⟩->∃w,l.get d=some w/\w<=v):=by grind [BG,TB,FkI.a,FkI.b]
 have hold:∀(l:FM Int Int),l=s.2->(1<=ON p ⟨x.By,x.Seq⟩->∃w,s.2.get x.By=some w/\w<=x.Seq)->(∀d v,l.get d=some v->2<=ON (p++[x]) ⟨d,v⟩)/\(∀d v,2<=ON (p++[x]) ⟨d,v⟩->∃w,l.get d=some w/\w<=v):=by grind [TB,FkI.a,FkI.b]
 have key:(∀d v,(fkT s x).2.get d=some v->2<=ON (p++[x]) ⟨d,v⟩)/\(∀d v,2<=ON (p++[x]) ⟨d,v⟩->∃w,(fkT s x).2.get d=some w/\w<=v):=by
  unfold fkT;dsimp only;rw[hw];cases c1:decide (((ON p ⟨x.By,x.Seq⟩+1:Nat):Int)<2) with
  |true=>grind
  |false=>
   have h1:=Lz c1;rw[Bg];cases c2:s.2.get x.By with
   |none=>grind
   |some w=>rw[Option.isSome_some,ax,Ng];cases c3:decide (x.Seq<w)<;>grind
 refine⟨λf=>?_,key.1,key.2⟩;grind [fkT,BG,TB,FkI.n]
theorem Agi(ids:Bf)(hn:ids.length<=1000):FkI ids (Um ids):=by
 have key:∀k,k<=ids.length->FkI (ids.take k) (Um (ids.take k)):=by
  intro k;induction k with
  |zero=>exact λ_=>⟨λf=>rfl,λd v h=>(by cases h),λd v h=>absurd h (by show¬2<=0;omega)⟩
  |succ k ih=>intro hk;have hx:ids[k]?=some (ids[k]'aa):=DQ _;rw[AbJ hx,JM,hx,Option.toList_some];grind [AlW]
 grind [EY]
theorem Adv{α:Type}(p:α->Bool):∀l:List α,l.length=(l.filter p).length+(l.filter λx=> !p x).length
 |[]=>rfl
 |a::r=>by have:=Adv p r;grind
theorem AbN:∀{ds:Bj} {ids:Bf},ds.Nodup->(∀d∈ds,2<=(ids.filter λx=>decide (x.By=d)).length)->2*ds.length<=ids.length
 |[],ids,_,_=>aC
 |d::r,ids,hd,h=>by
  rw[LP] at hd;have ih:=AbN (ids:=ids.filter λx=> !decide (x.By=d)) hd.2 λe he=>by have:=h e (by simp[he]);rw[List.filter_filter];grind
  have h1:=h d aC;grind [Adv]
theorem AaD{ids:Bf}(hn:ids.length<=1000):2*(Um ids).2.es.length<=ids.length:=by have hk:=(Xi ids).2;have hI:=Agi ids hn;rw[<-Ht (f:=λe:Int×Int×Nat=>e.1)];refine AbN hk.kd λd hd=>?_;obtain⟨e,he,rfl⟩:=Fm.1 hd;have hg:=JI hk (k:=e.1) (v:=e.2.1) (n:=e.2.2) he;have h2:=hI.a _ _ hg;refine JD h2 ?_;unfold ON;rw[<-List.filter_filter];exact(List.Sublist.filter _ List.filter_sublist).length_le
theorem TC{ids:Bf}{f:Bh}:f∈(Um ids).2.es.map mkF↔(Um ids).2.get f.Device=some f.Seq:=by grind [Xi,JI,Hq]
theorem Aiz(ids:Bf):OrN UI λf=>f∈(Um ids).2.es.map mkF:=by grind [OrN,UI,AbM,TC]
theorem Agj{ids:Bf}:((Um ids).2.es.map mkF).Nodup:=List.Pairwise.of_map (S:=λa b:Int=>a≠b) (λf:Bh=>f.Device) (by grind) (by rw[It];exact(Xi ids).2.kd)
theorem AiA{ids:Bf}(hn:ids.length<=14):∃r:List Bh,r.Perm ((Um ids).2.es.map mkF)/\∀l:List Bh,l.Perm ((Um ids).2.es.map mkF)->inI UI ((0:Nat):Int) (l.length:Int) l=some r:=by
 have hl:=AaD (ids:=ids) aa;have go:∀l:List Bh,l.Perm ((Um ids).2.es.map mkF)->∃r,inI UI ((0:Nat):Int) (l.length:Int) l=some r/\r.Perm ((Um ids).2.es.map mkF)/\r.Pairwise λx y=>UI x y<0:=λl hp=>by obtain⟨r,e,h1,h2⟩:=AaB (Aiz ids) (a:=0) (b:=l.length) (hp.nodup_iff.2 Agj) (λz hz=>hp.mem_iff.1 hz) aa (Dq _) (by rw[hp.length_eq,Ht];omega);refine⟨r,e,h1.1.trans hp,?_⟩;rw[List.pairwise_iff_getElem];intro p q hp' c d;exact h2 p q _ _ (Nat.zero_le _) d (by rw[<-h1.len];exact c) (DQ hp') (DQ c)
 obtain⟨r,_,h2,h3⟩:=go _ (.refl _);refine⟨r,h2,λl hp=>?_⟩;obtain⟨r',e,k2,k3⟩:=go l hp;rw[e,Tz (cmp:=UI) (Aiz ids).tr (by grind [UI,AbM]) (k2.trans h2.symm) k3 h3]
def voP(ids:Bf)(x:Ab):Bool:=ids.any λy=>decide (y.By=x.By/\y.Seq<=x.Seq/\2<=ON ids ⟨y.By,y.Seq⟩)
section
variable {gl:CO}
theorem AhZ{r:Bf}{fs:List Bh}{R:Bh->Bf}(hF:ba prog gl 68 [.ptr (Ag gg) 0,aE aj ids] (aE Bv fs))(hfl:fs.length<=1000)(hR:∀f∈fs,ba prog gl 299 [aE aj ids,iG f.Device,iG f.Seq,iG 4611686018427387904] (aE aj (R f)))(hl:(fs.flatMap R).length<=14)(h:OY GK (fs.flatMap R)=some r)(hle:r.length=(fs.flatMap R).length):iV prog gl 238 [.ptr (Ag gg) 0,aE aj ids] 25 r.length (r.flatMap aj):=by
 rw[hle];refine OW func238 ?_;refine pN (λk:Nat=>(s0 27 gl [(1,aE aj ids),(5,.rsl 0 0 ((fs.take k).flatMap R).length),(10,aE Bv fs),(11,iG (ah fs)),(12,iG (k:Int))] [(0,BA ((fs.take k).flatMap R))] 1 0)) 1110122 (DV (n:=fs.length) aa) [hf 10 hF] [hc (ac.imm [])] (λB k w hs k5 a=>?_) [25] [(0,0)] [(0,.row)];unfold Ja at hs;split at hs
 .rename_i hlt;obtain rfl:=A9 hs;obtain⟨x,hx⟩:∃x,fs[k]?=some x:=⟨_,DQ hlt⟩;have hz:=AH hx;have k5:=k5 _ rfl;have e:(fs.take (k+1)).flatMap R=(fs.take k).flatMap R++R x:=by grind [JM]
  have hll:((fs.take k).flatMap R++R x).length<=14:=by grind [O7]
  rw[e] at k5;generalize (fs.take k).flatMap R=l at k5 hll⊢;rw[RU] at hll;exact jw [hr 13 (C5 hx),AA 14 (Bi.ixZ hz),AA 15 (Bi.ptZ Hk hz),hf 22 (hR x (bO hx)),AmK 23 ac 24 l (R x) aa,hbb 24 (Xl (q:=k) aa)] [hc (el (l++R x)),hc (ac.imm (l++R x))] k5 [] [(0,2)] [(0,.row)]
 .split at hs
  .rename_i he;subst he;rw[EY];exact EI [hr 13 (DG (s:=fs)),hsm (gl:=gl) 26 1 hl h] (ac.imm r)
  .cases hs
end
theorem Xj{α β:Type}{f:α->List β}:∀{l:List α},l.Nodup->(∀x∈l,(f x).Nodup)->(∀x∈l,∀y∈l,x≠y->∀z∈f x,z∉f y)->(l.flatMap f).Nodup
 |[],_,_,_=> .nil
 |a::r,hn,h1,h2=>by rw[LP] at hn;rw[List.flatMap_cons,List.nodup_append];refine⟨h1 a aC,Xj hn.2 (by grind) (by grind),λz hz w hw e=>?_⟩;grind
theorem Ah0{gl:CO}{gg:Aj}(hn:ids.length<=14)(hd:ids.Nodup)(hs:∀x∈ids,x.Seq<=4611686018427387904):∃r,ba prog gl 238 [.ptr (Ag gg) 0,aE aj ids] (aE aj r)/\r.Perm (ids.filter (voP ids))/\r.Pairwise λx y=>GK x y<0:=by
 obtain⟨fs,hp,hi⟩:=AiA hn;have hl:=AaD (ids:=ids) aa;have hI:=Agi ids aa;have hF:=(AbL (gl:=gl) (gg:=gg) (ids:=ids) (r:=fs) (n:=fs.length) aa aa (by rw[hp.length_eq,Ht]) hi).fn Bi.sz (Bi.len _) (Bi.imm _);have hof:∀f:Bh,∃r,OY GK (ids.filter (Yb f.Device f.Seq 4611686018427387904))=some r/\r.Perm (ids.filter (Yb f.Device f.Seq 4611686018427387904)):=λf=>by have h1:=KY (Yb f.Device f.Seq 4611686018427387904) ids;obtain⟨r,e,h2,h3⟩:=Sc PJ (l:=ids.filter (Yb f.Device f.Seq 4611686018427387904)) (hd.sublist List.filter_sublist) aa;exact⟨r,e,h2⟩
 let R:Bh->Bf:=λf=>(OY GK (ids.filter (Yb f.Device f.Seq 4611686018427387904))).getD [];have hRp:∀f,OY GK (ids.filter (Yb f.Device f.Seq 4611686018427387904))=some (R f)/\(R f).Perm (ids.filter (Yb f.Device f.Seq 4611686018427387904)):=λf=>by obtain⟨r,e,h2⟩:=hof f;grind
 have hRm:∀f x,x∈R f↔x∈ids/\x.By=f.Device/\f.Seq<=x.Seq:=λf x=>by rw[(hRp f).2.mem_iff,Hj];grind [Yb]
 clear_value R;have hfd:∀x∈fs,∀y∈fs,x≠y->x.Device≠y.Device:=by grind [TC]
 have hfn:(fs.flatMap R).Nodup:=Xj (hp.nodup_iff.2 Agj) (by grind) (by grind);have hperm:(fs.flatMap R).Perm (ids.filter (voP ids)):=by
  refine(List.perm_ext_iff_of_nodup hfn (hd.sublist List.filter_sublist)).2 λx=>?_;rw[List.mem_flatMap,Hj];unfold voP;rw[List.any_eq_true];refine⟨λ⟨f,hf,hx⟩=>?_,λ⟨hx,y,hy,hv⟩=>?_⟩
  .obtain⟨h1,h2,h3⟩:=(hRm f x).1 hx;have h4:=TC.1 (hp.mem_iff.1 hf);have h5:=hI.a _ _ h4;refine⟨h1,?_⟩;have h6:0<(ids.filter λx=>decide (x.By=f.Device)&&decide (x.Seq=f.Seq)).length:=Nat.lt_of_lt_of_le Nat.zero_lt_two h5;obtain⟨y,hy⟩:=List.exists_mem_of_length_pos h6;grind
  .obtain⟨h1,h2,h3⟩:=DP hv;obtain⟨w,hw,hle⟩:=hI.b _ _ h3;refine⟨⟨y.By,w⟩,hp.mem_iff.2 (TC.2 hw),(by grind)⟩
 have hlen:(fs.flatMap R).length<=14:=by grind [List.Perm.length_eq,KY]
 obtain⟨r,e,h2,h3⟩:=Sc PJ hfn hlen;refine⟨r,(AhZ (gl:=gl) hF (by rw[hp.length_eq,Ht];omega) (by grind [Aj6,List.Perm.length_eq]) hlen e h2.length_eq).fn ac.sz (ac.len _) (ac.imm _),h2.trans hperm,h3⟩
theorem Rb{l:List α}{x:α}(hx:l[k]?=some x):l.take (k+1)=l.take k++[x]:=by rw[JM,hx];rfl
section
variable {g:Ba} {m:JN} {N:JL}
abbrev CA(g:Ba)(m:JN)(N:JL):Gi:=OR ⟨g.Cards,m,N⟩
theorem NR(w:Fs g){i:Nat}(h:g.IDs[i]?=some x):bu x g.IDs=some i:=by
 cases hk:bu x g.IDs with
 |none=>exact absurd (bO h) (SN hk)
 |some j=>rw[MT w.nd (gb hk).1 h]
abbrev I6(g:Ba)(l:Bj):Bf:=l.map λp=>(g.IDs[p.toNat]?).getD ⟨0,0,0⟩
theorem O5(w:Fs g){l:Bj}(h:EF g l){z:Int}(hz:l[j]?=some z):∃(n:Nat) (y:Ab),z=(n:Int)/\n<g.L.length/\g.IDs[n]?=some y/\(I6 g l)[j]?=some y:=by obtain⟨n,rfl,hn⟩:=h.nat (bO hz);have nI:=w.nI;obtain⟨y,hy,_⟩:=dk (l:=g.IDs) (k:=n) aa;refine⟨n,y,rfl,hn,hy,?_⟩;rw[LQ,hz,Option.map_some,Fa,hy];rfl
end
def XQ(cs:Md)(d:Int):Int:=match cs.find? λc=>decide (c.Device=d) with
 |some c=>c.Member
 |none=>0
structure Mr (x:Az) (y:Ef):Prop where
 role:y.Role=x.role
 no:x.guard=none->y.Is=false
 gd:∀g,x.guard=some g->y.Is=true/\y.ID=g.id/\y.Guards=g.guards/\y.Need=g.need/\y.Wait=g.wait/\y.Objected=g.objected/\y.Last=g.last
def Ags(V:List G8)(i:Ab)(b d a:Int):Prop:=∃v∈V,v.Of=i/\v.By=b/\v.Device=d/\v.At=a
structure Rr (R:Ad) (D:Dl):Prop where
 card:∀d,DD R d=XQ D.Cards d
 nd:(D.In++D.Gone).Nodup
 in_:∀d,R.in_.get d=if d∈D.In then some true else none
 was:∀d,R.was.get d=if d∈D.In\/d∈D.Gone then some true else none
 w0:R.was.es.length=D.In.length+D.Gone.length
 ln:(D.L.map (·.N)).Nodup
 no:∀m,R.members.get m=none->∀y∈D.L,y.N≠m
 mem:∀m x,R.members.get m=some x->∃y∈D.L,y.N=m/\Mr x y
 vou:∀m x g,R.members.get m=some x->x.guard=some g->∀b d a,g.vouches.get ⟨b,d⟩=some a↔Ags D.V g.id b d a
 vof:∀v∈D.V,∃m x g,R.members.get m=some x/\x.guard=some g/\v.Of=g.id
 vnd:(D.V.map λv=>(v.Of,v.By,v.Device)).Nodup
 back:R.back=D.Back
structure Sz (D:Dl):Prop where
 c:D.Cards.length<=1000
 dev:D.In.length+D.Gone.length<=100000
 l:D.L.length<=100000
 v:D.V.length<=100000
theorem KI{l:Bj}{n:Int}:QF l n=decide (n∈l):=by grind [QF]
section
variable {R:Ad} {D:Dl}
theorem Sz.i(z:Sz D):D.In.length<=1000000:=by grind [Sz]
theorem Sz.g(z:Sz D):D.Gone.length<=1000000:=by grind [Sz]
theorem ofE(z:Sz D)(d:Int):gE D d=some (XQ D.Cards d):=by
 have:=z.c;unfold gE;refine T.eq (.bind ((T.search D.Cards (λx=>decide (x.Device=d)) (λk x=>x.Member) aa (λk x hx hk=>?_) ?_).mono ?_))
 .grind [AR,eA,au,aq]
 .grind [AR,eF]
 .rintro r (⟨rfl,h⟩|⟨k,x,hx,hp,rfl,h⟩)
  .refine .some ?_;grind [XQ]
  .refine .some ?_;grind [XQ,List.find?_eq_some_iff_getElem]
theorem Aml(z:Sz D)(n:Int):T (dS D n) λv=>(v= -1/\∀y∈D.L,y.N≠n)\/∃(k:Nat) (y:Ef),v=(k:Int)/\D.L[k]?=some y/\y.N=n:=by
 have:=z.l;unfold dS;refine .bind ((T.search D.L (λx=>decide (x.N=n)) (λk _=>(k:Int)) aa (λk x hx hk=>?_) ?_).mono ?_)
 .grind [o5,eA,au,aq]
 .grind [o5,eF]
 .rintro r (⟨rfl,h⟩|⟨k,x,hx,hp,rfl,h⟩)
  .exact .some (by grind)
  .exact .some (by grind)
theorem Rr.at_(h:Rr R D){m:Int}{x:Az}(hx:R.members.get m=some x){y:Ef}(hy:y∈D.L)(hn:y.N=m):Mr x y:=by grind [mem,Nu,ln]
theorem Rr.of(h:Rr R D){y:Ef}(hy:y∈D.L):∃x,R.members.get y.N=some x/\Mr x y:=by cases hx:R.members.get y.N<;>grind [no,at_]
theorem XR(z:Sz D)(h:Rr R D)(n:Int):T (dS D n) λv=>match R.members.get n with
  |none=>v= -1
  |some x=>∃(k:Nat) (y:Ef),v=(k:Int)/\D.L[k]?=some y/\y.N=n/\Mr x y:=by
 refine(Aml z n).mono λv hv=>?_
 grind [Rr,Rr.of]
theorem Ah1(z:Sz D)(h:Rr R D)(n:Int):se D n=some (MI R n):=by unfold se;refine T.eq (.bind ((XR z h n).mono λv hv=>?_));grind [MI,T.some,au,Mr.role]
theorem Rr.ins(h:Rr R D)(d:Int):PO R d=decide (d∈D.In):=by grind [PO,in_,Hw]
theorem inE(z:Sz D)(h:Rr R D)(d:Int):fb D.In d=some (PO R d):=by rw[cX z.i,KI,h.ins]
theorem Amm(z:Sz D)(h:Rr R D)(d:Int):Fd D d=some (Hw (R.was.get d)):=by grind [Fd,cX,Sz.i,Sz.g,KI,Rr.was,Hw]
theorem Zu(z:Sz D)(h:Rr R D)(d:Int):nW D d=some (D5 R d):=by grind [nW,D5,Amm,ofE,Rr.card]
theorem Akv(z:Sz D)(i:Ab):T (jN D i) λv=>(v= -1/\∀y∈D.L,¬(y.Is=true/\y.ID=i))\/∃(k:Nat) (y:Ef),v=(k:Int)/\D.L[k]?=some y/\y.Is=true/\y.ID=i:=by
 have:=z.l;unfold jN;refine .bind ((T.search D.L (λx=>x.Is&&decide (x.ID=i)) (λk _=>(k:Int)) aa (λk x hx hk=>?_) ?_).mono ?_)
 .grind [qQ,eA,au,aq]
 .grind [qQ,eF]
 .rintro r (⟨rfl,hn⟩|⟨k,y,hy,hp,rfl,hn⟩)
  .exact .some (by grind)
  .have hp2:y.Is=true/\y.ID=i:=by grind
   exact .some (by grind)
theorem Akw(z:Sz D)(h:Rr R D)(hR:Bk R)(i:Ab):T (jN D i) λv=>match R.members.es.find? λe=>Lv e.2.1 i with
  |none=>v= -1
  |some e=>∃(k:Nat) (y:Ef) (g:CD),v=(k:Int)/\D.L[k]?=some y/\y.N=e.1/\Mr e.2.1 y/\e.2.1.guard=some g/\g.id=i/\R.members.get e.1=some e.2.1:=by
 refine(Akv z i).mono ?_
 rintro v (⟨rfl,hn⟩|⟨k,y,rfl,hy,hp2⟩)
 .cases hf:R.members.es.find? λe=>Lv e.2.1 i with
  |none=>rfl
  |some e=>obtain⟨hx,_⟩:=hR.mem (List.mem_of_find?_eq_some hf);grind [Rr.mem,Lv,Mr.gd]
 .have a:=bO hy
  obtain⟨x,hx,hm⟩:=h.of a
  cases hgd:x.guard with
  |none=>grind [Mr.no]
  |some g=>
   have h1:=hm.gd g hgd
   have hid:g.id=i:=by grind
   have hgx:Lv x i=true:=by grind [Lv]
   cases hf:R.members.es.find? λe=>Lv e.2.1 i<;>grind [Hq,Bk.mem,Bk.uni]
theorem Zv(z:Sz D)(h:Rr R D)(hR:Bk R)(o:Bq):T (nY D o) λv=>v.2=(Dk R o).2/\((Dk R o).2=0->∃(k:Nat) (y:Ef) (x:Az) (g:CD),v.1=(k:Int)/\D.L[k]?=some y/\y.N=(Dk R o).1/\R.members.get (Dk R o).1=some x/\Mr x y/\x.guard=some g/\g.id=o.Of):=by
 unfold nY;refine .bind ((Akw z h hR o.Of).mono λv hv=>?_);cases hf:R.members.es.find? λe=>Lv e.2.1 o.Of with
 |none=>grind [Dk,T.some]
 |some e=>
  rw[hf] at hv;obtain⟨k,y,g,rfl,hy,a,hm,hgd,hid,hx⟩:=hv;have eS:Dk R o=bif g.guards.any λy=>decide (o.By=y) then(e.1,0) else(0,14):=by grind [Dk]
  have h1:=hm.gd g hgd;grind [Bk.gn,au,cX,KI,T.some]
end
theorem AeJ{l:Bj}(hl:l.length<=3000):NN l d=some ((OI (l.length+1) l).filter λs=>decide (d∈s)).reverse:=by
 obtain⟨e0,hn⟩:=ZR (l.length+1) l aa aa;obtain⟨v,e1,_,hy⟩:=u6 (l.length+1) l aa aa;rw[e0] at e1;obtain rfl:=A9 e1;unfold NN UJ;rw[e0,Bp];generalize OI (l.length+1) l=b at hn hy;have e:wI (ah b-1)=ah b-1:=by grind [bM,ah]
 rw[e];refine T.eq (.bind (T.mono (T.loop (Q:=λr:Lw=>r=(b.filter λs=>decide (d∈s)).reverse) (λs=> -1<=s.2/\s.2<(b.length:Int)/\s.1=((b.drop (s.2+1).toNat).filter λs=>decide (d∈s)).reverse) (λs=>(s.2+1).toNat) ⟨by unfold ah;omega,by unfold ah;omega,?_⟩ (by show(ah b-1+1).toNat<_;unfold ah;omega) ?_) λ_ h=> .some h))
 .show[]=_;rw[List.drop_eq_nil_of_le (by unfold ah;omega)];rfl
 rintro⟨a,i⟩ ⟨i1,f,c⟩;simp only at i1 f c;unfold AF;refine .dec (λh0=>?_) λh0=> .some (show a=_ from ?_)
 .replace h0:0<=i:=h0;obtain⟨k,rfl⟩:=Int.eq_ofNat_of_zero_le h0;have hk:k<b.length:=aa;have hw:wI ((k:Int)-1)=(k:Int)-1:=bM aa aa;have hz:Bt b (k:Int)=some (b[k]'hk):=AH (DQ hk);have ha:a.length<=6000:=by rw[c,List.length_reverse];refine JD (KY ..) ?_;rw[List.length_drop];omega
  dsimp only;rw[hz,Bp,cX (by have:=hy _ (List.getElem_mem hk);omega),Bp,KI,hw];have ed:b.drop k=b[k]'hk::b.drop (k+1):=List.drop_eq_getElem_cons hk;rw[show((k:Int)+1).toNat=k+1 by omega] at c;by_cases hd:d∈b[k]'hk
  .rw[C6 hd,ax,Bp];refine .bind (.app (by simp only[List.length_singleton];omega) (.some ⟨⟨by show-1<=(k:Int)-1;omega,by show(k:Int)-1<_;omega,?_⟩,by show((k:Int)-1+1).toNat<((k:Int)+1).toNat;omega⟩));show a++[b[k]'hk]=((b.drop ((k:Int)-1+1).toNat).filter _).reverse;rw[show((k:Int)-1+1).toNat=k by omega,ed,List.filter_cons_of_pos (by simp[hd]),List.reverse_cons,c]
  .rw[Dd hd,Bg];refine .some ⟨⟨by show-1<=(k:Int)-1;omega,by show(k:Int)-1<_;omega,?_⟩,by show((k:Int)-1+1).toNat<((k:Int)+1).toNat;omega⟩;show a=((b.drop ((k:Int)-1+1).toNat).filter _).reverse;rw[show((k:Int)-1+1).toNat=k by omega,ed,List.filter_cons_of_neg (by simp[hd]),c]
 .replace h0:¬0<=i:=h0;rw[c,show(i+1).toNat=0 by omega,List.drop_zero]
theorem UO(d:Int):∀(n:Nat) (l:Bj),l.length<n->l.length<=1000000->(XW d n l).length<=l.length+1
 |0,_,h,_=>absurd h (Nat.not_lt_zero _)
 |n+1,l,h,hl=>by
  unfold XW;split
  .simp
  .obtain⟨_,k1,k2⟩:=YD (n:=l.length) aa hl;have a:=UO d n (l.take (YC l.length)) cq cq;have b:=UO d n (l.drop (YC l.length)) cq cq;rw[Mh] at a;rw[List.length_drop] at b;rw[List.length_cons];split<;>omega
theorem AeK(d:Int):∀(n:Nat) (l:Bj),l.length<n->l.length<=1000000->d∈l->l.Nodup->(∀s∈XW d n l,d∈s/\s.length<=l.length/\s.Nodup)/\((XW d n l).Pairwise λa b=>b.length<a.length)/\(XW d n l).getLast?=some [d]
 |0,_,h,_,_,_=>absurd h (Nat.not_lt_zero _)
 |n+1,l,h,hl,hd,hn=>by
  unfold XW;split
  .match l,hd,hn with
   |[a],hd,hn=>simp_all
   |a::b::r,_,_=>simp at*
  .obtain⟨_,k1,k2⟩:=YD (n:=l.length) aa hl;have hx:d∈l.take (YC l.length)\/d∈l.drop (YC l.length):=by rw[<-O7 (YC l.length) l] at hd;exact HU.1 hd
   have key:∀q:Bj,q.length<l.length->d∈q->q.Nodup->(∀s∈l::XW d n q,d∈s/\s.length<=l.length/\s.Nodup)/\((l::XW d n q).Pairwise λa b=>b.length<a.length)/\(l::XW d n q).getLast?=some [d]:=λq h1 h2 h3=>by
    obtain⟨a,b,c⟩:=AeK d n q aa aa h2 h3;refine⟨λs hs=>?_,List.pairwise_cons.2 ⟨λs hs=>Nat.lt_of_le_of_lt (a s hs).2.1 h1,b⟩,by simp[List.getLast?_cons,c]⟩;rcases EA.1 hs with rfl|hs
    .exact⟨hd,Dq _,hn⟩
    .exact⟨(a s hs).1,Nat.le_of_lt (Nat.lt_of_le_of_lt (a s hs).2.1 h1),(a s hs).2.2⟩
   split
   .exact key _ cq (by assumption) (hn.sublist (List.take_sublist ..))
   .exact key _ cq (hx.resolve_left (by assumption)) (hn.sublist (List.drop_sublist ..))
def tpL(d:Int)(l:Bj):Lw:=if d∈l then(XW d (l.length+1) l).reverse else[]
structure M1 (d:Int) (ss:Lw):Prop where
 n:ss.length<=3000
 m:∀s∈ss,d∈s/\s.length<=3000/\s.Nodup
 p:ss.Pairwise λa b=>a.length<b.length
 f:∀s,ss[0]?=some s->s=[d]
theorem ZX:M1 d []:=⟨aC,aC,.nil,aC⟩
theorem Ai4{l:Bj}(hl:l.length<=2000)(hn:l.Nodup):M1 d (tpL d l):=by
 unfold tpL;split
 .rename_i hd;obtain⟨a,b,c⟩:=AeK d (l.length+1) l aa aa hd hn;have:=UO d (l.length+1) l aa aa;refine⟨by rw[List.length_reverse];omega,λs hs=>by have:=a s (List.mem_reverse.1 hs);exact⟨this.1,aa,this.2.2⟩,List.pairwise_reverse.2 b,λs hs=>?_⟩;rw[<-List.head?_eq_getElem?,List.head?_reverse,c] at hs;exact(A9 hs).symm
 .exact ZX
theorem AeL{l:Bj}(hl:l.length<=3000)(hn:l.Nodup):NN l d=some (tpL d l):=by rw[AeJ hl,ZW d _ l aa aa hn];unfold tpL;split<;>rfl
theorem Aa8{gl:CO}{l:Bj}{d:Int}(hl:l.length<=3000):ba prog gl 26 [aE cZ l,iG d] (aE Jc (tpL d l)):=by
 unfold tpL;by_cases hd:d∈l
 .rw[Bz hd];obtain⟨b,e⟩:=AgH aa hd;have:=UO d (l.length+1) l aa aa;exact AcZ e aa (AeI aa) List.length_reverse
 .rw[BB hd];refine AcZ (a:=[]) (b:=[]) ?_ aC (AeI (l:=[]) aC) rfl;unfold Pv;rw[SM aa,Bp,show(l.any λy=>decide (d=y))=false from List.any_eq_false.2 λy hy=>by simp;rintro rfl;exact hd hy];rfl
theorem AiC{l:Bj}{x:Int}(hp:PE l)(h1:∀i y,i<j->l[i]?=some y->y<=x)(h2:∀y,l[j]?=some y->x<=y):PE (l.take j++[x]++l.drop j):=by
 have hpj:(l.take j++l.drop j).Pairwise λa b=>a<=b:=by rw[O7];exact hp
 rw[List.pairwise_append] at hpj;have hlt:∀a∈l.take j,a<=x:=by grind [Hb]
 have hgt:∀b∈l.drop j,x<=b:=λb hb=>by cases hc:l[j]? <;>grind [List.drop_eq_nil_of_le,List.drop_eq_getElem_cons,List.pairwise_cons]
 grind [PE]
theorem Aeh{l:Bj}(hl:l.length<=1000000):T (lg l) λr=>r.Perm l/\PE r:=by
 unfold lg;refine .bind (T.mono (Q:=λr:Bj=>r.Perm l/\PE r) (T.forA l.length (λk acc=>acc.Perm (l.take k)/\PE acc) aa ⟨aC,.nil⟩ (λk acc hk hj=>?_) λacc hj=>?_) λx hx=> .some hx)
 .obtain⟨y,hy,hm⟩:=dk hk;have hal:acc.length=k:=by rw[hj.1.length_eq,Mh];omega
  unfold pb;simp only[eA hk,ax,au,hy,Bp];refine .bind (T.mono (Q:=λn:Int=>∃j:Nat,n=(j:Int)/\j<=acc.length/\(∀i z,i<j->acc[i]?=some z->z<=y)/\∀z,acc[j]?=some z->y<=z) (T.forI acc.length (λj=>∀i z,i<j->acc[i]?=some z->z<=y) aa (λi z h=>aa) (λj hjl hq=>?_) λhq=>?_) λn hn=>?_)
  .obtain⟨z,hz,a⟩:=dk hjl;unfold pa;simp only[eA hjl,ax,au,hz,hy,Bp];refine .dec (λhc=> .some ⟨aq aa,λi b hi hz'=>?_⟩) λhc=> .some ⟨j,rfl,aa,hq,λb hz'=>?_⟩;all_goals grind
  .unfold pa;dsimp only;rw[eF,Bg,Bp,Bg];refine .some ⟨acc.length,rfl,Dq _,hq,λz hz=>?_⟩;grind
  .obtain⟨j,rfl,hjl,q1,c⟩:=hn;refine .bind (.pre aa aa (.bind (.app cq (.bind (.app cq (.bind (.suf aa aa (.bind (.app cq (.some ⟨aq aa,?_⟩))))))))));rw[M7,Fa];constructor<;>grind [AiC,Rb,Cy]
 .unfold pb;dsimp only;rw[eF,Bg];rw[EY] at hj;exact .some hj
theorem AaR{a b:Bj}(hp:a.Perm b)(h1:PE a)(h2:PE b):a=b:=List.Perm.eq_of_pairwise (le:=λa b=>a<=b) (by grind) h1 h2 hp
theorem ZH{α β γ:Type}{f:α->β}{g:α->γ}:∀{l:List α},(l.map g).Nodup->(∀x∈l,∀y∈l,f x=f y->g x=g y)->(l.map f).Nodup
 |[],_,_=> .nil
 |a::r,hd,h=>by rw[EZ,LP] at hd⊢;refine⟨λhm=>?_,ZH hd.2 (by grind)⟩;grind
section
variable {R:Ad} {D:Dl}
abbrev atV(V:List G8)(i:Ab)(d:Int):Bj:=(V.filter λv=>decide (v.Of=i)&&decide (v.Device=d)).map (·.At)
theorem Akx(h:Rr R D)(hR:Bk R){x:Az}{g:CD}(hx:R.members.get m=some x)(hg:x.guard=some g)(d:Int):(atV D.V g.id d).Perm (dvE d g.vouches.es):=by
 have hv:=hR.cv _ _ g hx hg;have hp:((D.V.filter λv=>decide (v.Of=g.id)&&decide (v.Device=d)).map λv=>(v.By,v.At)).Perm ((g.vouches.es.filter λe=>decide (e.1.device=d)).map λe=>(e.1.by_,e.2.1)):=by
  refine(List.perm_ext_iff_of_nodup ?_ ?_).2 λ⟨b,a⟩=>?_
  .refine ZH (g:=λv:G8=>(v.Of,v.By,v.Device)) (h.vnd.sublist (List.filter_sublist.map _)) λp hp q hq e=>?_;grind
  .refine ZH (g:=λe:C4×Int×Nat=>e.1) (hv.kd.sublist (List.filter_sublist.map _)) λp hp q hq e=>?_;rw[Hj] at hp hq;have h1:=DP hp.2;have h2:=DP hq.2;simp only[Ge] at e;cases hp1:p.1;cases i:q.1;grind
  .have hb:=h.vou m x g hx hg b d a;constructor
   .intro hm;obtain⟨v,hv1,hv2⟩:=Fm.1 hm;rw[Hj] at hv1;have h1:v.Of=g.id/\v.Device=d:=by simpa using hv1.2
    simp only[Ge] at hv2;obtain⟨n,hn⟩:=Hq (hb.2 ⟨v,hv1.1,h1.1,hv2.1,h1.2,hv2.2⟩);exact Fm.2 ⟨_,Hj.2 ⟨hn,C6 rfl⟩,rfl⟩
   .intro hm;obtain⟨e,c,f⟩:=Fm.1 hm;rw[Hj] at c;have h1:=DP c.2;simp only[Ge] at f;have hge:=JI hv (k:=e.1) (v:=e.2.1) (n:=e.2.2) c.1;have hk:e.1=⟨b,d⟩:=by cases hq:e.1;grind
    rw[hk,f.2] at hge;obtain⟨v,k1,k2,k3,j,k5⟩:=hb.1 hge;grind
 have:=hp.map Prod.snd;rw[It,It] at this;exact this
theorem atT(z:Sz D)(d:Int)(y:Ef):AB (PL D d y) ([],0)=some (atV D.V y.ID d):=by
 have:=z.v;refine T.eq (T.forA D.V.length (λk acc=>acc=atV (D.V.take k) y.ID d) aa (by simp[atV]) (λk acc hk hj=>?_) λacc hj=>?_)
 .obtain⟨v,hv,_⟩:=dk hk;have hal:acc.length<=k:=by grind
  have e:atV (D.V.take (k+1)) y.ID d=acc++(if v.Of=y.ID/\v.Device=d then[v.At] else[]):=by unfold atV;rw[Rb hv,RT,List.map_append];grind
  unfold PL;simp only[eA hk,ax,au,hv,Bp];by_cases c1:v.Of=y.ID
  .by_cases c2:v.Device=d
   .simp only[c1,c2,decide_true,ax,Bp];rw[Bz ⟨c1,c2⟩] at e;exact .bind (.app cq (.some ⟨aq aa,e.symm⟩))
   .simp only[c1,c2,decide_true,decide_false,ax,Bg,Bp];rw[BB λc=>c2 c.2,Nf] at e;exact .some ⟨aq aa,e.symm⟩
  .simp only[c1,decide_false,Bg,Bp];rw[BB λc=>c1 c.1,Nf] at e;exact .some ⟨aq aa,e.symm⟩
 .unfold PL;dsimp only;rw[eF,Bg];refine .some (show acc=_ from ?_);rw[hj,EY]
theorem Amn(z:Sz D)(h:Rr R D)(hR:Bk R)(m d:Int):Ff D m d=some (X8 R m d):=by
 unfold Ff;refine T.eq (.bind ((XR z h m).mono λv hv=>?_));unfold X8;cases hx:R.members.get m with
 |none=>grind [T.some]
 |some x=>
  rw[hx] at hv;obtain⟨k,y,rfl,hy,_,hm⟩:=hv;rw[show decide ((k:Int)<0)=false from Dd aa,Bg,au,hy,Bp];dsimp only;cases hg:x.guard with
  |none=>grind [Mr.no,T.some]
  |some g=>
   have h1:=hm.gd g hg;have hv:=hR.cv _ _ g hx hg;have hb:=hR.vb _ _ g hx hg;have hn:=hR.gN _ _ g hx hg;have h6:=Aap hv.kd hb (List.Pairwise.of_map (λx=>x.1) (by grind) hv.kd) (λe he=>he) d;obtain⟨srt,e1,a,s1⟩:=Ade (l:=dvE d g.vouches.es) aa;have hda:Acw g d=srt:=by unfold Acw;rw[e1];rfl
   have hp:=Akx h hR hx hg d;rw[h1.1,atT z d y,Bp];simp only[Bool.not_true,Bg];rw[hda,h1.2.1];refine .bind ((Aeh (by rw[hp.length_eq];omega)).mono λv hv=>?_);obtain rfl:v=srt:=AaR (hv.1.trans (hp.trans a.symm)) hv.2 s1;rw[h1.2.2.2.1,h1.2.2.2.2.1,h1.2.2.2.2.2.1,h1.2.2.2.2.2.2];refine .dec (by grind [T.some]) λhc=>?_;rw[Dd hc,Bg];have hc2:g.need<=(v.length:Int):=by unfold ah at hc;omega
   have hz0:Bt v 0=some (v.getD 0 0):=by grind [au]
   have hz1:Bt v (wI (g.need-1))=some (v.getD (g.need.toNat-1) 0):=by grind [bM,au]
   grind [T.some]
theorem Aei(z:Sz D)(h:Rr R D)(o:Bq)(m:Int):o9 D o m (decide (MI R m=3))=some (AdZ R o m):=by
 unfold o9 AdZ Jb;rw[inE z h,ofE z,h.card,Bp,Bp];cases decide (o.Device≠0) with
 |true=>grind
 |false=>refine T.eq (.bind ((XR z h o.Member).mono λv hv=>?_));grind [T.some]
end
section
variable {R:Ad} {D:Dl}
theorem Amo(z:Sz D)(h:Rr R D)(hR:Bk R)(hk:o.Kind=11):mB D o=some (Ad0 R o):=by
 unfold mB Ad0;refine T.eq (.bind ((Zv z h hR o).mono λv hv=>?_));rw[hv.1];cases c0:decide ((Dk R o).2≠0) with
 |true=>exact .some rfl
 |false=>
  have c1:(Dk R o).2=0:=by simpa using c0
  obtain⟨k,y,x,g,hv1,hy,a,hx,hm,hgd,hid⟩:=hv.2 c1;rw[Bg,hv1,au,hy,Bp,ofE z,Zu z h,h.card,a,hk];grind [T.some]
theorem Amp(z:Sz D)(h:Rr R D)(hR:Bk R)(hk:o.Kind=13):mB D o=some (Ad1 R o):=by
 unfold mB Ad1 Ajz;refine T.eq (.bind ((Zv z h hR o).mono λv hv=>?_));rw[hv.1];cases c0:decide ((Dk R o).2≠0) with
 |true=>exact .some rfl
 |false=>
  have c1:(Dk R o).2=0:=by simpa using c0
  obtain⟨k,y,x,g,hv1,hy,a,hx,hm,hgd,hid⟩:=hv.2 c1;rw[Bg,hv1,au,hy,Bp,ofE z,ofE z,Zu z h,inE z h,h.card,h.card,a,hk,Amn z h hR];simp only[Int.reduceEq,decide_true,decide_false,ax,Bg,Bp];generalize X8 R (Dk R o).1 o.Device=q;cases PO R o.Old with
  |false=>exact .some rfl
  |true=>simp only[Bool.not_true,Bg,ax];cases decide (XQ D.Cards o.Old≠(Dk R o).1)<;>grind [T.some]
theorem Aky(z:Sz D)(h:Rr R D)(hR:Bk R)(hgl:o.Guards.length<=1000000)(i:Ab):AX D o i=some (Ug R o):=by
 have e:=z.dev;unfold AX;rw[ofE z,Bp,<-h.card];unfold Ug;by_cases k1:o.Kind=1
 .grind [Rr.w0,ah]
 rw[BB k1,Dd k1,Bg,inE z h,Bp];cases PO R o.By with
 |false=>rfl
 |true=>
 rw[Bool.not_true,Bg,ax,Ah1 z h,Bp];unfold Acx;by_cases k2:o.Kind=2
 .grind [Zu,ofE,AfI,Jb,Rr.card]
 rw[BB k2,Dd k2,Bg];by_cases k3:o.Kind=3
 .grind [Aei]
 rw[BB k3,Dd k3,Bg];by_cases k5:o.Kind=5
 .rw[Bz k5,C6 k5,ax];unfold AfJ Jb;cases decide (MI R (DD R o.By)=3) with
  |false=>rfl
  |true=>simp only[Bool.not_true,Bg,ax];refine T.eq (.bind ((XR z h o.Member).mono λv hv=>?_));grind [T.some]
 rw[BB k5,Dd k5,Bg];by_cases k6:o.Kind=6
 .grind [AfK]
 rw[BB k6,Dd k6,Bg];by_cases k8:o.Kind=8
 .grind [ofE,AfL,Jb,Rr.card]
 rw[BB k8,Dd k8,Bg];by_cases k9:o.Kind=9
 .rw[Bz k9,C6 k9,ax];unfold AfN;refine T.eq (.bind ((T.search o.Guards (λx=> !PO R x) (λk _=>(17:Int)) aa (λk x hx hk=>?_) ?_).mono ?_))
  .grind [TF,eA,au,inE,aq]
  .unfold TF;rw[eF,Bg]
  .rintro r (⟨rfl,hn⟩|⟨k,x,hx,hp,rfl,hn⟩)
   .refine .some ?_;grind
   .refine .some ?_;grind
 rw[BB k9,Dd k9,Bg];have hO:T ((dS D (DD R o.By)).bind λa=>bif decide (a<0) then(some 25) else(((Bt D.L a).bind λb=>bif(!b.Is) then(some true) else((Bt D.L a).bind λc=>some (!decide (c.ID=o.Of)))).bind λd=>bif d then(some 25) else(some 0))) λw=>w=Abz R o (DD R o.By):=by
  refine .bind ((XR z h (DD R o.By)).mono λv hv=>?_);unfold Abz;cases hx:R.members.get (DD R o.By) with
  |none=>grind [T.some]
  |some x=>rw[hx] at hv;grind [au,Mr.no,T.some,Mr.gd]
 grind [T.eq,Amo,Amp]
end
theorem Amq{K V:Type}[DecidableEq K]{m:FM K V}{k:K}{p:V}:(C7 m k p).es.length=if(m.get k).isSome then m.es.length else m.es.length+1:=by
 unfold C7;cases hk:bu k (m.es.map (·.1)) with
 |none=>rw[SP hk];simp
 |some j=>obtain⟨e,_,_,h⟩:=MJ hk;rw[h];simp
structure Sy (D:Dl):Prop where
 c:D.Cards.length<=1000
 dev:D.In.length+D.Gone.length<=2000
 l:D.L.length<=2000
 v:D.V.length<=2000
structure Gw (D D':Dl):Prop where
 c:D'.Cards=D.Cards
 dev:D'.In.length+D'.Gone.length<=D.In.length+D.Gone.length+1
 l:D'.L.length<=D.L.length+1
 v:D'.V=D.V
theorem Gw.rfl'{D:Dl}:Gw D D:=by grind [Gw]
theorem Sy.z{D:Dl}(h:Sy D):Sz D:=by grind [Sy,Sz]
section
variable {R:Ad} {D:Dl}
theorem Akz(h:Rr R D)(h1:d∉D.In)(h2:d∉D.Gone):Rr {R with in_:=C7 R.in_ d true,was:=C7 R.was d true} {D with In:=D.In++[d]} where
 card:=h.card
 nd:=by show(D.In++[d]++D.Gone).Nodup;rw[List.append_assoc,List.singleton_append,List.perm_middle.nodup_iff,LP];grind [Rr.nd]
 in_ e:=by grind [BG,Rr.in_]
 was e:=by grind [BG,Rr.was]
 w0:=by grind [Rr.was,Amq,Rr.w0]
 ln:=h.ln
 no:=h.no
 mem:=h.mem
 vou:=h.vou
 vof:=h.vof
 vnd:=h.vnd
 back:=h.back
theorem AiD(h:Rr R D){m role:Int}(hm:R.members.get m=none):Rr {R with members:=C7 R.members m ⟨role,none⟩} {D with L:=D.L++[⟨m,role,false,⟨0,0,0⟩,[],0,0,false,0⟩]} where
 card:=h.card
 nd:=h.nd
 in_:=h.in_
 was:=h.was
 w0:=h.w0
 ln:=by show((D.L++[(⟨m,role,false,⟨0,0,0⟩,[],0,0,false,0⟩:Ef)]).map (·.N)).Nodup;rw[List.map_append,EZ,List.map_nil,List.perm_append_comm.nodup_iff,List.singleton_append,LP];grind [Rr.ln,Rr.no]
 no k hk y hy:=by grind [BG,Rr.no]
 mem k x hk:=by
  have hk:(C7 R.members m ⟨role,none⟩).get k=some x:=hk;rw[BG] at hk;split at hk
  .rename_i e;cases hk;exact⟨_,HU.2 (.inr (List.mem_singleton.2 rfl)),e.symm,rfl,λ_=>rfl,λg hg=>by cases hg⟩
  grind [Rr.mem]
 vou k x g hk hg:=by grind [BG,Rr.vou]
 vof v hv:=by obtain⟨k,x,g,hk,hg,e⟩:=h.vof v hv;refine⟨k,x,g,?_,hg,e⟩;grind [BG]
 vnd:=h.vnd
 back:=h.back
theorem AbT(z:Sy D)(h:Rr R D)(hR:Bk R)(d role:Int):T (nX D d role) λD'=>Rr (I9 R d role) D'/\Gw D D':=by
 have a:=z.dev;have b:=z.l;unfold nX I9;rw[Zu z.z h,Bp];cases hf:D5 R d with
 |false=>exact .some ⟨h,.rfl'⟩
 |true=>
  rw[Bool.not_true,Bg,ax];have hw:R.was.get d=none:=by grind [Rr.was,D5,Hw]
  have hnd:d∉D.In/\d∉D.Gone:=by grind [Rr.was]
  refine .bind (.app cq (.bind (.app cq ?_)));rw[M7];have h':=Akz h hnd.1 hnd.2;rw[show gE {D with In:=D.In++[d]} d=gE D d from rfl,ofE z.z,Bp,<-h.card];rw[show dS {D with In:=D.In++[d]} (DD R d)=dS D (DD R d) from rfl];refine .bind ((XR z.z h (DD R d)).mono λv hv=>?_);cases hx:R.members.get (DD R d) with
  |none=>rw[hx] at hv;subst hv;rw[show decide ((-1:Int)<0)=true from rfl,ax];refine .bind (.bind (.app cq (.bind (.app cq (.some ?_)))));rw[M7];exact .some ⟨AiD (role:=role) h' hx,rfl,by simp;omega,aC,rfl⟩
  |some x=>rw[hx] at hv;obtain⟨k,y,rfl,_⟩:=hv;rw[show decide ((k:Int)<0)=false from Dd aa,Bg];exact .some ⟨h',rfl,by simp;omega,aC,rfl⟩
theorem Aej(h:Rr R D)(hy:D.L[k]?=some y)(hn:y.N=m)(a:y'.N=m):((D.L.set k y').map (·.N)).Nodup:=by grind [List.map_set,Rr.ln]
theorem Aek(h:Rr R D)(a:y'.N=m)(q:Int)(hq:(C7 R.members m x').get q=none)(z:Ef)(hz:z∈D.L.set k y'):z.N≠q:=by grind [BG,Rr.no]
theorem ZI(h:Rr R D)(hy:D.L[k]?=some y)(hn:y.N=m)(a:y'.N=m)(hM:Mr x' y')(q:Int)(z:Az)(hq:(C7 R.members m x').get q=some z):∃y∈D.L.set k y',y.N=q/\Mr z y:=by
 rw[BG] at hq;split at hq
 .rename_i e;cases hq;exact⟨y',bO (i:=k) (by grind),a.trans e.symm,hM⟩
 .rename_i hne;obtain⟨w,hw,b,c⟩:=h.mem q z hq;obtain⟨j,hj⟩:=Hb hw;have hkj:¬k=j:=by grind
  exact⟨w,bO (i:=j) (by grind),b,c⟩
theorem Ael(h:Rr R D){x:Az}(hx:R.members.get m=some x)(hy:D.L[k]?=some y)(hn:y.N=m)(b:y'.N=m)(hM:Mr x' y')(h1:∀a,x'.guard=some a->∃g,x.guard=some g/\a.id=g.id/\a.vouches=g.vouches)(h2:∀g,x.guard=some g->∃a,x'.guard=some a/\a.id=g.id):Rr (HE R m x') {D with L:=D.L.set k y'} where
 card:=h.card
 nd:=h.nd
 in_:=h.in_
 was:=h.was
 w0:=h.w0
 ln:=Aej h hy hn b
 no q hq z hz:=Aek h b q hq z hz
 mem q z hq:=ZI h hy hn b hM q z hq
 vou q z a hq hg':=by grind [BG,Rr.vou]
 vof v hv:=by
  obtain⟨q,z,g,hq,hg,e⟩:=h.vof v hv;by_cases c:q=m
  .subst c;rw[hx] at hq;cases hq;obtain⟨a,e1,e2⟩:=h2 g hg;exact⟨q,x',a,by grind [BG],e1,e.trans e2.symm⟩
  .exact⟨q,z,g,by grind [BG],hg,e⟩
 vnd:=h.vnd
 back:=h.back
theorem AkA(z:Sy D)(h:Rr R D)(o:Bq):T ((dS D o.Member).bind λa=>bif decide (0<=a) then((Bt D.L a).bind λb=>(o6 D.L a ({b with Role:=o.Role})).bind λc=>some ({D with L:=c})) else(some D)) (Rr (Uw R o)):=by
 have d:=z.l;refine .bind ((XR z.z h o.Member).mono λv hv=>?_);unfold Uw;cases hx:R.members.get o.Member with
 |none=>grind [T.some]
 |some x=>rw[hx] at hv;obtain⟨k,y,rfl,hy,hn,hM⟩:=hv;have hk:=(cr hy).1;rw[show decide ((0:Int)<=(k:Int))=true from C6 aa,ax,au,hy,Bp];unfold o6;refine .bind (.bind (.app cq (.bind (.set aa cq (.some (.some ?_))))));rw[M7,Fa];grind [Ael,Mr]
end
section
variable {R:Ad} {D:Dl}
abbrev inF(l:Bj)(d:Int):Bj:=l.filter λx=>decide (x≠d)
abbrev lF(l:List Ef)(m:Int):List Ef:=l.filter λy=>decide (y.N≠m)
def ZJ(l:List Ef)(i:Ab):Bool:=l.any λy=>y.Is&&decide (y.ID=i)
theorem O6{l:List Ef}{i:Ab}:ZJ l i=true↔∃y∈l,y.Is=true/\y.ID=i:=by grind [ZJ]
theorem AkB(z:Sz D)(i:Ab):T (jN D i) λv=>decide (0<=v)=ZJ D.L i:=by grind [T.mono,Akv,O6]
theorem ZK:∀{l:Bj} {d:Int},l.Nodup->d∈l->(inF l d).length+1=l.length
 |[],d,_,h=>by cases h
 |x::r,d,hn,h=>by
  rw[LP] at hn;by_cases e:x=d
  .grind [List.filter_eq_self]
  .have:=ZK hn.2 ((EA.1 h).resolve_left λc=>e c.symm);grind
theorem AiE(h:Rr R D)(hR:Bk R)(hd:d∈D.In):Rr (I1 R d) {D with In:=inF D.In d,Gone:=D.Gone++[d]} where
 card:=h.card
 nd:=by show(inF D.In d++(D.Gone++[d])).Nodup;have h1:=List.nodup_append.1 h.nd;grind
 in_ e:=by grind [Nv,Bk.ci,Rr.in_]
 was e:=by grind [Rr.was]
 w0:=by grind [ZK,Rr.nd,Rr.w0]
 ln:=h.ln
 no:=h.no
 mem:=h.mem
 vou:=h.vou
 vof:=h.vof
 vnd:=h.vnd
 back:=h.back
theorem AiF(h:Rr R D)(hR:Bk R)(m:Int):Rr (R7 R m) {D with L:=lF D.L m,V:=D.V.filter λv=>ZJ (lF D.L m) v.Of}:=by
 have hg:∀k,(R7 R m).members.get k=if k=m then none else R.members.get k:=λk=>Nv hR.cm k
 have hmem:∀y,y∈lF D.L m↔y∈D.L/\y.N≠m:=by grind
 constructor<;>try grind [Rr.nd,Rr.in_,Rr.was,Rr.w0,Rr.ln,Rr.of,Rr.vnd,Rr.back]
 .exact h.card
 .exact(by grind [Rr.mem])
 .exact λk x g hk hgd b d a=>by
   rw[hg] at hk;split at hk
   .cases hk
   .rename_i hne;rw[h.vou k x g hk hgd b d a];obtain⟨y,hy,hn,hm⟩:=h.mem k x hk;have h1:=hm.gd g hgd;have hown:ZJ (lF D.L m) g.id=true:=by grind [O6]
    constructor
    .rintro⟨v,hv,e1,e2⟩;exact⟨v,(by grind),e1,e2⟩
    .rintro⟨v,hv,e⟩;exact⟨v,(Hj.1 hv).1,e⟩
 .exact λv hv=>by obtain⟨y,hy,h1,h2⟩:=O6.1 (Hj.1 hv).2;have c:=(hmem y).1 hy;obtain⟨x,hx,hm⟩:=h.of c.1;cases hgd:x.guard<;>grind [Mr.no,Mr.gd]
theorem AkC(z:Sy D)(d f:Int):T (AB (uj D d f) ([],false,0)) λx=>x=(inF D.In d,(inF D.In d).any λx=>decide (XQ D.Cards x=f)):=by
 have hd:=z.dev;refine T.loop (λs=>∃k:Nat,k<=D.In.length/\s.2.2=(k:Int)/\s.1=inF (D.In.take k) d/\s.2.1=(inF (D.In.take k) d).any λx=>decide (XQ D.Cards x=f)) (λs=>D.In.length-s.2.2.toNat) (by grind) cq ?_;rintro⟨a,b,i⟩ ⟨k,hk,rfl,ha,hb⟩;dsimp only at ha hb;subst ha;unfold uj;dsimp only;rcases HR k D.In.length with hlt|hge
 .obtain⟨x,hx,_⟩:=dk hlt;have hla:(inF (D.In.take k) d).length<=k:=by grind
  simp only[eA hlt,ax,au,hx,Bp,ofE z.z];have ew:=aq (show k<2305843009213693952 by omega);have e:inF (D.In.take (k+1)) d=inF (D.In.take k) d++(if x≠d then[x] else[]):=by unfold inF;rw[Rb hx,RT];by_cases c:x=d<;>simp[c]
  refine .dec (λhc=>?_) λhc=>?_
  .rw[Bz hc] at e;refine .bind (.app cq (.bind (x:=bif b then some true else some (decide (XQ D.Cards x=f))) (T.mono (Q:=λq=>q=(b||decide (XQ D.Cards x=f))) (by cases b<;>exact .some rfl) λq hq=> .some ⟨⟨k+1,aa,ew,e.symm,?_⟩,?_⟩)));all_goals grind
  .rw[BB hc,Nf] at e;refine .some ⟨(by grind),?_⟩;rw[ew];simp;omega
 .obtain rfl:k=D.In.length:=aa;rw[eF,Bg];refine .some (show(_,_)=_ from ?_);rw[hb,EY]
theorem AkD(z:Sy D)(m:Int):T (AB (ui D m) ([],[],0)) λx=>x=(lF D.L m,[]):=by
 have hd:=z.l;refine T.loop (λs=>∃k:Nat,k<=D.L.length/\s.2.2=(k:Int)/\s.1=lF (D.L.take k) m/\s.2.1=[]) (λs=>D.L.length-s.2.2.toNat) (by grind) cq ?_;rintro⟨a,b,i⟩ ⟨k,hk,rfl,ha,hb⟩;dsimp only at ha hb;subst ha;subst hb;unfold ui;dsimp only;rcases HR k D.L.length with hlt|hge
 .obtain⟨x,hx,_⟩:=dk hlt;have hla:(lF (D.L.take k) m).length<=k:=by grind
  simp only[eA hlt,ax,au,hx,Bp];have ew:=aq (show k<2305843009213693952 by omega);have e:lF (D.L.take (k+1)) m=lF (D.L.take k) m++(if x.N≠m then[x] else[]):=by unfold lF;rw[Rb hx,RT];grind
  refine .dec (λhc=>?_) λhc=>?_
  .rw[Bz hc] at e;refine .bind (.app cq (.some ⟨(by grind),?_⟩));rw[ew];simp;omega
  .rw[BB hc,Nf] at e;refine .some ⟨(by grind),?_⟩;rw[ew];simp;omega
 .obtain rfl:k=D.L.length:=aa;rw[eF,Bg];refine .some (show(_,_)=_ from ?_);rw[EY]
theorem AkE{step:List G8×Int->Option ((List G8×Int)⊕List G8)}{V:List G8}{p:G8->Bool}(hn:V.length<=2000)(hs:∀(k:Nat) (v:G8) (acc:List G8),V[k]?=some v->acc.length<=2000->T (step (acc,(k:Int))) λq=>q= .inl (if p v then acc++[v] else acc,wI ((k:Int)+1)))(he:∀acc,step (acc,(V.length:Int))=some (.inr acc)):T (AB step ([],0)) λx=>x=V.filter p:=by
 refine T.forA V.length (λk acc=>acc=(V.take k).filter p) aa aC (λk acc hk hj=>?_) λacc hj=>?_
 .obtain⟨v,hv,_⟩:=dk hk;have hal:acc.length<=k:=by grind
  refine(hs k v acc hv aa).mono λq hq=>?_;subst hq;refine⟨aq aa,?_⟩;dsimp only;rw[Rb hv,RT,<-hj];cases hp:p v<;>simp[hp]
 .rw[he];refine .some (show acc=_ from ?_);rw[hj,EY]
theorem Ah2(z:Sy D)(h:Rr R D)(hR:Bk R)(d:Int):T (sh D d) λD'=>Rr (G4 R d) D'/\Sy D':=by
 have f:=z.dev;have b:=z.l;have a:=z.v;have z4:=z.c;unfold sh G4;rw[inE z.z h,Bp];cases hi:PO R d with
 |false=>exact .some ⟨h,z⟩
 |true=>
  have hd:d∈D.In:=by grind [Rr.ins]
  rw[Bool.not_true,Bg,ax,ofE z.z,Bp,<-h.card];refine .bind ((AkC z d (DD R d)).mono λx hx=>?_);subst hx;have ho:=AiE h hR hd;have hlen:=ZK (List.nodup_append.1 h.nd).1 hd;have hst:LX (I1 R d) (DD R d)=(inF D.In d).any λx=>decide (XQ D.Cards x=DD R d):=by
   unfold LX;rw[Bool.eq_iff_iff,List.any_eq_true,List.any_eq_true];constructor
   .rintro⟨e,he,hc⟩;have hg:=JI (U0 hR.ci) (k:=e.1) (v:=e.2.1) (n:=e.2.2) he;have hge:=ho.in_ e.1;grind [Rr]
   .rintro⟨x,hx,hc⟩;have hge:=ho.in_ x;rw[Bz hx] at hge;obtain⟨n,hn⟩:=Hq hge;grind [Rr]
  refine .bind (.app cq (.bind (.app cq ?_)));rw[M7];dsimp only;rw[hst];cases hb:(inF D.In d).any λx=>decide (XQ D.Cards x=DD R d) with
  |true=>grind [Sy,T.some]
  |false=>
   rw[Bg,Bg];refine .bind ((AkD z (DD R d)).mono λx hx=>?_);subst hx;have hlf:(lF D.L (DD R d)).length<=2000:=JD (KY _ _) b;have hif:(inF D.In d).length<=D.In.length:=KY _ _;refine .bind ((AkE (p:=λv=>ZJ (lF D.L (DD R d)) v.Of) a (λk v acc hv hal=>?_) λacc=>?_).mono λx hx=>?_)
   .have hk:=(cr hv).1;unfold uh;simp only[eA hk,ax,au,hv,Bp];grind [T.bind,T.mono,AkB,Sz,T.app,T.some]
   .grind [uh,eF]
   .subst hx;exact .some ⟨AiF ho (Aae hR d) (DD R d),z4,by simp;omega,hlf,JD (KY _ _) a⟩
end
structure Rq (Q Q':Ad):Prop where
 c:∀d,DD Q' d=DD Q d
 i:∀d,Q'.in_.get d=Q.in_.get d
 w:∀d,Q'.was.get d=Q.was.get d
 n:Q'.was.es.length=Q.was.es.length
 m:∀k,Q'.members.get k=Q.members.get k
 b:Q'.back=Q.back
theorem Rq.rr{Q Q':Ad}{D:Dl}(q:Rq Q Q')(h:Rr Q D):Rr Q' D where
 card d:=(q.c d).trans (h.card d)
 nd:=h.nd
 in_ d:=(q.i d).trans (h.in_ d)
 was d:=(q.w d).trans (h.was d)
 w0:=q.n.trans h.w0
 ln:=h.ln
 no m hm:=h.no m ((q.m m).symm.trans hm)
 mem m x hm:=h.mem m x ((q.m m).symm.trans hm)
 vou m x g hm hg:=by grind [Rr,m]
 vof v hv:=by grind [Rr.vof,m]
 vnd:=h.vnd
 back:=q.b.trans h.back
structure Go (R Q:Ad) (m:Int) (p:Bj):Prop where
 c:∀d,DD Q d=DD R d
 w:Q.was=R.was
 b:Q.back=R.back
 i:∀e,Q.in_.get e=if e∈p then none else R.in_.get e
 m1:p=[]\/(∃e v,Q.in_.get e=some v/\DD R e=m)->∀k,Q.members.get k=R.members.get k
 m2:p≠[]->(∀e v,Q.in_.get e=some v->DD R e≠m)->∀k,Q.members.get k=if k=m then none else R.members.get k
theorem Go.step{R Q:Ad}{m:Int}{p:Bj}{d:Int}(h:Go R Q m p)(hQ:Bk Q)(hp:d∉p)(hi:R.in_.get d=some true)(hm:DD R d=m):Go R (G4 Q d) m (p++[d]):=by
 have hq:Q.in_.get d=some true:=by rw[h.i,BB hp,hi]
 have hin:PO Q d=true:=by unfold PO;rw[hq];rfl
 have ho:∀e,(I1 Q d).in_.get e=if e∈p++[d] then none else R.in_.get e:=by grind [Nv,Bk.ci,i]
 have hst:LX (I1 Q d) (DD Q d)=true↔∃e v,(I1 Q d).in_.get e=some v/\DD R e=m:=by
  unfold LX;rw[List.any_eq_true,h.c,hm];constructor
  .rintro⟨e,he,hc⟩;exact⟨e.1,e.2.1,(by grind [JI,U0,Bk.ci]),(h.c e.1).symm.trans (DP hc)⟩
  .rintro⟨e,v,hg,hc⟩;obtain⟨n,hn⟩:=Hq hg;exact⟨_,hn,C6 ((h.c e).trans hc)⟩
 have a:=h.m1 (.inr ⟨d,true,hq,hm⟩);unfold G4;rw[hin,ax];cases hs:LX (I1 Q d) (DD Q d) with
 |true=>have hx:=hst.1 hs;exact⟨h.c,h.w,h.b,ho,λ_=>a,(by grind)⟩
 |false=>
  have hx:¬∃e v,(I1 Q d).in_.get e=some v/\DD R e=m:=by grind
  refine⟨h.c,h.w,h.b,ho,λc=>?_,λ_ _ k=>?_⟩;all_goals grind [Nv,Bk.cm,c]
theorem Go.fold{R:Ad}{m:Int}:∀{l p:Bj} {Q:Ad},Go R Q m p->Bk Q->(p++l).Nodup->(∀d∈l,R.in_.get d=some true/\DD R d=m)->Go R (l.foldl G4 Q) m (p++l)
 |[],p,Q,h,_,_,_=>by rw[Nf];exact h
 |d::r,p,Q,h,hQ,hn,hl=>by
  have hp:d∉p:=by grind
  have h1:=h.step hQ hp (hl d aC).1 (hl d aC).2;have:=Go.fold (l:=r) h1 (KJ hQ d) (by rw[List.append_assoc];exact hn) (by grind);rw[List.append_assoc] at this;exact this
theorem TG{R:Ad}{m:Int}:∀{l:Bj} {Q:Ad},(∀d,DD Q d=DD R d)->l.foldl (SW m) Q=(l.filter λd=>decide (DD R d=m)).foldl G4 Q
 |[],Q,_=>rfl
 |d::r,Q,h=>by
  have hc:∀e,DD (G4 Q d) e=DD R e:=by grind [G4,DD]
  have e:SW m Q d=bif decide (DD R d=m) then G4 Q d else Q:=by unfold SW;rw[h d]
  rw[List.foldl_cons,e];by_cases c:DD R d=m
  .rw[C6 c,ax,List.filter_cons_of_pos (p:=λd=>decide (DD R d=m)) (C6 c),List.foldl_cons];exact TG hc
  .rw[Dd c,Bg,List.filter_cons_of_neg (p:=λd=>decide (DD R d=m)) (by simpa using c)];exact TG h
section
variable {R:Ad} {D:Dl}
theorem Ah3(l:Bj)(hl:l.length<=2000)(z:Sy D)(h:Rr R D)(hR:Bk R):T (AB (AT l) (D,0)) λD'=>Rr (l.foldl G4 R) D'/\Sy D':=by
 refine(T.forA l.length (λk D'=>Rr ((l.take k).foldl G4 R) D'/\Bk ((l.take k).foldl G4 R)/\Sy D') aa ⟨h,hR,z⟩ (λk D' hk hj=>?_) λD' hj=>?_)
 .obtain⟨x,hx,_⟩:=dk hk;unfold AT;simp only[eA hk,ax,au,hx,Bp];refine .bind ((Ah2 hj.2.2 hj.1 hj.2.1 x).mono λa h2=> .some ⟨aq aa,?_⟩);rw[Rb hx,OO];grind [KJ]
 .unfold AT;dsimp only;rw[eF,Bg];rw[EY] at hj;exact .some ⟨hj.1,hj.2.2⟩
theorem Amr(z:Sy D)(o:Bq){st:Bj×Int->Option ((Bj×Int)⊕Bj)}(hst:st=Pj D o):AB st ([],0)=some (D.In.filter λx=>decide (XQ D.Cards x=o.Member)):=by
 have a:=z.dev;subst hst;refine T.eq (T.forA D.In.length (λk acc=>acc=(D.In.take k).filter λx=>decide (XQ D.Cards x=o.Member)) aa aC (λk acc hk hj=>?_) λacc hj=>?_)
 .obtain⟨x,hx,_⟩:=dk hk;have hal:acc.length<=k:=by grind
  unfold Pj;simp only[eA hk,ax,au,hx,Bp,ofE z.z];have e:(D.In.take (k+1)).filter (λx=>decide (XQ D.Cards x=o.Member))=acc++(if XQ D.Cards x=o.Member then[x] else[]):=by rw[Rb hx,RT,<-hj];grind
  refine .dec (λhc=>?_) λhc=>?_
  .rw[Bz hc] at e;exact .bind (.app cq (.some ⟨aq aa,e.symm⟩))
  .rw[BB hc,Nf] at e;exact .some ⟨aq aa,e.symm⟩
 .unfold Pj;dsimp only;rw[eF,Bg];refine .some (show acc=_ from ?_);rw[hj,EY]
theorem Ams(z:Sy D)(h:Rr R D)(hR:Bk R)(o:Bq):T (AB (AT (D.In.filter λx=>decide (XQ D.Cards x=o.Member))) (D,0)) (Rr (AfF R o)):=by
 have j:=z.dev;have hn:=(List.nodup_append.1 h.nd).1;refine(Ah3 _ (by grind) z h hR).mono λD' hD=>?_;unfold AfF;rw[TG λd=>rfl];obtain⟨m,f,_⟩:=Om hR;generalize hA:(D.In.filter λx=>decide (XQ D.Cards x=o.Member))=A at hD;generalize hB:((JJ R).filter λd=>decide (DD R d=o.Member))=B;have hAB:∀e,e∈A↔e∈B:=λe=>by
  rw[<-hA,<-hB,Hj,Hj,f.mem_iff,h.card];refine and_congr ?_ Iff.rfl;have hi:=h.in_ e;constructor
  .grind [Hq]
  .intro he;obtain⟨q,hq,rfl⟩:=Fm.1 he;have hg:=JI hR.ci (k:=q.1) (v:=q.2.1) (n:=q.2.2) hq;grind
 have hin:∀d∈A,R.in_.get d=some true/\DD R d=o.Member:=by grind [Rr.in_]
 have h0:Go R R o.Member []:=by constructor<;>grind
 have gA:=Go.fold (l:=A) h0 hR (by rw[M7,<-hA];exact hn.sublist List.filter_sublist) hin;have gB:=Go.fold (l:=B) h0 hR (by rw[M7,<-hB];exact((f.nodup_iff.2 hR.ci.kd).sublist List.filter_sublist)) λd hd=>hin d ((hAB d).2 hd);rw[M7] at gA gB;have hfin:∀{Q:Ad} {p:Bj},(∀e,e∈p↔e∈A)->Go R Q o.Member p->∀k,Q.members.get k=if A=[] then R.members.get k else if k=o.Member then none else R.members.get k:=λ{Q p} hp g k=>by
  by_cases c:A=[]
  .have hp0:p=[]:=by
    cases p with
    |nil=>rfl
    |cons a r=>have:=(hp a).1 aC;rw[c] at this;cases this
   grind [Go.m1]
  .rw[BB c];have hp0:p≠[]:=λe=>by
    cases hA':A with
    |nil=>exact c hA'
    |cons a r=>have:=(hp a).2 (by rw[hA'];simp);rw[e] at this;cases this
   refine g.m2 hp0 (λe v he hc=>?_) k;grind [Go.i,Rr.in_,Rr.card]
 have q:Rq (A.foldl G4 R) (B.foldl G4 R):=⟨(by grind [Go]),λd=>by rw[gA.i,gB.i];simp only[hAB],λd=>by rw[gA.w,gB.w],by rw[gA.w,gB.w],(by grind),by rw[gA.b,gB.b]⟩;exact q.rr hD.1
end
section
variable {R:Ad} {D:Dl}
def NoG(R:Ad)(i:Ab):Prop:=∀q z g,R.members.get q=some z->z.guard=some g->g.id≠i
theorem AiG{l:List Ef}{z:Ef}(hz:z∈l.set k y'):z=y'\/∃j,j≠k/\l[j]?=some z:=by grind [Hb]
theorem AiH(h:Rr R D){x:Az}{g:CD}{i:Ab}(hx:R.members.get m=some x)(hy:D.L[k]?=some y)(hn:y.N=m)(f:y'.N=m)(hM:Mr x' y')(hg:x'.guard=some g)(hi:g.id=i)(he:∀q,g.vouches.get q=none)(hf:NoG R i):Rr (HE R m x') {D with L:=D.L.set k y',V:=D.V.filter λv=>ZJ (D.L.set k y') v.Of} where
 card:=h.card
 nd:=h.nd
 in_:=h.in_
 was:=h.was
 w0:=h.w0
 ln:=Aej h hy hn f
 no q hq z hz:=Aek h f q hq z hz
 mem q z hq:=ZI h hy hn f hM q z hq
 vou q z g' hq hg':=by
  have hz:∃w∈D.L.set k y',w.N=q/\Mr z w:=ZI h hy hn f hM q z hq;have hq:(C7 R.members m x').get q=some z:=hq;intro b d a;rw[BG] at hq;split at hq
  .cases hq;rw[hg] at hg';cases hg';rw[he];constructor
   .intro c;cases c
   .rintro⟨v,hv,e1,_⟩;obtain⟨l,n,g2,k1,k2,k3⟩:=h.vof v (Hj.1 hv).1;exact absurd (k3.symm.trans (e1.trans hi)) (hf l n g2 k1 k2)
  .rw[h.vou q z g' hq hg'];obtain⟨w,hw,_,hm⟩:=hz;have h1:=hm.gd g' hg';have hown:ZJ (D.L.set k y') g'.id=true:=by grind [O6]
   constructor
   .rintro⟨v,hv,e1,e2⟩;exact⟨v,(by grind),e1,e2⟩
   .rintro⟨v,hv,e⟩;exact⟨v,(Hj.1 hv).1,e⟩
 vof v hv:=by
  obtain⟨w,hw,h1,h2⟩:=O6.1 (Hj.1 hv).2;obtain⟨l,n,g2,k1,k2,k3⟩:=h.vof v (Hj.1 hv).1;rcases AiG hw with rfl|⟨j,hj,o⟩
  .have:=(hM.gd g hg).2.1;exact absurd (by grind) (hf l n g2 k1 k2)
  .obtain⟨z,hz,hm⟩:=h.of (bO o);have hne:w.N≠m:=λc=>by
    have e1:(D.L.map (·.N))[j]?=some m:=by grind
    have e2:(D.L.map (·.N))[k]?=some m:=by grind
    exact hj (MT h.ln e1 e2)
   cases hgd:z.guard with
   |none=>rw[hm.no hgd] at h1;cases h1
   |some p=>exact⟨w.N,z,p,by grind [BG],hgd,by grind [Mr.gd]⟩
 vnd:=h.vnd.sublist (List.filter_sublist.map _)
 back:=h.back
theorem Amu(z:Sy D)(h:Rr R D){i:Ab}(hf:NoG R i):T (o7 D o i) (Rr (Aaj R o i)):=by
 have b:=z.l;have a:=z.v;have z4:=z.c;have d:=z.dev;unfold o7 Aaj;rw[ofE z.z,Bp,<-h.card];refine .bind ((XR z.z h (DD R o.By)).mono λv hv=>?_);cases hx:R.members.get (DD R o.By) with
 |none=>grind [T.some]
 |some x=>
  rw[hx] at hv;obtain⟨k,y,rfl,hy,hn,hM⟩:=hv;have hk:=(cr hy).1;rw[show decide ((k:Int)<0)=false from Dd aa,Bg,au,hy,Bp,Bp];unfold o6;refine .bind (.bind (.app cq (.bind (.set aa cq (.some ?_)))));rw[M7,Fa];refine .bind ((AkE (p:=λv=>ZJ (D.L.set k ⟨y.N,y.Role,true,i,o.Guards,o.Need,o.Wait,false,0⟩) v.Of) a (λj v acc hv hal=>?_) λacc=>?_).mono λq hq=>?_)
  .have hj:=(cr hv).1;unfold ni;simp only[eA hj,ax,au,hv,Bp];grind [T.bind,T.mono,AkB,Sz,T.app,T.some]
  .grind [ni,eF]
  .subst hq;refine .some (AiH h hx hy hn hn ⟨hM.role,λc=>(by cases c),λg hg=>?_⟩ rfl rfl (λq=>rfl) hf);cases hg;exact⟨rfl,rfl,rfl,rfl,rfl,rfl,rfl⟩
def Jn(o:Bq)(v:G8):Bool:=decide (v.Of=o.Of)&&(decide (v.By=o.By)&&decide (v.Device=o.Device))
theorem Aem{v:G8}:Jn o v=true↔v.Of=o.Of/\v.By=o.By/\v.Device=o.Device:=by grind [Jn]
theorem Amv(z:Sy D)(h:Rr R D)(o:Bq):T (AB (nj D o) (o.At,[],0)) λx=>x.2=D.V.filter (λv=> !Jn o v)/\((x.1=o.At/\∀v∈D.V,Jn o v=false)\/∃v∈D.V,Jn o v=true/\x.1=iI o.At v.At):=by
 have a:=z.v;refine T.loop (λs=>∃k:Nat,k<=D.V.length/\s.2.2=(k:Int)/\s.2.1=(D.V.take k).filter (λv=> !Jn o v)/\((s.1=o.At/\∀v∈D.V.take k,Jn o v=false)\/∃(j:Nat) (v:G8),j<k/\D.V[j]?=some v/\Jn o v=true/\s.1=iI o.At v.At)) (λs=>D.V.length-s.2.2.toNat) (by grind) cq ?_;rintro⟨b,acc,i⟩ ⟨k,hk,rfl,ha,hm⟩;dsimp only at ha hm;subst ha;unfold nj;dsimp only;rcases HR k D.V.length with hlt|hge
 .obtain⟨v,hv,_⟩:=dk hlt;have hla:((D.V.take k).filter (λv=> !Jn o v)).length<=k:=by grind
  have ew:=aq (show k<2305843009213693952 by omega);have e:(D.V.take (k+1)).filter (λv=> !Jn o v)=(D.V.take k).filter (λv=> !Jn o v)++(if Jn o v=true then[] else[v]):=by rw[Rb hv,RT];cases c:Jn o v<;>simp[c]
  simp only[eA hlt,ax,au,hv,Bp];refine .bind (T.mono (Q:=λq=>q=Jn o v) (by grind [Jn,T.some]) λq hq=>?_)
  subst hq;cases c:Jn o v with
  |true=>
   rw[c,Bz rfl,Nf] at e;rw[ax];refine .some ⟨⟨k+1,aa,ew,e.symm,.inr ⟨k,v,aa,hv,c,?_⟩⟩,by rw[ew];simp;omega⟩;rcases hm with⟨rfl,_⟩|⟨j,w,hj,hw,hc,_⟩
   .rfl
   .have kc:∀u:G8,Jn o u=true->(u.Of,u.By,u.Device)=(o.Of,o.By,o.Device):=by grind [Jn]
    have e1:(D.V.map λv=>(v.Of,v.By,v.Device))[j]?=some (o.Of,o.By,o.Device):=by grind
    have e2:(D.V.map λv=>(v.Of,v.By,v.Device))[k]?=some (o.Of,o.By,o.Device):=by grind
    have:=MT h.vnd e1 e2;omega
  |false=>rw[c,BB aC] at e;rw[Bg];refine .bind (.app cq (.some ⟨⟨k+1,aa,ew,e.symm,?_⟩,by rw[ew];simp;omega⟩));grind [Rb]
 .obtain rfl:k=D.V.length:=aa;rw[eF,Bg];rw[EY] at hm⊢;refine .some ⟨rfl,?_⟩;grind
theorem Aen(h:Rr R D)(hR:Bk R){x:Az}{g g2:CD}{a:Int}{M:FM Int Az}(hx:R.members.get m=some x)(hg:x.guard=some g)(hid:g.id=o.Of)(e2:∀y,Mr x y->Mr ⟨x.role,some g2⟩ y)(ei:g2.id=g.id)(hM:∀q,M.get q=if q=m then some ⟨x.role,some g2⟩ else R.members.get q)(hv:∀q,g2.vouches.get q=if q=Wx o then some a else g.vouches.get q):Rr {R with members:=M} {D with V:=D.V.filter (λv=> !Jn o v)++[⟨o.Of,o.By,o.Device,a⟩]} where
 card:=h.card
 nd:=h.nd
 in_:=h.in_
 was:=h.was
 w0:=h.w0
 ln:=h.ln
 no q hq y hy:=by grind [Rr.no]
 mem q z hq:=by grind [Rr.mem]
 vou q z g' hq hg':=by
  have hq:M.get q=some z:=hq;intro b d c;have hkb:∀v:G8,(!Jn o v)=true↔¬(v.Of=o.Of/\v.By=o.By/\v.Device=o.Device):=by grind [Aem]
  have hV:∀i,Ags (D.V.filter (λv=> !Jn o v)++[⟨o.Of,o.By,o.Device,a⟩]) i b d c↔(i=o.Of/\b=o.By/\d=o.Device/\c=a)\/(¬(i=o.Of/\b=o.By/\d=o.Device)/\Ags D.V i b d c):=λi=>by
   constructor
   .rintro⟨v,hv,e1,e2,e3,e4⟩;rcases HU.1 hv with hv|hv
    .rw[Hj,hkb,e1,e2,e3] at hv;exact .inr ⟨hv.2,v,hv.1,e1,e2,e3,e4⟩
    grind
   .rintro(⟨rfl,rfl,rfl,rfl⟩|⟨hne,v,hv,e1,e2,e3,e4⟩)
    .exact⟨_,HU.2 (.inr (List.mem_singleton.2 rfl)),rfl,rfl,rfl,rfl⟩
    .exact⟨v,(by grind),e1,e2,e3,e4⟩
  show _↔Ags (D.V.filter (λv=> !Jn o v)++[⟨o.Of,o.By,o.Device,a⟩]) g'.id b d c;rw[hV];rw[hM] at hq;split at hq
  .grind [Rr.vou]
  .rename_i hne;rw[h.vou q z g' hq hg'];have hd:g'.id≠o.Of:=by grind [Bk]
   grind
 vof v e:=by grind [Rr.vof]
 vnd:=by show((D.V.filter (λv=> !Jn o v)++[(⟨o.Of,o.By,o.Device,a⟩:G8)]).map λv=>(v.Of,v.By,v.Device)).Nodup;rw[List.map_append,EZ,List.map_nil,List.perm_append_comm.nodup_iff,List.singleton_append,LP];refine⟨λhh=>?_,h.vnd.sublist (List.filter_sublist.map _)⟩;grind [Jn]
 back:=h.back
theorem Amw(z:Sy D)(h:Rr R D)(hR:Bk R)(o:Bq):T (o8 D o) (Rr (X3 R o)):=by
 have c:=z.v;unfold o8;refine .bind ((Zv z.z h hR o).mono λv hv=>?_);rw[hv.1];cases hf:R.members.es.find? λe=>Lv e.2.1 o.Of with
 |none=>grind [Dk,X3,T.some]
 |some e=>
  obtain⟨hx,_⟩:=hR.mem (List.mem_of_find?_eq_some hf);have hge:Lv e.2.1 o.Of=true:=by have:=List.find?_some hf;exact this
  obtain⟨q,⟨role,gd⟩,n⟩:=e;dsimp only at hx hge;cases gd with
  |none=>cases hge
  |some g=>
  have hid:g.id=o.Of:=DP hge;have e1:Dk R o=bif g.guards.any (λy=>decide (o.By=y)) then(q,0) else(0,14):=by unfold Dk;rw[hf]
  have e2:X3 R o=bif(g.guards.any λy=>decide (o.By=y))&&Aai g o then HE R q ⟨role,some (Acm g o)⟩ else R:=by unfold X3;rw[hf]
  rw[e1,e2];cases hb:g.guards.any λy=>decide (o.By=y) with
  |false=>exact .some h
  |true=>
  rw[ax,Bool.true_and];refine .bind ((Amv z h o).mono λx hx2=>?_);obtain⟨b,V'⟩:=x;obtain⟨h1,h2⟩:=hx2;dsimp only at h1 h2;subst h1;have hfl:(D.V.filter λv=> !Jn o v).length<=D.V.length:=KY _ _;refine .bind (.app cq (.some ?_));have key:∀a,g.vouches.get (Wx o)=some a↔∃v∈D.V,Jn o v=true/\v.At=a:=λa=>by
   rw[show Wx o=⟨o.By,o.Device⟩ from rfl,h.vou q _ g hx rfl];constructor
   .rintro⟨v,hv,k1,k2,k3,d⟩;grind [Jn]
   .rintro⟨v,hv,k1,k2⟩;unfold Jn at k1;simp only[bA,decide_eq_true_eq] at k1;exact⟨v,hv,k1.1.trans hid.symm,k1.2.1,k1.2.2,k2⟩
  have keep:g.vouches.get (Wx o)=some b->Rr R {D with V:=D.V.filter (λv=> !Jn o v)++[⟨o.Of,o.By,o.Device,b⟩]}:=λhk=>Aen (M:=R.members) (g2:=g) (a:=b) h hR hx rfl hid (λy hy=>hy) rfl (by grind) (by grind);have new:b=o.At->Rr (HE R q ⟨role,some (Acm g o)⟩) {D with V:=D.V.filter (λv=> !Jn o v)++[⟨o.Of,o.By,o.Device,b⟩]}:=λhk=>Aen (M:=C7 R.members q ⟨role,some (Acm g o)⟩) (g2:=Acm g o) (a:=b) h hR hx rfl hid (by grind [Mr]) rfl (λp=>by rw[BG]) (by grind [BG]);cases hg:g.vouches.get (Wx o) with
  |none=>
   have hN:Aai g o=true:=by unfold Aai;rw[hg]
   rw[hN];rcases h2 with⟨h2,_⟩|⟨v,hv,h3,h4⟩
   .exact new h2
   .have:=(key v.At).2 ⟨v,hv,h3,rfl⟩;rw[hg] at this;cases this
  |some a=>
   have hN:Aai g o=decide (o.At<a):=by unfold Aai;rw[hg]
   obtain⟨w,hw,k1,k2⟩:=(key a).1 hg;have hmn:b=iI o.At a:=by
    rcases h2 with⟨_,h2⟩|⟨v,hv,h3,h4⟩
    .rw[h2 w hw] at k1;cases k1
    .have:=(key v.At).2 ⟨v,hv,h3,rfl⟩;grind
   grind [iI]
end
section
variable {R:Ad} {D:Dl}
theorem Amx(z:Sy D)(h:Rr R D)(hR:Bk R)(o:Bq):T ((bif decide (0<ah D.In) then(some true) else(bif decide (0<ah D.Gone) then(some true) else((gE D o.By).bind λa=>some (decide (a=0))))).bind λb=>bif b then(some D) else((nX D o.By 3).bind λc=>some ({c with Back:=o.Need}))) (Rr (Abt R o)):=by
 have hw:=h.w0;unfold Abt;rw[ofE z.z,<-h.card,Bp];unfold ah;rcases Nat.eq_zero_or_pos D.In.length with c1|c1
 .rcases Nat.eq_zero_or_pos D.Gone.length with c2|c2
  .have hi:D.In=[]:=List.eq_nil_of_length_eq_zero c1;have hg:D.Gone=[]:=List.eq_nil_of_length_eq_zero c2;have hf:D5 R o.By=decide (0<DD R o.By):=by grind [Rr.was,D5,Hw]
   rw[c1,c2,hw,c1,c2,hf];have h0:=(hR.c3 o.By).1;have h0:0<=DD R o.By:=h0;rw[show decide ((0:Int)<((0:Nat):Int))=false from rfl,Bg,Bg,Bp,show decide ((((0+0:Nat)):Int)=0)=true from rfl,Bool.true_and];by_cases c3:DD R o.By=0
   .rw[C6 c3,c3];exact .some h
   .rw[Dd c3,show decide (0<DD R o.By)=true from C6 aa,Bg,ax];refine .bind ((AbT z h hR o.By 3).mono λD' hD=> .some ?_);have h1:=hD.1;exact⟨h1.card,h1.nd,h1.in_,h1.was,h1.w0,h1.ln,h1.no,h1.mem,h1.vou,h1.vof,h1.vnd,rfl⟩
  grind [T.some]
 grind [T.some]
theorem Amy(z:Sy D)(h:Rr R D)(o:Bq){a:Int}(hv:match R.members.get (DD R o.By) with
  |none=>a= -1
  |some x=>∃(k:Nat) (y:Ef),a=(k:Int)/\D.L[k]?=some y/\y.N=DD R o.By/\Mr x y):T ((bif decide (0<=a) then((Bt D.L (Fo a 0)).bind λc=>bif c.Is then((Bt D.L (Fo a 0)).bind λd=>some (decide (d.ID=o.Of))) else(some false)) else(some false)).bind λf=>bif f then((Bt D.L a).bind λb=>(o6 D.L a ({b with Objected:=true,Last:=Fo b.Last o.At})).bind λi=>some ({D with L:=i})) else(some D)) (Rr (Ww R o)):=by
 have j:=z.l
 cases hx:R.members.get (DD R o.By) with
 |none=>
  grind [Ww,T.some]
 |some x=>
  rw[hx] at hv
  obtain⟨k,y,rfl,hy,hn,hM⟩:=hv
  have hk:=(cr hy).1
  have hmx:Fo (k:Int) 0=(k:Int):=by unfold Fo;rw[BB aa]
  rw[show decide ((0:Int)<=(k:Int))=true from C6 aa,ax,hmx,au,hy,Bp,Bp]
  obtain⟨role,gd⟩:=x
  cases gd with
  |none=>
   grind [Ww,Mr.no,T.some]
  |some g=>
   have h1:=hM.gd g rfl
   have e:Ww R o=bif decide (g.id=o.Of) then HE R (DD R o.By) ⟨role,some {g with objected:=true,last:=Fo g.last o.At}⟩ else R:=by unfold Ww;rw[hx]
   rw[e,h1.1,h1.2.1,ax,Bp]
   cases decide (g.id=o.Of) with
   |false=>exact .some h
   |true=>
    rw[ax,ax,Bp]
    unfold o6
    refine .bind (.bind (.app cq (.bind (.set aa cq (.some (.some ?_))))))
    rw[M7,Fa]
    refine Ael h hx hy hn hn (by grind [Mr]) (λm hg'=>?_) (by grind)
    all_goals grind
theorem Amz(z:Sy D)(hb:D.In.length+D.Gone.length<=1999/\D.L.length<=1999)(h:Rr R D)(hR:Bk R)(o:Bq):T ((jN D o.Of).bind λb=>(bif decide (0<=b) then((fb D.In o.Old).bind λj=>bif j then((gE D o.Old).bind λm=>(Bt D.L (Fo b 0)).bind λn=>bif decide (m=n.N) then((gE D o.Device).bind λp=>(Bt D.L (Fo b 0)).bind λq=>some (decide (p=q.N))) else(some false)) else(some false)) else(some false)).bind λr=>bif r then((gE D o.Device).bind λd=>(se D d).bind λf=>(nX D o.Device f).bind λi=>(sh i o.Old).bind λa=>some a) else(some D)) (Rr (Aak R o)):=by
 refine .bind ((Akw z.z h hR o.Of).mono λv hv=>?_);have fin:T (bif Acn R o then((gE D o.Device).bind λd=>(se D d).bind λf=>(nX D o.Device f).bind λi=>(sh i o.Old).bind λa=>some a) else(some D)) (Rr (Aak R o)):=by
  unfold Aak;cases Acn R o with
  |false=>exact .some h
  |true=>rw[ax,ax,ofE z.z,Bp,<-h.card,Ah1 z.z h,Bp];refine .bind ((AbT z h hR _ _).mono λD' hD=>?_);have g1:=hD.2.dev;have g2:=hD.2.l;refine .bind (by grind [T.mono,Ah2,Sy,Gw.c,Gw.v,IX,T.some])
 cases hf:R.members.es.find? λe=>Lv e.2.1 o.Of with
 |none=>grind [Acn,Hp]
 |some e=>
  rw[hf] at hv;obtain⟨k,y,g,rfl,hy,hn,_,_,_,hx⟩:=hv;have hw:Hp R o.Of=e.1:=by unfold Hp;rw[hf]
  have h3:=hR.m3 e (List.mem_of_find?_eq_some hf);have hB:Acn R o=bif PO R o.Old then(bif decide (DD R o.Old=e.1) then decide (DD R o.Device=e.1) else false) else false:=by grind [Acn]
  have hmx:Fo (k:Int) 0=(k:Int):=by unfold Fo;rw[BB aa]
  rw[show decide ((0:Int)<=(k:Int))=true from C6 aa,ax,inE z.z h,Bp,hmx,au,hy];grind [ofE,Sy.z,Rr.card]
theorem doE(z:Sy D)(hb:D.In.length+D.Gone.length<=1999/\D.L.length<=1999)(h:Rr R D)(hR:Bk R){o:Bq}{i:Ab}(hf:o.Kind=9->NoG R i):T (DM D o i) (Rr (U2 R o i)):=by
 unfold DM;refine .eqb (ofE z.z o.By) ?_;rw[<-h.card];refine .bind ((XR z.z h (DD R o.By)).mono λa hv=>?_);unfold U2;refine .dec (λk1=>?_) λk1=>?_
 .grind [Amx]
 rw[BB k1];refine .dec (λk2=>?_) λk2=>?_
 .rw[Bz k2];exact .bind (by grind [T.mono,AbT,T.some])
 rw[BB k2];refine .dec (λk3=>?_) λk3=>?_
 .rw[Bz k3];by_cases c:o.Device=0
  .rw[Bz c,C6 c,ax,Amr z o rfl,Bp,Bp];exact .bind ((Ams z h hR o).mono λD' hD=> .some hD)
  .rw[BB c,Dd c,Bg,Bp];exact .bind (by grind [T.mono,Ah3,T.some])
 rw[BB k3];refine .dec (λk5=>?_) λk5=>?_
 .rw[Bz k5];exact AkA z h o
 rw[BB k5];refine .dec (λk9=>?_) λk9=>?_
 .grind [Amu]
 grind [Amw,T.some,Amy,Amz]
theorem AkF(hc:∀d,DD (Hf cs) d=XQ cs d):T (AV cs) (Rr (Hf cs)):=by
 refine .some ⟨hc,.nil,λd=>?_,λd=>?_,rfl,.nil,(by grind),λm x hm=>(by cases hm),λm x g hm=>(by cases hm),λv hv=>(by cases hv),.nil,rfl⟩
 .rw[BB aC];rfl
 .rw[BB aC];rfl
end
theorem T.and{α:Type}{x:Option α}{P Q:α->Prop}(h1:T x P)(h2:T x Q):T x λv=>P v/\Q v:=by obtain⟨v,e,p⟩:=h1;obtain⟨w,e2,q⟩:=h2;rw[e] at e2;cases e2;exact⟨v,e,p,q⟩
def Gs(R:Ad)(S:Bf):Prop:=∀q z g,R.members.get q=some z->z.guard=some g->g.id∈S
section
variable {R:Ad} {S:Bf}
theorem Gs.up(h:Gs R S)(i:Ab):Gs R (S++[i]):=λq z g h1 h2=>by simp[h q z g h1 h2]
theorem Vb(h:Gs R S){M:FM Int Az}{k:Int}{x:Az}(hM:∀q,M.get q=if q=k then some x else R.members.get q)(hx:∀g,x.guard=some g->g.id∈S){Q:Ad}(hQ:Q.members=M):Gs Q S:=λq z g h1 h2=>by
 rw[hQ,hM] at h1;split at h1
 .cases h1;exact hx g h2
 .exact h q z g h1 h2
theorem Vc(h:Gs R S)(d role:Int):Gs (I9 R d role) S:=by
 unfold I9;cases D5 R d with
 |false=>exact h
 |true=>
  cases hm:(R.members.get (DD R d)).isSome with
  |true=>exact λq z g h1 h2=>h q z g (by grind) h2
  |false=>exact Vb h (M:=C7 R.members (DD R d) ⟨role,none⟩) (λq=>BG _ q) (λg hg=>by cases hg) (by rw[ax];simp[hm])
theorem ZL(h:Gs R S)(hR:Bk R)(d:Int):Gs (G4 R d) S:=by
 unfold G4;cases PO R d with
 |false=>exact h
 |true=>
  cases LX (I1 R d) (DD R d) with
  |true=>exact h
  |false=>
   intro q z g h1 h2;have h1:(R8 R.members (DD R d)).get q=some z:=h1;rw[Nv hR.cm] at h1;split at h1
   .cases h1
   .exact h q z g h1 h2
theorem AiI(h:Gs R S)(hR:Bk R)(m:Int):∀l:Bj,Gs (l.foldl (SW m) R) S:=λl=>by induction l generalizing R<;>grind [Adi,SW,ZL]
theorem Ah4(h:Gs R S)(hR:Bk R)(o:Bq)(i:Ab):Gs (U2 R o i) (S++[i]):=by
 unfold U2;split
 .unfold Abt;cases decide ((R.was.es.length:Int)=0)&&D5 R o.By with
  |false=>exact h.up i
  |true=>exact(Vc h o.By 3).up i
 split
 .exact(Vc h _ _).up i
 split
 .split
  .exact(AiI h hR _ _).up i
  .exact(ZL h hR _).up i
 split
 .refine Gs.up ?_ i;unfold Uw;split
  .exact h
  .rename_i x hx;exact Vb h (x:=⟨o.Role,x.guard⟩) (λq=>BG _ q) (λg hg=>h _ x g hx hg) rfl
 split
 .unfold Aaj;split
  .exact h.up i
  .exact Vb (h.up i) (λq=>BG _ q) (by grind) rfl
 split
 .refine Gs.up ?_ i;unfold X3;split
  .rename_i k role g n hf;have hx:=(hR.mem (List.mem_of_find?_eq_some hf)).1;cases(g.guards.any λy=>decide (o.By=y))&&Aai g o with
   |false=>exact h
   |true=>exact Vb h (λq=>BG _ q) (λa hg=>by cases hg;exact h _ _ g hx rfl) rfl
  .exact h
 split
 .refine Gs.up ?_ i;unfold Ww;split
  .rename_i role g hx;cases decide (g.id=o.Of) with
   |false=>exact h
   |true=>exact Vb h (λq=>BG _ q) (λa hg=>by cases hg;exact h _ _ g hx rfl) rfl
  .exact h
 grind [Gs.up,Aak,ZL,Vc,IX]
end
structure Pg (g:Ba) (m:JN) (N:JL):Prop where
 w:Fs g
 p:N8 g m N
 od:∀(i:Nat) (o:Bq) (x:Ab),g.L[i]?=some o->g.IDs[i]?=some x->WA o x
 dv:∀(i:Nat) (o:Bq) (x:Ab),g.L[i]?=some o->g.IDs[i]?=some x->∃c∈g.Cards,c.Device=o.By
 cd:AdY g.Cards
 cn:(g.Cards.map (·.Device)).Nodup
section
variable {g:Ba} {m:JN} {N:JL} (P:Pg g m N)
include P
theorem Pg.op{i:Nat}{o:Bq}{x:Ab}(ho:g.L[i]?=some o)(hx:g.IDs[i]?=some x):(CA g m N).op x=some o/\(CA g m N).o x=o:=by
 have e:(CA g m N).op x=some o:=by rw[Af0 P.w P.p,NR P.w hx];exact ho
 grind [Gi.o]
theorem Pg.bef{i k:Nat}{x y:Ab}(hx:g.IDs[i]?=some x)(hy:g.IDs[k]?=some y):(CA g m N).bef x y=QN g k i:=by rw[AcD P.w P.p,NR P.w hx,NR P.w hy]
theorem Pg.new(d:Int):DD (Hf g.Cards) d=XQ g.Cards d:=by
 have key:∀(l:Md) (M:FM Int DS),(l.map (·.Device)).Nodup->(∀c∈l,M.get c.Device=none)->(l.foldl (λm c=>C7 m c.Device c) M).get d=match l.find? λc=>decide (c.Device=d) with|some c=>some c|none=>M.get d:=by
  intro l;induction l with
  |nil=>exact λM _ _=>rfl
  |cons c r ih=>grind [BG]
 unfold DD XQ Hf Ajw;rw[key g.Cards ⟨[],0⟩ P.cn λc _=>rfl];cases g.Cards.find? λc=>decide (c.Device=d)<;>rfl
theorem AaS{D:Dl}(h:Jq g n D)(hn:n<=1000):Sy D:=by grind [Pg,Jq,Sy,Fs.nC]
theorem AmB{l:Bj}(hi:EF g l)(hl:l.length<=1000)(hnd:(I6 g l).Nodup){id:Ab}(hk:g.IDs[k]?=some id):T (Fg g l (k:Int)) λD=>Rr (WE (CA g m N) (I6 g l) id) D/\Bk (WE (CA g m N) (I6 g l) id)/\Jq g 1000 D:=by
 have w:=P.w;have nL:=w.nL;have nI:=w.nI;have hkl:k<g.L.length:=by grind
 obtain⟨d,e0,f⟩:=AkF (P.new);unfold Fg;rw[e0,Bp];have hD0:d=⟨g.Cards,[],[],[],0,[]⟩:=(A9 e0).symm;subst hD0;refine .bind (T.mono (Q:=λD=>Rr (WE (CA g m N) (I6 g l) id) D/\Bk (WE (CA g m N) (I6 g l) id)/\Jq g 1000 D) (T.forA l.length (λj D=>(Rr (((I6 g l).take j).foldl (S9 (CA g m N) id) (Hf g.Cards)) D/\Bk (((I6 g l).take j).foldl (S9 (CA g m N) id) (Hf g.Cards))/\Gs (((I6 g l).take j).foldl (S9 (CA g m N) id) (Hf g.Cards)) ((I6 g l).take j))/\Jq g j D) aa ⟨⟨f,LC P.cd.r,λq z g h=>by cases h⟩,Mv g⟩ (λj D hj hr=>?_) λD hr=>?_) λD hr=> .some hr)
 .obtain⟨y,hy,hm⟩:=dk hj;obtain⟨i,x,rfl,hil,hx,a⟩:=O5 w hi hy;obtain⟨o,ho,so,t⟩:=w.op hil;obtain⟨row,b,hrow,hb⟩:=w.cell hkl hil;obtain⟨⟨h1,h2,h3⟩,h4⟩:=hr;have hod:=P.od i o x ho hx;have c:=(P.op ho hx).2;have hbf:(CA g m N).bef x id=b:=by rw[P.bef hx hk];grind [QN]
  have et:((I6 g l).take (j+1)).foldl (S9 (CA g m N) id) (Hf g.Cards)=bif b then U2 (((I6 g l).take j).foldl (S9 (CA g m N) id) (Hf g.Cards)) o x else((I6 g l).take j).foldl (S9 (CA g m N) id) (Hf g.Cards):=by rw[Rb a,OO,List.foldl_cons,List.foldl_nil];unfold S9;rw[hbf,c]
  have hxS:x∉(I6 g l).take j:=by grind [Hb,MT]
  rw[et,Rb a];generalize ((I6 g l).take j).foldl (S9 (CA g m N) id) (Hf g.Cards)=R at h1 h2 h3⊢;unfold xx;simp only[eA hj,ax,au,hy,ho,hx,hrow,hb,Bp];have z:=AaS P h4 aa;have p:=h4.dev;have s:=h4.nL;cases b with
  |true=>exact .bind ((T.and (doE z ⟨aa,aa⟩ h1 h2 λ_ q z n k1 k2 e=>by have:=h3 q z n k1 k2;rw[e] at this;exact hxS this) (Gc w aa h4 so x)).mono λv hv=> .some (by constructor<;>grind [aq,RG,Ah4]))
  |false=>exact .some (by constructor<;>grind [aq,Gs.up,Jq.up])
 .unfold xx;dsimp only;rw[eF,Bg];have hl2:(I6 g l).length=l.length:=Ht ..;rw[<-hl2,EY] at hr;exact .some ⟨hr.1.1,hr.1.2.1,hr.2.up aa⟩
end
structure Lr (g:Ba) (dl:JW) (al:A3):Prop where
 row:EF g dl.Row
 nm:I6 g dl.Row=al.row
 nd:al.row.Nodup
 nr:dl.Row.length<=1000
 nv:dl.Void.length=g.L.length
 nc:dl.Decided.length=g.L.length
 vd:∀(p:Nat) (x:Ab),g.IDs[p]?=some x->dl.Void[p]?=some (Bc (al.void.get x))
section
variable {g:Ba} {m:JN} {N:JL} (P:Pg g m N)
include P
theorem Ah5(h:Lr g dl al):T (Sg g dl) λr=>EF g r/\r.length<=1000/\I6 g r=JV (CA g m N) al/\(I6 g r).Sublist al.row:=by
 have w:=P.w;have nL:=w.nL;have hr:=h.nr;unfold Sg JV;refine .bind (T.mono (Q:=λr=>EF g r/\r.length<=1000/\I6 g r=al.row.foldl (Lx (CA g m N) al.void) []/\(I6 g r).Sublist al.row) (T.forA dl.Row.length (λj r=>EF g r/\r.length<=j/\I6 g r=(al.row.take j).foldl (Lx (CA g m N) al.void) []/\(I6 g r).Sublist (al.row.take j)) aa ⟨.nil,aC,by simp[I6],by simp[I6]⟩ (λk acc hk hj=>?_) λr a=>?_) λr a=> .some a)
 .obtain⟨y,hy,hm⟩:=dk hk;obtain⟨i,x,rfl,hil,hx,b⟩:=O5 w h.row hy;rw[h.nm] at b;obtain⟨o,ho,so,q⟩:=w.op hil;obtain⟨l,p,n,d⟩:=hj;have f:=(P.op ho hx).2;have hod:=P.od i o x ho hx;have hv:=h.vd i x hx;have hnd:(I6 g acc).Nodup:=(h.nd.sublist (List.take_sublist k _)).sublist d;rw[Rb b,OO,List.foldl_cons,List.foldl_nil,<-n];unfold um;simp only[eA hk,ax,au,hy,ho,hx,hv,Bp];have keep:(I6 g acc).Sublist (al.row.take k++[x]):=d.trans (List.sublist_append_left _ _);unfold Lx;rw[f];cases hc:Bc (al.void.get x) with
  |true=>exact .some (by constructor<;>grind [aq])
  |false=>
   rw[Bg,Bg];refine .bind ((AmB P l aa hnd hx).mono λD hD=>?_);rw[Aky (AaS P hD.2.2 aa).z hD.1 hD.2.1 hod.g x,Bp];refine .dec (λc=>?_) λc=>?_
   .rw[C6 c,ax];have e:I6 g (acc++[(i:Int)])=I6 g acc++[x]:=by simp[I6,hx]
    exact .bind (.app cq (.some ⟨aq aa,l.snoc hil,by simp;omega,e,e▸d.append (.refl _)⟩))
   .rw[Dd c,Bg];exact .some (by constructor<;>grind [aq])
 .unfold um;dsimp only;rw[eF,Bg];have hl2:al.row.length=dl.Row.length:=by rw[<-h.nm,Ht]
  rw[<-hl2,EY] at a;exact .some ⟨a.1,aa,a.2.2.1,a.2.2.2⟩
theorem Agt(d:Int):nT g d=some (match(CA g m N).card d with|some c=>c.Member|none=>0):=by have nC:=P.w.nC;unfold nT;rw[Cw aa,Bp];unfold mZ;show _=some (match g.Cards.find? (λc=>decide (c.Device=d)) with|some c=>c.Member|none=>0);grind
theorem Pg.same{i k:Nat}{x y:Ab}(hx:g.IDs[i]?=some x)(hy:g.IDs[k]?=some y):x=y↔(i:Int)=(k:Int):=by grind [Pg,MT,Fs.nd]
theorem Aeo{i:Nat}{y:Ab}(hi:i<g.L.length)(hk:k<g.L.length)(hx:g.IDs[i]?=some x)(hy:g.IDs[k]?=some y):n9 g (i:Int) (k:Int)=some (Jd (CA g m N) x y):=by
 have w:=P.w;obtain⟨a,ha,j,f⟩:=w.op hi;obtain⟨b,hb,h,l⟩:=w.op hk;obtain⟨row,u,hrow,hu⟩:=w.cell hi hk;obtain⟨e,v,c,hv⟩:=w.cell hk hi;have ea:=P.op ha hx;have eb:=P.op hb hy;have e1:(CA g m N).bef y x=u:=by rw[P.bef hy hx];grind [QN]
 have e2:(CA g m N).bef x y=v:=by rw[P.bef hx hy];grind [QN]
 have d:=P.same hx hy;unfold n9 Jd;simp only[au,ha,hb,hrow,hu,c,hv,Bp,ea.1,eb.1,ea.2,eb.2,e1,e2,Option.isSome_some,Bool.true_and];have hd:decide (x=y)=decide ((i:Int)=(k:Int)):=decide_eq_decide.2 d;rw[hd];cases decide ((i:Int)=(k:Int)) with
 |true=>rfl
 |false=>
 cases u with
 |true=>cases v<;>rfl
 |false=>
 cases v with
 |true=>rfl
 |false=>
 simp only[Bg,Bp,Bool.not_false,Bool.true_and];unfold AjA AbA;rw[Agt P];by_cases k3:a.Kind=3
 .rw[k3];simp only[Int.reduceEq,decide_true,decide_false,ax,Bg];by_cases hD:a.Device=0
  .have hm:=T1 f.numbers|>.k3 k3;grind [Dd]
  grind
 grind
theorem Aep(h:Lr g dl al){i:Nat}{y:Ab}(hi:i<g.L.length)(hk:k<g.L.length)(hx:g.IDs[i]?=some x)(hy:g.IDs[k]?=some y):qW g dl (i:Int) (k:Int)=some (D4 (CA g m N) al.row x y):=by
 have w:=P.w;have hr:=h.nr;have b:=P.same hx hy;unfold qW D4;rw[show decide (x=y)=decide ((i:Int)=(k:Int)) from decide_eq_decide.2 b];cases decide ((i:Int)=(k:Int)) with
 |true=>rfl
 |false=>
 rw[Bg,Bool.not_false,Bool.true_and];refine T.eq (.bind ((T.search dl.Row (λz=>WG (CA g m N) x y ((g.IDs[z.toNat]?).getD ⟨0,0,0⟩)) (λk _=>true) aa (λj z hz hj=>?_) ?_).mono ?_))
 .obtain⟨q,v,rfl,a,hv,_⟩:=O5 w h.row hz;obtain⟨row,u,hrow,hu⟩:=w.cell hi a;have e1:(CA g m N).bef v x=u:=by rw[P.bef hv hx];grind [QN]
  have hvx:decide (v=x)=decide ((q:Int)=(i:Int)):=decide_eq_decide.2 (P.same hv hx);unfold qV WG;rw[eA hj,ax,au,hz,Bp,Fa,hv,Ng,aq aa,e1,hvx,Aeo P hk a hy hv];grind [au]
 .unfold qV;rw[eF,Bg]
 .have hmap:∀z∈dl.Row,((g.IDs[z.toNat]?).getD ⟨0,0,0⟩)∈al.row:=by grind [Lr.nm]
  rintro r (⟨rfl,hn⟩|⟨j,z,hz,hp,rfl,hn⟩)
  .refine .some ?_;grind [Lr.nm]
  .refine .some ?_;grind
end
theorem AaT(c:FF o)(h:AbF o=some d):1<=d/\d<=12:=by have f:=T1 c.numbers;grind [N7,AbF]
theorem Aeq(o:Bq):LJ o=some ((AbF o).getD 0):=by grind [LJ,AbF]
theorem AmC{l:Bj}(hd:l.Nodup)(h:∀x∈l,1<=x/\x<=12):l.length<=12:=by
 have hs:∀x∈l.map Int.toNat,x∈List.range' 1 12:=by grind
 have hn:(l.map Int.toNat).Nodup:=ZH (g:=id) (by rw[List.map_id];exact hd) (by grind);have:=Qi hn hs;rwa [Ht,List.length_range'] at this
theorem AcL{I:Gi}:∀{l:Bf} {acc:Bj},acc.Nodup->(l.foldl (Tk I) acc).Nodup
 |[],acc,h=>h
 |x::r,acc,h=>by refine AcL (l:=r) ?_;grind [Tk]
theorem AaU{I:Gi}{Q:Int->Prop}:∀{l:Bf} {acc:Bj},(∀x∈l,∀d,AbF (I.o x)=some d->Q d)->(∀d∈acc,Q d)->∀d∈l.foldl (Tk I) acc,Q d
 |[],acc,_,h=>h
 |x::r,acc,hx,h=>by refine AaU (l:=r) (by grind) ?_;grind [Tk]
theorem AcM{m:FM Int Int}{s:Bj}(hn:s.Nodup){d:Int}:∀k,k<=s.length->(∀j:Nat,j<k->s[j]?=some d->(UG m s k).get d=some (j:Int))/\((∀j:Nat,j<k->s[j]?≠some d)->(UG m s k).get d=m.get d)
 |0,_=>⟨λj h=>aa,λ_=>rfl⟩
 |k+1,hk=>by
  have ih:=AcM (m:=m) hn (d:=d) k aa;obtain⟨x,hx,_⟩:=dk (l:=s) (k:=k) aa;have e:UG m s (k+1)=C7 (UG m s k) x (k:Int):=by show(match s[k]? with|some d=>_|none=>_)=_;rw[hx]
  rw[e,BG];refine⟨λj hj hd=>?_,λhne=>?_⟩
  .grind [MT]
  grind
theorem AcN{d:Int}:∀{cs:Md} {m:FM Int Int},(∃c∈cs,c.Device=d)\/m.get d=some 12->(cs.foldl (λm c=>C7 m c.Device 12) m).get d=some 12
 |[],m,h=>by grind
 |c::r,m,h=>by refine AcN (cs:=r) ?_;grind [BG]
def snD(s:Bj)(d:Int):Int:=match bu d s with
 |some j=>(j:Int)
 |none=>(s.length:Int)
theorem ZM{s:Bj}(hn:s.length<=1000)(d:Int):oa s d=some (snD s d):=by
 unfold oa;refine T.eq (.bind ((T.search s (λx=>decide (x=d)) (λk _=>(k:Int)) aa (λk x hx hk=>?_) ?_).mono ?_))
 .grind [ph,eA,au,aq]
 .unfold ph;rw[eF,Bg]
 .rintro r (⟨rfl,h⟩|⟨k,x,hx,hp,rfl,h⟩)
  .have:bu d s=none:=by grind [jv]
   refine .some ?_;unfold snD;rw[this];rfl
  .have hp:=DP hp;subst hp;have:bu x s=some k:=by grind [y0]
   refine .some ?_;unfold snD;rw[this]
theorem AiJ{s:Bj}(hn:s.Nodup)(hl:s.length<=12){e:Int}(hd:∃c∈cs,c.Device=d)(he:∃c∈cs,c.Device=e):decide (Sd (OS cs s) d<Sd (OS cs s) e)=decide (snD s d<snD s e):=by
 have at_:∀d,(∃c∈cs,c.Device=d)->(∃j:Nat,j<s.length/\Sd (OS cs s) d=(j:Int)/\snD s d=(j:Int))\/(Sd (OS cs s) d=12/\snD s d=(s.length:Int)):=λd hd=>by have h:=AcM (m:=Te cs) hn (d:=d) s.length (Dq _);unfold Sd OS snD;grind [gb,jv,Te,AcN]
 grind
section
variable {g:Ba} {m:JN} {N:JL} (P:Pg g m N)
include P
theorem AaV{ids row:Bf}(ho:n8 g ids=some row)(hn:row.length<=1000)(hm:∀x∈row,x∈g.IDs):jn g ids=some (On (CA g m N) row):=by
 have w:=P.w;have nL:=w.nL;have nI:=w.nI;unfold jn;rw[ho,Bp];refine T.eq (.bind (T.mono (Q:=λr=>r=On (CA g m N) row) (T.forA row.length (λk acc=>acc=(row.take k).foldl (Tk (CA g m N)) []) aa rfl (λk acc hk hj=>?_) λacc hj=>?_) λr hr=> .some hr))
 .obtain⟨x,hx,hmx⟩:=dk hk;obtain⟨i,hi⟩:=Hb (hm x hmx);have hil:i<g.L.length:=by grind
  obtain⟨o,a,so,c⟩:=w.op hil;have hpz:gO g x=(i:Int):=by unfold gO;rw[NR w hi]
  have b:=(P.op a hi).2;have hal:=Xd (I:=CA g m N) (l:=row.take k) (acc:=[]);rw[Mh,List.length_nil,<-hj] at hal;rw[Rb hx,OO,List.foldl_cons,List.foldl_nil,<-hj];unfold Tk;rw[b];unfold nk;simp only[eA hk,ax,au,hx,Bp,qR,dC (show g.IDs.length<=1000000 by omega),hpz,a,Aeq];cases hc:AbF o with
  |none=>exact .some ⟨aq aa,rfl⟩
  |some d=>
   have hd:=AaT c hc;rw[Ng,show decide (0<d)=true from C6 aa,ax,cX aa,Bp];have hb:QF acc d=acc.any (λy=>decide (d=y)):=by grind [KI]
   rw[hb,Bp];dsimp only;cases acc.any (λy=>decide (d=y)) with
   |true=>exact .some ⟨aq aa,rfl⟩
   |false=>exact .bind (.app cq (.some ⟨aq aa,rfl⟩))
 .unfold nk;dsimp only;rw[eF,Bg];refine .some (show acc=_ from ?_);rw[hj,EY];rfl
end
def XS(lt:Ab->Ab->Bool)(b:Option Ab)(x:Ab):Option Ab:=match b with
 |none=>some x
 |some y=>bif lt x y then some x else some y
theorem AmD{I:Gi}{row l:Bf}{sen:FM Int Int}(hl:l.length<=1000):T (AB (AfU I row l sen) (0,-1)) λr=>(∃(i:Nat) (x:Ab),r=(i:Int)/\l[i]?=some x/\(l.find? (λx=> !l.any (D4 I row x))=some x\/(l.find? (λx=> !l.any (D4 I row x))=none/\l.foldl (XS λx y=>decide (Sd sen x.By<Sd sen y.By)) none=some x)))\/(l=[]/\r= -1):=by
 refine T.loop (λs=>s.1<=l.length/\(∀y∈l.take s.1,(!l.any (D4 I row y))=false)/\((s.1=0/\s.2= -1)\/∃(i:Nat) (x:Ab),s.2=(i:Int)/\l[i]?=some x/\(l.take s.1).foldl (XS λx y=>decide (Sd sen x.By<Sd sen y.By)) none=some x)) (λs=>l.length-s.1) (by grind) (by show l.length-0<_;omega) ?_;rintro⟨k,b⟩ ⟨hk,hw,hb⟩;dsimp only at hk hw hb;unfold AfU;dsimp only;cases hx:l[k]? with
 |none=>
  have hge:l.length<=k:=List.getElem?_eq_none_iff.1 hx;obtain rfl:k=l.length:=aa;rw[EY] at hw hb;dsimp only;rw[Nat.beq_refl,ax];refine .some ?_;rcases hb with⟨h1,h2⟩|⟨i,x,h1,h2,h3⟩
  .exact .inr ⟨List.length_eq_zero_iff.1 h1,h2⟩
  .exact .inl (by grind)
 |some x=>
  have hlt:=(cr hx).1;dsimp only;refine .ite (λha=>?_) λha=> .some (.inl ⟨k,x,rfl,hx,.inl ?_⟩)
  .have hw':∀y∈l.take (k+1),(!l.any (D4 I row y))=false:=λy hy=>by rw[Rb hx] at hy;grind
   have ef:(l.take (k+1)).foldl (XS λx y=>decide (Sd sen x.By<Sd sen y.By)) none=XS (λx y=>decide (Sd sen x.By<Sd sen y.By)) ((l.take k).foldl (XS λx y=>decide (Sd sen x.By<Sd sen y.By)) none) x:=by rw[Rb hx,OO];rfl
   unfold upB;rcases hb with⟨rfl,rfl⟩|⟨i,y,rfl,hi,hf⟩
   .refine .some ⟨⟨aa,hw',.inr ⟨0,x,rfl,hx,?_⟩⟩,by show l.length-1<l.length-0;omega⟩;rw[ef];rfl
   .rw[hf] at ef;rw[show decide ((i:Int)<0)=false from Dd aa,Bg,au,hi,Bp];cases hc:decide (Sd sen x.By<Sd sen y.By) with
    |true=>exact .some ⟨⟨by show k+1<=_;omega,hw',.inr ⟨k,x,rfl,hx,by rw[ef];show(bif decide (Sd sen x.By<Sd sen y.By) then some x else some y)=_;rw[hc];rfl⟩⟩,by grind⟩
    |false=>exact .some ⟨⟨by show k+1<=_;omega,hw',.inr ⟨i,y,rfl,hi,by rw[ef];show(bif decide (Sd sen x.By<Sd sen y.By) then some x else some y)=_;rw[hc];rfl⟩⟩,by grind⟩
  .rw[List.find?_eq_some_iff_getElem];obtain⟨h1,h2⟩:=cr hx;refine⟨by rw[ha];rfl,k,h1,h2,λj hj=>?_⟩;have hj':l[j]?=some (l[j]'aa):=DQ _;have:=hw _ (bO (i:=j) (by rw[List.getElem?_take,Bz hj];exact hj'));rw[this];simp
abbrev NxQ(g:Ba)(m:JN)(N:JL)(al:A3)(l:Bf)(lt:Ab->Ab->Bool)(nx:Int):Prop:=(∃(p:Nat) (x:Ab),nx=(p:Int)/\g.IDs[p]?=some x/\x∈l/\(l.find? (λx=> !l.any (D4 (CA g m N) al.row x))=some x\/(l.find? (λx=> !l.any (D4 (CA g m N) al.row x))=none/\l.foldl (XS lt) none=some x)))\/(l=[]/\nx= -1)
section
variable {g:Ba} {m:JN} {N:JL} (P:Pg g m N)
include P
theorem AkG(h:Lr g dl al){s:Bj}{lt:Ab->Ab->Bool}(hs:s.length<=1000)(hlf:l=al.row.filter λx=>decide (x∈l))(f:∀(p:Nat) (x:Ab),g.IDs[p]?=some x->x∈al.row->NQ g dl (p:Int)=some (decide (x∈l)))(hlt:∀x∈al.row,∀y∈al.row,lt x y=decide (snD s ((CA g m N).o x).By<snD s ((CA g m N).o y).By)):T (vL g dl s) λnx=>NxQ g m N al l lt nx:=by
 have w:=P.w;have hr:=h.nr;have inner:∀{i:Nat} {x:Ab},i<g.L.length->g.IDs[i]?=some x->AB (ut g dl (i:Int)) (true,0)=some (!l.any (D4 (CA g m N) al.row x)):=λ{i x} hi hx=>by
  refine T.eq (T.forA dl.Row.length (λk b=>b= !((al.row.take k).any λy=>decide (y∈l)&&D4 (CA g m N) al.row x y)) aa rfl (λk b hk hb=>?_) λb hb=>?_)
  .obtain⟨z,hz,_⟩:=dk hk;obtain⟨q,v,rfl,d,hv,a⟩:=O5 w h.row hz;rw[h.nm] at a;unfold ut;simp only[eA hk,ax,au,hz,Bp,f q v hv (bO a),Aep P h hi d hx hv];have e:((al.row.take (k+1)).any λy=>decide (y∈l)&&D4 (CA g m N) al.row x y)=(((al.row.take k).any λy=>decide (y∈l)&&D4 (CA g m N) al.row x y)||(decide (v∈l)&&D4 (CA g m N) al.row x v)):=by rw[Rb a,List.any_append];simp
   rw[e];cases decide (v∈l) with
   |false=>exact .some ⟨aq aa,by simpa using hb⟩
   |true=>
    cases D4 (CA g m N) al.row x v with
    |false=>exact .some ⟨aq aa,by simpa using hb⟩
    |true=>exact .some ⟨aq aa,aC⟩
  .unfold ut;dsimp only;rw[eF,Bg];refine .some (show b=_ from ?_);grind [Lr.nm,Ht]
 unfold vL;refine .bind ((T.forA (Q:=λr:Int⊕Int=>(∃(p:Nat) (x:Ab),r= .inr (p:Int)/\g.IDs[p]?=some x/\x∈l/\l.find? (λx=> !l.any (D4 (CA g m N) al.row x))=some x)\/(∃(p:Nat) (x:Ab),r= .inl (p:Int)/\g.IDs[p]?=some x/\x∈l/\l.find? (λx=> !l.any (D4 (CA g m N) al.row x))=none/\l.foldl (XS lt) none=some x)\/(l=[]/\r= .inl (-1))) dl.Row.length (λk b=>(∀y∈al.row.take k,y∈l->(!l.any (D4 (CA g m N) al.row y))=false)/\((b= -1/\((al.row.take k).filter λx=>decide (x∈l))=[])\/∃(p:Nat) (x:Ab),b=(p:Int)/\p<g.L.length/\g.IDs[p]?=some x/\x∈l/\((al.row.take k).filter λx=>decide (x∈l)).foldl (XS lt) none=some x)) aa ⟨λy hy=>(by cases hy),.inl ⟨rfl,rfl⟩⟩ (λk b hk hb=>?_) λb hb=>?_).mono ?_)
 .obtain⟨z,hz,_⟩:=dk hk;obtain⟨q,v,rfl,d,hv,a⟩:=O5 w h.row hz;rw[h.nm] at a;have j:=bO a;obtain⟨hb1,hb2⟩:=hb;have ef:(al.row.take (k+1)).filter (λx=>decide (x∈l))=(al.row.take k).filter (λx=>decide (x∈l))++(if v∈l then[v] else[]):=by rw[Rb a,RT];grind
  unfold uu;simp only[eA hk,ax,au,hz,Bp,f q v hv j];by_cases c:v∈l
  .rw[Bz c] at ef;rw[C6 c,Bool.not_true,Bg,inner d hv,Bp];cases hany:l.any (D4 (CA g m N) al.row v) with
   |false=>
    refine .some (.inl ⟨q,v,rfl,hv,c,?_⟩);have hkl:(al.row.take k).filter (λx=>decide (x∈l))++[v]++(al.row.drop (k+1)).filter (λx=>decide (x∈l))=l:=by grind [O7]
    have:l.find? (λx=> !l.any (D4 (CA g m N) al.row x))=((al.row.take k).filter (λx=>decide (x∈l))++[v]++(al.row.drop (k+1)).filter (λx=>decide (x∈l))).find? (λx=> !l.any (D4 (CA g m N) al.row x)):=by rw[hkl]
    rw[this,List.append_assoc,List.find?_append,List.find?_eq_none.2 λy hy=>by rw[Hj] at hy;rw[hb1 y hy.1 (DP hy.2)];simp]
    rw[List.singleton_append,List.find?_cons,hany];rfl
   |true=>
    rw[Bool.not_true,Bg];have hb1':∀y∈al.row.take (k+1),y∈l->(!l.any (D4 (CA g m N) al.row y))=false:=λy hy hyl=>by
     rw[Rb a] at hy;rcases HU.1 hy with hy|hy
     .exact hb1 y hy hyl
     .simp at hy;subst hy;rw[hany];rfl
    obtain⟨o,ho,so,t⟩:=w.op d;rcases hb2 with⟨rfl,he⟩|⟨p,y,rfl,hpl,hp,hyl,hf⟩
    .rw[show decide ((-1:Int)<0)=true from rfl,ax,Bp,ax];refine .some ⟨aq aa,hb1',.inr ⟨q,v,rfl,d,hv,c,?_⟩⟩;rw[ef,he];rfl
    .obtain⟨n,ho2,_⟩:=w.op hpl;have hmx:Fo (p:Int) 0=(p:Int):=by unfold Fo;rw[BB aa]
     have hyr:y∈al.row:=by grind
     rw[show decide ((p:Int)<0)=false from Dd aa,Bg,hmx];simp only[au,ho,ho2,Bp,ZM hs];have hl1:=hlt v j y hyr;rw[(P.op ho hv).2,(P.op ho2 hp).2] at hl1;rw[<-hl1];have ef2:((al.row.take (k+1)).filter λx=>decide (x∈l)).foldl (XS lt) none=XS lt (some y) v:=by rw[ef,OO,hf];rfl
     cases hc:lt v y with
     |true=>exact .some ⟨aq aa,hb1',.inr ⟨q,v,rfl,d,hv,c,by rw[ef2];show(bif lt v y then some v else some y)=_;rw[hc];rfl⟩⟩
     |false=>exact .some ⟨aq aa,hb1',.inr ⟨p,y,rfl,hpl,hp,hyl,by rw[ef2];show(bif lt v y then some v else some y)=_;rw[hc];rfl⟩⟩
  .rw[BB c,Nf] at ef;rw[Dd c,Bool.not_false,ax];refine .some ⟨aq aa,λy hy hyl=>?_,by rw[ef];exact hb2⟩;rw[Rb a] at hy;grind
 .unfold uu;dsimp only;rw[eF,Bg];have hl2:al.row.length=dl.Row.length:=by rw[<-h.nm,Ht]
  rw[<-hl2,EY,<-hlf] at hb;refine .some ?_;obtain⟨hb1,hb2⟩:=hb;rcases hb2 with⟨rfl,he⟩|⟨p,x,rfl,_,hp,hx,hf⟩
  .exact .inr (.inr ⟨he,rfl⟩)
  .refine .inr (.inl ⟨p,x,rfl,hp,hx,List.find?_eq_none.2 λy hy=>?_,hf⟩);have hyr:y∈al.row:=by rw[hlf] at hy;exact(Hj.1 hy).1
   rw[hb1 y hyr hy];simp
 .rintro r (⟨p,x,rfl,hp,hx,h1⟩|⟨p,x,rfl,hp,hx,h1⟩|⟨h1,rfl⟩)
  .exact .some (.inl ⟨p,x,rfl,hp,hx,.inl h1⟩)
  .exact .some (.inl ⟨p,x,rfl,hp,hx,.inr h1⟩)
  .exact .some (.inr ⟨h1,rfl⟩)
end
theorem AbU{α:Type}[DecidableEq α]:∀{l row:List α},l.Sublist row->row.Nodup->l=row.filter λx=>decide (x∈l)
 |_,_,.slnil,_=>rfl
 |l,_,.cons (l₂:=r) a h,hn=>by rw[LP] at hn;rw[List.filter_cons_of_neg (by grind)];exact AbU h hn.2
 |_,_,.cons_cons (l₁:=l) (l₂:=r) a h,hn=>by rw[LP] at hn;rw[List.filter_cons_of_pos aC];have e:=AbU h hn.2;grind [List.filter_congr]
theorem Agu:Bc ((ofV vs).get x)=decide (x∈vs):=by
 have key:∀(l:Bf) (M:FM Ab Bool),Bc ((l.foldl (λm x=>C7 m x true) M).get x)=(Bc (M.get x)||decide (x∈l)):=by intro l;induction l<;>grind [BG,Bc]
 unfold ofV;rw[key];rfl
theorem AcO{I:Gi}{row left:Bf}{x y:Ab}:∀{l:Bf} {v:FM Ab Bool},Bc ((l.foldl (vFu I row left x) v).get y)=(Bc (v.get y)||(decide (y∈l)&&(Jd I x y||(left.any (λz=>decide (y=z))&&D4 I row x y))))
 |[],v=>aC
 |a::r,v=>by
  rw[List.foldl_cons,AcO (l:=r)];have e:Bc ((vFu I row left x v a).get y)=(Bc (v.get y)||(decide (y=a)&&(Jd I x y||(left.any (λz=>decide (y=z))&&D4 I row x y)))):=by unfold vFu;grind [BG,Bc]
  grind
section
variable {g:Ba} {m:JN} {N:JL} (P:Pg g m N)
include P
theorem AkH(hi:GV g ids)(ho:n8 g ids=some row)(hrn:row.Nodup)(hr:row.length<=1000)(hrm:∀x∈row,x∈g.IDs)(hv:vJ ids=some vs)(d:vs.length<=1000)(hvm:∀x∈vs,x∈g.IDs):T (Aa g ids) λc=>Lr g c (XL ⟨g.Cards,m,N⟩ row vs)/\c.Decided=List.replicate g.L.length false:=by
 have w:=P.w;have nL:=w.nL;have nI:=w.nI;unfold Aa;rw[ho,Bp];have hmk:rP 1 (false:Bool) (ah g.L)=some (List.replicate g.L.length false):=T.eq (.make (by unfold ah;omega) (by unfold ah;omega) (by unfold ah;omega) (by unfold ah;rw[Fa]));rw[hmk,Bp,Bp,Bp];have pz:∀x∈g.IDs,∃i:Nat,g.IDs[i]?=some x/\i<g.L.length/\fC g x=some (i:Int):=λx hx=>by obtain⟨i,hi⟩:=Hb hx;have:=(cr hi).1;exact⟨i,hi,aa,by rw[dC aa];unfold gO;rw[NR w hi]⟩
 refine .bind ((T.forA row.length (λk acc=>EF g acc/\acc.length=k/\I6 g acc=row.take k) aa ⟨.nil,rfl,rfl⟩ (λk acc hk hj=>?_) λacc hj=>?_).mono (Q:=λacc=>EF g acc/\acc.length=row.length/\I6 g acc=row) λb h10=>?_)
 .obtain⟨x,hx,hmx⟩:=dk hk;obtain⟨i,hi,hil,hp⟩:=pz x (hrm x hmx);unfold uq;simp only[eA hk,ax,au,hx,Bp,hp];refine .bind (.app cq (.some ⟨aq aa,hj.1.snoc hil,by simp;omega,?_⟩));grind [Rb]
 .unfold uq;dsimp only;rw[eF,Bg];rw[EY] at hj;exact .some hj
 .rw[hv,Bp];refine .bind ((T.loop (Q:=λr:List Bool×List Bool=>r.1.length=g.L.length/\∀(p:Nat) (x:Ab),g.IDs[p]?=some x->r.1[p]?=some (decide (x∈vs))) (λs=>∃k:Nat,k<=vs.length/\s.2.2=(k:Int)/\s.1.length=g.L.length/\s.2.1.length=g.L.length/\∀(p:Nat) (x:Ab),g.IDs[p]?=some x->s.1[p]?=some (decide (x∈vs.take k))) (λs=>vs.length-s.2.2.toNat) ⟨0,aa,rfl,aC,aC,λp x hp=>?_⟩ cq ?_).mono λr a=>?_)
  .have:=(cr hp).1;show(List.replicate g.L.length false)[p]?=_;rw[List.getElem?_replicate,Bz aa];simp
  .rintro⟨V,F,i⟩ ⟨k,hk,rfl,h1,h2,h3⟩;dsimp only at h1 h2 h3;unfold uo;dsimp only;rcases HR k vs.length with hlt|hge
   .obtain⟨x,hx,hmx⟩:=dk hlt;obtain⟨q,hq,e,hp⟩:=pz x (hvm x hmx);rw[eA hlt,ax,au,hx,Bp,hp,Bp];have ew:=aq (show k<2305843009213693952 by omega);refine .bind (.set aa aa (.bind (.set aa aa (.some ⟨⟨k+1,aa,ew,by simp;omega,by simp;omega,λp y hy=>?_⟩,by rw[ew];simp;omega⟩))));dsimp only;rw[Fa,List.getElem?_set,Rb hx];grind [MT,Fs.nd]
   .obtain rfl:k=vs.length:=aa;rw[eF,Bg];rw[EY] at h3;exact .some ⟨h1,h3⟩
  .refine .some ⟨⟨h10.1,h10.2.2,hrn,by show b.length<=1000;omega,a.1,aC,λp x hp=>?_⟩,rfl⟩;show r.1[p]?=some (Bc ((ofV vs).get x));rw[Agu];exact a.2 p x hp
structure RDb (g:Ba) (I:Gi) (dl:JW) (al:A3) (a:Bf×FM Ab Bool) (V D:List Bool):Prop where
 lr:Lr g {dl with Void:=V,Decided:=D} (wV al a.2)
 sub:a.1.Sublist al.row
 kil:∀x∈a.1,I5 (I.o x).Kind=true
 dec:∀(p:Nat) (x:Ab),g.IDs[p]?=some x->x∈al.row->I5 (I.o x).Kind=true->Bc (a.2.get x)=false->D[p]?=some (!decide (x∈a.1))
structure RDc (g:Ba) (I:Gi) (dl:JW) (al:A3) (s:Bj) (a:Bf×FM Ab Bool) (b:List Bool×List Bool×Int):Prop extends RDb g I dl al a b.1 b.2.1 where
 nx:vL g {dl with Void:=b.1,Decided:=b.2.1} s=some b.2.2
theorem Ah7{a:Bf×FM Ab Bool}{V D:List Bool}(h:RDb g (CA g m N) dl al a V D)(hp:g.IDs[p]?=some x)(hx:x∈al.row):NQ g {dl with Void:=V,Decided:=D} (p:Int)=some (decide (x∈a.1.filter λx=> !Bc (a.2.get x))):=by
 have w:=P.w;have nI:=w.nI;have hpl:p<g.L.length:=by grind
 obtain⟨o,ho,so,c⟩:=w.op hpl;have b:=(P.op ho hp).2;have hv:=h.lr.vd p x hp;have hv:V[p]?=some (Bc (a.2.get x)):=hv;have hdl:=h.lr.nc;grind [NQ,au,I5,RDb.kil,RDb.dec,A9]
end
end Go.Proofs.YtghphhhpagagbaaGreatDoor
