/- Texts. -/
import Derived.Test.YtghphhhpagagbaaGreatDoorQF
namespace Go.Proofs.YtghphhhpagagbaaGreatDoor
set_option linter.unusedSectionVars false
set_option linter.unusedVariables false
set_option linter.unusedSimpArgs false
open Go.RowKit Tryz
attribute [local irreducible] Tr dz Gp
variable {α:Type}{ids l l0 row vs:Bc}{d m:Int}{a b j k n p u v w:Nat}{s:FM Bh Int×FM Int Int}{r:List Bh}{L:Bn}{pv x:Ab}{y y':D5}{gg:Aj}{o:Bp}{x':Az}{cs:LT}{dl:JS}{al:AQ}
theorem AeE{l:Ly}(hl:l.length<=4000):AB Ady (l,0,l.length)=some l.reverse:=by
 refine T.eq (T.loop (λs=>s.2.1+s.2.2=l.length/\s.1.length=l.length/\∀k,k<l.length->s.1[k]?=if s.2.1<=k/\k<s.2.2 then l[k]? else l.reverse[k]?) (λs=>s.2.2) (by grind) (by grind) ?_);rintro⟨w,i,j⟩ ⟨h1,h2,h3⟩;simp only at h1 h2 h3;unfold Ady;refine .dec (λh0=>?_) λh0=> .some (show w=l.reverse from ?_)
 .have h0:(i:Int)<(j:Int)-1:=h0;rw[show Nat.ble (w,i,j).1.length 4000=true from(by grind [QN]),ax];have hi:i<w.length:=aa;have hj:j-1<w.length:=aa;have e:swZ w i (j-1)=some ((w.set i (w[j-1]'hj)).set (j-1) (w[i]'hi)):=by grind [swZ]
  show T ((swZ w i (j-1)).bind _) _;rw[e,aL];refine .some ⟨⟨by grind,by simp[h2],λk hk=>?_⟩,by grind⟩;have ei:=h3 i aa;have ej:=h3 (j-1) aa;have ek:=h3 k hk;rw[Bx (by grind)] at ei;rw[Bx (by grind)] at ej;show((w.set i _).set (j-1) _)[k]?=if i+1<=k/\k<j-1 then _ else _
  rw[List.getElem?_set,List.getElem?_set];by_cases k1:j-1=k
  .grind
  grind
 .have h0:¬(i:Int)<(j:Int)-1:=h0;refine List.ext_getElem? λk=>?_;grind
theorem AgG{l:Be}(hl:l.length<=3000)(hd:d∈l):∃b,Pu l d=some (XW d (l.length+1) l,b):=by
 unfold Pu;rw[SP aa,aL,show(l.any λy=>decide (d=y))=true from(by grind),Bool.not_true,A9];obtain⟨R,hR⟩:∃R,XW d (l.length+1) l=R:=⟨_,rfl⟩;rw[hR];have key:T (AB (Pt d) (l,[],[])) λv=>∃b,v= .inr (R,b):=by
  refine T.loop (λs:Be×Ly×Ly=>d∈s.1/\s.1.length<=3000/\s.2.1.length+s.1.length<=6000/\s.2.2.length+s.1.length<=6000/\s.2.1++XW d (s.1.length+1) s.1=R) (λs=>s.1.length) (by grind) (by grind) ?_;rintro⟨c,a,f⟩ ⟨h1,h2,h3,h4,h5⟩;simp only at h1 h2 h3 h4 h5;have hp:0<c.length:=List.length_pos_of_mem h1;unfold Pt fF;dsimp only;refine .bind (.app (by grind) (.bind (.app (by grind) ?_)));rw[M7];unfold XW at h5;by_cases hc:c.length<2
  .rw[show Nl c=some ([],[]) by grind [Nl,ah],aL];rw[Bx aa] at h5;exact .some ⟨f,by rw[<-h5]⟩
  obtain⟨e,k1,k2⟩:=YC (n:=c.length) aa aa;rw[BA aa] at h5;generalize ZQ c.length=k at e k1 k2 h5;have eK:Nl c=some (c.take k,c.drop k):=by unfold Nl fF;rw[C6 (by grind [ah]),A9,show ah c=(c.length:Int) from rfl,AgF,e,aL];refine T.eq (.bind (.pre aa aa ?_));grind [T.bind,T.app,T.suf,T.some]
  have lt:(c.take k).length=k:=by grind
  have ld:(c.drop k).length=c.length-k:=List.length_drop;rw[eK,aL];dsimp only;rw[show decide (ah (c.drop k)=0)=false from(by grind [ah]),A9,SP aa,aL];have hx:d∈c.take k\/d∈c.drop k:=by grind [O6]
  rw[SG d c.length ((c.take k).length+1) (c.take k) aa aa aa,SG d c.length ((c.drop k).length+1) (c.drop k) aa aa aa] at h5;by_cases ht:d∈c.take k
  .rw[show((c.take k).any λy=>decide (d=y))=true from(by grind),ax];rw[Bx ht] at h5;refine .bind (.app (by grind) (.some (by constructor<;>grind)));all_goals grind
  .rw[show((c.take k).any λy=>decide (d=y))=false from(by grind),A9];rw[BA ht] at h5;refine .bind (.app (by grind) (.some (by constructor<;>grind)));all_goals grind
 obtain⟨v,e,b,rfl⟩:=key;rw[e];exact⟨b,rfl⟩
def RnF(l:Bn):Prop:=∀κ,l.map (qg κ 19)=l
abbrev oN1(s:Nat):Option Ob:=some ⟨3,[iG (s:Int)],none⟩
def o2S(cmp:Ab->Ab->Int)(l:Bc)(a b s:Nat):Option (Nat×Nat×Nat):=(l[b]?).bind λy=>(l[a]?).bind λx=>bif decide (cmp y x<0) then some (b,a,s+1) else some (a,b,s)
def meS(cmp:Ab->Ab->Int)(l:Bc)(a b c s:Nat):Option (Nat×Nat):=(o2S cmp l a b s).bind λd=>(o2S cmp l d.2.1 c d.2.2).bind λe=>(o2S cmp l d.1 e.1 e.2.2).bind λf=>some (f.2.1,f.2.2)
def chS(cmp:Ab->Ab->Int)(l:Bc)(a:Nat):Option (Nat×Bool):=(meS cmp l (a+3) (a+6) (a+9) 0).bind λr=>bif decide (r.2<=3) then some (r.1,decide ((r.2:Int)=0)) else none
def scS(cmp:Ab->Ab->Int)(l:Bc)(b k:Nat):Option (Nat⊕Nat):=bif decide (((k+1:Nat):Int)<(b:Int)) then(l[k+1]?).bind λx=>(l[k]?).bind λy=>bif decide (cmp x y<0) then some (.inr k) else some (.inl (k+1)) else some (.inr k)
def piS(cmp:Ab->Ab->Int)(l:Bc)(a b:Nat):Fo:=(AB (scS cmp l b) a).bind λk=>some (decide (((k+1:Nat):Int)=(b:Int)))
section
variable {gl:CD} {fi:FuncId} {fa fc:Bn} {cmp:Ab->Ab->Int} (hv:CmV gl fi fa fc cmp)
include hv
theorem AhM{s:Nat}(hs:s<1000)(h:o2S cmp l a b s=some (u,v,w)):jg prog gl 376 [.rsl 0 0 l.length,iG (a:Int),iG (b:Int),.ref 1 0,Se fi fa fc] [(0,Bw l),(1,oN1 s)] 2 (.tup [iG (u:Int),iG (v:Int)]) [(0,Bw l),(1,oN1 w)] 2:=by
 unfold o2S at h;obtain⟨y,hy,h⟩:=bS h;obtain⟨x,hx,h⟩:=bS h;refine pP func376 ?_;rcases bC h with⟨b1,h⟩|⟨b1,h⟩
 .simp only[Fl,Ge] at h;obtain⟨rfl,rfl,rfl⟩:=h;exact mt .ret (s0 32 gl [(10,iG (b:Int)),(11,iG (a:Int))] [(0,Bw l),(1,oN1 (s+1))] 2 2) [iG (b:Int),iG (a:Int)] [AA 15 (ac.ixrZ 0 (Bg hy)),AA 16 (ac.pt0Z aW (Bg hy)),AA 19 (ac.ixrZ 0 (Bg hx)),AA 20 (ac.pt0Z aW (Bg hx)),hcp 21 2 hv y x,hr 22 b1,hbb 26 (Xl (q:=s) aa)] [hc (ac.imm l)] (ρ:=[(0,0),(1,1)]) (kd:=[(0,.row)])
 .simp only[Fl,Ge] at h;obtain⟨rfl,rfl,rfl⟩:=h;exact mt .ret (s0 32 gl [(10,iG (a:Int)),(11,iG (b:Int))] [(0,Bw l),(1,oN1 s)] 2 2) [iG (a:Int),iG (b:Int)] [AA 15 (ac.ixrZ 0 (Bg hy)),AA 16 (ac.pt0Z aW (Bg hy)),AA 19 (ac.ixrZ 0 (Bg hx)),AA 20 (ac.pt0Z aW (Bg hx)),hcp 21 2 hv y x,hr 22 b1] [hc (ac.imm l)] (ρ:=[(0,0),(1,1)]) (kd:=[(0,.row)])
variable (ra:RnF fa) (rc:RnF fc)
include ra rc
theorem rn5{κ:Nat->Ft}{a b c d:G}{e f g h:G}(h1:qg κ 20 a=e)(h2:qg κ 20 b=f)(h3:qg κ 20 c=g)(h4:qg κ 20 d=h):[a,b,c,d,Se fi fa fc].map (qg κ 20)=[e,f,g,h,Se fi fa fc]:=by show[qg κ 20 a,qg κ 20 b,qg κ 20 c,qg κ 20 d,.clo (.func fi) (fa.map (qg κ 19)) (fc.map (qg κ 19))]=_;rw[h1,h2,h3,h4,ra κ,rc κ]
abbrev ho2(d:Nat){l:Bc}{a b s u v w:Nat}(hs:s<1000)(h:o2S cmp l a b s=some (u,v,w)):HP:=tN d [0,1] 2 [(0,Bw l),(1,oN1 s)] [.rsl 0 0 l.length,iG (a:Int),iG (b:Int),.ref 1 0,Se fi fa fc] [(0,Bw l),(1,oN1 w)] (AhM hv hs h) ⟨⟨rfl,.inr ⟨rfl,ac.imm l⟩⟩,⟨rfl,.inl rfl⟩,trivial⟩ ⟨⟨rfl,.inr ⟨rfl,ac.imm l⟩⟩,⟨rfl,.inl rfl⟩,trivial⟩ (hgs:=rn5 hv ra rc rfl rfl rfl rfl)
theorem AlK{s:Nat}(h:o2S cmp l a b s=some (u,v,w)):w<=s+1/\((u=a/\v=b)\/(u=b/\v=a)):=by grind [o2S]
theorem AjR{c s m:Nat}(hs:s<100)(h:meS cmp l a b c s=some (m,w)):jg prog gl 346 [.rsl 0 0 l.length,iG (a:Int),iG (b:Int),iG (c:Int),.ref 1 0,Se fi fa fc] [(0,Bw l),(1,oN1 s)] 2 (iG (m:Int)) [(0,Bw l),(1,oN1 w)] 2:=by unfold meS at h;obtain⟨⟨u1,f,g⟩,e1,h⟩:=bS h;obtain⟨⟨i,j,k⟩,e2,h⟩:=bS h;obtain⟨⟨n,d,e⟩,e3,h⟩:=bS h;simp only[Fl,Ge] at h;obtain⟨rfl,rfl⟩:=h;have k1:=(AlK hv ra rc e1).1;have k2:=(AlK hv ra rc e2).1;dsimp only at e2 e3 k2;refine pP func346 ?_;exact mt .ret (s0 41 gl [(12,iG (d:Int))] [(0,Bw l),(1,oN1 e)] 2 2) [iG (d:Int)] [ho2 hv ra rc 19 aa e1,ho2 hv ra rc 28 aa e2,ho2 hv ra rc 37 aa e3] [hc (ac.imm l)] (ρ:=[(0,0),(1,1)]) (kd:=[(0,.row)])
def Big(a b:Nat):Prop:=(a=0/\b=13)\/(a=0/\b=14)\/(a=1/\b=14)
abbrev AlL(d:Nat){l:Bc}{a b c m w:Nat}(h:meS cmp l a b c 0=some (m,w)):HP:=tN d [0,1] 2 [(0,Bw l),(1,oN1 0)] [.rsl 0 0 l.length,iG (a:Int),iG (b:Int),iG (c:Int),.ref 1 0,Se fi fa fc] [(0,Bw l),(1,oN1 w)] (AjR hv ra rc B5 h) ⟨⟨rfl,.inr ⟨rfl,ac.imm l⟩⟩,⟨rfl,.inl rfl⟩,trivial⟩ ⟨⟨rfl,.inr ⟨rfl,ac.imm l⟩⟩,⟨rfl,.inl rfl⟩,trivial⟩ (hgs:=congrArg (G.rsl 0 0 l.length::·) (rn5 hv ra rc rfl rfl rfl rfl))
theorem AjS{l:Bc}{a b m:Nat}{f:Bool}(hB:Big a b)(h:chS cmp l a=some (m,f)):jg prog gl 270 [.rsl 0 0 l.length,iG (a:Int),iG (b:Int),Se fi fa fc] [(0,Bw l)] 1 (.tup [iG (m:Int),iG (bif f then 1 else 0)]) [(0,Bw l)] 1:=by
 unfold chS at h;obtain⟨⟨c,w⟩,e,h⟩:=bS h;obtain⟨hw,h⟩:=Hq h;have hw:=DP hw;dsimp only at hw;simp only[Fl,Ge] at h;obtain⟨rfl,rfl⟩:=h;have hn:decide ((w:Int)=12)=false:=C6 aa;refine pP func270 ?_;cases b1:decide ((w:Int)=0) with
 |true=>
  rcases hB with⟨rfl,rfl⟩|⟨rfl,rfl⟩|⟨rfl,rfl⟩
  all_goals exact mt .ret (s0 63 gl [(8,iG (c:Int)),(9,iG 1)] [(0,Bw l)] 1 1) [iG (c:Int),iG 1] [AlL hv ra rc 54 e,hr 58 b1] [hc (ac.imm l)] (ρ:=[(0,0)]) (kd:=[(0,.row)])
 |false=>
  rcases hB with⟨rfl,rfl⟩|⟨rfl,rfl⟩|⟨rfl,rfl⟩
  all_goals exact mt .ret (s0 63 gl [(8,iG (c:Int)),(9,iG 0)] [(0,Bw l)] 1 1) [iG (c:Int),iG 0] [AlL hv ra rc 54 e,hr 58 b1,hr 61 hn] [hc (ac.imm l)] (ρ:=[(0,0)]) (kd:=[(0,.row)])
omit ra rc
theorem AjT{l:Bc}{a b:Nat}{f:Bool}(hl:l.length<=1000)(ha:a<1000)(hb:b<=1000)(g:b-a<50)(h:piS cmp l a b=some f):jg prog gl 272 [.rsl 0 0 l.length,iG (a:Int),iG (b:Int),Se fi fa fc] [(0,Bw l)] 1 (bG f) [(0,Bw l)] 1:=by
 unfold piS at h;obtain⟨k,ek,h⟩:=bS h;obtain rfl:=Bj h;refine pP func272 ?_;refine pN (λ_:Unit=>(s0 141 gl [(0,.rsl 0 0 l.length),(1,iG (a:Int)),(2,iG (b:Int)),(3,Se fi fa fc),(9,iG ((a+1:Nat):Int)),(10,iG 0)] [(0,Bw l)] 1 1)) 1110122 Lg [hbb 14 (Xl (q:=a) aa)] [hc (el l),hc hv.im,hc (ac.imm l)] (λB z w hz2 e c=>?_) [] [(0,0)] [(0,.row)];clear e c hz2;refine Ix 11101221020 (s0 141 gl [(0,.rsl 0 0 l.length),(1,iG (a:Int)),(2,iG (b:Int)),(3,Se fi fa fc),(9,iG ((k+1:Nat):Int)),(10,iG 0)] [(0,Bw l)] 1 1) ?_ λkk=>?_;rotate_left
 .refine pN (λk:Nat=>(s0 141 gl [(0,.rsl 0 0 l.length),(1,iG (a:Int)),(2,iG (b:Int)),(3,Se fi fa fc),(9,iG ((k+1:Nat):Int)),(10,iG 0)] [(0,Bw l)] 1 1)) 1110122102022 ek [] [hc (el l),hc hv.im,hc (ac.imm l)] (λi k v hz e c=>?_) [] [(0,0)] [(0,.row)];unfold scS at hz;rcases bC hz with⟨b2,hz⟩|⟨b2,hz⟩
  .obtain⟨x,ex,hz⟩:=bS hz;obtain⟨y,d,hz⟩:=bS hz;have hq:=(cr ex).1;rcases bC hz with⟨b3,hz⟩|⟨b3,hz⟩
   .obtain rfl:=Bj hz;obtain rfl:=c _ rfl;exact yl 11101221020 [hr 21 b2,AA 26 (ac.ixrZ 0 (Bg ex)),AA 27 (ac.pt0Z aW (Bg ex)),hbb 30 (dec (q:=k) aa),AA 31 (ac.ixrZ 0 (Bg d)),AA 32 (ac.pt0Z aW (Bg d)),hcp 33 1 hv x y,hr 34 b3] [hc (el l),hc hv.im,hc (ac.imm l)] kk [] [(0,0)] [(0,.row)]
   .obtain rfl:=Bj hz;exact jw [hr 21 b2,AA 26 (ac.ixrZ 0 (Bg ex)),AA 27 (ac.pt0Z aW (Bg ex)),hbb 30 (dec (q:=k) aa),AA 31 (ac.ixrZ 0 (Bg d)),AA 32 (ac.pt0Z aW (Bg d)),hcp 33 1 hv x y,hr 34 b3,hbb 38 (Xl (q:=k+1) aa)] [hc (el l),hc hv.im,hc (ac.imm l)] (e _ rfl) [] [(0,0)] [(0,.row)]
  .obtain rfl:=Bj hz;obtain rfl:=c _ rfl;exact yl 11101221020 [hr 21 b2] [hc (el l),hc hv.im,hc (ac.imm l)] kk [] [(0,0)] [(0,.row)]
 clear ek;cases b1:decide (((k+1:Nat):Int)=(b:Int)) with
 |true=>exact mt .ret (s0 141 gl [(8,bG true)] [(0,Bw l)] 1 1) [bG true] [hr 41 b1] [hc (ac.imm l)] (ρ:=[(0,0)]) (kd:=[(0,.row)])
 |false=>exact mt .ret (s0 141 gl [(8,bG false)] [(0,Bw l)] 1 1) [bG false] [hr 41 b1,hbb 44 (sb (a:=(b:Int)) (b:=(a:Int)) (z:=(b:Int)-(a:Int)) rfl aa),hr 45 (show decide ((b:Int)-(a:Int)<50)=true from C3 aa)] [hc (ac.imm l)] (ρ:=[(0,0)]) (kd:=[(0,.row)])
omit hv
abbrev oXs(s:Nat):Option Ob:=some ⟨367,[uG (s:Int)],none⟩
def rnX:Nat->Nat
 |0=>13
 |1=>14069506893
 |2=>14988908846326605643
 |_=>3428281591454193221
theorem AaB(j:Nat)(h:j<3):jg prog gl 344 [.ref 0 0] [(0,oXs (rnX j))] 1 (uG (rnX (j+1):Int)) [(0,oXs (rnX (j+1)))] 1:=by
 refine pP func344 ?_;rcases(by omega:j=0\/j=1\/j=2) with rfl|rfl|rfl
 .exact mt .ret (s0 33 gl [(2,uG 14069506893)] [(0,oXs 14069506893)] 1 1) [uG 14069506893] [] []
 .exact mt .ret (s0 33 gl [(2,uG 14988908846326605643)] [(0,oXs 14988908846326605643)] 1 1) [uG 14988908846326605643] [] []
 .exact mt .ret (s0 33 gl [(2,uG 3428281591454193221)] [(0,oXs 3428281591454193221)] 1 1) [uG 3428281591454193221] [] []
theorem AjU:ba prog gl 343 [iG 13] (uG 16):=by have h:=RC gl (n:=13) B5;refine Gh func343 ?_;exact Ar [hf 5 h] []
end
theorem dJa{P:Br}{fn:Func}{Q:Exit->St->Prop}{Bs:List (St->Prop)}{m:Bool}{p:Bq}{st:St}(q:Bq)(J:St)(kk:Gp P fn Q Bs false q J)(h:Gp P fn Q Bs false q J->Gp P fn Q Bs m p st):Gp P fn Q Bs m p st:=h kk
def brT(s:Nat×Bc):Option ((Nat×Bc)⊕Bc):=match s.1 with
 |0=>(swZ s.2 6 1).bind λl=>some (.inl (1,l))
 |1=>(swZ s.2 7 12).bind λl=>some (.inl (2,l))
 |2=>(swZ s.2 8 6).bind λl=>some (.inl (3,l))
 |3=>some (.inr s.2)
 |_=>none
def brG(l:Bc)(a b c:Nat)(d:Bool):Option (Bc×Nat):=bif d then some (l,c) else bif Nat.beq a 1&&Nat.beq b 14 then(AB brT (0,l)).bind λr=>bif Nat.beq l.length r.length then some (r,c-1) else none else none
def agG(cmp:Ab->Ab->Int)(l:Bc)(a p:Nat):Fo:=bif Nat.blt 0 a then(l[a-1]?).bind λy=>(l[p]?).bind λx=>some (decide (cmp y x<0)) else some true
def AhN(a b:Nat):Bool:=(Nat.beq a 0&&Nat.beq b 13)||((Nat.beq a 0&&Nat.beq b 14)||(Nat.beq a 1&&Nat.beq b 14))
theorem AhO(h:AhN a b=true):Big a b:=by
 unfold AhN at h;simp only[Bool.or_eq_true,bA] at h;rcases h with⟨h1,h2⟩|⟨h1,h2⟩|⟨h1,h2⟩
 .exact .inl ⟨bc h1,bc h2⟩
 .exact .inr (by grind [bc])
 .exact .inr (by grind [bc])
abbrev PdS:Type:=Bc×Nat×Nat×Nat×Bool×Bool
def pdN(cmp:Ab->Ab->Int)(a b c:Nat)(m:Nat)(f:Bool)(l:Bc):Option (PdS⊕Bc):=
 bif decide (a<=m/\m<b) then(bif decide ((m:Int)-(a:Int)<(b:Int)-(m:Int)) then(inI cmp (a:Int) (m:Int) l).bind λl3=>bif Nat.beq l.length l3.length then some (.inl (l3,m+1,b,c,decide ((1:Int)<=(m:Int)-(a:Int)),f)) else none
  else(inI cmp ((m+1:Nat):Int) (b:Int) l).bind λl3=>bif Nat.beq l.length l3.length then some (.inl (l3,a,m,c,decide ((1:Int)<=(b:Int)-(m:Int)),f)) else none) else none
def pdT(cmp:Ab->Ab->Int)(s:PdS):Option (PdS⊕Bc):=
 bif decide (s.1.length<=1000/\s.2.1<=100/\s.2.2.1<=100) then
 bif decide ((s.2.2.1:Int)-(s.2.1:Int)<=12) then(inI cmp (s.2.1:Int) (s.2.2.1:Int) s.1).bind λr=>some (.inr r)
 else bif AhN s.2.1 s.2.2.1&&(Nat.blt 0 s.2.2.2.1&&Nat.ble s.2.2.2.1 100) then
  (brG s.1 s.2.1 s.2.2.1 s.2.2.2.1 s.2.2.2.2.1).bind λq=>bif decide (q.1.length<=1000) then(chS cmp q.1 s.2.1).bind λc=>(bif s.2.2.2.2.1&&s.2.2.2.2.2&&c.2 then piS cmp q.1 s.2.1 s.2.2.1 else some false).bind λd=>bif d then some (.inr q.1) else
  (agG cmp q.1 s.2.1 c.1).bind λok=>bif ok then(paS cmp s.2.1 s.2.2.1 c.1 q.1).bind λr=>bif Nat.beq q.1.length r.2.2.length then pdN cmp s.2.1 s.2.2.1 q.2 r.1 r.2.1 r.2.2 else none else none else none
 else none else none
section
variable {gl:CD} {fi:FuncId} {fa fc:Bn} {cmp:Ab->Ab->Int} (hv:CmV gl fi fa fc cmp)
include hv
theorem AjW{r:Bc}(h:AB brT (0,l)=some r):jg prog gl 269 [.rsl 0 0 l.length,iG 1,iG 14,Se fi fa fc] [(0,Bw l)] 1 (.tup []) [(0,Bw r)] 1:=by
 have hn:=AjU (gl:=gl);have h0:=AaB (gl:=gl) 0 B5;have h1:=AaB (gl:=gl) 1 B5;have h2:=AaB (gl:=gl) 2 B5;refine pP func269 ?_;refine pN (λs:Nat×Bc=>(s0 67 gl [(0,.rsl 0 0 s.2.length),(1,iG 1),(8,iG 13),(9,.ref 1 0),(10,uG 16),(11,iG ((6+s.1:Nat):Int))] [(0,Bw s.2),(1,oXs (rnX s.1))] 2 1)) 111311122 h [hf 21 hn] [hc (el l),hc (ac.imm l)] (λB s w hs k5 a=>?_) [] [(0,0),(1,1)] [(0,.row)];obtain⟨j,l⟩:=s;unfold brT at hs;dsimp only at hs;split at hs
 .obtain⟨l1,e1,hs⟩:=bS hs;obtain rfl:=Bj hs;obtain⟨x,y,hx,hy,e⟩:=I3 e1;have hl:l.length=l1.length:=by rw[e];exact Un
  exact jw (tN 38 [1] 2 [(1,oXs (rnX 0))] [.ref 1 0] [(0,oXs (rnX 1))] h0 ⟨⟨rfl,.inl rfl⟩,trivial⟩ ⟨⟨rfl,.inl rfl⟩,trivial⟩::hsw 59 63 65 66 hx hy e) [hc hl,hc (ac.imm l1)] (k5 _ rfl) [] [(0,0),(1,1)] [(0,.row)]
 .obtain⟨l1,e1,hs⟩:=bS hs;obtain rfl:=Bj hs;obtain⟨x,y,hx,hy,e⟩:=I3 e1;have hl:l.length=l1.length:=by rw[e];exact Un
  exact jw (tN 38 [1] 2 [(1,oXs (rnX 1))] [.ref 1 0] [(0,oXs (rnX 2))] h1 ⟨⟨rfl,.inl rfl⟩,trivial⟩ ⟨⟨rfl,.inl rfl⟩,trivial⟩::hsw 59 63 65 66 hx hy e) [hc hl,hc (ac.imm l1)] (k5 _ rfl) [] [(0,0),(1,1)] [(0,.row)]
 .obtain⟨l1,e1,hs⟩:=bS hs;obtain rfl:=Bj hs;obtain⟨x,y,hx,hy,e⟩:=I3 e1;have hl:l.length=l1.length:=by rw[e];exact Un
  exact jw (tN 38 [1] 2 [(1,oXs (rnX 2))] [.ref 1 0] [(0,oXs (rnX 3))] h2 ⟨⟨rfl,.inl rfl⟩,trivial⟩ ⟨⟨rfl,.inl rfl⟩,trivial⟩::hsw 59 63 65 66 hx hy e) [hc hl,hc (ac.imm l1)] (k5 _ rfl) [] [(0,0),(1,1)] [(0,.row)]
 .obtain rfl:=Bj hs;obtain rfl:=a _ rfl;exact mt .normal (s0 67 gl [] [(0,Bw l)] 1 1) [] [] [hc (ac.imm l)] (ρ:=[(0,0)]) (kd:=[(0,.row)])
 .cases hs
variable (ra:RnF fa) (rc:RnF fc)
include ra rc
theorem rnA{κ:Nat->Ft}{x y:G}(h1:qg κ 20 x=y)(h:L.map (qg κ 20)=L):(x::(L++[Se fi fa fc])).map (qg κ 20)=y::(L++[Se fi fa fc]):=by rw[Fe,List.map_append,h1,h];show y::(L++[.clo (.func fi) (fa.map (qg κ 19)) (fc.map (qg κ 19))])=_;rw[ra κ,rc κ]
abbrev hI(d:Nat)(L:Bn){f:FuncId}{l r:Bc}{res:G}(hM:jg prog gl f (.rsl 0 0 l.length::(L++[Se fi fa fc])) [(0,Bw l)] 1 res [(0,Bw r)] 1)(hL:L.map (qg (vi [0]) 20)=L):HP:=tN d [0] 1 [(0,Bw l)] (.rsl 0 0 l.length::(L++[Se fi fa fc])) [(0,Bw r)] hM ⟨⟨rfl,.inr ⟨rfl,ac.imm l⟩⟩,trivial⟩ ⟨⟨rfl,.inr ⟨rfl,ac.imm r⟩⟩,trivial⟩ (hgs:=rnA hv ra rc rfl hL)
omit hv ra rc in
theorem mcL{f:FuncId}{r:Bc}{res:G}(e:n=l.length)(hM:jg prog gl f (.rsl 0 0 l.length::L) [(0,Bw l)] 1 res [(0,Bw r)] 1):jg prog gl f (.rsl 0 0 n::L) [(0,Bw l)] 1 res [(0,Bw r)] 1:=e▸hM
abbrev hI2(d:Nat)(L:Bn){f:FuncId}{l r:Bc}{res:G}{n:Nat}(e:n=l.length)(hM:jg prog gl f (.rsl 0 0 l.length::(L++[Se fi fa fc])) [(0,Bw l)] 1 res [(0,Bw r)] 1)(hL:L.map (qg (vi [0]) 20)=L):HP:=tN d [0] 1 [(0,Bw l)] (.rsl 0 0 n::(L++[Se fi fa fc])) [(0,Bw r)] (mcL e hM) ⟨⟨rfl,.inr ⟨rfl,ac.imm l⟩⟩,trivial⟩ ⟨⟨rfl,.inr ⟨rfl,ac.imm r⟩⟩,trivial⟩ (hgs:=rnA hv ra rc rfl hL)
theorem QI{a b:Nat}{r:Bc}(ha:a<=1000)(hb:b<=1000)(c:(b:Int)-(a:Int)<=12)(h:inI cmp (a:Int) (b:Int) l=some r)(k:Int):jg prog gl 192 [.rsl 0 0 l.length,iG (a:Int),iG (b:Int),iG k,Se fi fa fc] [(0,Bw l)] 1 (.tup []) [(0,Bw r)] 1:=by have hs:=sb (a:=(b:Int)) (b:=(a:Int)) (z:=(b:Int)-(a:Int)) rfl aa;have hd:=C3 c;refine pP func192 ?_;refine pN (λ_:Unit=>(s0 148 gl [(0,.rsl 0 0 l.length),(1,iG (a:Int)),(2,iG (b:Int)),(3,iG k),(4,Se fi fa fc)] [(0,Bw l)] 1 1)) 11122 Lg [] [hc (el l),hc hv.im,hc (ac.imm l)] (λd z v hz2 e f=>?_) [] [(0,0)] [(0,.row)];exact mt .ret (s0 148 gl [] [(0,Bw r)] 1 1) [] [hbb 23 hs,hr 25 hd,hI hv ra rc 30 [iG (a:Int),iG (b:Int)] (Adn hv h) rfl] [hc (ac.imm r)] (ρ:=[(0,0)]) (kd:=[(0,.row)])
abbrev Anw(gl:CD)(fi:FuncId)(fa fc:Bn)(s:PdS):St:=(s0 148 gl [(0,.rsl 0 0 s.1.length),(1,iG (s.2.1:Int)),(2,iG (s.2.2.1:Int)),(3,iG (s.2.2.2.1:Int)),(4,Se fi fa fc),(10,bG s.2.2.2.2.1),(11,bG s.2.2.2.2.2)] [(0,Bw s.1)] 1 1)
theorem AjX{s:PdS}{r:Bc}(h:AB (pdT cmp) s=some r)(h1:s.2.2.2.2=(true,true)):jg prog gl 192 [.rsl 0 0 s.1.length,iG (s.2.1:Int),iG (s.2.2.1:Int),iG (s.2.2.2.1:Int),Se fi fa fc] [(0,Bw s.1)] 1 (.tup []) [(0,Bw r)] 1:=by
 refine pP func192 ?_;obtain⟨l,a,b,g,j,par⟩:=s;obtain⟨rfl,rfl⟩:=Prod.mk.inj h1;clear h1;refine pN (Anw gl fi fa fc) [1,1,2,2] h [] [hc (el l),hc hv.im,hc (ac.imm l)] (λB s w hs k5 C=>?_) [] [(0,0)] [(0,.row)];clear h l a b g;obtain⟨l,a,b,g,j,par⟩:=s;unfold pdT at hs;dsimp only at hs;obtain⟨hg,hs⟩:=Hq hs;obtain⟨hl,ha,hb⟩:=DP hg;have o:=sb (a:=(b:Int)) (b:=(a:Int)) (z:=(b:Int)-(a:Int)) rfl aa;rcases bC hs with⟨b1,hs⟩|⟨b1,hs⟩
 .obtain⟨r',A,hs⟩:=bS hs;obtain rfl:=Bj hs;obtain rfl:=C _ rfl;exact mt .ret (s0 148 gl [] [(0,Bw r')] 1 1) [] [hbb 23 o,hr 25 b1,hI hv ra rc 30 [iG (a:Int),iG (b:Int)] (Adn hv A) rfl] [hc (ac.imm r')] (ρ:=[(0,0)]) (kd:=[(0,.row)])
 obtain⟨u,hs⟩:=Hq hs;simp only[bA] at u;obtain⟨hB,hl1,hl2⟩:=u;have hB:=AhO hB;have hlim:0<g:=Fa hl1;have hlim2:g<=100:=Fa hl2;clear hl1 hl2;obtain⟨⟨l1,c⟩,k,hs⟩:=bS hs;dsimp only at hs;obtain⟨v,hs⟩:=Hq hs;have hll:=DP v;obtain⟨⟨p,Xl⟩,D,hs⟩:=bS hs;dsimp only at hs;obtain⟨d,ed,hs⟩:=bS hs;refine dJa [1,1,2,2,2,1,1,1,1,0] (s0 148 gl [(0,.rsl 0 0 l1.length),(1,iG (a:Int)),(2,iG (b:Int)),(3,iG (c:Int)),(4,Se fi fa fc),(10,bG j),(11,bG par),(12,iG ((b:Int)-(a:Int)))] [(0,Bw l1)] 1 1) ?_ λkk=>?_;rotate_left
 .have hn0:decide ((g:Int)=0)=false:=C6 aa;unfold brG at k;cases j with
  |true=>obtain⟨rfl,rfl⟩:=Prod.mk.inj (Bj k);exact pO 11122211110 _ [hbb 23 o,hr 25 b1,hr 32 hn0] [hc (el l),hc hv.im,hc (ac.imm l)] kk [] [(0,0)] [(0,.row)]
  |false=>obtain⟨t,k⟩:=Hq k;rw[bA] at t;obtain rfl:=bc t.1;obtain rfl:=bc t.2;obtain⟨r',A,k⟩:=bS k;obtain⟨hle,k⟩:=Hq k;have hle:=bc hle;obtain⟨q,rfl⟩:∃q,g=q+1:=⟨g-1,aa⟩;rw[Nat.add_sub_cancel] at k;obtain⟨rfl,rfl⟩:=Prod.mk.inj (Bj k);exact pO 11122211110 _ [hbb 23 o,hr 25 b1,hr 32 hn0,hI hv ra rc 44 [iG 1,iG 14] (AjW hv A) rfl,hbb 46 (dec (q:=q) aa)] [hc hle,hc hv.im,hc (ac.imm r')] kk [] [(0,0)] [(0,.row)]
 clear k b1 o hlim hlim2;have i:=AjS hv ra rc (b:=b) hB D;have hpi:=λe=>AjT hv (l:=l1) (a:=a) (b:=b) (f:=d) hll aa aa (by rcases hB with⟨rfl,rfl⟩|⟨rfl,rfl⟩|⟨rfl,rfl⟩<;>decide) e;cases d with
 |true=>
  obtain rfl:=Bj hs;obtain rfl:=C _ rfl;cases j with
  |false=>cases ed
  |true=>cases par with
   |false=>cases ed
   |true=>cases Xl with
    |false=>cases ed
    |true=>
     have hpi:=hpi ed
     exact mt .ret (s0 148 gl [] [(0,Bw l1)] 1 1) [] [hI hv ra rc 52 [iG (a:Int),iG (b:Int)] i rfl,hI hv ra rc 80 [iG (a:Int),iG (b:Int)] hpi rfl] [hc (ac.imm l1)] (ρ:=[(0,0)]) (kd:=[(0,.row)])
 |false=>
 refine dJa [1,1,2,2,2,1,1,1,1,1,1,1,0,0] (s0 148 gl [(0,.rsl 0 0 l1.length),(1,iG (a:Int)),(2,iG (b:Int)),(3,iG (c:Int)),(4,Se fi fa fc),(12,iG ((b:Int)-(a:Int))),(13,iG (p:Int))] [(0,Bw l1)] 1 1) ?_ λkk=>?_;rotate_left
 .cases j with
  |false=>cases par<;>cases Xl<;>exact pO 111222111111100 _ [hI hv ra rc 52 [iG (a:Int),iG (b:Int)] i rfl] [hc (el l1),hc hv.im,hc (ac.imm l1)] kk [] [(0,0)] [(0,.row)]
  |true=>cases par with
   |false=>cases Xl<;>exact pO 111222111111100 _ [hI hv ra rc 52 [iG (a:Int),iG (b:Int)] i rfl] [hc (el l1),hc hv.im,hc (ac.imm l1)] kk [] [(0,0)] [(0,.row)]
   |true=>cases Xl with
    |false=>exact pO 111222111111100 _ [hI hv ra rc 52 [iG (a:Int),iG (b:Int)] i rfl] [hc (el l1),hc hv.im,hc (ac.imm l1)] kk [] [(0,0)] [(0,.row)]
    |true=>
     have hpi:=hpi ed
     exact pO 111222111111100 _ [hI hv ra rc 52 [iG (a:Int),iG (b:Int)] i rfl,hI hv ra rc 80 [iG (a:Int),iG (b:Int)] hpi rfl] [hc (el l1),hc hv.im,hc (ac.imm l1)] kk [] [(0,0)] [(0,.row)]
 clear i hpi ed D;rw[A9] at hs;obtain⟨ok,n,hs⟩:=bS hs;rcases hB with⟨rfl,rfl⟩|⟨rfl,rfl⟩|⟨rfl,rfl⟩
 .clear n;obtain⟨hok,hs⟩:=Hq hs;subst hok;obtain⟨⟨m,f,l2⟩,ep,hs⟩:=bS hs;dsimp only at hs;obtain⟨h2,hs⟩:=Hq hs;have h2:=bc h2;unfold pdN at hs;obtain⟨hm,hs⟩:=Hq hs;have hm:=DP hm;rcases bC hs with⟨b2,hs⟩|⟨b2,hs⟩
  .have b3:=DP b2;obtain⟨l3,e3,hs⟩:=bS hs;obtain⟨h3,hs⟩:=Hq hs;have h3:=h2.trans (bc h3);obtain rfl:=Bj hs;exact jw [hI hv ra rc 111 [iG ((0:Nat):Int),iG ((13:Nat):Int),iG (p:Int)] (Qt hv hll aa aa aa ep) rfl,hbb 117 (sb (a:=(m:Int)) (b:=((0:Nat):Int)) (z:=(m:Int)-((0:Nat):Int)) rfl aa),hbb 120 (sb (a:=((13:Nat):Int)) (b:=(m:Int)) (z:=((13:Nat):Int)-(m:Int)) rfl aa),hr 125 b2,hI2 hv ra rc 134 [iG ((0:Nat):Int),iG (m:Int),iG (c:Int)] h2 (QI hv ra rc aa aa aa e3 (c:Int)) rfl,hbb 136 (Go.Proofs.YtghphhhpagagbaaGreatDoor.Xl (q:=m) aa)] [hc h3,hc hv.im,hc (ac.imm l3)] (k5 _ rfl) [] [(0,0)] [(0,.row)]
  .have b3:=LU b2;obtain⟨l3,e3,hs⟩:=bS hs;obtain⟨h3,hs⟩:=Hq hs;have h3:=h2.trans (bc h3);obtain rfl:=Bj hs;exact jw [hI hv ra rc 111 [iG ((0:Nat):Int),iG ((13:Nat):Int),iG (p:Int)] (Qt hv hll aa aa aa ep) rfl,hbb 117 (sb (a:=(m:Int)) (b:=((0:Nat):Int)) (z:=(m:Int)-((0:Nat):Int)) rfl aa),hbb 120 (sb (a:=((13:Nat):Int)) (b:=(m:Int)) (z:=((13:Nat):Int)-(m:Int)) rfl aa),hr 125 b2,hbb 142 (Go.Proofs.YtghphhhpagagbaaGreatDoor.Xl (q:=m) aa),hI2 hv ra rc 146 [iG ((m+1:Nat):Int),iG ((13:Nat):Int),iG (c:Int)] h2 (QI hv ra rc aa aa aa e3 (c:Int)) rfl] [hc h3,hc hv.im,hc (ac.imm l3)] (k5 _ rfl) [] [(0,0)] [(0,.row)]
 .clear n;obtain⟨hok,hs⟩:=Hq hs;subst hok;obtain⟨⟨m,f,l2⟩,ep,hs⟩:=bS hs;dsimp only at hs;obtain⟨h2,hs⟩:=Hq hs;have h2:=bc h2;unfold pdN at hs;obtain⟨hm,hs⟩:=Hq hs;have hm:=DP hm;rcases bC hs with⟨b2,hs⟩|⟨b2,hs⟩
  .have b3:=DP b2;obtain⟨l3,e3,hs⟩:=bS hs;obtain⟨h3,hs⟩:=Hq hs;have h3:=h2.trans (bc h3);obtain rfl:=Bj hs;exact jw [hI hv ra rc 111 [iG ((0:Nat):Int),iG ((14:Nat):Int),iG (p:Int)] (Qt hv hll aa aa aa ep) rfl,hbb 117 (sb (a:=(m:Int)) (b:=((0:Nat):Int)) (z:=(m:Int)-((0:Nat):Int)) rfl aa),hbb 120 (sb (a:=((14:Nat):Int)) (b:=(m:Int)) (z:=((14:Nat):Int)-(m:Int)) rfl aa),hr 125 b2,hI2 hv ra rc 134 [iG ((0:Nat):Int),iG (m:Int),iG (c:Int)] h2 (QI hv ra rc aa aa aa e3 (c:Int)) rfl,hbb 136 (Go.Proofs.YtghphhhpagagbaaGreatDoor.Xl (q:=m) aa)] [hc h3,hc hv.im,hc (ac.imm l3)] (k5 _ rfl) [] [(0,0)] [(0,.row)]
  .have b3:=LU b2;obtain⟨l3,e3,hs⟩:=bS hs;obtain⟨h3,hs⟩:=Hq hs;have h3:=h2.trans (bc h3);obtain rfl:=Bj hs;exact jw [hI hv ra rc 111 [iG ((0:Nat):Int),iG ((14:Nat):Int),iG (p:Int)] (Qt hv hll aa aa aa ep) rfl,hbb 117 (sb (a:=(m:Int)) (b:=((0:Nat):Int)) (z:=(m:Int)-((0:Nat):Int)) rfl aa),hbb 120 (sb (a:=((14:Nat):Int)) (b:=(m:Int)) (z:=((14:Nat):Int)-(m:Int)) rfl aa),hr 125 b2,hbb 142 (Go.Proofs.YtghphhhpagagbaaGreatDoor.Xl (q:=m) aa),hI2 hv ra rc 146 [iG ((m+1:Nat):Int),iG ((14:Nat):Int),iG (c:Int)] h2 (QI hv ra rc aa aa aa e3 (c:Int)) rfl] [hc h3,hc hv.im,hc (ac.imm l3)] (k5 _ rfl) [] [(0,0)] [(0,.row)]
 .obtain⟨y,hy,n⟩:=bS (show((l1[0]?).bind λy=>(l1[p]?).bind λx=>some (decide (cmp y x<0)))=some ok from n);obtain⟨x,hx,n⟩:=bS n;have n:=Bj n;obtain⟨hok,hs⟩:=Hq hs;subst hok;obtain⟨⟨m,f,l2⟩,ep,hs⟩:=bS hs;dsimp only at hs;obtain⟨h2,hs⟩:=Hq hs;have h2:=bc h2;unfold pdN at hs;obtain⟨hm,hs⟩:=Hq hs;have hm:=DP hm;rcases bC hs with⟨b2,hs⟩|⟨b2,hs⟩
  .have b3:=DP b2;obtain⟨l3,e3,hs⟩:=bS hs;obtain⟨h3,hs⟩:=Hq hs;have h3:=h2.trans (bc h3);obtain rfl:=Bj hs;exact jw [AA 88 (ac.ixrZ 0 (Bg hy)),AA 89 (ac.pt0Z aW (Bg hy)),AA 92 (ac.ixrZ 0 (Bg hx)),AA 93 (ac.pt0Z aW (Bg hx)),hcp 94 1 hv y x,hr 95 n,hI hv ra rc 111 [iG ((1:Nat):Int),iG ((14:Nat):Int),iG (p:Int)] (Qt hv hll aa aa aa ep) rfl,hbb 117 (sb (a:=(m:Int)) (b:=((1:Nat):Int)) (z:=(m:Int)-((1:Nat):Int)) rfl aa),hbb 120 (sb (a:=((14:Nat):Int)) (b:=(m:Int)) (z:=((14:Nat):Int)-(m:Int)) rfl aa),hr 125 b2,hI2 hv ra rc 134 [iG ((1:Nat):Int),iG (m:Int),iG (c:Int)] h2 (QI hv ra rc aa aa aa e3 (c:Int)) rfl,hbb 136 (Go.Proofs.YtghphhhpagagbaaGreatDoor.Xl (q:=m) aa)] [hc h3,hc hv.im,hc (ac.imm l3)] (k5 _ rfl) [] [(0,0)] [(0,.row)]
  .have b3:=LU b2;obtain⟨l3,e3,hs⟩:=bS hs;obtain⟨h3,hs⟩:=Hq hs;have h3:=h2.trans (bc h3);obtain rfl:=Bj hs;exact jw [AA 88 (ac.ixrZ 0 (Bg hy)),AA 89 (ac.pt0Z aW (Bg hy)),AA 92 (ac.ixrZ 0 (Bg hx)),AA 93 (ac.pt0Z aW (Bg hx)),hcp 94 1 hv y x,hr 95 n,hI hv ra rc 111 [iG ((1:Nat):Int),iG ((14:Nat):Int),iG (p:Int)] (Qt hv hll aa aa aa ep) rfl,hbb 117 (sb (a:=(m:Int)) (b:=((1:Nat):Int)) (z:=(m:Int)-((1:Nat):Int)) rfl aa),hbb 120 (sb (a:=((14:Nat):Int)) (b:=(m:Int)) (z:=((14:Nat):Int)-(m:Int)) rfl aa),hr 125 b2,hbb 142 (Go.Proofs.YtghphhhpagagbaaGreatDoor.Xl (q:=m) aa),hI2 hv ra rc 146 [iG ((m+1:Nat):Int),iG ((14:Nat):Int),iG (c:Int)] h2 (QI hv ra rc aa aa aa e3 (c:Int)) rfl] [hc h3,hc hv.im,hc (ac.imm l3)] (k5 _ rfl) [] [(0,0)] [(0,.row)]
end
structure OrN {α:Type} (cmp:α->α->Int) (D:α->Prop):Prop where
 tr:∀x y z,cmp x y<0->cmp y z<0->cmp x z<0
 tt:∀x y,D x->D y->x≠y->cmp x y<0\/cmp y x<0
def Rg{α:Type}(a b:Nat)(l r:List α):Prop:=r.Perm l/\∀q,(q<a\/b<=q)->r[q]?=l[q]?
def SoR{α:Type}(cmp:α->α->Int)(a b:Nat)(l:List α):Prop:=∀p q x y,a<=p->p<q->q<b->l[p]?=some x->l[q]?=some y->cmp x y<0
def OrX{α:Type}(cmp:α->α->Int)(a b:Nat)(l:List α):Prop:=∀p q x y,p<q->¬(a<=p/\q<b)->l[p]?=some x->l[q]?=some y->cmp x y<0
theorem Rg.refl{α:Type}{a b:Nat}(l:List α):Rg a b l l:=⟨.refl _,λ_ _=>rfl⟩
theorem Rg.trans{α:Type}{a b:Nat}{l r s:List α}(h:Rg a b l r)(k:Rg a b r s):Rg a b l s:=⟨k.1.trans h.1,λq hq=>(k.2 q hq).trans (h.2 q hq)⟩
theorem Rg.mono{α:Type}{a b a' b':Nat}{l r:List α}(h:Rg a b l r)(ha:a'<=a)(hb:b<=b'):Rg a' b' l r:=⟨h.1,λq hq=>h.2 q aa⟩
theorem Rg.len{α:Type}{a b:Nat}{l r:List α}(h:Rg a b l r):r.length=l.length:=h.1.length_eq
theorem MH{l:List α}(h:l.Nodup){q:Nat}{x:α}(h1:l[p]?=some x)(h2:l[q]?=some x):p=q:=by grind [List.getElem?_inj]
theorem Rg.src{α:Type}{a b:Nat}{l r:List α}(h:Rg a b l r)(hn:l.Nodup){q:Nat}{y:α}(h1:a<=q)(h2:q<b)(hy:r[q]?=some y):∃c,a<=c/\c<b/\l[c]?=some y:=by
 obtain⟨c,hq⟩:=G9 (h.1.mem_iff.1 (bO hy));refine⟨c,?_⟩;rcases(by omega:(c<a\/b<=c)\/(a<=c/\c<b)) with h3|h3
 .have:=MH (h.1.nodup_iff.2 hn) hy ((h.2 c h3).trans hq);omega
 .exact⟨h3.1,h3.2,hq⟩
theorem OrX.rg{α:Type}{cmp:α->α->Int}{a b:Nat}{l r:List α}(h:OrX cmp a b l)(k:Rg a b l r)(hn:l.Nodup):OrX cmp a b r:=by
 have src:∀q y,r[q]?=some y->∃c,l[c]?=some y/\(c=q\/(a<=q/\q<b/\a<=c/\c<b)):=λq y hy=>by
  rcases(by omega:(q<a\/b<=q)\/(a<=q/\q<b)) with h3|h3
  .exact⟨q,(k.2 q h3).symm.trans hy,.inl rfl⟩
  grind [Rg.src]
 intro p q x y e hb hx hy;obtain⟨f,hx',hp⟩:=src p x hx;obtain⟨c,d,hq⟩:=src q y hy;exact h f c x y aa aa hx' d
theorem AcC{l:List α}{i j:Nat}(hi:i<l.length)(hj:j<l.length):∃r,swZ l i j=some r/\r.Perm l/\∀q,r[q]?=if q=j then l[i]? else if q=i then l[j]? else l[q]? :=by refine⟨(l.set i l[j]).set j l[i],?_,List.set_set_perm hi hj,λq=>?_⟩;all_goals grind [swZ]
theorem Xf{a b i j:Nat}{l r:List α}(h:r.Perm l)(hq:∀q,r[q]?=if q=j then l[i]? else if q=i then l[j]? else l[q]?)(h1:a<=i)(h2:i<b)(h3:a<=j)(h4:j<b):Rg a b l r:=by constructor<;>grind
section
variable {α:Type} {cmp:α->α->Int} {D:α->Prop} (hO:OrN cmp D)
include hO
theorem OrN.lt{l:List α}(hn:l.Nodup)(hD:∀z∈l,D z){p q:Nat}{x y:α}(hx:l[p]?=some x)(hy:l[q]?=some y)(a:p≠q)(h:¬cmp y x<0):cmp x y<0:=by grind [OrN,MH]
theorem SoR.all{a b:Nat}{l:List α}(h:SoR cmp a b l)(k:OrX cmp a b l):SoR cmp 0 l.length l:=λp q x y _ c _ hx hy=>by
 by_cases hh:a<=p/\q<b
 .exact h p q x y hh.1 c hh.2 hx hy
 .exact k p q x y c hh hx hy
theorem AaC{a b:Nat}{l:List α}(hn:l.Nodup)(hD:∀z∈l,D z)(ha:a<=1000)(hb:b<=l.length)(hl:l.length<=1000):T (inI cmp (a:Int) (b:Int) l) λr=>Rg a b l r/\SoR cmp a b r:=by
 unfold inI;rw[show wI ((a:Int)+1)=wI ((a:Nat)+1) from rfl];rw[aq aa];refine T.loop (λs=>∃i:Nat,s.2=(i:Int)/\a+1<=i/\(i<=b\/i=a+1)/\Rg a b l s.1/\SoR cmp a i s.1) (λs=>b-s.2.toNat) ⟨a+1,rfl,Dx _,.inr rfl,.refl l,λp q x y h1 h2 h3=>aa⟩ (by show b-_<_;omega) ?_;rintro⟨l1,A⟩ ⟨i,e,h1,h2,h3,h4⟩;dsimp only at e h3 h4;subst e;have f:=h3.1.nodup_iff.2 hn;have hl1:=h3.len;unfold Aaz;dsimp only;refine .dec (λhlt=>?_) λhge=> .some ⟨h3,λp q x y k1 k2 k3=>h4 p q x y k1 k2 aa⟩;have hib:i<b:=aa;refine .bind ((T.loop (λs=>∃j:Nat,s.2=(j:Int)/\a<=j/\j<=i/\Rg a b l1 s.1/\∀p q x y,a<=p->p<q->q<=i->q≠j->s.1[p]?=some x->s.1[q]?=some y->cmp x y<0) (λs=>s.2.toNat) (Q:=λr=>Rg a b l1 r/\SoR cmp a (i+1) r) ⟨i,rfl,aa,Dx _,.refl l1,λp q x y k1 k2 k3 d=>h4 p q x y k1 k2 aa⟩ (by show((i:Int)).toNat<_;omega) ?_).mono λr hr=> .some ⟨⟨i+1,aq aa,aa,.inl aa,h3.trans hr.1,hr.2⟩,?_⟩)
 .rintro⟨l2,B⟩ ⟨j,e,k1,k2,k3,d⟩;dsimp only at e k3 d;subst e;have g:=k3.1.nodup_iff.2 f;have hl2:=k3.len;unfold Aay;dsimp only;refine .dec (λh=>?_) λh=> .some ⟨k3,λp q x y m1 m2 m3=>d p q x y m1 m2 aa aa⟩;obtain⟨k,rfl⟩:∃k,j=k+1:=⟨j-1,aa⟩;have ew:wI (((k+1:Nat):Int)-1)=(k:Int):=by grind [bM]
  have gx:l2[k+1]?=some (l2[k+1]'aa):=DR _;have gy:l2[k]?=some (l2[k]'aa):=DR _;generalize l2[k+1]'aa=x at gx;generalize l2[k]'aa=y at gy;rw[ew,au,au,gx,gy,aL,aL];refine .dec (λhc=>?_) λhc=> .some ⟨k3,λp q u v m1 m2 m3 hu hv=>?_⟩
  .obtain⟨r,t,pr,m⟩:=AcC (l:=l2) (i:=k+1) (j:=k) aa aa;obtain⟨C,E,hx',c,n⟩:=I3 t;rw[gx] at hx';rw[gy] at c;cases hx';cases c;rw[stZ (x:=y) gx,aL,AhL (w:=x) (x:=x) (z:=y) (i:=k+1) gy,aL,<-n];refine .some ⟨⟨k,rfl,aa,aa,k3.trans (Xf pr m aa aa aa aa),λp q u v m1 m2 m3 o hu hv=>?_⟩,by simp_all⟩;rw[m p] at hu;rw[m q] at hv;rw[BA o] at hv;by_cases c1:q=k+1
   .subst c1;rw[Bx rfl,gy] at hv;cases hv;by_cases c2:p=k
    .grind
    .rw[BA c2,BA aa] at hu;grind
   .rw[BA c1] at hv;by_cases c2:p=k
    .grind
    .rw[BA c2] at hu;by_cases c3:p=k+1;all_goals grind
  .have hyx:=hO.lt g (λz hz=>hD z (h3.1.mem_iff.1 (k3.1.mem_iff.1 hz))) gy gx aa hc;by_cases c1:q=k+1
   .subst c1;rw[gx] at hv;cases hv;by_cases c2:p=k
    .grind
    .exact hO.tr _ _ _ (d p k u y m1 aa aa aa hu gy) hyx
   grind
 .show b-((wI ((i:Int)+1))).toNat<b-((i:Int)).toNat;rw[aq aa];omega
end
section
variable {cmp:Ab->Ab->Int} (hO:OrN cmp λ_=>True)
include hO
structure PI (cmp:Ab->Ab->Int) (l0:Bc) (a b:Nat) (pv:Ab) (l:Bc) (i j:Nat):Prop where
 rg:Rg a b l0 l
 gp:l[a]?=some pv
 hi:a+1<=i
 hj:j<b
 hij:i<=j+1
 lo:∀q x,a<q->q<i->l[q]?=some x->cmp x pv<0
 up:∀q x,j<q->q<b->l[q]?=some x->¬cmp x pv<0
omit hO in
theorem Agb{i:Nat}{β:Type}{K:Nat->Nat->Option β}{Q:β->Prop}(h:PI cmp l0 a b pv l i j)(hb:b<=l.length)(hl:l.length<=1000)
  (hK:∀e d,PI cmp l0 a b pv l e d->d<=j->(d<e\/(e<d/\(∃x,l[e]?=some x/\¬cmp x pv<0)/\∃y,l[d]?=some y/\cmp y pv<0))->T (K e d) Q):
  T ((AB (scU cmp l a j) i).bind λe=>(AB (scD cmp l a e) j).bind λd=>K e d) Q:=by
 have hj:=h.hj
 refine .bind ((T.loop (λe=>PI cmp l0 a b pv l e j) (λe=>j+1-e) (Q:=λe=>PI cmp l0 a b pv l e j/\(j<e\/∃x,l[e]?=some x/\¬cmp x pv<0)) h aa λe h'=>?_).mono λe hi=>?_)
 .unfold scU
  refine .dec (λhc=>?_) λhc=> .some ⟨h',.inl aa⟩
  have gx:l[e]?=some (l[e]'aa):=DR _
  generalize l[e]'aa=x at gx
  rw[gx,h'.gp,aL,aL]
  refine .dec (λhx=> .some ⟨⟨h'.rg,h'.gp,Nat.le_succ_of_le h'.hi,h'.hj,aa,λq y k1 k2 hy=>?_,h'.up⟩,aa⟩) λhx=> .some ⟨h',.inr ⟨x,gx,hx⟩⟩
  grind [PI.lo]
 .obtain⟨hi,hx⟩:=hi
  refine .bind ((T.loop (λd=>PI cmp l0 a b pv l e d/\d<=j) (λd=>d) (Q:=λd=>(PI cmp l0 a b pv l e d/\d<=j)/\(d<e\/∃y,l[d]?=some y/\cmp y pv<0)) ⟨hi,Dx _⟩ aa λd ⟨h',f⟩=>?_).mono λd hj'=>?_)
  .unfold scD
   refine .dec (λhc=>?_) λhc=> .some ⟨⟨h',f⟩,.inl aa⟩
   have:=h'.hi
   have:=h'.hj
   have gx:l[d]?=some (l[d]'aa):=DR _
   generalize l[d]'aa=y at gx
   rw[gx,h'.gp,aL,aL]
   refine .dec (λhy=> .some ⟨⟨h',f⟩,.inr ⟨y,gx,hy⟩⟩) λhy=>?_
   rw[show Nat.blt 0 d=true from QN aa,ax]
   refine .some ⟨⟨⟨h'.rg,h'.gp,h'.hi,aa,aa,h'.lo,λq x k1 k2 hx=>?_⟩,aa⟩,aa⟩
   by_cases c:q=d
   .grind
   .exact h'.up q x aa k2 hx
  grind
omit hO in
theorem Aiv{i:Nat}{y:Ab}(h:PI cmp l0 a b pv l i j)(hb:b<=l.length)(hij:i<j)(gx:l[i]?=some x)(hx:¬cmp x pv<0)(gy:l[j]?=some y)(hy:cmp y pv<0):∃r,swZ l i j=some r/\PI cmp l0 a b pv r (i+1) (j-1)/\0<j:=by
 have h1:=h.hi;have h2:=h.hj;obtain⟨r,e,pr,d⟩:=AcC (l:=l) (i:=i) (j:=j) aa aa;refine⟨r,e,⟨h.rg.trans (Xf pr d aa aa aa aa),?_,aa,aa,aa,λq z k1 k2 hz=>?_,λq z k1 k2 hz=>?_⟩,aa⟩
 .grind [PI.gp]
 .grind [PI.lo]
 .rw[d q] at hz;by_cases c:q=j
  .grind
  .rw[BA c,BA aa] at hz;exact h.up q z aa k2 hz
def Prt(cmp:Ab->Ab->Int)(a b m:Nat)(l:Bc):Prop:=a<=m/\m<b/\∃c,l[m]?=some c/\(∀q x,a<=q->q<m->l[q]?=some x->cmp x c<0)/\∀q x,m<q->q<b->l[q]?=some x->¬cmp x c<0
omit hO in
theorem Agc{i:Nat}(h:PI cmp l0 a b pv l i j)(hb:b<=l.length)(hij:j<i):∃r,swZ l j a=some r/\Rg a b l0 r/\Prt cmp a b j r:=by
 have h1:=h.hi;have h2:=h.hj;have h3:=h.hij;obtain⟨r,c,pr,d⟩:=AcC (l:=l) (i:=j) (j:=a) aa aa;refine⟨r,c,h.rg.trans (Xf pr d aa aa aa aa),aa,aa,pv,?_,λq x k1 k2 hx=>?_,λq x k1 k2 hx=>?_⟩
 .grind [PI.gp]
 .grind [PI]
 grind [PI.up]
theorem AlP(hl:l.length<=1000)(hb:b<=l.length)(hap:a<=p)(c:p<b):T (paS cmp a b p l) λr=>Rg a b l r.2.2/\Prt cmp a b r.1 r.2.2:=by
 obtain⟨l0,e0,d,q0⟩:=AcC (l:=l) (i:=a) (j:=p) aa aa;have hl0:=d.length_eq;have g:=Xf (a:=a) (b:=b) d q0 (Dx _) aa hap c;unfold paS;refine .eqb e0 ?_;have gp:l0[a]?=some (l0[a]'aa):=DR _;generalize l0[a]'aa=pv at gp;have h0:PI cmp l a b pv l0 (a+1) (b-1):=by grind [PI]
 refine Agb h0 aa aa λi j h1 _ h2=>?_;refine .dec (λhc=>?_) λhc=>?_
 .grind [Agc,T.some]
 .rcases h2 with h2|⟨h2,⟨x,gx,hx⟩,y,gy,hy⟩
  .omega
  obtain⟨l1,e1,k1,k2⟩:=Aiv h1 aa h2 gx hx gy hy;rw[show Nat.blt 0 j=true from QN k2,ax];refine .eqb e1 (.bind ((T.loop (λs=>PI cmp l a b pv s.1 s.2.1 s.2.2) (λs=>s.2.2) (Q:=λs=>∃i,PI cmp l a b pv s.1 i s.2/\s.2<i) k1 (by grind) ?_).mono λs hs=>?_))
  .rintro⟨l2,h,e⟩ h3;dsimp only at h3;have hl2:=h3.rg.len;unfold paT;dsimp only;rw[C3 aa,ax];refine Agb h3 aa aa λi j h4 f h5=>?_;refine .dec (λhc=> .some ⟨i,h4,by show j<i;omega⟩) λhc=>?_;rcases h5 with h5|⟨h5,⟨x,gx,hx⟩,y,gy,hy⟩
   .omega
   obtain⟨l3,e3,m1,m2⟩:=Aiv h4 aa h5 gx hx gy hy;rw[show Nat.blt 0 j=true from QN m2,ax];refine .eqb e3 (.some ⟨m1,?_⟩);show j-1<e;omega
  .obtain⟨i,h3,h4⟩:=hs;have:=h3.rg.len;grind [Agc,T.some]
omit hO in
theorem AjY{x y s:Nat}(hx:x<l.length)(hy:y<l.length):T (o2S cmp l x y s) λr=>((r.1=x/\r.2.1=y)\/(r.1=y/\r.2.1=x))/\r.2.2<=s+1:=by grind [o2S,T.some]
omit hO in
theorem Anx(hB:Big a b)(hb:b<=l.length):T (chS cmp l a) λr=>a<=r.1/\r.1<b:=by
 have h9:a+9<b:=by rcases hB with⟨rfl,rfl⟩|⟨rfl,rfl⟩|⟨rfl,rfl⟩<;>omega
 unfold chS meS;refine .bind (.bind ((AjY aa aa).mono λd h1=> .bind ((AjY aa aa).mono λe h2=> .bind ((AjY aa aa).mono λc h3=> .some ?_))));dsimp only at*;rw[C3 (show c.2.2<=3 by omega),ax];exact .some (show a<=c.2.1/\c.2.1<b by omega)
theorem Any(hn:l.Nodup)(hb:b<=l.length)(d:a<b)(hl:l.length<=1000):T (piS cmp l a b) λf=>f=true->SoR cmp a b l:=by
 have adj:∀k,(∀q x y,a<=q->q<k->l[q]?=some x->l[q+1]?=some y->cmp x y<0)->SoR cmp a (k+1) l:=λk h=>by
  have key:∀n p x y,a<=p->p+n+1<=k->l[p]?=some x->l[p+n+1]?=some y->cmp x y<0:=by
   intro n;induction n with
   |zero=>grind
   |succ n ih=>intro p x y h1 h2 hx hy;have hlt:=(cr hy).1;have hz:l[p+n+1]?=some (l[p+n+1]'aa):=DR _;exact hO.tr _ _ _ (ih p x _ h1 aa hx hz) (h (p+n+1) _ y aa aa hz hy)
  intro p q x y h1 h2 h3 hx hy;obtain⟨n,rfl⟩:∃n,q=p+n+1:=⟨q-p-1,aa⟩;exact key n p x y h1 aa hx hy
 unfold piS;refine .bind ((T.loop (λk=>a<=k/\k<b/\∀q x y,a<=q->q<k->l[q]?=some x->l[q+1]?=some y->cmp x y<0) (λk=>b-k) (Q:=λk=>k<b/\∀q x y,a<=q->q<k->l[q]?=some x->l[q+1]?=some y->cmp x y<0) (by grind) aa λk hk=>?_).mono λk hk=> .some λhf=>?_)
 .obtain⟨h1,h2,h3⟩:=hk;unfold scS;refine .dec (λhc=>?_) λhc=> .some ⟨h2,h3⟩;have gx:l[k+1]?=some (l[k+1]'aa):=DR _;have gy:l[k]?=some (l[k]'aa):=DR _;generalize l[k+1]'aa=x at gx;generalize l[k]'aa=y at gy;rw[gx,gy,aL,aL];refine .dec (λhx=> .some ⟨h2,h3⟩) λhx=> .some ⟨⟨aa,aa,λq u v k1 k2 hu hv=>?_⟩,aa⟩;by_cases c:q=k
  .subst c;grind [OrN.lt]
  grind
 .have hf:=DP hf;have:=adj k hk.2;grind
omit hO in
theorem Anz(hl:l.length=14):T (AB brT (0,l)) λr=>Rg 1 14 l r:=by
 refine T.loop (λs=>s.1<=3/\Rg 1 14 l s.2) (λs=>3-s.1) ⟨Nat.zero_le _,.refl l⟩ (show 3-0<4611686018427387904 by decide) ?_;rintro⟨j,r⟩ ⟨h1,h2⟩;dsimp only at h1 h2;have hr:=h2.len;unfold brT;rcases(by omega:j=0\/j=1\/j=2\/j=3) with rfl|rfl|rfl|rfl
 .obtain⟨r',e,p,q⟩:=AcC (l:=r) (i:=6) (j:=1) aa aa;exact .eqb e (.some ⟨⟨show 1<=3 by decide,h2.trans (Xf p q B5 B5 B5 B5)⟩,show 3-1<3-0 by decide⟩)
 .obtain⟨r',e,p,q⟩:=AcC (l:=r) (i:=7) (j:=12) aa aa;exact .eqb e (.some ⟨⟨show 2<=3 by decide,h2.trans (Xf p q B5 B5 B5 B5)⟩,show 3-2<3-1 by decide⟩)
 .obtain⟨r',e,p,q⟩:=AcC (l:=r) (i:=8) (j:=6) aa aa;exact .eqb e (.some ⟨⟨show 3<=3 by decide,h2.trans (Xf p q B5 B5 B5 B5)⟩,show 3-3<3-2 by decide⟩)
 .exact .some h2
structure PdI (cmp:Ab->Ab->Int) (l0:Bc) (s:PdS):Prop where
 pm:s.1.Perm l0
 ab:s.2.1<=s.2.2.1
 bn:s.2.2.1<=l0.length
 ox:OrX cmp s.2.1 s.2.2.1 s.1
 lm:12<s.2.2.1-s.2.1->4<=s.2.2.2.1+(14-(s.2.2.1-s.2.1))
 lh:s.2.2.2.1<=100
 bl:s.2.2.2.2.1=false->s.2.2.1-s.2.1<=12\/(s.2.1=1/\s.2.2.1=14)
theorem AlQ(hn:l0.Nodup)(hl:l0.length<=14){s:PdS}(h0:PdI cmp l0 s):T (AB (pdT cmp) s) λr=>r.Perm l0/\SoR cmp 0 r.length r:=by
 refine T.loop (PdI cmp l0) (λs=>s.2.2.1-s.2.1) h0 (by grind [PdI]) ?_;rintro⟨l,a,b,n,A,par⟩ ⟨pm,ab,bn,ox,lm,lh,bl⟩;dsimp only at pm ab bn ox lm lh bl;have hll:=pm.length_eq;have hnl:=pm.nodup_iff.2 hn;unfold pdT;dsimp only;rw[C3 (by grind),ax];refine .dec (λhc=>?_) λhc=>?_
 .refine .bind ((AaC hO hnl (λ_ _=>trivial) aa aa aa).mono λr hr=> .some ⟨hr.1.1.trans pm,?_⟩);grind [SoR.all,OrX.rg]
 have hbig:12<b-a:=aa;have lm:=lm hbig;have hB:Big a b:=by
  rcases(by omega:(a=0/\b=13)\/(a=0/\b=14)\/(a=1/\b=14)) with⟨rfl,rfl⟩|⟨rfl,rfl⟩|⟨rfl,rfl⟩
  .exact .inl ⟨rfl,rfl⟩
  .exact .inr (.inl ⟨rfl,rfl⟩)
  .exact .inr (.inr ⟨rfl,rfl⟩)
 have hBb:AhN a b=true:=by rcases hB with⟨rfl,rfl⟩|⟨rfl,rfl⟩|⟨rfl,rfl⟩<;>rfl
 rw[hBb,show Nat.blt 0 n=true from QN aa,show Nat.ble n 100=true from QN lh];simp only[Bool.and_self,ax];have hbr:T (brG l a b n A) λq=>Rg a b l q.1/\n<=q.2+1/\q.2<=n:=by grind [brG,T.some,Rg.refl,T.bind,T.mono,Anz,Rg.len,Nat.beq_refl]
 refine .bind (hbr.mono ?_);rintro⟨l1,e⟩ ⟨i,m1,m2⟩;dsimp only at i m1 m2⊢;have hl1:=i.len;have z:=i.1.nodup_iff.2 hnl;have ox1:=ox.rg i hnl;rw[C3 (show l1.length<=1000 by omega),ax];refine .bind ((Anx hB aa).mono ?_);rintro⟨p,B⟩ ⟨hp1,hp2⟩;dsimp only at hp1 hp2⊢;have hpi:T (bif A&&par&&B then piS cmp l1 a b else some false) λf=>f=true->SoR cmp a b l1:=by grind [Any,T.some]
 refine .bind (hpi.mono λd hd=> .ite (λC=> .some ⟨i.1.trans pm,SoR.all hO (hd C) ox1⟩) λ_=>?_);have hag:agG cmp l1 a p=some true:=by
  unfold agG;cases hza:Nat.blt 0 a with
  |false=>rfl
  |true=>have hza:=Fa hza;have g1:l1[a-1]?=some (l1[a-1]'aa):=DR _;have g2:l1[p]?=some (l1[p]'aa):=DR _;rw[ax,g1,g2,aL,aL,C3 (ox1 (a-1) p _ _ aa aa g1 g2)]
 refine .eqb hag ?_;rw[ax];refine .bind ((AlP hO aa aa hp1 hp2).mono ?_);rintro⟨m,f,l2⟩ ⟨j,F,H,w,o,lo,up⟩;dsimp only at j F H o lo up⊢;have hl2:=j.len;have g:=j.1.nodup_iff.2 z;have ox2:=ox1.rg j z;rw[show Nat.beq l1.length l2.length=true by rw[hl2];exact Nat.beq_refl _,ax];unfold pdN;rw[C3 ⟨F,H⟩,ax];have pvx:∀q x,m<q->q<b->l2[q]?=some x->cmp w x<0:=λq x h1 h2 hx=>hO.lt g (λ_ _=>trivial) o hx aa (up q x h1 h2 hx);refine .dec (λE=>?_) λE=>?_
 .refine .bind ((AaC hO g (λ_ _=>trivial) (a:=a) (b:=m) aa aa aa).mono λl3 ⟨c,so3⟩=>?_);have rg3':=c.mono (a':=a) (b':=b) (Dx _) aa;have hl3:=c.len;rw[show Nat.beq l2.length l3.length=true by rw[hl3];exact Nat.beq_refl _,ax];have gp3:l3[m]?=some w:=(c.2 m (.inr (Dx _))).trans o;have lo3:∀q x,a<=q->q<m->l3[q]?=some x->cmp x w<0:=λq x h1 h2 hx=>by obtain⟨I,k1,k2,k3⟩:=c.src g h1 h2 hx;exact lo I x k1 k2 k3
  have up3:∀q x,m<q->q<b->l3[q]?=some x->cmp w x<0:=λq x h1 h2 hx=>pvx q x h1 h2 ((c.2 q (.inr aa)).symm.trans hx);have ox3:=ox2.rg rg3' g;refine .some ⟨⟨c.1.trans (j.1.trans (i.1.trans pm)),by show m+1<=b;omega,bn,λu v x y k hh hx hy=>?_,λt=>by show 4<=e+_;have:12<b-(m+1):=t;show 4<=e+(14-(b-(m+1)));omega,by show e<=100;omega,λhbal=>?_⟩,by show b-(m+1)<b-a;omega⟩
  .have hh:¬(m+1<=u/\v<b):=hh;by_cases c0:a<=u/\v<b
   .rcases(by omega:v<m\/v=m\/(u=m/\m<v)\/(u<m/\m<v)) with h|rfl|⟨rfl,h⟩|⟨h1,h2⟩
    .exact so3 u v x y c0.1 k h hx hy
    .grind
    .grind
    .exact hO.tr _ _ _ (lo3 u x c0.1 h1 hx) (up3 v y h2 c0.2 hy)
   .exact ox3 u v x y k c0 hx hy
  .have hbal:decide ((1:Int)<=(m:Int)-(a:Int))=false:=hbal;have:=LU hbal;show b-(m+1)<=12\/(m+1=1/\b=14);omega
 .refine .bind ((AaC hO g (λ_ _=>trivial) (a:=m+1) (b:=b) aa aa aa).mono λl3 ⟨c,so3⟩=>?_);have rg3':=c.mono (a':=a) (b':=b) aa (Dx _);have hl3:=c.len;rw[show Nat.beq l2.length l3.length=true by rw[hl3];exact Nat.beq_refl _,ax];have gp3:l3[m]?=some w:=(c.2 m (.inl aa)).trans o;have lo3:∀q x,a<=q->q<m->l3[q]?=some x->cmp x w<0:=λq x h1 h2 hx=>lo q x h1 h2 ((c.2 q (.inl aa)).symm.trans hx);have up3:∀q x,m<q->q<b->l3[q]?=some x->cmp w x<0:=λq x h1 h2 hx=>by obtain⟨I,k1,k2,k3⟩:=c.src g aa h2 hx;grind
  have ox3:=ox2.rg rg3' g;refine .some ⟨⟨c.1.trans (j.1.trans (i.1.trans pm)),F,by show m<=l0.length;omega,λu v x y k hh hx hy=>?_,λt=>by have:12<m-a:=t;show 4<=e+(14-(m-a));omega,by show e<=100;omega,λhbal=>?_⟩,by show m-a<b-a;omega⟩
  .have hh:¬(a<=u/\v<m):=hh;by_cases c0:a<=u/\v<b
   .rcases(by omega:m+1<=u\/(u=m/\m<v)\/(u<m/\v=m)\/(u<m/\m<v)) with h|⟨rfl,h⟩|⟨h,rfl⟩|⟨h1,h2⟩
    .exact so3 u v x y h k c0.2 hx hy
    .grind
    .grind
    .exact hO.tr _ _ _ (lo3 u x c0.1 h1 hx) (up3 v y h2 c0.2 hy)
   .exact ox3 u v x y k c0 hx hy
  grind
end
def OS(cmp:Ab->Ab->Int)(l:Bc):Option Bc:=AB (pdT cmp) (l,0,l.length,WZ l.length,true,true)
theorem Sf{cmp:Ab->Ab->Int}(hO:OrN cmp λ_=>True){l:Bc}(hn:l.Nodup)(hl:l.length<=14):T (OS cmp l) λr=>r.Perm l/\r.Pairwise λx y=>cmp x y<0:=by
 refine(AlQ hO hn hl (s:=(l,0,l.length,WZ l.length,true,true)) ⟨.refl _,Nat.zero_le _,Dx _,λp q x y h1 h2 hx hy=>?_,λh=>?_,?_,λh=>by cases h⟩).mono λr hr=>⟨hr.1,?_⟩
 .grind
 .have h:12<l.length-0:=h;show 4<=WZ l.length+(14-(l.length-0));rcases(by omega:l.length=13\/l.length=14) with e|e<;>rw[e]<;>decide
 .show WZ l.length<=100;generalize l.length=n at hl;rcases(by omega:n=0\/n=1\/n=2\/n=3\/n=4\/n=5\/n=6\/n=7\/n=8\/n=9\/n=10\/n=11\/n=12\/n=13\/n=14) with rfl|rfl|rfl|rfl|rfl|rfl|rfl|rfl|rfl|rfl|rfl|rfl|rfl|rfl|rfl<;>decide
 .rw[List.pairwise_iff_getElem];intro p q hp hq a;exact hr.2 p q _ _ (Nat.zero_le _) a hq (DR hp) (DR hq)
section
variable {gl:CD} {fi:FuncId} {fa fc:Bn} {cmp:Ab->Ab->Int}
theorem AbF(hv:CmV gl fi fa fc cmp)(a:RnF fa)(b:RnF fc){r:Bc}(hl:l.length<=14)(h:OS cmp l=some r):jg prog gl 103 [.rsl 0 0 l.length,Se fi fa fc] [(0,Bw l)] 1 (.tup []) [(0,Bw r)] 1:=by
 have e:wU (ah l)=l.length:=by unfold ah;rw[gP];omega
 have hb:ba prog gl 193 [uG (wU (ah l):Int)] (iG (WZ l.length:Int)):=by grind [RC]
 have hp:=AjX hv a b h rfl;dsimp only at hp;refine pP func103 ?_;exact mt .normal (s0 14 gl [] [(0,Bw r)] 1 1) [] [AA 10 (C8 (ah l)),hf 11 hb,hI hv a b 13 [iG ((0:Nat):Int),iG (l.length:Int),iG (WZ l.length:Int)] hp rfl] [hc (ac.imm r)] (ρ:=[(0,0)]) (kd:=[(0,.row)])
theorem AbG(h:Uk gg):CmV gl 87 [.agg (Nh ⟨gg⟩)] [] (M4 (Re gg)):=⟨aH,aY (aG 20 (.agg (Nh ⟨gg⟩)) aH) bf,bf,(by grind [AhG])⟩
theorem Agd(h:Uk gg)(hn:ids.length<=14)(hr:OS (M4 (Re gg)) ids=some row)(hle:row.length=ids.length):iV prog gl 47 [.ptr (Ag gg) 0,aE aj ids] 25 row.length (row.flatMap aj):=by
 have hcl:cU ids=some ids:=by grind [cU,aT]
 rw[hle];refine OW func47 ?_;exact EI [ho 7 [aE aj ids] [] (jY gl hcl) (Zy _),hI (gl:=gl) (AbG h) (λκ=>rfl) (λκ=>rfl) 12 [] (AbF (gl:=gl) (AbG h) (λκ=>rfl) (λκ=>rfl) hn hr) rfl] (ac.imm row)
theorem Xg(h:Uk gg)(hn:ids.length<=14)(hr:OS (M4 (Re gg)) ids=some row)(hle:row.length=ids.length):ba prog gl 47 [.ptr (Ag gg) 0,aE aj ids] (aE aj row):=(Agd h hn hr hle).fn ac.sz (ac.len _) (ac.imm _)
theorem TB(a b:Ab):ba prog gl 124 [.agg (aj a),.agg (aj b)] (bG (dt a b)):=Ni gl (EW a b)
theorem AhP(a b:Ab):ba prog gl 357 [.agg (aj a),.agg (aj b)] (iG (GK a b)):=by
 have h1:=TB (gl:=gl) a b;have h2:=TB (gl:=gl) b a;unfold GK;refine Gh func357 ?_;cases c1:dt a b with
 |true=>rw[c1] at h1;exact Ar [hf 7 h1] []
 |false=>
  rw[c1] at h1;cases c2:dt b a with
  |true=>rw[c2] at h2;exact Ar [hf 7 h1,hf 10 h2] []
  |false=>rw[c2] at h2;exact Ar [hf 7 h1,hf 10 h2] []
abbrev hso(d c:Nat){l r:Bc}{fi:FuncId}{cmp:Ab->Ab->Int}(hv:CmV gl fi [] [] cmp)(hl:l.length<=14)(h:OS cmp l=some r)(hlt:[0].all (λk=>Nat.blt k c)=true:=by kernel_rfl):HP:=tN d [0] c [(0,Bw l)] [.rsl 0 0 l.length,.clo (.func fi) [] []] [(0,Bw r)] (AbF hv (λκ=>rfl) (λκ=>rfl) hl h) ⟨⟨rfl,.inr ⟨rfl,ac.imm l⟩⟩,trivial⟩ ⟨⟨rfl,.inr ⟨rfl,ac.imm r⟩⟩,trivial⟩ hlt
theorem AjZ:CmV gl 357 [] [] GK:=⟨aH,bf,bf,(by grind [AhP])⟩
theorem Ad3{r:Bc}(hl:l.length<=14)(h:OS GK l=some r):jg prog gl 300 [.rsl 0 0 l.length] [(0,Bw l)] 1 (.rsl 0 0 l.length) [(0,Bw r)] 1:=by refine pP func300 ?_;exact mt .ret (s0 6 gl [(2,.rsl 0 0 l.length)] [(0,Bw r)] 1 1) [.rsl 0 0 l.length] [hso (gl:=gl) 4 1 AjZ hl h] [hc (el l),hc (ac.imm r)]
def Yb(d a b:Int)(x:Ab):Bool:=bif decide (x.By=d) then(bif decide (a<=x.Seq) then decide (x.Seq<=b) else false) else false
abbrev hsm(d c:Nat){l r:Bc}(hl:l.length<=14)(h:OS GK l=some r)(hlt:[0].all (λk=>Nat.blt k c)=true:=by kernel_rfl):HP:=tN d [0] c [(0,Bw l)] [.rsl 0 0 l.length] [(0,Bw r)] (Ad3 (gl:=gl) hl h) ⟨⟨rfl,.inr ⟨rfl,ac.imm l⟩⟩,trivial⟩ ⟨⟨rfl,.inr ⟨rfl,ac.imm r⟩⟩,trivial⟩ hlt
theorem Aj0{r:Bc}{a b:Int}(hn:ids.length<=14)(h:OS GK (ids.filter (Yb d a b))=some r)(hle:r.length=(ids.filter (Yb d a b)).length):iV prog gl 299 [aE aj ids,iG d,iG a,iG b] 25 r.length (r.flatMap aj):=by
 rw[hle];refine OW func299 ?_;refine pN (λk:Nat=>(s0 41 gl [(1,iG d),(2,iG a),(3,iG b),(9,.rsl 0 0 ((ids.take k).filter (Yb d a b)).length),(12,aE aj ids),(13,iG (ah ids)),(14,iG (k:Int))] [(0,Bw ((ids.take k).filter (Yb d a b)))] 1 0)) 1110122 (E0 (n:=ids.length) aa) [] [hc (ac.imm [])] (λB k w hs k5 f=>?_) [25] [(0,0)] [(0,.row)];unfold KS at hs;split at hs
 .rename_i hlt;obtain rfl:=Bj hs;obtain⟨x,hx⟩:∃x,ids[k]?=some x:=⟨_,DR hlt⟩;have c:=Bg hx;have k5:=k5 _ rfl;have hl:=NS (Yb d a b) (ids.take k);rw[N3] at hl;have e:(ids.take (k+1)).filter (Yb d a b)=(ids.take k).filter (Yb d a b)++(bif Yb d a b x then[x] else[]):=by grind [Jn]
  rw[e] at k5;generalize (ids.take k).filter (Yb d a b)=l at k5 hl⊢;unfold Yb at k5;cases b1:decide (x.By=d) with
  |false=>rw[b1,A9,A9,MT] at k5;exact jw [hr 15 (Dk hx),AA 16 (ac.ixZ c),AA 17 (ac.ptZ aW c),hr 21 b1,hbb 38 (Xl (q:=k) aa)] [hc (el l),hc (ac.imm l)] k5 [] [(0,0)] [(0,.row)]
  |true=>
   rw[b1,ax] at k5;cases b2:decide (a<=x.Seq) with
   |false=>rw[b2,A9,A9,MT] at k5;exact jw [hr 15 (Dk hx),AA 16 (ac.ixZ c),AA 17 (ac.ptZ aW c),hr 21 b1,hr 26 b2,hbb 38 (Xl (q:=k) aa)] [hc (el l),hc (ac.imm l)] k5 [] [(0,0)] [(0,.row)]
   |true=>
    rw[b2,ax] at k5;cases b3:decide (x.Seq<=b) with
    |false=>rw[b3,A9,MT] at k5;exact jw [hr 15 (Dk hx),AA 16 (ac.ixZ c),AA 17 (ac.ptZ aW c),hr 21 b1,hr 26 b2,hr 32 b3,hbb 38 (Xl (q:=k) aa)] [hc (el l),hc (ac.imm l)] k5 [] [(0,0)] [(0,.row)]
    |true=>rw[b3,ax] at k5;exact jw [hr 15 (Dk hx),AA 16 (ac.ixZ c),AA 17 (ac.ptZ aW c),hr 21 b1,hr 26 b2,hr 32 b3,Tn 37 ac 24 l x aa,hbb 38 (Xl (q:=k) aa)] [hc (el (l++[x])),hc (ac.imm (l++[x]))] k5 [] [(0,3)] [(0,.row)]
 .split at hs
  .rename_i he;subst he;rw[EQ];have hl:=NS (Yb d a b) ids;exact EI [hr 15 (D4 (s:=ids)),hsm (gl:=gl) 40 1 aa h] (ac.imm r)
  .cases hs
theorem Aj1{r:Bc}{a b:Int}(hn:ids.length<=14)(h:OS GK (ids.filter (Yb d a b))=some r)(hle:r.length=(ids.filter (Yb d a b)).length):ba prog gl 299 [aE aj ids,iG d,iG a,iG b] (aE aj r):=(Aj0 hn h hle).fn ac.sz (ac.len _) (ac.imm _)
end
def KX(x:Bh):List Value:=[.int .i64 x.Device,.int .i64 x.Seq]
theorem AaD(d:Nat)(i j:Bh):bt prog (Op.equalIn (d+3) 123 (.agg (KX i).toArray) (.agg (KX j).toArray))=some (decide (i=j)):=by obtain⟨a0,a1⟩:=i;obtain⟨b0,b1⟩:=j;unfold KX;rw[xV (fs:= #[⟨ "Device",3,0,false, "", "",0⟩,⟨ "Seq",3,1,false, "", "",8⟩]) aH aH];simp only[Array.toList];rw[uJ (k:= .i64) (k':= .i64) (a:=a0) (b:=b0) B5 aH aH aH];rw[uJ (k:= .i64) (k':= .i64) (a:=a1) (b:=b1) B5 aH aH aH];grind [Bh.mk.injEq,Op.eqFields,bz]
def Ef(x:Bh):Value:= .agg (KX x).toArray
theorem Ou:Md prog 123 Ef:=Qw (d:= .struct #[⟨ "Device",3,0,false, "", "",0⟩,⟨ "Seq",3,1,false, "", "",8⟩]) aH (λb k=>by cases b<;>(show _=_;kernel_rfl)) (λa b=>rfl) (λa b=>AaD 9997 a b)
theorem AlR(k:Bh):Instr.sameBits 10000 (Ef k) (Ef k)=true:=by(unfold Ef KX;simp[Instr.sameBits])
abbrev tMk:Bo:=189
abbrev oMk(m:FM Bh Int):Option Ob:=some (M5 tMk Ef iG m)
abbrev tMy:Bo:=190
abbrev oMy(m:FM Int Int):Option Ob:=some (M5 tMy JO iG m)
abbrev Y6(l:List Bh):Option Ob:=some ⟨123,l.flatMap Bt,none⟩
def UO(a b:Bh):Int:=AbC a.Device b.Device
section
variable {gl:CD}
theorem AhT(a b:Bh):ba prog gl 136 [.agg (Bt a),.agg (Bt b)] (iG (UO a b)):=Vp gl (by unfold Ur;rw[Adk];rfl)
abbrev cmK:G:= .clo (.func 136) [] []
abbrev hcF(d:Nat)(x y:Bh):HP:=hf d (AhT (gl:=gl) x y)
theorem AlS{l c d:List Bh}{i j:Int}{a b:Bh}(h1:ji l i b=some c)(h2:ji c j a=some d):fh prog 121 (.rsl 0 0 l.length) j=some (.ref 0 (0+j.toNat*2)):=by rw[hZ h1];exact Bi.ixsZ 0 h2
theorem AhU{a b:Int}{l:List Bh}(h:inI UO a b l=some r):jg prog gl 285 [.rsl 0 0 l.length,iG a,iG b,cmK] [(0,Y6 l)] 1 (.tup []) [(0,Y6 r)] 1:=by
 unfold inI at h;refine pP func285 ?_;refine pN (λs:List Bh×Int=>(s0 53 gl [(0,.rsl 0 0 s.1.length),(1,iG a),(2,iG b),(3,cmK),(8,iG s.2)] [(0,Y6 s.1)] 1 1)) 1122 h [] [hc (el l),hc (aG 20 cmK aH),hc (Bi.imm l)] (λB s w hs k5 f=>?_) [] [(0,0)] [(0,.row)];obtain⟨l1,i⟩:=s;unfold Aaz at hs;dsimp only at hs;rcases bC hs with⟨b1,hs⟩|⟨b1,hs⟩
 .obtain⟨l2,e2,hs⟩:=bS hs;obtain rfl:=Bj hs;refine Ix 11221021 (s0 53 gl [(0,.rsl 0 0 l2.length),(1,iG a),(2,iG b),(3,cmK),(8,iG i)] [(0,Y6 l2)] 1 1) ?_ λkk=>?_
  .exact jw [] [hc (el l2),hc (aG 20 cmK aH),hc (Bi.imm l2)] (k5 _ rfl) [] [(0,0)] [(0,.row)]
  refine pN (λs:List Bh×Int=>(s0 53 gl [(0,.rsl 0 0 s.1.length),(1,iG a),(2,iG b),(3,cmK),(8,iG i),(9,iG s.2)] [(0,Y6 s.1)] 1 1)) 1122102122 e2 [hr 14 b1] [hc (el l1),hc (aG 20 cmK aH),hc (Bi.imm l1)] (λm z v hz g d=>?_) [] [(0,0)] [(0,.row)];obtain⟨l3,j⟩:=z;unfold Aay at hz;dsimp only at hz;rcases bC hz with⟨b2,hz⟩|⟨b2,hz⟩
  .obtain⟨x,ex,hz⟩:=bS hz;obtain⟨y,c,hz⟩:=bS hz;rcases bC hz with⟨b3,hz⟩|⟨b3,hz⟩
   .obtain⟨k,e1,hz⟩:=bS hz;obtain⟨e,e3,hz⟩:=bS hz;obtain rfl:=Bj hz;exact jw [hr 20 b2,AA 25 (Bi.ixrZ 0 ex),AA 26 (Bi.pt0Z Hj ex),AA 30 (Bi.ixrZ 0 c),AA 31 (Bi.pt0Z Hj c),hcF (gl:=gl) 32 x y,hr 33 b3,AA 45 (Bi.ixrZ 0 c),AA 46 (Bi.pt0Z Hj c),AA 49 (Bi.ixrZ 0 ex),AA 50 (Bi.pt0Z Hj ex),AA 51 (Bi.ixsZ 0 e1),hw 51 (k.flatMap Bt) (Bi.putZ e1),AA 52 (AlS e1 e3),hw 52 (e.flatMap Bt) (Bi.putZ e3)] [hc ((hZ e1).trans (hZ e3)),hc (aG 20 cmK aH),hc (Bi.imm e)] (g _ rfl) [] [(0,0)] [(0,.row)]
   .obtain rfl:=Bj hz;obtain rfl:=d _ rfl;exact yl 11221021 [hr 20 b2,AA 25 (Bi.ixrZ 0 ex),AA 26 (Bi.pt0Z Hj ex),AA 30 (Bi.ixrZ 0 c),AA 31 (Bi.pt0Z Hj c),hcF (gl:=gl) 32 x y,hr 33 b3] [hc (el l3),hc (aG 20 cmK aH),hc (Bi.imm l3)] kk [] [(0,0)] [(0,.row)]
  .obtain rfl:=Bj hz;obtain rfl:=d _ rfl;exact yl 11221021 [hr 20 b2] [hc (el l3),hc (aG 20 cmK aH),hc (Bi.imm l3)] kk [] [(0,0)] [(0,.row)]
 .obtain rfl:=Bj hs;obtain rfl:=f _ rfl;exact mt .normal (s0 53 gl [] [(0,Y6 l1)] 1 1) [] [hr 14 b1] [hc (Bi.imm l1)] (ρ:=[(0,0)]) (kd:=[(0,.row)])
theorem AhV{l:List Bh}(hl:l.length<=12)(h:inI UO ((0:Nat):Int) (l.length:Int) l=some r)(k:Int):jg prog gl 218 [.rsl 0 0 l.length,iG 0,iG (l.length:Int),iG k,cmK] [(0,Y6 l)] 1 (.tup []) [(0,Y6 r)] 1:=by have hs:=sb (a:=(l.length:Int)) (b:=((0:Nat):Int)) (z:=(l.length:Int)-((0:Nat):Int)) rfl aa;have hd:decide ((l.length:Int)-((0:Nat):Int)<=12)=true:=C3 aa;refine pP func218 ?_;refine pN (λ_:Unit=>(s0 148 gl [(0,.rsl 0 0 l.length),(1,iG ((0:Nat):Int)),(2,iG (l.length:Int)),(3,iG k),(4,cmK)] [(0,Y6 l)] 1 1)) 11122 Lg [] [hc (el l),hc (aG 20 cmK aH),hc (Bi.imm l)] (λc z v hz2 d e=>?_) [] [(0,0)] [(0,.row)];exact mt .ret (s0 148 gl [] [(0,Y6 r)] 1 1) [] [hbb 23 hs,hr 25 hd,tN 30 [0] 1 [(0,Y6 l)] [.rsl 0 0 l.length,iG ((0:Nat):Int),iG (l.length:Int),cmK] [(0,Y6 r)] (AhU (gl:=gl) h) ⟨⟨rfl,.inr ⟨rfl,Bi.imm l⟩⟩,trivial⟩ ⟨⟨rfl,.inr ⟨rfl,Bi.imm r⟩⟩,trivial⟩] [hc (Bi.imm r)] (ρ:=[(0,0)]) (kd:=[(0,.row)])
theorem Age{l:List Bh}(hl:l.length<=12)(h:inI UO ((0:Nat):Int) (l.length:Int) l=some r):jg prog gl 135 [.rsl 0 0 l.length,cmK] [(0,Y6 l)] 1 (.tup []) [(0,Y6 r)] 1:=by
 have e:wU (ah l)=l.length:=by unfold ah;rw[gP];omega
 have hb:ba prog gl 193 [uG (wU (ah l):Int)] (iG (WZ l.length:Int)):=by grind [RC]
 refine pP func135 ?_;exact mt .normal (s0 14 gl [] [(0,Y6 r)] 1 1) [] [AA 10 (C8 (ah l)),hf 11 hb,tN 13 [0] 1 [(0,Y6 l)] [.rsl 0 0 l.length,iG 0,iG (l.length:Int),iG (WZ l.length:Int),cmK] [(0,Y6 r)] (AhV (gl:=gl) hl h (WZ l.length:Int)) ⟨⟨rfl,.inr ⟨rfl,Bi.imm l⟩⟩,trivial⟩ ⟨⟨rfl,.inr ⟨rfl,Bi.imm r⟩⟩,trivial⟩] [hc (Bi.imm r)] (ρ:=[(0,0)]) (kd:=[(0,.row)])
end
def fkT(s:FM Bh Int×FM Int Int)(x:Ab):FM Bh Int×FM Int Int:=
 (C4 s.1 ⟨x.By,x.Seq⟩ (wI ((s.1.get ⟨x.By,x.Seq⟩).getD 0+1)),bif decide (wI ((s.1.get ⟨x.By,x.Seq⟩).getD 0+1)<2) then s.2 else bif(s.2.get x.By).isSome then(bif decide (x.Seq<(s.2.get x.By).getD 0) then C4 s.2 x.By x.Seq else s.2) else C4 s.2 x.By x.Seq)
def Uo(ids:Bc):FM Bh Int×FM Int Int:=ids.foldl fkT (⟨[],0⟩,⟨[],0⟩)
theorem Aj3(h:Q6 s.1/\Q6 s.2):Q6 (fkT s x).1/\Q6 (fkT s x).2:=by grind [fkT,On]
theorem Xh(ids:Bc):Q6 (Uo ids).1/\Q6 (Uo ids).2:=by
 have key:∀(l:Bc) (s:FM Bh Int×FM Int Int),Q6 s.1/\Q6 s.2->Q6 (l.foldl fkT s).1/\Q6 (l.foldl fkT s).2:=by intro l;induction l<;>grind [Aj3]
 exact key ids _ ⟨AjM,AjM⟩
theorem AbI(hx:ids[k]?=some x):Uo (ids.take (k+1))=fkT (Uo (ids.take k)) x:=by grind [Uo,Jn]
theorem lkF(m:FM Bh Int)(k:Bh){v:Int}(h:(m.get k).getD 0=v):bL prog [(0,oMk m)] tMk false (.mref 0) (.agg (Bt k))=some (iG v):=h▸(S7 (et:=3) Ou aH (k:=k) rfl RU).trans (FM.look1 (et:=3) (v0:=0) Ou aH aH m k rfl _)
theorem lkY(m:FM Int Int)(k:Int){v:Int}{b:Bool}(h:(m.get k).getD 0=v)(hb:(m.get k).isSome=b):bL prog [(1,oMy m)] tMy true (.mref 1) (iG k)=some (.tup [iG v,bG b]):=h▸hb▸(S7 (et:=3) Pp aH (k:=k) rfl RU).trans (FM.look (et:=3) (v0:=0) Pp aH aH m k rfl _)
def hnl(d:Nat){P:Br}{σ:aQ}{t:Bo}{ok:Bool}{i:Nat}{gk g:G}(ck:aQ->Bool)(h:bL P [(i,ag σ i)] t ok (.mref i) gk=some g/\∀W,ck W=true->bL P [(i,ag (W++σ) i)] t ok (.mref i) gk=some g):HP:=⟨some (.n d g ck),bL P [(i,ag σ i)] t ok (.mref i) gk=some g/\∀W,ck W=true->bL P [(i,ag (W++σ) i)] t ok (.mref i) gk=some g,h⟩
def hnk(ck:aQ->Bool)(U:aQ)(h:ck U=true):HP:=⟨some (.v 999999996 (.lit undef)),ck U=true,h⟩
noncomputable def ckE(V:aQ):aQ->Bool:=λW=> @decide (W=V) (Classical.propDecidable _)
theorem Agf{V W:aQ}:ckE V W=true↔W=V:= @decide_eq_true_iff _ (Classical.propDecidable _)
theorem mkI(m:FM Bh Int):∀e∈mEs Ef iG m,bB e.2.1:=Qh λv=>mN _
theorem myI(m:FM Int Int):∀e∈mEs JO iG m,bB e.2.1:=Qh λv=>mN _
abbrev AlT(clock:Nat)(seen:Bq):Option Ob:=some ⟨tMy,[],some (.iter (some 0) clock seen clock)⟩
abbrev mkF(e:Int×Int×Nat):Bh:=⟨e.1,e.2.1⟩
section
variable {gl:CD}
abbrev stF(gl:CD)(l:FM Int Int)(seen:Bq)(a:List Bh):St:=(s0 75 gl [(12,.rsl 2 0 a.length),(60,.ref 1 0)] [(0,oMy l),(1,AlT l.clk seen),(2,Y6 a)] 3 0)
abbrev fr4(ids:Bc)(k:Nat):Fr:=[(5,.mref 0),(6,.mref 1),(17,aE aj ids),(18,iG (ah ids)),(19,iG (k:Int))]
theorem AbK{gg:Aj}{ids:Bc}{r:List Bh}{n:Nat}(hn:ids.length<=1000)(h12:(Uo ids).2.es.length<=12)(he:(Uo ids).2.es.length=n)(hs:∀l:List Bh,l.Perm ((Uo ids).2.es.map mkF)->inI UO ((0:Nat):Int) (l.length:Int) l=some r):iV prog gl 68 [.ptr (Ag gg) 0,aE aj ids] 123 n (r.flatMap Bt):=by
 refine OW func68 ?_;refine pN (λk:Nat=>(s0 75 gl (fr4 ids k) [(0,oMk (Uo (ids.take k)).1),(1,oMy (Uo (ids.take k)).2)] 2 0)) 11110122 (E0 (n:=ids.length) aa) [] [hc (mkI (Uo (ids.take 0)).1),hc (myI (Uo (ids.take 0)).2)] (λB k w hs k5 j=>?_) [] [(0,0),(1,1)] [];unfold KS at hs;split at hs
 .rename_i hlt;obtain rfl:=Bj hs;obtain⟨x,hx⟩:∃x,ids[k]?=some x:=⟨_,DR hlt⟩;have hz:=Bg hx;have k5:=k5 _ rfl;obtain⟨h1,h2⟩:=Xh (ids.take k);rw[AbI hx] at k5;generalize Uo (ids.take k)=s at k5 h1 h2⊢;obtain⟨m,l⟩:=s;unfold fkT at k5;dsimp only at k5 h1 h2⊢;generalize hv1:(m.get ⟨x.By,x.Seq⟩).getD 0=v at k5;have h36:((C4 m ⟨x.By,x.Seq⟩ (wI (v+1))).get ⟨x.By,x.Seq⟩).getD 0=wI (v+1):=by rw[BB,Bx rfl];rfl
  refine pO 111101221102110 (s0 75 gl ([(8,.ref 2 0),(9,.ref 3 0)]++fr4 ids k) [(0,oMk m),(1,oMy l),ob 2 25 (aj x),ob 3 123 (Bt ⟨x.By,x.Seq⟩)] 4 0) [hr 20 (Dk hx),AA 21 (ac.ixZ hz),AA 22 (ac.ptZ aW hz)] [hc (mkI m),hc (myI l)] ?_ [] [(0,0),(1,1),(2,2),(3,3)] [];refine pO 11110122110211100 (s0 75 gl ([(8,.ref 2 0),(9,.ref 3 0)]++fr4 ids k) [(0,oMk (C4 m ⟨x.By,x.Seq⟩ (wI (v+1)))),(1,oMy l),ob 2 25 (aj x),ob 3 123 (Bt ⟨x.By,x.Seq⟩)] 4 0) [hnl 30 (σ:=[(0,oMk m),(1,oMy l),ob 2 25 (aj x),ob 3 123 (Bt ⟨x.By,x.Seq⟩)]) (ckE [(0,some (M5 tMk Ef iG (C4 m ⟨x.By,x.Seq⟩ ((m.get ⟨x.By,x.Seq⟩).getD 0))))]) ⟨lkF m ⟨x.By,x.Seq⟩ hv1,λW o=>by rw[Agf.1 o];exact lkF (C4 m ⟨x.By,x.Seq⟩ ((m.get ⟨x.By,x.Seq⟩).getD 0)) ⟨x.By,x.Seq⟩ (by rw[BB,Bx rfl];exact hv1)⟩,hnk (ckE [(0,some (M5 tMk Ef iG (C4 m ⟨x.By,x.Seq⟩ ((m.get ⟨x.By,x.Seq⟩).getD 0))))]) [(0,some (M5 tMk Ef iG (C4 m ⟨x.By,x.Seq⟩ ((m.get ⟨x.By,x.Seq⟩).getD 0))))] (Agf.2 rfl),hme 32 [0] 4 (Ajo (P:=prog) (σ:=[(0,oMk m)]) (t:=tMk) (t':=tMk) (et:=3) (v0:=0) Ou AlR aH aH (k:=⟨x.By,x.Seq⟩) (gk:= .agg (Bt ⟨x.By,x.Seq⟩)) rfl RU),hms 33 [0] 4 (Ajp (σ:=[(0,some (M5 tMk Ef iG (C4 m ⟨x.By,x.Seq⟩ ((m.get ⟨x.By,x.Seq⟩).getD 0))))]) (i:=0) (t':=tMk) (kv:=Ef) (vg:=iG) (m:=m) (k:=⟨x.By,x.Seq⟩) (v0:=(m.get ⟨x.By,x.Seq⟩).getD 0) h1.1 RU (wI (v+1)))] [hc (mkI (C4 m ⟨x.By,x.Seq⟩ (wI (v+1)))),hc (myI l)] ?_ [] [(0,0),(1,1),(2,2),(3,3)] [];generalize C4 m ⟨x.By,x.Seq⟩ (wI (v+1))=m' at k5 h36⊢;generalize wI (v+1)=v' at k5 h36⊢;skip;clear hv1 h1;cases c1:decide (v'<2) with
  |true=>rw[c1,ax] at k5;exact jw [hlk 36 (lkF m' ⟨x.By,x.Seq⟩ h36),hr 37 c1,hbb 58 (Xl (q:=k) aa)] [hc (mkI m'),hc (myI l)] k5 [] [(0,0),(1,1)] []
  |false=>
   rw[c1,A9] at k5;have hput:=Afz (P:=prog) (σ:=[(0,oMk m'),(1,oMy l),ob 2 25 (aj x),ob 3 123 (Bt ⟨x.By,x.Seq⟩)]) (i:=1) (t:=tMy) (t':=tMy) (et:=3) (vg:=iG) Pp Ac6 aH (k:=x.By) (gk:=iG x.By) rfl (m:=l) rfl x.Seq;cases c2:(l.get x.By).isSome with
   |false=>rw[c2,A9] at k5;exact jw [hlk 36 (lkF m' ⟨x.By,x.Seq⟩ h36),hr 37 c1,hlk 42 (lkY l x.By rfl c2),hmp 4 hput,hbb 58 (Xl (q:=k) aa)] [hc (mkI m'),hc (myI (C4 l x.By x.Seq))] k5 [] [(0,0),(1,1)] []
   |true=>
    rw[c2,ax] at k5;generalize hw:(l.get x.By).getD 0=w at k5;cases c3:decide (x.Seq<w) with
    |true=>rw[c3,ax] at k5;exact jw [hlk 36 (lkF m' ⟨x.By,x.Seq⟩ h36),hr 37 c1,hlk 42 (lkY l x.By hw c2),hr 51 c3,hmp 4 hput,hbb 58 (Xl (q:=k) aa)] [hc (mkI m'),hc (myI (C4 l x.By x.Seq))] k5 [] [(0,0),(1,1)] []
    |false=>rw[c3,A9] at k5;exact jw [hlk 36 (lkF m' ⟨x.By,x.Seq⟩ h36),hr 37 c1,hlk 42 (lkY l x.By hw c2),hr 51 c3,hbb 58 (Xl (q:=k) aa)] [hc (mkI m'),hc (myI l)] k5 [] [(0,0),(1,1)] []
 .split at hs
  .rename_i d;subst d;clear j k5 hs;rw[EQ];obtain⟨h1,h2⟩:=Xh ids;generalize Uo ids=s at h1 h2 h12 he hs⊢;obtain⟨m,l⟩:=s;dsimp only at h1 h2 h12 he hs⊢;refine yl (Bs':=[]) [1,1,1,0,1] (J:=(s0 75 gl [(6,.mref 0)] [(0,oMy l)] 1 0)) [hr 20 (D4 (s:=ids))] [hc (myI l)] ?_;refine pO 11111100 (s0 75 gl [(6,.mref 0),(12,Iy)] [(0,oMy l)] 1 0) [] [hc (myI l)] ?_ [] [(0,0)] [];refine yl (Bs':=[]) [1,1,1,1,1,0,0] (J:=stF gl l [] []) [] [hc (myI l),hc (Bi.imm [])] ?_;refine dNx 11111101 ?_;refine dMw 60 61 62 2 (iti:=1) (mi:=0) (clock:=l.clk) (since:=l.clk) (T:=tMy) (ty:=tMy) (es:=mEs JO iG l) (λseen=>stF gl l seen ((eQ l seen).map mkF)) (KsQ l) Aao (λe he=>by obtain⟨x,hx,rfl⟩:=Fm.1 he;exact h2.lt x hx) rfl (Le.refl _) (λseen=>rfl) (λseen=>rfl) (by grind) (λB seen k g nn hI hme hns c=>?_) (λseen hI f=>?_)
   .obtain⟨e,b,h⟩:=Fm.1 hme;simp only[Ge] at h;obtain⟨rfl,rfl,rfl⟩:=h;have c:=c (Aap hI b hns);rw[AfM h2.1 b,List.map_append] at c;have hal:((eQ l seen).map mkF).length<=12:=by rw[Hi];have:=Adc hI;have h3:(eQ l seen).length<=seen.length:=List.length_filterMap_le _ _;have h4:=Qn hI.1 hI.2;rw[Hi] at h4;omega
    generalize (eQ l seen).map mkF=a at c hal⊢;have hge:jr ((1,AlT l.clk (seen++[e.2.2]))::(stF gl l seen a).σ) (.ref 1 0)=some (.tup [db (JO e.1),iG e.2.1]):=yo (iti:=1) (mi:=0) (since:=l.clk) (clock:=l.clk) (T:=tMy) (ty:=tMy) (seen:=seen) rfl rfl (by rw[HR];exact h2.nd) hme;exact jw [YT 63 hge,Tn 71 Bi 16 a (mkF e) aa] [hc (el (a++[mkF e])),hc (myI l),hc (Bi.imm (a++[mkF e]))] c [] [(0,0),(1,1),(2,4)] [(2,.row)]
   .have hp:=(Adg h2.1 hI λe he=>f _ (Fm.2 ⟨e,he,rfl⟩)).map mkF;have hi:=hs _ hp;have hla:((eQ l seen).map mkF).length=n:=by rw[hp.length_eq,Hi,he]
    generalize (eQ l seen).map mkF=a at hi hla⊢;subst hla;exact EI [tN 73 [2] 3 [(2,Y6 a)] [.rsl 2 0 a.length,cmK] [(0,Y6 r)] (Age (gl:=gl) aa hi) ⟨⟨rfl,.inr ⟨rfl,Bi.imm a⟩⟩,trivial⟩ ⟨⟨rfl,.inr ⟨rfl,Bi.imm r⟩⟩,trivial⟩] (Bi.imm r)
  .cases hs
end
theorem QL{a b:Ab}:GK a b<0↔dt a b=true:=by grind [GK]
theorem PJ:OrN GK λ_=>True:=by grind [OrN,QL,dt,EX]
theorem AbL{x y:Int}:AbC x y<0↔x<y:=by grind [AbC]
theorem TC{cmp:α->α->Int}(tr:∀x y z,cmp x y<0->cmp y z<0->cmp x z<0)(a:∀x,¬cmp x x<0){l r:List α}(hp:l.Perm r)(h1:l.Pairwise λx y=>cmp x y<0)(h2:r.Pairwise λx y=>cmp x y<0):l=r:=
 by grind [List.Perm.eq_of_pairwise]
def OO(ids:Bc)(f:Bh):Nat:=(ids.filter λx=>decide (x.By=f.Device)&&decide (x.Seq=f.Seq)).length
theorem TD(p:Bc)(x:Ab)(f:Bh):OO (p++[x]) f=OO p f+if(⟨x.By,x.Seq⟩:Bh)=f then 1 else 0:=by unfold OO;rw[Q1,Sq];obtain⟨d,s⟩:=f;grind
theorem Agh(p:Bc)(f:Bh):OO p f<=p.length:=NS _ _
structure FkI (p:Bc) (s:FM Bh Int×FM Int Int):Prop where
 n:∀f,(s.1.get f).getD 0=(OO p f:Int)
 a:∀d v,s.2.get d=some v->2<=OO p ⟨d,v⟩
 b:∀d v,2<=OO p ⟨d,v⟩->∃w,s.2.get d=some w/\w<=v
theorem AlU{p:Bc}(h:FkI p s)(hp:p.length<=1000):FkI (p++[x]) (fkT s x):=by
 have hle:=Agh p ⟨x.By,x.Seq⟩;have hw:wI ((s.1.get ⟨x.By,x.Seq⟩).getD 0+1)=((OO p ⟨x.By,x.Seq⟩+1:Nat):Int):=by grind [FkI.n,bM]
 have hset:∀(l:FM Int Int),l=C4 s.2 x.By x.Seq->1<=OO p ⟨x.By,x.Seq⟩->(∀w,s.2.get x.By=some w->x.Seq<=w)->(∀d v,l.get d=some v->2<=OO (p++[x]) ⟨d,v⟩)/\(∀d v,2<=OO (p++[x]) ⟨d,v⟩->∃w,l.get d=some w/\w<=v):=by grind [BB,TD,FkI.a,FkI.b]
 have hold:∀(l:FM Int Int),l=s.2->(1<=OO p ⟨x.By,x.Seq⟩->∃w,s.2.get x.By=some w/\w<=x.Seq)->(∀d v,l.get d=some v->2<=OO (p++[x]) ⟨d,v⟩)/\(∀d v,2<=OO (p++[x]) ⟨d,v⟩->∃w,l.get d=some w/\w<=v):=by grind [TD,FkI.a,FkI.b]
 have key:(∀d v,(fkT s x).2.get d=some v->2<=OO (p++[x]) ⟨d,v⟩)/\(∀d v,2<=OO (p++[x]) ⟨d,v⟩->∃w,(fkT s x).2.get d=some w/\w<=v):=by
  unfold fkT;dsimp only;rw[hw];cases c1:decide (((OO p ⟨x.By,x.Seq⟩+1:Nat):Int)<2) with
  |true=>grind
  |false=>
   have h1:=LU c1;rw[A9];cases c2:s.2.get x.By with
   |none=>grind
   |some w=>rw[Option.isSome_some,ax,Nf];cases c3:decide (x.Seq<w)<;>grind
 refine⟨λf=>?_,key.1,key.2⟩;grind [fkT,BB,TD,FkI.n]
theorem Agi(ids:Bc)(hn:ids.length<=1000):FkI ids (Uo ids):=by
 have key:∀k,k<=ids.length->FkI (ids.take k) (Uo (ids.take k)):=by
  intro k;induction k with
  |zero=>exact λ_=>⟨λf=>rfl,λd v h=>(by cases h),λd v h=>absurd h (by show¬2<=0;omega)⟩
  |succ k ih=>intro hk;have hx:ids[k]?=some (ids[k]'aa):=DR _;rw[AbI hx,Jn,hx,Option.toList_some];grind [AlU]
 grind [EQ]
theorem Adq{α:Type}(p:α->Bool):∀l:List α,l.length=(l.filter p).length+(l.filter λx=> !p x).length
 |[]=>rfl
 |a::r=>by have:=Adq p r;grind
theorem AbM:∀{ds:Be} {ids:Bc},ds.Nodup->(∀d∈ds,2<=(ids.filter λx=>decide (x.By=d)).length)->2*ds.length<=ids.length
 |[],ids,_,_=>aC
 |d::r,ids,hd,h=>by
  rw[LV] at hd;have ih:=AbM (ids:=ids.filter λx=> !decide (x.By=d)) hd.2 λe he=>by have:=h e (by simp[he]);rw[List.filter_filter];grind
  have h1:=h d aC;grind [Adq]
theorem AaE{ids:Bc}(hn:ids.length<=1000):2*(Uo ids).2.es.length<=ids.length:=by have hk:=(Xh ids).2;have hI:=Agi ids hn;rw[<-Hi (f:=λe:Int×Int×Nat=>e.1)];refine AbM hk.kd λd hd=>?_;obtain⟨e,he,rfl⟩:=Fm.1 hd;have hg:=JH hk (k:=e.1) (v:=e.2.1) (n:=e.2.2) he;have h2:=hI.a _ _ hg;refine MI h2 ?_;unfold OO;rw[<-List.filter_filter];exact(List.Sublist.filter _ List.filter_sublist).length_le
theorem TF{ids:Bc}{f:Bh}:f∈(Uo ids).2.es.map mkF↔(Uo ids).2.get f.Device=some f.Seq:=by grind [Xh,JH,Hp]
theorem Aiw(ids:Bc):OrN UO λf=>f∈(Uo ids).2.es.map mkF:=by grind [OrN,UO,AbL,TF]
theorem Agj{ids:Bc}:((Uo ids).2.es.map mkF).Nodup:=List.Pairwise.of_map (S:=λa b:Int=>a≠b) (λf:Bh=>f.Device) (by grind) (by rw[HR];exact(Xh ids).2.kd)
theorem Aix{ids:Bc}(hn:ids.length<=14):∃r:List Bh,r.Perm ((Uo ids).2.es.map mkF)/\∀l:List Bh,l.Perm ((Uo ids).2.es.map mkF)->inI UO ((0:Nat):Int) (l.length:Int) l=some r:=by
 have hl:=AaE (ids:=ids) aa;have go:∀l:List Bh,l.Perm ((Uo ids).2.es.map mkF)->∃r,inI UO ((0:Nat):Int) (l.length:Int) l=some r/\r.Perm ((Uo ids).2.es.map mkF)/\r.Pairwise λx y=>UO x y<0:=λl hp=>by obtain⟨r,e,h1,h2⟩:=AaC (Aiw ids) (a:=0) (b:=l.length) (hp.nodup_iff.2 Agj) (λz hz=>hp.mem_iff.1 hz) aa (Dx _) (by rw[hp.length_eq,Hi];omega);refine⟨r,e,h1.1.trans hp,?_⟩;rw[List.pairwise_iff_getElem];intro p q hp' c d;exact h2 p q _ _ (Nat.zero_le _) d (by rw[<-h1.len];exact c) (DR hp') (DR c)
 obtain⟨r,_,h2,h3⟩:=go _ (.refl _);refine⟨r,h2,λl hp=>?_⟩;obtain⟨r',e,k2,k3⟩:=go l hp;rw[e,TC (cmp:=UO) (Aiw ids).tr (by grind [UO,AbL]) (k2.trans h2.symm) k3 h3]
def voP(ids:Bc)(x:Ab):Bool:=ids.any λy=>decide (y.By=x.By/\y.Seq<=x.Seq/\2<=OO ids ⟨y.By,y.Seq⟩)
section
variable {gl:CD}
theorem AhW{r:Bc}{fs:List Bh}{R:Bh->Bc}(hF:ba prog gl 68 [.ptr (Ag gg) 0,aE aj ids] (aE Bt fs))(hfl:fs.length<=1000)(hR:∀f∈fs,ba prog gl 299 [aE aj ids,iG f.Device,iG f.Seq,iG 4611686018427387904] (aE aj (R f)))(hl:(fs.flatMap R).length<=14)(h:OS GK (fs.flatMap R)=some r)(hle:r.length=(fs.flatMap R).length):iV prog gl 238 [.ptr (Ag gg) 0,aE aj ids] 25 r.length (r.flatMap aj):=by
 rw[hle];refine OW func238 ?_;refine pN (λk:Nat=>(s0 27 gl [(1,aE aj ids),(5,.rsl 0 0 ((fs.take k).flatMap R).length),(10,aE Bt fs),(11,iG (ah fs)),(12,iG (k:Int))] [(0,Bw ((fs.take k).flatMap R))] 1 0)) 1110122 (E0 (n:=fs.length) aa) [hf 10 hF] [hc (ac.imm [])] (λB k w hs k5 a=>?_) [25] [(0,0)] [(0,.row)];unfold KS at hs;split at hs
 .rename_i hlt;obtain rfl:=Bj hs;obtain⟨x,hx⟩:∃x,fs[k]?=some x:=⟨_,DR hlt⟩;have hz:=Bg hx;have k5:=k5 _ rfl;have e:(fs.take (k+1)).flatMap R=(fs.take k).flatMap R++R x:=by grind [Jn]
  have hll:((fs.take k).flatMap R++R x).length<=14:=by grind [O6]
  rw[e] at k5;generalize (fs.take k).flatMap R=l at k5 hll⊢;rw[Sq] at hll;exact jw [hr 13 (Dk hx),AA 14 (Bi.ixZ hz),AA 15 (Bi.ptZ Hj hz),hf 22 (hR x (bO hx)),AmL 23 ac 24 l (R x) aa,hbb 24 (Xl (q:=k) aa)] [hc (el (l++R x)),hc (ac.imm (l++R x))] k5 [] [(0,2)] [(0,.row)]
 .split at hs
  .rename_i he;subst he;rw[EQ];exact EI [hr 13 (D4 (s:=fs)),hsm (gl:=gl) 26 1 hl h] (ac.imm r)
  .cases hs
end
theorem Xi{α β:Type}{f:α->List β}:∀{l:List α},l.Nodup->(∀x∈l,(f x).Nodup)->(∀x∈l,∀y∈l,x≠y->∀z∈f x,z∉f y)->(l.flatMap f).Nodup
 |[],_,_,_=> .nil
 |a::r,hn,h1,h2=>by rw[LV] at hn;rw[List.flatMap_cons,List.nodup_append];refine⟨h1 a aC,Xi hn.2 (by grind) (by grind),λz hz w hw e=>?_⟩;grind
theorem AhX{gl:CD}{gg:Aj}(hn:ids.length<=14)(hd:ids.Nodup)(hs:∀x∈ids,x.Seq<=4611686018427387904):∃r,ba prog gl 238 [.ptr (Ag gg) 0,aE aj ids] (aE aj r)/\r.Perm (ids.filter (voP ids))/\r.Pairwise λx y=>GK x y<0:=by
 obtain⟨fs,hp,hi⟩:=Aix hn;have hl:=AaE (ids:=ids) aa;have hI:=Agi ids aa;have hF:=(AbK (gl:=gl) (gg:=gg) (ids:=ids) (r:=fs) (n:=fs.length) aa aa (by rw[hp.length_eq,Hi]) hi).fn Bi.sz (Bi.len _) (Bi.imm _);have hof:∀f:Bh,∃r,OS GK (ids.filter (Yb f.Device f.Seq 4611686018427387904))=some r/\r.Perm (ids.filter (Yb f.Device f.Seq 4611686018427387904)):=λf=>by have h1:=NS (Yb f.Device f.Seq 4611686018427387904) ids;obtain⟨r,e,h2,h3⟩:=Sf PJ (l:=ids.filter (Yb f.Device f.Seq 4611686018427387904)) (hd.sublist List.filter_sublist) aa;exact⟨r,e,h2⟩
 let R:Bh->Bc:=λf=>(OS GK (ids.filter (Yb f.Device f.Seq 4611686018427387904))).getD [];have hRp:∀f,OS GK (ids.filter (Yb f.Device f.Seq 4611686018427387904))=some (R f)/\(R f).Perm (ids.filter (Yb f.Device f.Seq 4611686018427387904)):=λf=>by obtain⟨r,e,h2⟩:=hof f;grind
 have hRm:∀f x,x∈R f↔x∈ids/\x.By=f.Device/\f.Seq<=x.Seq:=λf x=>by rw[(hRp f).2.mem_iff,HU];grind [Yb]
 clear_value R;have hfd:∀x∈fs,∀y∈fs,x≠y->x.Device≠y.Device:=by grind [TF]
 have hfn:(fs.flatMap R).Nodup:=Xi (hp.nodup_iff.2 Agj) (by grind) (by grind);have hperm:(fs.flatMap R).Perm (ids.filter (voP ids)):=by
  refine(List.perm_ext_iff_of_nodup hfn (hd.sublist List.filter_sublist)).2 λx=>?_;rw[List.mem_flatMap,HU];unfold voP;rw[List.any_eq_true];refine⟨λ⟨f,hf,hx⟩=>?_,λ⟨hx,y,hy,hv⟩=>?_⟩
  .obtain⟨h1,h2,h3⟩:=(hRm f x).1 hx;have h4:=TF.1 (hp.mem_iff.1 hf);have h5:=hI.a _ _ h4;refine⟨h1,?_⟩;have h6:0<(ids.filter λx=>decide (x.By=f.Device)&&decide (x.Seq=f.Seq)).length:=Nat.lt_of_lt_of_le Nat.zero_lt_two h5;obtain⟨y,hy⟩:=List.exists_mem_of_length_pos h6;grind
  .obtain⟨h1,h2,h3⟩:=DP hv;obtain⟨w,hw,hle⟩:=hI.b _ _ h3;refine⟨⟨y.By,w⟩,hp.mem_iff.2 (TF.2 hw),(by grind)⟩
 have hlen:(fs.flatMap R).length<=14:=by grind [List.Perm.length_eq,NS]
 obtain⟨r,e,h2,h3⟩:=Sf PJ hfn hlen;refine⟨r,(AhW (gl:=gl) hF (by rw[hp.length_eq,Hi];omega) (by grind [Aj1,List.Perm.length_eq]) hlen e h2.length_eq).fn ac.sz (ac.len _) (ac.imm _),h2.trans hperm,h3⟩
theorem Rb{l:List α}{x:α}(hx:l[k]?=some x):l.take (k+1)=l.take k++[x]:=by rw[Jn,hx];rfl
section
variable {g:A7} {m:JJ} {N:JD}
abbrev BX(g:A7)(m:JJ)(N:JD):Gi:=Re ⟨g.Cards,m,N⟩
theorem NR(w:Fq g){i:Nat}(h:g.IDs[i]?=some x):bu x g.IDs=some i:=by
 cases hk:bu x g.IDs with
 |none=>exact absurd (bO h) (SW hk)
 |some j=>rw[MH w.nd (gb hk).1 h]
abbrev I4(g:A7)(l:Be):Bc:=l.map λp=>(g.IDs[p.toNat]?).getD ⟨0,0,0⟩
theorem O4(w:Fq g){l:Be}(h:EF g l){z:Int}(hz:l[j]?=some z):∃(n:Nat) (y:Ab),z=(n:Int)/\n<g.L.length/\g.IDs[n]?=some y/\(I4 g l)[j]?=some y:=by obtain⟨n,rfl,hn⟩:=h.nat (bO hz);have nI:=w.nI;obtain⟨y,hy,_⟩:=dk (l:=g.IDs) (k:=n) aa;refine⟨n,y,rfl,hn,hy,?_⟩;rw[MY,hz,Option.map_some,Fv,hy];rfl
end
def XQ(cs:LT)(d:Int):Int:=match cs.find? λc=>decide (c.Device=d) with
 |some c=>c.Member
 |none=>0
structure Mr (x:Az) (y:D5):Prop where
 role:y.Role=x.role
 no:x.guard=none->y.Is=false
 gd:∀g,x.guard=some g->y.Is=true/\y.ID=g.id/\y.Guards=g.guards/\y.Need=g.need/\y.Wait=g.wait/\y.Objected=g.objected/\y.Last=g.last
def Ags(V:List G8)(i:Ab)(b d a:Int):Prop:=∃v∈V,v.Of=i/\v.By=b/\v.Device=d/\v.At=a
structure Rr (R:Ad) (D:Dl):Prop where
 card:∀d,DD R d=XQ D.Cards d
 nd:(D.In++D.Gone).Nodup
 in_:∀d,R.in_.get d=if d∈D.In then some true else none
 was:∀d,R.was.get d=if d∈D.In\/d∈D.Gone then some true else none
 w0:R.was.es.length=D.In.length+D.Gone.length
 ln:(D.L.map (·.N)).Nodup
 no:∀m,R.members.get m=none->∀y∈D.L,y.N≠m
 mem:∀m x,R.members.get m=some x->∃y∈D.L,y.N=m/\Mr x y
 vou:∀m x g,R.members.get m=some x->x.guard=some g->∀b d a,g.vouches.get ⟨b,d⟩=some a↔Ags D.V g.id b d a
 vof:∀v∈D.V,∃m x g,R.members.get m=some x/\x.guard=some g/\v.Of=g.id
 vnd:(D.V.map λv=>(v.Of,v.By,v.Device)).Nodup
 back:R.back=D.Back
structure Sz (D:Dl):Prop where
 c:D.Cards.length<=1000
 dev:D.In.length+D.Gone.length<=100000
 l:D.L.length<=100000
 v:D.V.length<=100000
theorem JB{l:Be}{n:Int}:QF l n=decide (n∈l):=by grind [QF]
section
variable {R:Ad} {D:Dl}
theorem Sz.i(z:Sz D):D.In.length<=1000000:=by grind [Sz]
theorem Sz.g(z:Sz D):D.Gone.length<=1000000:=by grind [Sz]
theorem ofE(z:Sz D)(d:Int):gE D d=some (XQ D.Cards d):=by
 have:=z.c;unfold gE;refine T.eq (.bind ((T.search D.Cards (λx=>decide (x.Device=d)) (λk x=>x.Member) aa (λk x hx hk=>?_) ?_).mono ?_))
 .grind [AR,eA,au,aq]
 .grind [AR,eF]
 .rintro r (⟨rfl,h⟩|⟨k,x,hx,hp,rfl,h⟩)
  .refine .some ?_;grind [XQ]
  .refine .some ?_;grind [XQ,List.find?_eq_some_iff_getElem]
theorem Amk(z:Sz D)(n:Int):T (dS D n) λv=>(v= -1/\∀y∈D.L,y.N≠n)\/∃(k:Nat) (y:D5),v=(k:Int)/\D.L[k]?=some y/\y.N=n:=by
 have:=z.l;unfold dS;refine .bind ((T.search D.L (λx=>decide (x.N=n)) (λk _=>(k:Int)) aa (λk x hx hk=>?_) ?_).mono ?_)
 .grind [o5,eA,au,aq]
 .grind [o5,eF]
 .rintro r (⟨rfl,h⟩|⟨k,x,hx,hp,rfl,h⟩)
  .exact .some (by grind)
  .exact .some (by grind)
theorem Rr.at_(h:Rr R D){m:Int}{x:Az}(hx:R.members.get m=some x){y:D5}(hy:y∈D.L)(hn:y.N=m):Mr x y:=by grind [mem,Nv,ln]
theorem Rr.of(h:Rr R D){y:D5}(hy:y∈D.L):∃x,R.members.get y.N=some x/\Mr x y:=by cases hx:R.members.get y.N<;>grind [no,at_]
theorem XR(z:Sz D)(h:Rr R D)(n:Int):T (dS D n) λv=>match R.members.get n with
  |none=>v= -1
  |some x=>∃(k:Nat) (y:D5),v=(k:Int)/\D.L[k]?=some y/\y.N=n/\Mr x y:=by
 refine(Amk z n).mono λv hv=>?_
 grind [Rr,Rr.of]
theorem AhY(z:Sz D)(h:Rr R D)(n:Int):se D n=some (Mj R n):=by unfold se;refine T.eq (.bind ((XR z h n).mono λv hv=>?_));grind [Mj,T.some,au,Mr.role]
theorem Rr.ins(h:Rr R D)(d:Int):PP R d=decide (d∈D.In):=by grind [PP,in_,Ht]
theorem inE(z:Sz D)(h:Rr R D)(d:Int):fb D.In d=some (PP R d):=by rw[cX z.i,JB,h.ins]
theorem Aml(z:Sz D)(h:Rr R D)(d:Int):Fd D d=some (Ht (R.was.get d)):=by grind [Fd,cX,Sz.i,Sz.g,JB,Rr.was,Ht]
theorem Za(z:Sz D)(h:Rr R D)(d:Int):nW D d=some (D3 R d):=by grind [nW,D3,Aml,ofE,Rr.card]
theorem Aks(z:Sz D)(i:Ab):T (jN D i) λv=>(v= -1/\∀y∈D.L,¬(y.Is=true/\y.ID=i))\/∃(k:Nat) (y:D5),v=(k:Int)/\D.L[k]?=some y/\y.Is=true/\y.ID=i:=by
 have:=z.l;unfold jN;refine .bind ((T.search D.L (λx=>x.Is&&decide (x.ID=i)) (λk _=>(k:Int)) aa (λk x hx hk=>?_) ?_).mono ?_)
 .grind [qQ,eA,au,aq]
 .grind [qQ,eF]
 .rintro r (⟨rfl,hn⟩|⟨k,y,hy,hp,rfl,hn⟩)
  .exact .some (by grind)
  .have hp2:y.Is=true/\y.ID=i:=by grind
   exact .some (by grind)
theorem Akt(z:Sz D)(h:Rr R D)(hR:Bk R)(i:Ab):T (jN D i) λv=>match R.members.es.find? λe=>Lq e.2.1 i with
  |none=>v= -1
  |some e=>∃(k:Nat) (y:D5) (g:CA),v=(k:Int)/\D.L[k]?=some y/\y.N=e.1/\Mr e.2.1 y/\e.2.1.guard=some g/\g.id=i/\R.members.get e.1=some e.2.1:=by
 refine(Aks z i).mono ?_
 rintro v (⟨rfl,hn⟩|⟨k,y,rfl,hy,hp2⟩)
 .cases hf:R.members.es.find? λe=>Lq e.2.1 i with
  |none=>rfl
  |some e=>obtain⟨hx,_⟩:=hR.mem (List.mem_of_find?_eq_some hf);grind [Rr.mem,Lq,Mr.gd]
 .have a:=bO hy
  obtain⟨x,hx,hm⟩:=h.of a
  cases hgd:x.guard with
  |none=>grind [Mr.no]
  |some g=>
   have h1:=hm.gd g hgd
   have hid:g.id=i:=by grind
   have hgx:Lq x i=true:=by grind [Lq]
   cases hf:R.members.es.find? λe=>Lq e.2.1 i<;>grind [Hp,Bk.mem,Bk.uni]
theorem Zb(z:Sz D)(h:Rr R D)(hR:Bk R)(o:Bp):T (nY D o) λv=>v.2=(Dd R o).2/\((Dd R o).2=0->∃(k:Nat) (y:D5) (x:Az) (g:CA),v.1=(k:Int)/\D.L[k]?=some y/\y.N=(Dd R o).1/\R.members.get (Dd R o).1=some x/\Mr x y/\x.guard=some g/\g.id=o.Of):=by
 unfold nY;refine .bind ((Akt z h hR o.Of).mono λv hv=>?_);cases hf:R.members.es.find? λe=>Lq e.2.1 o.Of with
 |none=>grind [Dd,T.some]
 |some e=>
  rw[hf] at hv;obtain⟨k,y,g,rfl,hy,a,hm,hgd,hid,hx⟩:=hv;have eS:Dd R o=bif g.guards.any λy=>decide (o.By=y) then(e.1,0) else(0,14):=by grind [Dd]
  have h1:=hm.gd g hgd;grind [Bk.gn,au,cX,JB,T.some]
end
theorem AeF{l:Be}(hl:l.length<=3000):NN l d=some ((OJ (l.length+1) l).filter λs=>decide (d∈s)).reverse:=by
 obtain⟨e0,hn⟩:=ZR (l.length+1) l aa aa;obtain⟨v,e1,_,hy⟩:=u6 (l.length+1) l aa aa;rw[e0] at e1;obtain rfl:=Bj e1;unfold NN z0;rw[e0,aL];generalize OJ (l.length+1) l=b at hn hy;have e:wI (ah b-1)=ah b-1:=by grind [bM,ah]
 rw[e];refine T.eq (.bind (T.mono (T.loop (Q:=λr:Ly=>r=(b.filter λs=>decide (d∈s)).reverse) (λs=> -1<=s.2/\s.2<(b.length:Int)/\s.1=((b.drop (s.2+1).toNat).filter λs=>decide (d∈s)).reverse) (λs=>(s.2+1).toNat) ⟨by unfold ah;omega,by unfold ah;omega,?_⟩ (by grind [ah]) ?_) λ_ h=> .some h))
 .grind [List.drop_eq_nil_of_le,ah]
 rintro⟨a,i⟩ ⟨i1,f,c⟩;simp only at i1 f c;unfold AF;refine .dec (λh0=>?_) λh0=> .some (show a=_ from ?_)
 .replace h0:0<=i:=h0;obtain⟨k,rfl⟩:=Int.eq_ofNat_of_zero_le h0;have hk:k<b.length:=aa;have hw:wI ((k:Int)-1)=(k:Int)-1:=bM aa aa;have hz:aS b (k:Int)=some (b[k]'hk):=Bg (DR hk);have ha:a.length<=6000:=by grind
  dsimp only;rw[hz,aL,cX (by grind),aL,JB,hw];have ed:b.drop k=b[k]'hk::b.drop (k+1):=List.drop_eq_getElem_cons hk;rw[show((k:Int)+1).toNat=k+1 by omega] at c;by_cases hd:d∈b[k]'hk
  .rw[C3 hd,ax,aL];refine .bind (.app (by grind) (.some ⟨⟨by show-1<=(k:Int)-1;omega,by show(k:Int)-1<_;omega,?_⟩,by show((k:Int)-1+1).toNat<((k:Int)+1).toNat;omega⟩));show a++[b[k]'hk]=((b.drop ((k:Int)-1+1).toNat).filter _).reverse;rw[show((k:Int)-1+1).toNat=k by omega,ed,List.filter_cons_of_pos (by simp[hd]),List.reverse_cons,c]
  .rw[C6 hd,A9];refine .some ⟨⟨by show-1<=(k:Int)-1;omega,by show(k:Int)-1<_;omega,?_⟩,by show((k:Int)-1+1).toNat<((k:Int)+1).toNat;omega⟩;show a=((b.drop ((k:Int)-1+1).toNat).filter _).reverse;rw[show((k:Int)-1+1).toNat=k by omega,ed,List.filter_cons_of_neg (by simp[hd]),c]
 .replace h0:¬0<=i:=h0;rw[c,show(i+1).toNat=0 by omega,List.drop_zero]
theorem US(d:Int):∀(n:Nat) (l:Be),l.length<n->l.length<=1000000->(XW d n l).length<=l.length+1
 |0,_,h,_=>(by grind)
 |n+1,l,h,hl=>by
  unfold XW;split
  .simp
  .obtain⟨_,k1,k2⟩:=YC (n:=l.length) aa hl;have a:=US d n (l.take (ZQ l.length)) cq cq;have b:=US d n (l.drop (ZQ l.length)) cq cq;grind
theorem AeG(d:Int):∀(n:Nat) (l:Be),l.length<n->l.length<=1000000->d∈l->l.Nodup->(∀s∈XW d n l,d∈s/\s.length<=l.length/\s.Nodup)/\((XW d n l).Pairwise λa b=>b.length<a.length)/\(XW d n l).getLast?=some [d]
 |0,_,h,_,_,_=>(by grind)
 |n+1,l,h,hl,hd,hn=>by
  unfold XW;split
  .match l,hd,hn with
   |[a],hd,hn=>simp_all
   |a::b::r,_,_=>simp at*
  .obtain⟨_,k1,k2⟩:=YC (n:=l.length) aa hl;have hx:d∈l.take (ZQ l.length)\/d∈l.drop (ZQ l.length):=by grind [O6]
   have key:∀q:Be,q.length<l.length->d∈q->q.Nodup->(∀s∈l::XW d n q,d∈s/\s.length<=l.length/\s.Nodup)/\((l::XW d n q).Pairwise λa b=>b.length<a.length)/\(l::XW d n q).getLast?=some [d]:=λq h1 h2 h3=>by obtain⟨a,b,c⟩:=AeG d n q aa aa h2 h3;refine⟨λs hs=>?_,(by grind [List.pairwise_cons]),by grind⟩;grind
   split
   .grind
   grind
def tpL(d:Int)(l:Be):Ly:=if d∈l then(XW d (l.length+1) l).reverse else[]
structure Ud (d:Int) (ss:Ly):Prop where
 n:ss.length<=3000
 m:∀s∈ss,d∈s/\s.length<=3000/\s.Nodup
 p:ss.Pairwise λa b=>a.length<b.length
 f:∀s,ss[0]?=some s->s=[d]
theorem ZX:Ud d []:=⟨aC,aC,.nil,aC⟩
theorem AiZ{l:Be}(hl:l.length<=2000)(hn:l.Nodup):Ud d (tpL d l):=by
 unfold tpL;split
 .rename_i hd;obtain⟨a,b,c⟩:=AeG d (l.length+1) l aa aa hd hn;have:=US d (l.length+1) l aa aa;constructor<;>grind
 .exact ZX
theorem AeH{l:Be}(hl:l.length<=3000)(hn:l.Nodup):NN l d=some (tpL d l):=by grind [AeF,ZW,tpL]
theorem AeI{gl:CD}{l:Be}(hl:l.length<=3000):ba prog gl 26 [aE cZ l,iG d] (aE Jc (tpL d l)):=by
 unfold tpL;by_cases hd:d∈l
 .grind [AgG,US,AcU,AeE]
 .rw[BA hd];refine AcU (a:=[]) (b:=[]) ?_ aC (by grind [AeE]) rfl;grind [Pu,SP]
theorem Aiz{l:Be}{x:Int}(hp:PE l)(h1:∀i y,i<j->l[i]?=some y->y<=x)(h2:∀y,l[j]?=some y->x<=y):PE (l.take j++[x]++l.drop j):=by
 have hpj:(l.take j++l.drop j).Pairwise λa b=>a<=b:=by rw[O6];exact hp
 rw[List.pairwise_append] at hpj;have hlt:∀a∈l.take j,a<=x:=by grind [G9]
 have hgt:∀b∈l.drop j,x<=b:=λb hb=>by cases hc:l[j]? <;>grind [List.drop_eq_nil_of_le,List.drop_eq_getElem_cons,List.pairwise_cons]
 grind [PE]
theorem Aed{l:Be}(hl:l.length<=1000000):T (lg l) λr=>r.Perm l/\PE r:=by
 unfold lg;refine .bind (T.mono (Q:=λr:Be=>r.Perm l/\PE r) (T.forA l.length (λk acc=>acc.Perm (l.take k)/\PE acc) aa ⟨aC,.nil⟩ (λk acc hk hj=>?_) λacc hj=>?_) λx hx=> .some hx)
 .obtain⟨y,hy,hm⟩:=dk hk;have hal:acc.length=k:=by rw[hj.1.length_eq,N3];omega
  unfold pb;simp only[eA hk,ax,au,hy,aL];refine .bind (T.mono (Q:=λn:Int=>∃j:Nat,n=(j:Int)/\j<=acc.length/\(∀i z,i<j->acc[i]?=some z->z<=y)/\∀z,acc[j]?=some z->y<=z) (T.forI acc.length (λj=>∀i z,i<j->acc[i]?=some z->z<=y) aa (λi z h=>aa) (λj hjl hq=>?_) λhq=>?_) λn hn=>?_)
  .obtain⟨z,hz,a⟩:=dk hjl;unfold pa;simp only[eA hjl,ax,au,hz,hy,aL];refine .dec (λhc=> .some ⟨aq aa,λi b hi hz'=>?_⟩) λhc=> .some ⟨j,rfl,aa,hq,λb hz'=>?_⟩;all_goals grind
  .unfold pa;dsimp only;rw[eF,A9,aL,A9];refine .some ⟨acc.length,rfl,Dx _,hq,λz hz=>?_⟩;grind
  .obtain⟨j,rfl,hjl,q1,c⟩:=hn;refine .bind (.pre aa aa (.bind (.app cq (.bind (.app cq (.bind (.suf aa aa (.bind (.app cq (.some ⟨aq aa,?_⟩))))))))));rw[M7,Fv];constructor<;>grind [Aiz,Rb,Cy]
 .unfold pb;dsimp only;rw[eF,A9];rw[EQ] at hj;exact .some hj
theorem AaR{a b:Be}(hp:a.Perm b)(h1:PE a)(h2:PE b):a=b:=List.Perm.eq_of_pairwise (le:=λa b=>a<=b) (by grind) h1 h2 hp
theorem Zu{α β γ:Type}{f:α->β}{g:α->γ}:∀{l:List α},(l.map g).Nodup->(∀x∈l,∀y∈l,f x=f y->g x=g y)->(l.map f).Nodup
 |[],_,_=> .nil
 |a::r,hd,h=>by rw[Fe,LV] at hd⊢;refine⟨λhm=>?_,Zu hd.2 (by grind)⟩;grind
section
variable {R:Ad} {D:Dl}
abbrev atV(V:List G8)(i:Ab)(d:Int):Be:=(V.filter λv=>decide (v.Of=i)&&decide (v.Device=d)).map (·.At)
theorem Aku(h:Rr R D)(hR:Bk R){x:Az}{g:CA}(hx:R.members.get m=some x)(hg:x.guard=some g)(d:Int):(atV D.V g.id d).Perm (dvE d g.vouches.es):=by
 have hv:=hR.cv _ _ g hx hg;have hp:((D.V.filter λv=>decide (v.Of=g.id)&&decide (v.Device=d)).map λv=>(v.By,v.At)).Perm ((g.vouches.es.filter λe=>decide (e.1.device=d)).map λe=>(e.1.by_,e.2.1)):=by
  refine(List.perm_ext_iff_of_nodup ?_ ?_).2 λ⟨b,a⟩=>?_
  .refine Zu (g:=λv:G8=>(v.Of,v.By,v.Device)) (h.vnd.sublist (List.filter_sublist.map _)) λp hp q hq e=>?_;grind
  .refine Zu (g:=λe:CY×Int×Nat=>e.1) (hv.kd.sublist (List.filter_sublist.map _)) λp hp q hq e=>?_;rw[HU] at hp hq;have h1:=DP hp.2;have h2:=DP hq.2;simp only[Ge] at e;cases hp1:p.1;cases i:q.1;grind
  .have hb:=h.vou m x g hx hg b d a;constructor
   .intro hm;obtain⟨v,hv1,hv2⟩:=Fm.1 hm;rw[HU] at hv1;have h1:v.Of=g.id/\v.Device=d:=by simpa using hv1.2
    simp only[Ge] at hv2;obtain⟨n,hn⟩:=Hp (hb.2 ⟨v,hv1.1,h1.1,hv2.1,h1.2,hv2.2⟩);exact Fm.2 ⟨_,HU.2 ⟨hn,C3 rfl⟩,rfl⟩
   .intro hm;obtain⟨e,c,f⟩:=Fm.1 hm;rw[HU] at c;have h1:=DP c.2;simp only[Ge] at f;have hge:=JH hv (k:=e.1) (v:=e.2.1) (n:=e.2.2) c.1;have hk:e.1=⟨b,d⟩:=by cases hq:e.1;grind
    rw[hk,f.2] at hge;obtain⟨v,k1,k2,k3,j,k5⟩:=hb.1 hge;grind
 have:=hp.map Prod.snd;rw[HR,HR] at this;exact this
theorem atT(z:Sz D)(d:Int)(y:D5):AB (PL D d y) ([],0)=some (atV D.V y.ID d):=by
 have:=z.v;refine T.eq (T.forA D.V.length (λk acc=>acc=atV (D.V.take k) y.ID d) aa (by simp[atV]) (λk acc hk hj=>?_) λacc hj=>?_)
 .obtain⟨v,hv,_⟩:=dk hk;have hal:acc.length<=k:=by grind
  have e:atV (D.V.take (k+1)) y.ID d=acc++(if v.Of=y.ID/\v.Device=d then[v.At] else[]):=by unfold atV;rw[Rb hv,Q1,List.map_append];grind
  unfold PL;simp only[eA hk,ax,au,hv,aL];by_cases c1:v.Of=y.ID
  .by_cases c2:v.Device=d
   .simp only[c1,c2,decide_true,ax,aL];rw[Bx ⟨c1,c2⟩] at e;exact .bind (.app cq (.some ⟨aq aa,e.symm⟩))
   .simp only[c1,c2,decide_true,decide_false,ax,A9,aL];rw[BA λc=>c2 c.2,MT] at e;exact .some ⟨aq aa,e.symm⟩
  .simp only[c1,decide_false,A9,aL];rw[BA λc=>c1 c.1,MT] at e;exact .some ⟨aq aa,e.symm⟩
 .unfold PL;dsimp only;rw[eF,A9];refine .some (show acc=_ from ?_);rw[hj,EQ]
theorem Amm(z:Sz D)(h:Rr R D)(hR:Bk R)(m d:Int):Ff D m d=some (X8 R m d):=by
 unfold Ff;refine T.eq (.bind ((XR z h m).mono λv hv=>?_));unfold X8;cases hx:R.members.get m with
 |none=>grind [T.some]
 |some x=>
  rw[hx] at hv;obtain⟨k,y,rfl,hy,_,hm⟩:=hv;rw[show decide ((k:Int)<0)=false from C6 aa,A9,au,hy,aL];dsimp only;cases hg:x.guard with
  |none=>grind [Mr.no,T.some]
  |some g=>
   have h1:=hm.gd g hg;have hv:=hR.cv _ _ g hx hg;have hb:=hR.vb _ _ g hx hg;have hn:=hR.gN _ _ g hx hg;have h6:=Aaq hv.kd hb (List.Pairwise.of_map (λx=>x.1) (by grind) hv.kd) (λe he=>he) d;obtain⟨srt,e1,a,s1⟩:=Ac9 (l:=dvE d g.vouches.es) aa;have hda:Acq g d=srt:=by unfold Acq;rw[e1];rfl
   have hp:=Aku h hR hx hg d;rw[h1.1,atT z d y,aL];simp only[Bool.not_true,A9];rw[hda,h1.2.1];refine .bind ((Aed (by rw[hp.length_eq];omega)).mono λv hv=>?_);obtain rfl:v=srt:=AaR (hv.1.trans (hp.trans a.symm)) hv.2 s1;rw[h1.2.2.2.1,h1.2.2.2.2.1,h1.2.2.2.2.2.1,h1.2.2.2.2.2.2];refine .dec (by grind [T.some]) λhc=>?_;rw[C6 hc,A9];have hc2:g.need<=(v.length:Int):=by unfold ah at hc;omega
   have hz0:aS v 0=some (v.getD 0 0):=by grind [au]
   have hz1:aS v (wI (g.need-1))=some (v.getD (g.need.toNat-1) 0):=by grind [bM,au]
   grind [T.some]
theorem Aee(z:Sz D)(h:Rr R D)(o:Bp)(m:Int):o9 D o m (decide (Mj R m=3))=some (AdV R o m):=by
 unfold o9 AdV Ja;rw[inE z h,ofE z,h.card,aL,aL];cases decide (o.Device≠0) with
 |true=>grind
 |false=>refine T.eq (.bind ((XR z h o.Member).mono λv hv=>?_));grind [T.some]
end
section
variable {R:Ad} {D:Dl}
theorem Amn(z:Sz D)(h:Rr R D)(hR:Bk R)(hk:o.Kind=11):mB D o=some (AdW R o):=by
 unfold mB AdW;refine T.eq (.bind ((Zb z h hR o).mono λv hv=>?_));rw[hv.1];cases c0:decide ((Dd R o).2≠0) with
 |true=>exact .some rfl
 |false=>
  have c1:(Dd R o).2=0:=by simpa using c0
  obtain⟨k,y,x,g,hv1,hy,a,hx,hm,hgd,hid⟩:=hv.2 c1;rw[A9,hv1,au,hy,aL,ofE z,Za z h,h.card,a,hk];grind [T.some]
theorem Amo(z:Sz D)(h:Rr R D)(hR:Bk R)(hk:o.Kind=13):mB D o=some (AdX R o):=by
 unfold mB AdX Aju;refine T.eq (.bind ((Zb z h hR o).mono λv hv=>?_));rw[hv.1];cases c0:decide ((Dd R o).2≠0) with
 |true=>exact .some rfl
 |false=>
  have c1:(Dd R o).2=0:=by simpa using c0
  obtain⟨k,y,x,g,hv1,hy,a,hx,hm,hgd,hid⟩:=hv.2 c1;rw[A9,hv1,au,hy,aL,ofE z,ofE z,Za z h,inE z h,h.card,h.card,a,hk,Amm z h hR];simp only[Int.reduceEq,decide_true,decide_false,ax,A9,aL];generalize X8 R (Dd R o).1 o.Device=q;cases PP R o.Old with
  |false=>exact .some rfl
  |true=>simp only[Bool.not_true,A9,ax];cases decide (XQ D.Cards o.Old≠(Dd R o).1)<;>grind [T.some]
theorem Akv(z:Sz D)(h:Rr R D)(hR:Bk R)(hgl:o.Guards.length<=1000000)(i:Ab):AX D o i=some (Uh R o):=by
 have e:=z.dev;unfold AX;rw[ofE z,aL,<-h.card];unfold Uh;by_cases k1:o.Kind=1
 .grind [Rr.w0,ah]
 rw[BA k1,C6 k1,A9,inE z h,aL];cases PP R o.By with
 |false=>rfl
 |true=>
 rw[Bool.not_true,A9,ax,AhY z h,aL];unfold Acr;by_cases k2:o.Kind=2
 .grind [Za,ofE,AfI,Ja,Rr.card]
 rw[BA k2,C6 k2,A9];by_cases k3:o.Kind=3
 .grind [Aee]
 rw[BA k3,C6 k3,A9];by_cases k5:o.Kind=5
 .rw[Bx k5,C3 k5,ax];unfold AfJ Ja;cases decide (Mj R (DD R o.By)=3) with
  |false=>rfl
  |true=>simp only[Bool.not_true,A9,ax];refine T.eq (.bind ((XR z h o.Member).mono λv hv=>?_));grind [T.some]
 rw[BA k5,C6 k5,A9];by_cases k6:o.Kind=6
 .grind [AfK]
 rw[BA k6,C6 k6,A9];by_cases k8:o.Kind=8
 .grind [ofE,AfL,Ja,Rr.card]
 rw[BA k8,C6 k8,A9];by_cases k9:o.Kind=9
 .rw[Bx k9,C3 k9,ax];unfold AfN;refine T.eq (.bind ((T.search o.Guards (λx=> !PP R x) (λk _=>(17:Int)) aa (λk x hx hk=>?_) ?_).mono ?_))
  .grind [TG,eA,au,inE,aq]
  .unfold TG;rw[eF,A9]
  .rintro r (⟨rfl,hn⟩|⟨k,x,hx,hp,rfl,hn⟩)
   .refine .some ?_;grind
   .refine .some ?_;grind
 rw[BA k9,C6 k9,A9];have hO:T ((dS D (DD R o.By)).bind λa=>bif decide (a<0) then(some 25) else(((aS D.L a).bind λb=>bif(!b.Is) then(some true) else((aS D.L a).bind λc=>some (!decide (c.ID=o.Of)))).bind λd=>bif d then(some 25) else(some 0))) λw=>w=Aby R o (DD R o.By):=by
  refine .bind ((XR z h (DD R o.By)).mono λv hv=>?_);unfold Aby;cases hx:R.members.get (DD R o.By) with
  |none=>grind [T.some]
  |some x=>rw[hx] at hv;grind [au,Mr.no,T.some,Mr.gd]
 grind [T.eq,Amn,Amo]
end
theorem Amp{K V:Type}[DecidableEq K]{m:FM K V}{k:K}{p:V}:(C4 m k p).es.length=if(m.get k).isSome then m.es.length else m.es.length+1:=by
 unfold C4;cases hk:bu k (m.es.map (·.1)) with
 |none=>rw[S8 hk];simp
 |some j=>obtain⟨e,_,_,h⟩:=MG hk;rw[h];simp
structure Sy (D:Dl):Prop where
 c:D.Cards.length<=1000
 dev:D.In.length+D.Gone.length<=2000
 l:D.L.length<=2000
 v:D.V.length<=2000
structure Gw (D D':Dl):Prop where
 c:D'.Cards=D.Cards
 dev:D'.In.length+D'.Gone.length<=D.In.length+D.Gone.length+1
 l:D'.L.length<=D.L.length+1
 v:D'.V=D.V
theorem Gw.rfl'{D:Dl}:Gw D D:=by grind [Gw]
theorem Sy.z{D:Dl}(h:Sy D):Sz D:=by grind [Sy,Sz]
section
variable {R:Ad} {D:Dl}
theorem Akw(h:Rr R D)(h1:d∉D.In)(h2:d∉D.Gone):Rr {R with in_:=C4 R.in_ d true,was:=C4 R.was d true} {D with In:=D.In++[d]} where
 card:=h.card
 nd:=by show(D.In++[d]++D.Gone).Nodup;rw[List.append_assoc,List.singleton_append,List.perm_middle.nodup_iff,LV];grind [Rr.nd]
 in_ e:=by grind [BB,Rr.in_]
 was e:=by grind [BB,Rr.was]
 w0:=by grind [Rr.was,Amp,Rr.w0]
 ln:=h.ln
 no:=h.no
 mem:=h.mem
 vou:=h.vou
 vof:=h.vof
 vnd:=h.vnd
 back:=h.back
theorem AiA(h:Rr R D){m role:Int}(hm:R.members.get m=none):Rr {R with members:=C4 R.members m ⟨role,none⟩} {D with L:=D.L++[⟨m,role,false,⟨0,0,0⟩,[],0,0,false,0⟩]} where
 card:=h.card
 nd:=h.nd
 in_:=h.in_
 was:=h.was
 w0:=h.w0
 ln:=by show((D.L++[(⟨m,role,false,⟨0,0,0⟩,[],0,0,false,0⟩:D5)]).map (·.N)).Nodup;rw[List.map_append,Fe,List.map_nil,List.perm_append_comm.nodup_iff,List.singleton_append,LV];grind [Rr.ln,Rr.no]
 no k hk y hy:=by grind [BB,Rr.no]
 mem k x hk:=by
  have hk:(C4 R.members m ⟨role,none⟩).get k=some x:=hk;rw[BB] at hk;split at hk
  .rename_i e;cases hk;exact⟨_,I5.2 (.inr (List.mem_singleton.2 rfl)),e.symm,rfl,λ_=>rfl,λg hg=>by cases hg⟩
  grind [Rr.mem]
 vou k x g hk hg:=by grind [BB,Rr.vou]
 vof v hv:=by obtain⟨k,x,g,hk,hg,e⟩:=h.vof v hv;refine⟨k,x,g,?_,hg,e⟩;grind [BB]
 vnd:=h.vnd
 back:=h.back
theorem AbS(z:Sy D)(h:Rr R D)(hR:Bk R)(d role:Int):T (nX D d role) λD'=>Rr (I9 R d role) D'/\Gw D D':=by
 have a:=z.dev;have b:=z.l;unfold nX I9;rw[Za z.z h,aL];cases hf:D3 R d with
 |false=>exact .some ⟨h,.rfl'⟩
 |true=>
  rw[Bool.not_true,A9,ax];have hw:R.was.get d=none:=by grind [Rr.was,D3,Ht]
  have hnd:d∉D.In/\d∉D.Gone:=by grind [Rr.was]
  refine .bind (.app cq (.bind (.app cq ?_)));rw[M7];have h':=Akw h hnd.1 hnd.2;rw[show gE {D with In:=D.In++[d]} d=gE D d from rfl,ofE z.z,aL,<-h.card];rw[show dS {D with In:=D.In++[d]} (DD R d)=dS D (DD R d) from rfl];refine .bind ((XR z.z h (DD R d)).mono λv hv=>?_);cases hx:R.members.get (DD R d) with
  |none=>rw[hx] at hv;subst hv;rw[show decide ((-1:Int)<0)=true from rfl,ax];refine .bind (.bind (.app cq (.bind (.app cq (.some ?_)))));rw[M7];exact .some ⟨AiA (role:=role) h' hx,rfl,by simp;omega,aC,rfl⟩
  |some x=>rw[hx] at hv;obtain⟨k,y,rfl,_⟩:=hv;rw[show decide ((k:Int)<0)=false from C6 aa,A9];exact .some ⟨h',rfl,by simp;omega,aC,rfl⟩
theorem Aef(h:Rr R D)(hy:D.L[k]?=some y)(hn:y.N=m)(a:y'.N=m):((D.L.set k y').map (·.N)).Nodup:=by grind [List.map_set,Rr.ln]
theorem Aeg(h:Rr R D)(a:y'.N=m)(q:Int)(hq:(C4 R.members m x').get q=none)(z:D5)(hz:z∈D.L.set k y'):z.N≠q:=by grind [BB,Rr.no]
theorem Zv(h:Rr R D)(hy:D.L[k]?=some y)(hn:y.N=m)(a:y'.N=m)(hM:Mr x' y')(q:Int)(z:Az)(hq:(C4 R.members m x').get q=some z):∃y∈D.L.set k y',y.N=q/\Mr z y:=by
 rw[BB] at hq;split at hq
 .rename_i e;cases hq;exact⟨y',bO (i:=k) (by grind),a.trans e.symm,hM⟩
 .rename_i hne;obtain⟨w,hw,b,c⟩:=h.mem q z hq;obtain⟨j,hj⟩:=G9 hw;have hkj:¬k=j:=by grind
  exact⟨w,bO (i:=j) (by grind),b,c⟩
theorem Aeh(h:Rr R D){x:Az}(hx:R.members.get m=some x)(hy:D.L[k]?=some y)(hn:y.N=m)(b:y'.N=m)(hM:Mr x' y')(h1:∀a,x'.guard=some a->∃g,x.guard=some g/\a.id=g.id/\a.vouches=g.vouches)(h2:∀g,x.guard=some g->∃a,x'.guard=some a/\a.id=g.id):Rr (HE R m x') {D with L:=D.L.set k y'} where
 card:=h.card
 nd:=h.nd
 in_:=h.in_
 was:=h.was
 w0:=h.w0
 ln:=Aef h hy hn b
 no q hq z hz:=Aeg h b q hq z hz
 mem q z hq:=Zv h hy hn b hM q z hq
 vou q z a hq hg':=by grind [BB,Rr.vou]
 vof v hv:=by
  obtain⟨q,z,g,hq,hg,e⟩:=h.vof v hv;by_cases c:q=m
  .subst c;rw[hx] at hq;cases hq;obtain⟨a,e1,e2⟩:=h2 g hg;exact⟨q,x',a,by grind [BB],e1,e.trans e2.symm⟩
  .exact⟨q,z,g,by grind [BB],hg,e⟩
 vnd:=h.vnd
 back:=h.back
theorem Akx(z:Sy D)(h:Rr R D)(o:Bp):T ((dS D o.Member).bind λa=>bif decide (0<=a) then((aS D.L a).bind λb=>(o6 D.L a ({b with Role:=o.Role})).bind λc=>some ({D with L:=c})) else(some D)) (Rr (UB R o)):=by
 have d:=z.l;refine .bind ((XR z.z h o.Member).mono λv hv=>?_);unfold UB;cases hx:R.members.get o.Member with
 |none=>grind [T.some]
 |some x=>rw[hx] at hv;obtain⟨k,y,rfl,hy,hn,hM⟩:=hv;have hk:=(cr hy).1;rw[show decide ((0:Int)<=(k:Int))=true from C3 aa,ax,au,hy,aL];unfold o6;refine .bind (.bind (.app cq (.bind (.set aa cq (.some (.some ?_))))));rw[M7,Fv];grind [Aeh,Mr]
end
section
variable {R:Ad} {D:Dl}
abbrev inF(l:Be)(d:Int):Be:=l.filter λx=>decide (x≠d)
abbrev lF(l:List D5)(m:Int):List D5:=l.filter λy=>decide (y.N≠m)
def ZH(l:List D5)(i:Ab):Bool:=l.any λy=>y.Is&&decide (y.ID=i)
theorem O5{l:List D5}{i:Ab}:ZH l i=true↔∃y∈l,y.Is=true/\y.ID=i:=by grind [ZH]
theorem Aky(z:Sz D)(i:Ab):T (jN D i) λv=>decide (0<=v)=ZH D.L i:=by grind [T.mono,Aks,O5]
theorem ZI:∀{l:Be} {d:Int},l.Nodup->d∈l->(inF l d).length+1=l.length
 |[],d,_,h=>by cases h
 |x::r,d,hn,h=>by
  rw[LV] at hn;by_cases e:x=d
  .grind [List.filter_eq_self]
  .have:=ZI hn.2 ((EO.1 h).resolve_left λc=>e c.symm);grind
theorem AiB(h:Rr R D)(hR:Bk R)(hd:d∈D.In):Rr (I1 R d) {D with In:=inF D.In d,Gone:=D.Gone++[d]} where
 card:=h.card
 nd:=by show(inF D.In d++(D.Gone++[d])).Nodup;have h1:=List.nodup_append.1 h.nd;grind
 in_ e:=by grind [Nw,Bk.ci,Rr.in_]
 was e:=by grind [Rr.was]
 w0:=by grind [ZI,Rr.nd,Rr.w0]
 ln:=h.ln
 no:=h.no
 mem:=h.mem
 vou:=h.vou
 vof:=h.vof
 vnd:=h.vnd
 back:=h.back
theorem AiC(h:Rr R D)(hR:Bk R)(m:Int):Rr (Sb R m) {D with L:=lF D.L m,V:=D.V.filter λv=>ZH (lF D.L m) v.Of}:=by
 have hg:∀k,(Sb R m).members.get k=if k=m then none else R.members.get k:=λk=>Nw hR.cm k
 have hmem:∀y,y∈lF D.L m↔y∈D.L/\y.N≠m:=by grind
 constructor<;>try grind [Rr.nd,Rr.in_,Rr.was,Rr.w0,Rr.ln,Rr.of,Rr.vnd,Rr.back]
 .exact h.card
 .exact(by grind [Rr.mem])
 .exact λk x g hk hgd b d a=>by
   rw[hg] at hk;split at hk
   .cases hk
   .rename_i hne;rw[h.vou k x g hk hgd b d a];obtain⟨y,hy,hn,hm⟩:=h.mem k x hk;have h1:=hm.gd g hgd;have hown:ZH (lF D.L m) g.id=true:=by grind [O5]
    constructor
    .rintro⟨v,hv,e1,e2⟩;exact⟨v,(by grind),e1,e2⟩
    .rintro⟨v,hv,e⟩;exact⟨v,(HU.1 hv).1,e⟩
 .exact λv hv=>by obtain⟨y,hy,h1,h2⟩:=O5.1 (HU.1 hv).2;have c:=(hmem y).1 hy;obtain⟨x,hx,hm⟩:=h.of c.1;cases hgd:x.guard<;>grind [Mr.no,Mr.gd]
theorem Akz(z:Sy D)(d f:Int):T (AB (uj D d f) ([],false,0)) λx=>x=(inF D.In d,(inF D.In d).any λx=>decide (XQ D.Cards x=f)):=by
 have hd:=z.dev;refine T.loop (λs=>∃k:Nat,k<=D.In.length/\s.2.2=(k:Int)/\s.1=inF (D.In.take k) d/\s.2.1=(inF (D.In.take k) d).any λx=>decide (XQ D.Cards x=f)) (λs=>D.In.length-s.2.2.toNat) (by grind) cq ?_;rintro⟨a,b,i⟩ ⟨k,hk,rfl,ha,hb⟩;dsimp only at ha hb;subst ha;unfold uj;dsimp only;rcases Hx k D.In.length with hlt|hge
 .obtain⟨x,hx,_⟩:=dk hlt;have hla:(inF (D.In.take k) d).length<=k:=by grind
  simp only[eA hlt,ax,au,hx,aL,ofE z.z];have ew:=aq (show k<2305843009213693952 by omega);have e:inF (D.In.take (k+1)) d=inF (D.In.take k) d++(if x≠d then[x] else[]):=by unfold inF;rw[Rb hx,Q1];by_cases c:x=d<;>simp[c]
  refine .dec (λhc=>?_) λhc=>?_
  .rw[Bx hc] at e;refine .bind (.app cq (.bind (x:=bif b then some true else some (decide (XQ D.Cards x=f))) (T.mono (Q:=λq=>q=(b||decide (XQ D.Cards x=f))) (by cases b<;>exact .some rfl) λq hq=> .some ⟨⟨k+1,aa,ew,e.symm,?_⟩,?_⟩)));all_goals grind
  .rw[BA hc,MT] at e;refine .some ⟨(by grind),?_⟩;rw[ew];simp;omega
 .obtain rfl:k=D.In.length:=aa;rw[eF,A9];refine .some (show(_,_)=_ from ?_);rw[hb,EQ]
theorem AkA(z:Sy D)(m:Int):T (AB (ui D m) ([],[],0)) λx=>x=(lF D.L m,[]):=by
 have hd:=z.l;refine T.loop (λs=>∃k:Nat,k<=D.L.length/\s.2.2=(k:Int)/\s.1=lF (D.L.take k) m/\s.2.1=[]) (λs=>D.L.length-s.2.2.toNat) (by grind) cq ?_;rintro⟨a,b,i⟩ ⟨k,hk,rfl,ha,hb⟩;dsimp only at ha hb;subst ha;subst hb;unfold ui;dsimp only;rcases Hx k D.L.length with hlt|hge
 .obtain⟨x,hx,_⟩:=dk hlt;have hla:(lF (D.L.take k) m).length<=k:=by grind
  simp only[eA hlt,ax,au,hx,aL];have ew:=aq (show k<2305843009213693952 by omega);have e:lF (D.L.take (k+1)) m=lF (D.L.take k) m++(if x.N≠m then[x] else[]):=by unfold lF;rw[Rb hx,Q1];grind
  refine .dec (λhc=>?_) λhc=>?_
  .rw[Bx hc] at e;refine .bind (.app cq (.some ⟨(by grind),?_⟩));rw[ew];simp;omega
  .rw[BA hc,MT] at e;refine .some ⟨(by grind),?_⟩;rw[ew];simp;omega
 .obtain rfl:k=D.L.length:=aa;rw[eF,A9];refine .some (show(_,_)=_ from ?_);rw[EQ]
theorem AkB{step:List G8×Int->Option ((List G8×Int)⊕List G8)}{V:List G8}{p:G8->Bool}(hn:V.length<=2000)(hs:∀(k:Nat) (v:G8) (acc:List G8),V[k]?=some v->acc.length<=2000->T (step (acc,(k:Int))) λq=>q= .inl (if p v then acc++[v] else acc,wI ((k:Int)+1)))(he:∀acc,step (acc,(V.length:Int))=some (.inr acc)):T (AB step ([],0)) λx=>x=V.filter p:=by
 refine T.forA V.length (λk acc=>acc=(V.take k).filter p) aa aC (λk acc hk hj=>?_) λacc hj=>?_
 .obtain⟨v,hv,_⟩:=dk hk;have hal:acc.length<=k:=by grind
  refine(hs k v acc hv aa).mono λq hq=>?_;subst hq;refine⟨aq aa,?_⟩;dsimp only;rw[Rb hv,Q1,<-hj];cases hp:p v<;>simp[hp]
 .rw[he];refine .some (show acc=_ from ?_);rw[hj,EQ]
theorem AhZ(z:Sy D)(h:Rr R D)(hR:Bk R)(d:Int):T (sh D d) λD'=>Rr (G4 R d) D'/\Sy D':=by
 have f:=z.dev;have b:=z.l;have a:=z.v;have z4:=z.c;unfold sh G4;rw[inE z.z h,aL];cases hi:PP R d with
 |false=>exact .some ⟨h,z⟩
 |true=>
  have hd:d∈D.In:=by grind [Rr.ins]
  rw[Bool.not_true,A9,ax,ofE z.z,aL,<-h.card];refine .bind ((Akz z d (DD R d)).mono λx hx=>?_);subst hx;have ho:=AiB h hR hd;have hlen:=ZI (List.nodup_append.1 h.nd).1 hd;have hst:LS (I1 R d) (DD R d)=(inF D.In d).any λx=>decide (XQ D.Cards x=DD R d):=by
   unfold LS;rw[Bool.eq_iff_iff,List.any_eq_true,List.any_eq_true];constructor
   .rintro⟨e,he,hc⟩;have hg:=JH (U0 hR.ci) (k:=e.1) (v:=e.2.1) (n:=e.2.2) he;have hge:=ho.in_ e.1;grind [Rr]
   .rintro⟨x,hx,hc⟩;have hge:=ho.in_ x;rw[Bx hx] at hge;obtain⟨n,hn⟩:=Hp hge;grind [Rr]
  refine .bind (.app cq (.bind (.app cq ?_)));rw[M7];dsimp only;rw[hst];cases hb:(inF D.In d).any λx=>decide (XQ D.Cards x=DD R d) with
  |true=>grind [Sy,T.some]
  |false=>
   rw[A9,A9];refine .bind ((AkA z (DD R d)).mono λx hx=>?_);subst hx;have hlf:(lF D.L (DD R d)).length<=2000:=MI (NS _ _) b;have hif:(inF D.In d).length<=D.In.length:=NS _ _;refine .bind ((AkB (p:=λv=>ZH (lF D.L (DD R d)) v.Of) a (λk v acc hv hal=>?_) λacc=>?_).mono λx hx=>?_)
   .have hk:=(cr hv).1;unfold uh;simp only[eA hk,ax,au,hv,aL];grind [T.bind,T.mono,Aky,Sz,T.app,T.some]
   .grind [uh,eF]
   .subst hx;exact .some ⟨AiC ho (Aaf hR d) (DD R d),z4,by simp;omega,hlf,MI (NS _ _) a⟩
end
structure Rq (Q Q':Ad):Prop where
 c:∀d,DD Q' d=DD Q d
 i:∀d,Q'.in_.get d=Q.in_.get d
 w:∀d,Q'.was.get d=Q.was.get d
 n:Q'.was.es.length=Q.was.es.length
 m:∀k,Q'.members.get k=Q.members.get k
 b:Q'.back=Q.back
theorem Rq.rr{Q Q':Ad}{D:Dl}(q:Rq Q Q')(h:Rr Q D):Rr Q' D where
 card d:=(q.c d).trans (h.card d)
 nd:=h.nd
 in_ d:=(q.i d).trans (h.in_ d)
 was d:=(q.w d).trans (h.was d)
 w0:=q.n.trans h.w0
 ln:=h.ln
 no m hm:=h.no m ((q.m m).symm.trans hm)
 mem m x hm:=h.mem m x ((q.m m).symm.trans hm)
 vou m x g hm hg:=by grind [Rr,m]
 vof v hv:=by grind [Rr.vof,m]
 vnd:=h.vnd
 back:=q.b.trans h.back
structure Go (R Q:Ad) (m:Int) (p:Be):Prop where
 c:∀d,DD Q d=DD R d
 w:Q.was=R.was
 b:Q.back=R.back
 i:∀e,Q.in_.get e=if e∈p then none else R.in_.get e
 m1:p=[]\/(∃e v,Q.in_.get e=some v/\DD R e=m)->∀k,Q.members.get k=R.members.get k
 m2:p≠[]->(∀e v,Q.in_.get e=some v->DD R e≠m)->∀k,Q.members.get k=if k=m then none else R.members.get k
theorem Go.step{R Q:Ad}{m:Int}{p:Be}{d:Int}(h:Go R Q m p)(hQ:Bk Q)(hp:d∉p)(hi:R.in_.get d=some true)(hm:DD R d=m):Go R (G4 Q d) m (p++[d]):=by
 have hq:Q.in_.get d=some true:=by rw[h.i,BA hp,hi]
 have hin:PP Q d=true:=by unfold PP;rw[hq];rfl
 have ho:∀e,(I1 Q d).in_.get e=if e∈p++[d] then none else R.in_.get e:=by grind [Nw,Bk.ci,i]
 have hst:LS (I1 Q d) (DD Q d)=true↔∃e v,(I1 Q d).in_.get e=some v/\DD R e=m:=by
  unfold LS;rw[List.any_eq_true,h.c,hm];constructor
  .rintro⟨e,he,hc⟩;exact⟨e.1,e.2.1,(by grind [JH,U0,Bk.ci]),(h.c e.1).symm.trans (DP hc)⟩
  .rintro⟨e,v,hg,hc⟩;obtain⟨n,hn⟩:=Hp hg;exact⟨_,hn,C3 ((h.c e).trans hc)⟩
 have a:=h.m1 (.inr ⟨d,true,hq,hm⟩);unfold G4;rw[hin,ax];cases hs:LS (I1 Q d) (DD Q d) with
 |true=>have hx:=hst.1 hs;exact⟨h.c,h.w,h.b,ho,λ_=>a,(by grind)⟩
 |false=>
  have hx:¬∃e v,(I1 Q d).in_.get e=some v/\DD R e=m:=by grind
  refine⟨h.c,h.w,h.b,ho,λc=>?_,λ_ _ k=>?_⟩;all_goals grind [Nw,Bk.cm,c]
theorem Go.fold{R:Ad}{m:Int}:∀{l p:Be} {Q:Ad},Go R Q m p->Bk Q->(p++l).Nodup->(∀d∈l,R.in_.get d=some true/\DD R d=m)->Go R (l.foldl G4 Q) m (p++l)
 |[],p,Q,h,_,_,_=>by rw[MT];exact h
 |d::r,p,Q,h,hQ,hn,hl=>by
  have hp:d∉p:=by grind
  have h1:=h.step hQ hp (hl d aC).1 (hl d aC).2;have:=Go.fold (l:=r) h1 (Ko hQ d) (by rw[List.append_assoc];exact hn) (by grind);rw[List.append_assoc] at this;exact this
theorem TH{R:Ad}{m:Int}:∀{l:Be} {Q:Ad},(∀d,DD Q d=DD R d)->l.foldl (S9 m) Q=(l.filter λd=>decide (DD R d=m)).foldl G4 Q
 |[],Q,_=>rfl
 |d::r,Q,h=>by
  have hc:∀e,DD (G4 Q d) e=DD R e:=by grind [G4,DD]
  have e:S9 m Q d=bif decide (DD R d=m) then G4 Q d else Q:=by unfold S9;rw[h d]
  rw[List.foldl_cons,e];by_cases c:DD R d=m
  .rw[C3 c,ax,List.filter_cons_of_pos (p:=λd=>decide (DD R d=m)) (C3 c),List.foldl_cons];exact TH hc
  .rw[C6 c,A9,List.filter_cons_of_neg (p:=λd=>decide (DD R d=m)) (by simpa using c)];exact TH h
section
variable {R:Ad} {D:Dl}
theorem Ah0(l:Be)(hl:l.length<=2000)(z:Sy D)(h:Rr R D)(hR:Bk R):T (AB (AT l) (D,0)) λD'=>Rr (l.foldl G4 R) D'/\Sy D':=by
 refine(T.forA l.length (λk D'=>Rr ((l.take k).foldl G4 R) D'/\Bk ((l.take k).foldl G4 R)/\Sy D') aa ⟨h,hR,z⟩ (λk D' hk hj=>?_) λD' hj=>?_)
 .obtain⟨x,hx,_⟩:=dk hk;unfold AT;simp only[eA hk,ax,au,hx,aL];refine .bind ((AhZ hj.2.2 hj.1 hj.2.1 x).mono λa h2=> .some ⟨aq aa,?_⟩);rw[Rb hx,OP];grind [Ko]
 .unfold AT;dsimp only;rw[eF,A9];rw[EQ] at hj;exact .some ⟨hj.1,hj.2.2⟩
theorem Amq(z:Sy D)(o:Bp){st:Be×Int->Option ((Be×Int)⊕Be)}(hst:st=Pj D o):AB st ([],0)=some (D.In.filter λx=>decide (XQ D.Cards x=o.Member)):=by
 have a:=z.dev;subst hst;refine T.eq (T.forA D.In.length (λk acc=>acc=(D.In.take k).filter λx=>decide (XQ D.Cards x=o.Member)) aa aC (λk acc hk hj=>?_) λacc hj=>?_)
 .obtain⟨x,hx,_⟩:=dk hk;have hal:acc.length<=k:=by grind
  unfold Pj;simp only[eA hk,ax,au,hx,aL,ofE z.z];have e:(D.In.take (k+1)).filter (λx=>decide (XQ D.Cards x=o.Member))=acc++(if XQ D.Cards x=o.Member then[x] else[]):=by rw[Rb hx,Q1,<-hj];grind
  refine .dec (λhc=>?_) λhc=>?_
  .rw[Bx hc] at e;exact .bind (.app cq (.some ⟨aq aa,e.symm⟩))
  .rw[BA hc,MT] at e;exact .some ⟨aq aa,e.symm⟩
 .unfold Pj;dsimp only;rw[eF,A9];refine .some (show acc=_ from ?_);rw[hj,EQ]
theorem Amr(z:Sy D)(h:Rr R D)(hR:Bk R)(o:Bp):T (AB (AT (D.In.filter λx=>decide (XQ D.Cards x=o.Member))) (D,0)) (Rr (AfF R o)):=by
 have j:=z.dev;have hn:=(List.nodup_append.1 h.nd).1;refine(Ah0 _ (by grind) z h hR).mono λD' hD=>?_;unfold AfF;rw[TH λd=>rfl];obtain⟨m,f,_⟩:=Oo hR;generalize hA:(D.In.filter λx=>decide (XQ D.Cards x=o.Member))=A at hD;generalize hB:((JK R).filter λd=>decide (DD R d=o.Member))=B;have hAB:∀e,e∈A↔e∈B:=λe=>by
  rw[<-hA,<-hB,HU,HU,f.mem_iff,h.card];refine and_congr ?_ Iff.rfl;have hi:=h.in_ e;constructor
  .grind [Hp]
  .intro he;obtain⟨q,hq,rfl⟩:=Fm.1 he;have hg:=JH hR.ci (k:=q.1) (v:=q.2.1) (n:=q.2.2) hq;grind
 have hin:∀d∈A,R.in_.get d=some true/\DD R d=o.Member:=by grind [Rr.in_]
 have h0:Go R R o.Member []:=by constructor<;>grind
 have gA:=Go.fold (l:=A) h0 hR (by rw[M7,<-hA];exact hn.sublist List.filter_sublist) hin;have gB:=Go.fold (l:=B) h0 hR (by rw[M7,<-hB];exact((f.nodup_iff.2 hR.ci.kd).sublist List.filter_sublist)) λd hd=>hin d ((hAB d).2 hd);rw[M7] at gA gB;have hfin:∀{Q:Ad} {p:Be},(∀e,e∈p↔e∈A)->Go R Q o.Member p->∀k,Q.members.get k=if A=[] then R.members.get k else if k=o.Member then none else R.members.get k:=λ{Q p} hp g k=>by
  by_cases c:A=[]
  .have hp0:p=[]:=by
    cases p with
    |nil=>rfl
    |cons a r=>have:=(hp a).1 aC;rw[c] at this;cases this
   grind [Go.m1]
  .rw[BA c];have hp0:p≠[]:=λe=>by
    cases hA':A with
    |nil=>exact c hA'
    |cons a r=>have:=(hp a).2 (by rw[hA'];simp);rw[e] at this;cases this
   refine g.m2 hp0 (λe v he hc=>?_) k;grind [Go.i,Rr.in_,Rr.card]
 have q:Rq (A.foldl G4 R) (B.foldl G4 R):=⟨(by grind [Go]),λd=>by rw[gA.i,gB.i];simp only[hAB],λd=>by rw[gA.w,gB.w],by rw[gA.w,gB.w],(by grind),by rw[gA.b,gB.b]⟩;exact q.rr hD.1
end
section
variable {R:Ad} {D:Dl}
def NoG(R:Ad)(i:Ab):Prop:=∀q z g,R.members.get q=some z->z.guard=some g->g.id≠i
theorem AiD{l:List D5}{z:D5}(hz:z∈l.set k y'):z=y'\/∃j,j≠k/\l[j]?=some z:=by grind [G9]
theorem AiE(h:Rr R D){x:Az}{g:CA}{i:Ab}(hx:R.members.get m=some x)(hy:D.L[k]?=some y)(hn:y.N=m)(f:y'.N=m)(hM:Mr x' y')(hg:x'.guard=some g)(hi:g.id=i)(he:∀q,g.vouches.get q=none)(hf:NoG R i):Rr (HE R m x') {D with L:=D.L.set k y',V:=D.V.filter λv=>ZH (D.L.set k y') v.Of} where
 card:=h.card
 nd:=h.nd
 in_:=h.in_
 was:=h.was
 w0:=h.w0
 ln:=Aef h hy hn f
 no q hq z hz:=Aeg h f q hq z hz
 mem q z hq:=Zv h hy hn f hM q z hq
 vou q z g' hq hg':=by
  have hz:∃w∈D.L.set k y',w.N=q/\Mr z w:=Zv h hy hn f hM q z hq;have hq:(C4 R.members m x').get q=some z:=hq;intro b d a;rw[BB] at hq;split at hq
  .cases hq;rw[hg] at hg';cases hg';rw[he];constructor
   .intro c;cases c
   .rintro⟨v,hv,e1,_⟩;obtain⟨l,n,g2,k1,k2,k3⟩:=h.vof v (HU.1 hv).1;exact absurd (k3.symm.trans (e1.trans hi)) (hf l n g2 k1 k2)
  .rw[h.vou q z g' hq hg'];obtain⟨w,hw,_,hm⟩:=hz;have h1:=hm.gd g' hg';have hown:ZH (D.L.set k y') g'.id=true:=by grind [O5]
   constructor
   .rintro⟨v,hv,e1,e2⟩;exact⟨v,(by grind),e1,e2⟩
   .rintro⟨v,hv,e⟩;exact⟨v,(HU.1 hv).1,e⟩
 vof v hv:=by
  obtain⟨w,hw,h1,h2⟩:=O5.1 (HU.1 hv).2;obtain⟨l,n,g2,k1,k2,k3⟩:=h.vof v (HU.1 hv).1;rcases AiD hw with rfl|⟨j,hj,o⟩
  .have:=(hM.gd g hg).2.1;exact absurd (by grind) (hf l n g2 k1 k2)
  .obtain⟨z,hz,hm⟩:=h.of (bO o);have hne:w.N≠m:=λc=>by
    have e1:(D.L.map (·.N))[j]?=some m:=by grind
    have e2:(D.L.map (·.N))[k]?=some m:=by grind
    exact hj (MH h.ln e1 e2)
   cases hgd:z.guard with
   |none=>rw[hm.no hgd] at h1;cases h1
   |some p=>exact⟨w.N,z,p,by grind [BB],hgd,by grind [Mr.gd]⟩
 vnd:=h.vnd.sublist (List.filter_sublist.map _)
 back:=h.back
theorem Amt(z:Sy D)(h:Rr R D){i:Ab}(hf:NoG R i):T (o7 D o i) (Rr (Aak R o i)):=by
 have b:=z.l;have a:=z.v;have z4:=z.c;have d:=z.dev;unfold o7 Aak;rw[ofE z.z,aL,<-h.card];refine .bind ((XR z.z h (DD R o.By)).mono λv hv=>?_);cases hx:R.members.get (DD R o.By) with
 |none=>grind [T.some]
 |some x=>
  rw[hx] at hv;obtain⟨k,y,rfl,hy,hn,hM⟩:=hv;have hk:=(cr hy).1;rw[show decide ((k:Int)<0)=false from C6 aa,A9,au,hy,aL,aL];unfold o6;refine .bind (.bind (.app cq (.bind (.set aa cq (.some ?_)))));rw[M7,Fv];refine .bind ((AkB (p:=λv=>ZH (D.L.set k ⟨y.N,y.Role,true,i,o.Guards,o.Need,o.Wait,false,0⟩) v.Of) a (λj v acc hv hal=>?_) λacc=>?_).mono λq hq=>?_)
  .have hj:=(cr hv).1;unfold ni;simp only[eA hj,ax,au,hv,aL];grind [T.bind,T.mono,Aky,Sz,T.app,T.some]
  .grind [ni,eF]
  .subst hq;refine .some (AiE h hx hy hn hn ⟨hM.role,λc=>(by cases c),λg hg=>?_⟩ rfl rfl (λq=>rfl) hf);cases hg;exact⟨rfl,rfl,rfl,rfl,rfl,rfl,rfl⟩
def Jk(o:Bp)(v:G8):Bool:=decide (v.Of=o.Of)&&(decide (v.By=o.By)&&decide (v.Device=o.Device))
theorem Aei{v:G8}:Jk o v=true↔v.Of=o.Of/\v.By=o.By/\v.Device=o.Device:=by grind [Jk]
theorem Amu(z:Sy D)(h:Rr R D)(o:Bp):T (AB (nj D o) (o.At,[],0)) λx=>x.2=D.V.filter (λv=> !Jk o v)/\((x.1=o.At/\∀v∈D.V,Jk o v=false)\/∃v∈D.V,Jk o v=true/\x.1=iI o.At v.At):=by
 have a:=z.v;refine T.loop (λs=>∃k:Nat,k<=D.V.length/\s.2.2=(k:Int)/\s.2.1=(D.V.take k).filter (λv=> !Jk o v)/\((s.1=o.At/\∀v∈D.V.take k,Jk o v=false)\/∃(j:Nat) (v:G8),j<k/\D.V[j]?=some v/\Jk o v=true/\s.1=iI o.At v.At)) (λs=>D.V.length-s.2.2.toNat) (by grind) cq ?_;rintro⟨b,acc,i⟩ ⟨k,hk,rfl,ha,hm⟩;dsimp only at ha hm;subst ha;unfold nj;dsimp only;rcases Hx k D.V.length with hlt|hge
 .obtain⟨v,hv,_⟩:=dk hlt;have hla:((D.V.take k).filter (λv=> !Jk o v)).length<=k:=by grind
  have ew:=aq (show k<2305843009213693952 by omega);have e:(D.V.take (k+1)).filter (λv=> !Jk o v)=(D.V.take k).filter (λv=> !Jk o v)++(if Jk o v=true then[] else[v]):=by rw[Rb hv,Q1];cases c:Jk o v<;>simp[c]
  simp only[eA hlt,ax,au,hv,aL];refine .bind (T.mono (Q:=λq=>q=Jk o v) (by grind [Jk,T.some]) λq hq=>?_)
  subst hq;cases c:Jk o v with
  |true=>
   rw[c,Bx rfl,MT] at e;rw[ax];refine .some ⟨⟨k+1,aa,ew,e.symm,.inr ⟨k,v,aa,hv,c,?_⟩⟩,by rw[ew];simp;omega⟩;rcases hm with⟨rfl,_⟩|⟨j,w,hj,hw,hc,_⟩
   .rfl
   .have kc:∀u:G8,Jk o u=true->(u.Of,u.By,u.Device)=(o.Of,o.By,o.Device):=by grind [Jk]
    have e1:(D.V.map λv=>(v.Of,v.By,v.Device))[j]?=some (o.Of,o.By,o.Device):=by grind
    have e2:(D.V.map λv=>(v.Of,v.By,v.Device))[k]?=some (o.Of,o.By,o.Device):=by grind
    have:=MH h.vnd e1 e2;omega
  |false=>rw[c,BA aC] at e;rw[A9];refine .bind (.app cq (.some ⟨⟨k+1,aa,ew,e.symm,?_⟩,by rw[ew];simp;omega⟩));grind [Rb]
 .obtain rfl:k=D.V.length:=aa;rw[eF,A9];rw[EQ] at hm⊢;refine .some ⟨rfl,?_⟩;grind
theorem Aej(h:Rr R D)(hR:Bk R){x:Az}{g g2:CA}{a:Int}{M:FM Int Az}(hx:R.members.get m=some x)(hg:x.guard=some g)(hid:g.id=o.Of)(e2:∀y,Mr x y->Mr ⟨x.role,some g2⟩ y)(ei:g2.id=g.id)(hM:∀q,M.get q=if q=m then some ⟨x.role,some g2⟩ else R.members.get q)(hv:∀q,g2.vouches.get q=if q=Ww o then some a else g.vouches.get q):Rr {R with members:=M} {D with V:=D.V.filter (λv=> !Jk o v)++[⟨o.Of,o.By,o.Device,a⟩]} where
 card:=h.card
 nd:=h.nd
 in_:=h.in_
 was:=h.was
 w0:=h.w0
 ln:=h.ln
 no q hq y hy:=by grind [Rr.no]
 mem q z hq:=by grind [Rr.mem]
 vou q z g' hq hg':=by
  have hq:M.get q=some z:=hq;intro b d c;have hkb:∀v:G8,(!Jk o v)=true↔¬(v.Of=o.Of/\v.By=o.By/\v.Device=o.Device):=by grind [Aei]
  have hV:∀i,Ags (D.V.filter (λv=> !Jk o v)++[⟨o.Of,o.By,o.Device,a⟩]) i b d c↔(i=o.Of/\b=o.By/\d=o.Device/\c=a)\/(¬(i=o.Of/\b=o.By/\d=o.Device)/\Ags D.V i b d c):=λi=>by
   constructor
   .rintro⟨v,hv,e1,e2,e3,e4⟩;rcases I5.1 hv with hv|hv
    .rw[HU,hkb,e1,e2,e3] at hv;exact .inr ⟨hv.2,v,hv.1,e1,e2,e3,e4⟩
    grind
   .rintro(⟨rfl,rfl,rfl,rfl⟩|⟨hne,v,hv,e1,e2,e3,e4⟩)
    .exact⟨_,I5.2 (.inr (List.mem_singleton.2 rfl)),rfl,rfl,rfl,rfl⟩
    .exact⟨v,(by grind),e1,e2,e3,e4⟩
  show _↔Ags (D.V.filter (λv=> !Jk o v)++[⟨o.Of,o.By,o.Device,a⟩]) g'.id b d c;rw[hV];rw[hM] at hq;split at hq
  .grind [Rr.vou]
  .rename_i hne;rw[h.vou q z g' hq hg'];have hd:g'.id≠o.Of:=by grind [Bk]
   grind
 vof v e:=by grind [Rr.vof]
 vnd:=by show((D.V.filter (λv=> !Jk o v)++[(⟨o.Of,o.By,o.Device,a⟩:G8)]).map λv=>(v.Of,v.By,v.Device)).Nodup;rw[List.map_append,Fe,List.map_nil,List.perm_append_comm.nodup_iff,List.singleton_append,LV];refine⟨λhh=>?_,h.vnd.sublist (List.filter_sublist.map _)⟩;grind [Jk]
 back:=h.back
theorem Amv(z:Sy D)(h:Rr R D)(hR:Bk R)(o:Bp):T (o8 D o) (Rr (X3 R o)):=by
 have c:=z.v;unfold o8;refine .bind ((Zb z.z h hR o).mono λv hv=>?_);rw[hv.1];cases hf:R.members.es.find? λe=>Lq e.2.1 o.Of with
 |none=>grind [Dd,X3,T.some]
 |some e=>
  obtain⟨hx,_⟩:=hR.mem (List.mem_of_find?_eq_some hf);have hge:Lq e.2.1 o.Of=true:=by have:=List.find?_some hf;exact this
  obtain⟨q,⟨role,gd⟩,n⟩:=e;dsimp only at hx hge;cases gd with
  |none=>cases hge
  |some g=>
  have hid:g.id=o.Of:=DP hge;have e1:Dd R o=bif g.guards.any (λy=>decide (o.By=y)) then(q,0) else(0,14):=by unfold Dd;rw[hf]
  have e2:X3 R o=bif(g.guards.any λy=>decide (o.By=y))&&Aaj g o then HE R q ⟨role,some (Ach g o)⟩ else R:=by unfold X3;rw[hf]
  rw[e1,e2];cases hb:g.guards.any λy=>decide (o.By=y) with
  |false=>exact .some h
  |true=>
  rw[ax,Bool.true_and];refine .bind ((Amu z h o).mono λx hx2=>?_);obtain⟨b,V'⟩:=x;obtain⟨h1,h2⟩:=hx2;dsimp only at h1 h2;subst h1;have hfl:(D.V.filter λv=> !Jk o v).length<=D.V.length:=NS _ _;refine .bind (.app cq (.some ?_));have key:∀a,g.vouches.get (Ww o)=some a↔∃v∈D.V,Jk o v=true/\v.At=a:=λa=>by
   rw[show Ww o=⟨o.By,o.Device⟩ from rfl,h.vou q _ g hx rfl];constructor
   .rintro⟨v,hv,k1,k2,k3,d⟩;grind [Jk]
   .rintro⟨v,hv,k1,k2⟩;unfold Jk at k1;simp only[bA,decide_eq_true_eq] at k1;exact⟨v,hv,k1.1.trans hid.symm,k1.2.1,k1.2.2,k2⟩
  have keep:g.vouches.get (Ww o)=some b->Rr R {D with V:=D.V.filter (λv=> !Jk o v)++[⟨o.Of,o.By,o.Device,b⟩]}:=λhk=>Aej (M:=R.members) (g2:=g) (a:=b) h hR hx rfl hid (λy hy=>hy) rfl (by grind) (by grind);have new:b=o.At->Rr (HE R q ⟨role,some (Ach g o)⟩) {D with V:=D.V.filter (λv=> !Jk o v)++[⟨o.Of,o.By,o.Device,b⟩]}:=λhk=>Aej (M:=C4 R.members q ⟨role,some (Ach g o)⟩) (g2:=Ach g o) (a:=b) h hR hx rfl hid (by grind [Mr]) rfl (λp=>by rw[BB]) (by grind [BB]);cases hg:g.vouches.get (Ww o) with
  |none=>
   have hN:Aaj g o=true:=by unfold Aaj;rw[hg]
   rw[hN];rcases h2 with⟨h2,_⟩|⟨v,hv,h3,h4⟩
   .exact new h2
   .have:=(key v.At).2 ⟨v,hv,h3,rfl⟩;rw[hg] at this;cases this
  |some a=>
   have hN:Aaj g o=decide (o.At<a):=by unfold Aaj;rw[hg]
   obtain⟨w,hw,k1,k2⟩:=(key a).1 hg;have hmn:b=iI o.At a:=by
    rcases h2 with⟨_,h2⟩|⟨v,hv,h3,h4⟩
    .rw[h2 w hw] at k1;cases k1
    .have:=(key v.At).2 ⟨v,hv,h3,rfl⟩;grind
   grind [iI]
end
section
variable {R:Ad} {D:Dl}
theorem Amw(z:Sy D)(h:Rr R D)(hR:Bk R)(o:Bp):T ((bif decide (0<ah D.In) then(some true) else(bif decide (0<ah D.Gone) then(some true) else((gE D o.By).bind λa=>some (decide (a=0))))).bind λb=>bif b then(some D) else((nX D o.By 3).bind λc=>some ({c with Back:=o.Need}))) (Rr (Abs R o)):=by
 have hw:=h.w0;unfold Abs;rw[ofE z.z,<-h.card,aL];unfold ah;rcases Nat.eq_zero_or_pos D.In.length with c1|c1
 .rcases Nat.eq_zero_or_pos D.Gone.length with c2|c2
  .have hi:D.In=[]:=List.eq_nil_of_length_eq_zero c1;have hg:D.Gone=[]:=List.eq_nil_of_length_eq_zero c2;have hf:D3 R o.By=decide (0<DD R o.By):=by grind [Rr.was,D3,Ht]
   rw[c1,c2,hw,c1,c2,hf];have h0:=(hR.c3 o.By).1;have h0:0<=DD R o.By:=h0;rw[show decide ((0:Int)<((0:Nat):Int))=false from rfl,A9,A9,aL,show decide ((((0+0:Nat)):Int)=0)=true from rfl,Bool.true_and];by_cases c3:DD R o.By=0
   .rw[C3 c3,c3];exact .some h
   .rw[C6 c3,show decide (0<DD R o.By)=true from C3 aa,A9,ax];refine .bind ((AbS z h hR o.By 3).mono λD' hD=> .some ?_);have h1:=hD.1;exact⟨h1.card,h1.nd,h1.in_,h1.was,h1.w0,h1.ln,h1.no,h1.mem,h1.vou,h1.vof,h1.vnd,rfl⟩
  grind [T.some]
 grind [T.some]
theorem Amx(z:Sy D)(h:Rr R D)(o:Bp){a:Int}(hv:match R.members.get (DD R o.By) with
  |none=>a= -1
  |some x=>∃(k:Nat) (y:D5),a=(k:Int)/\D.L[k]?=some y/\y.N=DD R o.By/\Mr x y):T ((bif decide (0<=a) then((aS D.L (EY a 0)).bind λc=>bif c.Is then((aS D.L (EY a 0)).bind λd=>some (decide (d.ID=o.Of))) else(some false)) else(some false)).bind λf=>bif f then((aS D.L a).bind λb=>(o6 D.L a ({b with Objected:=true,Last:=EY b.Last o.At})).bind λi=>some ({D with L:=i})) else(some D)) (Rr (Wv R o)):=by
 have j:=z.l
 cases hx:R.members.get (DD R o.By) with
 |none=>
  grind [Wv,T.some]
 |some x=>
  rw[hx] at hv
  obtain⟨k,y,rfl,hy,hn,hM⟩:=hv
  have hk:=(cr hy).1
  have hmx:EY (k:Int) 0=(k:Int):=by unfold EY;rw[BA aa]
  rw[show decide ((0:Int)<=(k:Int))=true from C3 aa,ax,hmx,au,hy,aL,aL]
  obtain⟨role,gd⟩:=x
  cases gd with
  |none=>
   grind [Wv,Mr.no,T.some]
  |some g=>
   have h1:=hM.gd g rfl
   have e:Wv R o=bif decide (g.id=o.Of) then HE R (DD R o.By) ⟨role,some {g with objected:=true,last:=EY g.last o.At}⟩ else R:=by unfold Wv;rw[hx]
   rw[e,h1.1,h1.2.1,ax,aL]
   cases decide (g.id=o.Of) with
   |false=>exact .some h
   |true=>
    rw[ax,ax,aL]
    unfold o6
    refine .bind (.bind (.app cq (.bind (.set aa cq (.some (.some ?_))))))
    rw[M7,Fv]
    refine Aeh h hx hy hn hn (by grind [Mr]) (λm hg'=>?_) (by grind)
    all_goals grind
theorem Amy(z:Sy D)(hb:D.In.length+D.Gone.length<=1999/\D.L.length<=1999)(h:Rr R D)(hR:Bk R)(o:Bp):T ((jN D o.Of).bind λb=>(bif decide (0<=b) then((fb D.In o.Old).bind λj=>bif j then((gE D o.Old).bind λm=>(aS D.L (EY b 0)).bind λn=>bif decide (m=n.N) then((gE D o.Device).bind λp=>(aS D.L (EY b 0)).bind λq=>some (decide (p=q.N))) else(some false)) else(some false)) else(some false)).bind λr=>bif r then((gE D o.Device).bind λd=>(se D d).bind λf=>(nX D o.Device f).bind λi=>(sh i o.Old).bind λa=>some a) else(some D)) (Rr (Aal R o)):=by
 refine .bind ((Akt z.z h hR o.Of).mono λv hv=>?_);have fin:T (bif Aci R o then((gE D o.Device).bind λd=>(se D d).bind λf=>(nX D o.Device f).bind λi=>(sh i o.Old).bind λa=>some a) else(some D)) (Rr (Aal R o)):=by
  unfold Aal;cases Aci R o with
  |false=>exact .some h
  |true=>rw[ax,ax,ofE z.z,aL,<-h.card,AhY z.z h,aL];refine .bind ((AbS z h hR _ _).mono λD' hD=>?_);have g1:=hD.2.dev;have g2:=hD.2.l;refine .bind (by grind [T.mono,AhZ,Sy,Gw.c,Gw.v,IX,T.some])
 cases hf:R.members.es.find? λe=>Lq e.2.1 o.Of with
 |none=>grind [Aci,Ho]
 |some e=>
  rw[hf] at hv;obtain⟨k,y,g,rfl,hy,hn,_,_,_,hx⟩:=hv;have hw:Ho R o.Of=e.1:=by unfold Ho;rw[hf]
  have h3:=hR.m3 e (List.mem_of_find?_eq_some hf);have hB:Aci R o=bif PP R o.Old then(bif decide (DD R o.Old=e.1) then decide (DD R o.Device=e.1) else false) else false:=by grind [Aci]
  have hmx:EY (k:Int) 0=(k:Int):=by unfold EY;rw[BA aa]
  rw[show decide ((0:Int)<=(k:Int))=true from C3 aa,ax,inE z.z h,aL,hmx,au,hy];grind [ofE,Sy.z,Rr.card]
theorem doE(z:Sy D)(hb:D.In.length+D.Gone.length<=1999/\D.L.length<=1999)(h:Rr R D)(hR:Bk R){o:Bp}{i:Ab}(hf:o.Kind=9->NoG R i):T (DM D o i) (Rr (U2 R o i)):=by
 unfold DM;refine .eqb (ofE z.z o.By) ?_;rw[<-h.card];refine .bind ((XR z.z h (DD R o.By)).mono λa hv=>?_);unfold U2;refine .dec (λk1=>?_) λk1=>?_
 .grind [Amw]
 rw[BA k1];refine .dec (λk2=>?_) λk2=>?_
 .rw[Bx k2];exact .bind (by grind [T.mono,AbS,T.some])
 rw[BA k2];refine .dec (λk3=>?_) λk3=>?_
 .rw[Bx k3];by_cases c:o.Device=0
  .rw[Bx c,C3 c,ax,Amq z o rfl,aL,aL];exact .bind ((Amr z h hR o).mono λD' hD=> .some hD)
  .rw[BA c,C6 c,A9,aL];exact .bind (by grind [T.mono,Ah0,T.some])
 rw[BA k3];refine .dec (λk5=>?_) λk5=>?_
 .rw[Bx k5];exact Akx z h o
 rw[BA k5];refine .dec (λk9=>?_) λk9=>?_
 .grind [Amt]
 grind [Amv,T.some,Amx,Amy]
theorem AkC(hc:∀d,DD (He cs) d=XQ cs d):T (AV cs) (Rr (He cs)):=by
 refine .some ⟨hc,.nil,λd=>?_,λd=>?_,rfl,.nil,(by grind),λm x hm=>(by cases hm),λm x g hm=>(by cases hm),λv hv=>(by cases hv),.nil,rfl⟩
 .rw[BA aC];rfl
 .rw[BA aC];rfl
end
theorem T.and{α:Type}{x:Option α}{P Q:α->Prop}(h1:T x P)(h2:T x Q):T x λv=>P v/\Q v:=by obtain⟨v,e,p⟩:=h1;obtain⟨w,e2,q⟩:=h2;rw[e] at e2;cases e2;exact⟨v,e,p,q⟩
def Gs(R:Ad)(S:Bc):Prop:=∀q z g,R.members.get q=some z->z.guard=some g->g.id∈S
section
variable {R:Ad} {S:Bc}
theorem Gs.up(h:Gs R S)(i:Ab):Gs R (S++[i]):=λq z g h1 h2=>by simp[h q z g h1 h2]
theorem Vb(h:Gs R S){M:FM Int Az}{k:Int}{x:Az}(hM:∀q,M.get q=if q=k then some x else R.members.get q)(hx:∀g,x.guard=some g->g.id∈S){Q:Ad}(hQ:Q.members=M):Gs Q S:=λq z g h1 h2=>by
 rw[hQ,hM] at h1;split at h1
 .cases h1;exact hx g h2
 .exact h q z g h1 h2
theorem Vc(h:Gs R S)(d role:Int):Gs (I9 R d role) S:=by
 unfold I9;cases D3 R d with
 |false=>exact h
 |true=>
  cases hm:(R.members.get (DD R d)).isSome with
  |true=>exact λq z g h1 h2=>h q z g (by grind) h2
  |false=>exact Vb h (M:=C4 R.members (DD R d) ⟨role,none⟩) (λq=>BB _ q) (λg hg=>by cases hg) (by rw[ax];simp[hm])
theorem ZJ(h:Gs R S)(hR:Bk R)(d:Int):Gs (G4 R d) S:=by
 unfold G4;cases PP R d with
 |false=>exact h
 |true=>
  cases LS (I1 R d) (DD R d) with
  |true=>exact h
  |false=>
   intro q z g h1 h2;have h1:(Sc R.members (DD R d)).get q=some z:=h1;rw[Nw hR.cm] at h1;split at h1
   .cases h1
   .exact h q z g h1 h2
theorem AiF(h:Gs R S)(hR:Bk R)(m:Int):∀l:Be,Gs (l.foldl (S9 m) R) S:=λl=>by induction l generalizing R<;>grind [Ade,S9,ZJ]
theorem Ah1(h:Gs R S)(hR:Bk R)(o:Bp)(i:Ab):Gs (U2 R o i) (S++[i]):=by
 unfold U2;split
 .unfold Abs;cases decide ((R.was.es.length:Int)=0)&&D3 R o.By with
  |false=>exact h.up i
  |true=>exact(Vc h o.By 3).up i
 split
 .exact(Vc h _ _).up i
 split
 .split
  .exact(AiF h hR _ _).up i
  .exact(ZJ h hR _).up i
 split
 .refine Gs.up ?_ i;unfold UB;split
  .exact h
  .rename_i x hx;exact Vb h (x:=⟨o.Role,x.guard⟩) (λq=>BB _ q) (λg hg=>h _ x g hx hg) rfl
 split
 .unfold Aak;split
  .exact h.up i
  .exact Vb (h.up i) (λq=>BB _ q) (by grind) rfl
 split
 .refine Gs.up ?_ i;unfold X3;split
  .rename_i k role g n hf;have hx:=(hR.mem (List.mem_of_find?_eq_some hf)).1;cases(g.guards.any λy=>decide (o.By=y))&&Aaj g o with
   |false=>exact h
   |true=>exact Vb h (λq=>BB _ q) (λa hg=>by cases hg;exact h _ _ g hx rfl) rfl
  .exact h
 split
 .refine Gs.up ?_ i;unfold Wv;split
  .rename_i role g hx;cases decide (g.id=o.Of) with
   |false=>exact h
   |true=>exact Vb h (λq=>BB _ q) (λa hg=>by cases hg;exact h _ _ g hx rfl) rfl
  .exact h
 grind [Gs.up,Aal,ZJ,Vc,IX]
end
structure Pg (g:A7) (m:JJ) (N:JD):Prop where
 w:Fq g
 p:Oa g m N
 od:∀(i:Nat) (o:Bp) (x:Ab),g.L[i]?=some o->g.IDs[i]?=some x->Wz o x
 dv:∀(i:Nat) (o:Bp) (x:Ab),g.L[i]?=some o->g.IDs[i]?=some x->∃c∈g.Cards,c.Device=o.By
 cd:AdU g.Cards
 cn:(g.Cards.map (·.Device)).Nodup
section
variable {g:A7} {m:JJ} {N:JD} (P:Pg g m N)
include P
theorem Pg.op{i:Nat}{o:Bp}{x:Ab}(ho:g.L[i]?=some o)(hx:g.IDs[i]?=some x):(BX g m N).op x=some o/\(BX g m N).o x=o:=by
 have e:(BX g m N).op x=some o:=by rw[Af0 P.w P.p,NR P.w hx];exact ho
 grind [Gi.o]
theorem Pg.bef{i k:Nat}{x y:Ab}(hx:g.IDs[i]?=some x)(hy:g.IDs[k]?=some y):(BX g m N).bef x y=Q2 g k i:=by rw[Acy P.w P.p,NR P.w hx,NR P.w hy]
theorem Pg.new(d:Int):DD (He g.Cards) d=XQ g.Cards d:=by
 have key:∀(l:LT) (M:FM Int DL),(l.map (·.Device)).Nodup->(∀c∈l,M.get c.Device=none)->(l.foldl (λm c=>C4 m c.Device c) M).get d=match l.find? λc=>decide (c.Device=d) with|some c=>some c|none=>M.get d:=by
  intro l;induction l with
  |nil=>exact λM _ _=>rfl
  |cons c r ih=>grind [BB]
 unfold DD XQ He Ajr;rw[key g.Cards ⟨[],0⟩ P.cn λc _=>rfl];cases g.Cards.find? λc=>decide (c.Device=d)<;>rfl
theorem AaS{D:Dl}(h:Jq g n D)(hn:n<=1000):Sy D:=by grind [Pg,Jq,Sy,Fq.nC]
theorem AmA{l:Be}(hi:EF g l)(hl:l.length<=1000)(hnd:(I4 g l).Nodup){id:Ab}(hk:g.IDs[k]?=some id):T (Fg g l (k:Int)) λD=>Rr (WA (BX g m N) (I4 g l) id) D/\Bk (WA (BX g m N) (I4 g l) id)/\Jq g 1000 D:=by
 have w:=P.w;have nL:=w.nL;have nI:=w.nI;have hkl:k<g.L.length:=by grind
 obtain⟨d,e0,f⟩:=AkC (P.new);unfold Fg;rw[e0,aL];have hD0:d=⟨g.Cards,[],[],[],0,[]⟩:=(Bj e0).symm;subst hD0;refine .bind (T.mono (Q:=λD=>Rr (WA (BX g m N) (I4 g l) id) D/\Bk (WA (BX g m N) (I4 g l) id)/\Jq g 1000 D) (T.forA l.length (λj D=>(Rr (((I4 g l).take j).foldl (Tk (BX g m N) id) (He g.Cards)) D/\Bk (((I4 g l).take j).foldl (Tk (BX g m N) id) (He g.Cards))/\Gs (((I4 g l).take j).foldl (Tk (BX g m N) id) (He g.Cards)) ((I4 g l).take j))/\Jq g j D) aa ⟨⟨f,Lz P.cd.r,λq z g h=>by cases h⟩,Mv g⟩ (λj D hj hr=>?_) λD hr=>?_) λD hr=> .some hr)
 .obtain⟨y,hy,hm⟩:=dk hj;obtain⟨i,x,rfl,hil,hx,a⟩:=O4 w hi hy;obtain⟨o,ho,so,t⟩:=w.op hil;obtain⟨row,b,hrow,hb⟩:=w.cell hkl hil;obtain⟨⟨h1,h2,h3⟩,h4⟩:=hr;have hod:=P.od i o x ho hx;have c:=(P.op ho hx).2;have hbf:(BX g m N).bef x id=b:=by rw[P.bef hx hk];grind [Q2]
  have et:((I4 g l).take (j+1)).foldl (Tk (BX g m N) id) (He g.Cards)=bif b then U2 (((I4 g l).take j).foldl (Tk (BX g m N) id) (He g.Cards)) o x else((I4 g l).take j).foldl (Tk (BX g m N) id) (He g.Cards):=by rw[Rb a,OP,List.foldl_cons,List.foldl_nil];unfold Tk;rw[hbf,c]
  have hxS:x∉(I4 g l).take j:=by grind [G9,MH]
  rw[et,Rb a];generalize ((I4 g l).take j).foldl (Tk (BX g m N) id) (He g.Cards)=R at h1 h2 h3⊢;unfold xx;simp only[eA hj,ax,au,hy,ho,hx,hrow,hb,aL];have z:=AaS P h4 aa;have p:=h4.dev;have s:=h4.nL;cases b with
  |true=>exact .bind ((T.and (doE z ⟨aa,aa⟩ h1 h2 λ_ q z n k1 k2 e=>by have:=h3 q z n k1 k2;rw[e] at this;exact hxS this) (Gc w aa h4 so x)).mono λv hv=> .some (by constructor<;>grind [aq,RW,Ah1]))
  |false=>exact .some (by constructor<;>grind [aq,Gs.up,Jq.up])
 .unfold xx;dsimp only;rw[eF,A9];have hl2:(I4 g l).length=l.length:=Hi ..;rw[<-hl2,EQ] at hr;exact .some ⟨hr.1.1,hr.1.2.1,hr.2.up aa⟩
end
structure Lr (g:A7) (dl:JS) (al:AQ):Prop where
 row:EF g dl.Row
 nm:I4 g dl.Row=al.row
 nd:al.row.Nodup
 nr:dl.Row.length<=1000
 nv:dl.Void.length=g.L.length
 nc:dl.Decided.length=g.L.length
 vd:∀(p:Nat) (x:Ab),g.IDs[p]?=some x->dl.Void[p]?=some (Bb (al.void.get x))
section
variable {g:A7} {m:JJ} {N:JD} (P:Pg g m N)
include P
theorem Ah2(h:Lr g dl al):T (Sm g dl) λr=>EF g r/\r.length<=1000/\I4 g r=JR (BX g m N) al/\(I4 g r).Sublist al.row:=by
 have w:=P.w;have nL:=w.nL;have hr:=h.nr;unfold Sm JR;refine .bind (T.mono (Q:=λr=>EF g r/\r.length<=1000/\I4 g r=al.row.foldl (Lw (BX g m N) al.void) []/\(I4 g r).Sublist al.row) (T.forA dl.Row.length (λj r=>EF g r/\r.length<=j/\I4 g r=(al.row.take j).foldl (Lw (BX g m N) al.void) []/\(I4 g r).Sublist (al.row.take j)) aa ⟨.nil,aC,by simp[I4],by simp[I4]⟩ (λk acc hk hj=>?_) λr a=>?_) λr a=> .some a)
 .obtain⟨y,hy,hm⟩:=dk hk;obtain⟨i,x,rfl,hil,hx,b⟩:=O4 w h.row hy;rw[h.nm] at b;obtain⟨o,ho,so,q⟩:=w.op hil;obtain⟨l,p,n,d⟩:=hj;have f:=(P.op ho hx).2;have hod:=P.od i o x ho hx;have hv:=h.vd i x hx;have hnd:(I4 g acc).Nodup:=(h.nd.sublist (List.take_sublist k _)).sublist d;rw[Rb b,OP,List.foldl_cons,List.foldl_nil,<-n];unfold um;simp only[eA hk,ax,au,hy,ho,hx,hv,aL];have keep:(I4 g acc).Sublist (al.row.take k++[x]):=d.trans (List.sublist_append_left _ _);unfold Lw;rw[f];cases hc:Bb (al.void.get x) with
  |true=>exact .some (by constructor<;>grind [aq])
  |false=>
   rw[A9,A9];refine .bind ((AmA P l aa hnd hx).mono λD hD=>?_);rw[Akv (AaS P hD.2.2 aa).z hD.1 hD.2.1 hod.g x,aL];refine .dec (λc=>?_) λc=>?_
   .rw[C3 c,ax];have e:I4 g (acc++[(i:Int)])=I4 g acc++[x]:=by simp[I4,hx]
    exact .bind (.app cq (.some ⟨aq aa,l.snoc hil,by simp;omega,e,e▸d.append (.refl _)⟩))
   .rw[C6 c,A9];exact .some (by constructor<;>grind [aq])
 .unfold um;dsimp only;rw[eF,A9];have hl2:al.row.length=dl.Row.length:=by rw[<-h.nm,Hi]
  rw[<-hl2,EQ] at a;exact .some ⟨a.1,aa,a.2.2.1,a.2.2.2⟩
theorem Agt(d:Int):nT g d=some (match(BX g m N).card d with|some c=>c.Member|none=>0):=by have nC:=P.w.nC;unfold nT;rw[Cw aa,aL];unfold mZ;show _=some (match g.Cards.find? (λc=>decide (c.Device=d)) with|some c=>c.Member|none=>0);grind
theorem Pg.same{i k:Nat}{x y:Ab}(hx:g.IDs[i]?=some x)(hy:g.IDs[k]?=some y):x=y↔(i:Int)=(k:Int):=by grind [Pg,MH,Fq.nd]
theorem Aek{i:Nat}{y:Ab}(hi:i<g.L.length)(hk:k<g.L.length)(hx:g.IDs[i]?=some x)(hy:g.IDs[k]?=some y):n9 g (i:Int) (k:Int)=some (Jb (BX g m N) x y):=by
 have w:=P.w;obtain⟨a,ha,j,f⟩:=w.op hi;obtain⟨b,hb,h,l⟩:=w.op hk;obtain⟨row,u,hrow,hu⟩:=w.cell hi hk;obtain⟨e,v,c,hv⟩:=w.cell hk hi;have ea:=P.op ha hx;have eb:=P.op hb hy;have e1:(BX g m N).bef y x=u:=by rw[P.bef hy hx];grind [Q2]
 have e2:(BX g m N).bef x y=v:=by rw[P.bef hx hy];grind [Q2]
 have d:=P.same hx hy;unfold n9 Jb;simp only[au,ha,hb,hrow,hu,c,hv,aL,ea.1,eb.1,ea.2,eb.2,e1,e2,Option.isSome_some,Bool.true_and];have hd:decide (x=y)=decide ((i:Int)=(k:Int)):=decide_eq_decide.2 d;rw[hd];cases decide ((i:Int)=(k:Int)) with
 |true=>rfl
 |false=>
 cases u with
 |true=>cases v<;>rfl
 |false=>
 cases v with
 |true=>rfl
 |false=>
 simp only[A9,aL,Bool.not_false,Bool.true_and];unfold Ajv Abz;rw[Agt P];by_cases k3:a.Kind=3
 .rw[k3];simp only[Int.reduceEq,decide_true,decide_false,ax,A9];by_cases hD:a.Device=0
  .have hm:=T1 f.numbers|>.k3 k3;grind [C6]
  grind
 grind
theorem Ael(h:Lr g dl al){i:Nat}{y:Ab}(hi:i<g.L.length)(hk:k<g.L.length)(hx:g.IDs[i]?=some x)(hy:g.IDs[k]?=some y):qW g dl (i:Int) (k:Int)=some (DZ (BX g m N) al.row x y):=by
 have w:=P.w;have hr:=h.nr;have b:=P.same hx hy;unfold qW DZ;rw[show decide (x=y)=decide ((i:Int)=(k:Int)) from decide_eq_decide.2 b];cases decide ((i:Int)=(k:Int)) with
 |true=>rfl
 |false=>
 rw[A9,Bool.not_false,Bool.true_and];refine T.eq (.bind ((T.search dl.Row (λz=>WF (BX g m N) x y ((g.IDs[z.toNat]?).getD ⟨0,0,0⟩)) (λk _=>true) aa (λj z hz hj=>?_) ?_).mono ?_))
 .obtain⟨q,v,rfl,a,hv,_⟩:=O4 w h.row hz;obtain⟨row,u,hrow,hu⟩:=w.cell hi a;have e1:(BX g m N).bef v x=u:=by rw[P.bef hv hx];grind [Q2]
  have hvx:decide (v=x)=decide ((q:Int)=(i:Int)):=decide_eq_decide.2 (P.same hv hx);unfold qV WF;rw[eA hj,ax,au,hz,aL,Fv,hv,Nf,aq aa,e1,hvx,Aek P hk a hy hv];grind [au]
 .unfold qV;rw[eF,A9]
 .have hmap:∀z∈dl.Row,((g.IDs[z.toNat]?).getD ⟨0,0,0⟩)∈al.row:=by grind [Lr.nm]
  rintro r (⟨rfl,hn⟩|⟨j,z,hz,hp,rfl,hn⟩)
  .refine .some ?_;grind [Lr.nm]
  .refine .some ?_;grind
end
theorem AaT(c:Fp o)(h:AbE o=some d):1<=d/\d<=12:=by have f:=T1 c.numbers;grind [N9,AbE]
theorem Aem(o:Bp):LJ o=some ((AbE o).getD 0):=by grind [LJ,AbE]
theorem AmB{l:Be}(hd:l.Nodup)(h:∀x∈l,1<=x/\x<=12):l.length<=12:=by
 have hs:∀x∈l.map Int.toNat,x∈List.range' 1 12:=by grind
 have hn:(l.map Int.toNat).Nodup:=Zu (g:=id) (by rw[List.map_id];exact hd) (by grind);have:=Qn hn hs;rwa [Hi,List.length_range'] at this
theorem AcG{I:Gi}:∀{l:Bc} {acc:Be},acc.Nodup->(l.foldl (Tz I) acc).Nodup
 |[],acc,h=>h
 |x::r,acc,h=>by refine AcG (l:=r) ?_;grind [Tz]
theorem AaU{I:Gi}{Q:Int->Prop}:∀{l:Bc} {acc:Be},(∀x∈l,∀d,AbE (I.o x)=some d->Q d)->(∀d∈acc,Q d)->∀d∈l.foldl (Tz I) acc,Q d
 |[],acc,_,h=>h
 |x::r,acc,hx,h=>by refine AaU (l:=r) (by grind) ?_;grind [Tz]
theorem AcH{m:FM Int Int}{s:Be}(hn:s.Nodup){d:Int}:∀k,k<=s.length->(∀j:Nat,j<k->s[j]?=some d->(UK m s k).get d=some (j:Int))/\((∀j:Nat,j<k->s[j]?≠some d)->(UK m s k).get d=m.get d)
 |0,_=>⟨λj h=>aa,λ_=>rfl⟩
 |k+1,hk=>by
  have ih:=AcH (m:=m) hn (d:=d) k aa;obtain⟨x,hx,_⟩:=dk (l:=s) (k:=k) aa;have e:UK m s (k+1)=C4 (UK m s k) x (k:Int):=by show(match s[k]? with|some d=>_|none=>_)=_;rw[hx]
  rw[e,BB];refine⟨λj hj hd=>?_,λhne=>?_⟩
  .grind [MH]
  grind
theorem AcI{d:Int}:∀{cs:LT} {m:FM Int Int},(∃c∈cs,c.Device=d)\/m.get d=some 12->(cs.foldl (λm c=>C4 m c.Device 12) m).get d=some 12
 |[],m,h=>by grind
 |c::r,m,h=>by refine AcI (cs:=r) ?_;grind [BB]
def snD(s:Be)(d:Int):Int:=match bu d s with
 |some j=>(j:Int)
 |none=>(s.length:Int)
theorem ZK{s:Be}(hn:s.length<=1000)(d:Int):oa s d=some (snD s d):=by
 unfold oa;refine T.eq (.bind ((T.search s (λx=>decide (x=d)) (λk _=>(k:Int)) aa (λk x hx hk=>?_) ?_).mono ?_))
 .grind [ph,eA,au,aq]
 .unfold ph;rw[eF,A9]
 .rintro r (⟨rfl,h⟩|⟨k,x,hx,hp,rfl,h⟩)
  .have:bu d s=none:=by grind [jv]
   refine .some ?_;unfold snD;rw[this];rfl
  .have hp:=DP hp;subst hp;have:bu x s=some k:=by grind [y0]
   refine .some ?_;unfold snD;rw[this]
theorem AiG{s:Be}(hn:s.Nodup)(hl:s.length<=12){e:Int}(hd:∃c∈cs,c.Device=d)(he:∃c∈cs,c.Device=e):decide (Sg (OR cs s) d<Sg (OR cs s) e)=decide (snD s d<snD s e):=by
 have at_:∀d,(∃c∈cs,c.Device=d)->(∃j:Nat,j<s.length/\Sg (OR cs s) d=(j:Int)/\snD s d=(j:Int))\/(Sg (OR cs s) d=12/\snD s d=(s.length:Int)):=λd hd=>by have h:=AcH (m:=Tl cs) hn (d:=d) s.length (Dx _);unfold Sg OR snD;grind [gb,jv,Tl,AcI]
 grind
section
variable {g:A7} {m:JJ} {N:JD} (P:Pg g m N)
include P
theorem AaV{ids row:Bc}(ho:n8 g ids=some row)(hn:row.length<=1000)(hm:∀x∈row,x∈g.IDs):jn g ids=some (Ot (BX g m N) row):=by
 have w:=P.w;have nL:=w.nL;have nI:=w.nI;unfold jn;rw[ho,aL];refine T.eq (.bind (T.mono (Q:=λr=>r=Ot (BX g m N) row) (T.forA row.length (λk acc=>acc=(row.take k).foldl (Tz (BX g m N)) []) aa rfl (λk acc hk hj=>?_) λacc hj=>?_) λr hr=> .some hr))
 .obtain⟨x,hx,hmx⟩:=dk hk;obtain⟨i,hi⟩:=G9 (hm x hmx);have hil:i<g.L.length:=by grind
  obtain⟨o,a,so,c⟩:=w.op hil;have hpz:gO g x=(i:Int):=by unfold gO;rw[NR w hi]
  have b:=(P.op a hi).2;have hal:=Xc (I:=BX g m N) (l:=row.take k) (acc:=[]);rw[N3,List.length_nil,<-hj] at hal;rw[Rb hx,OP,List.foldl_cons,List.foldl_nil,<-hj];unfold Tz;rw[b];unfold nk;simp only[eA hk,ax,au,hx,aL,qR,dC (show g.IDs.length<=1000000 by omega),hpz,a,Aem];cases hc:AbE o with
  |none=>exact .some ⟨aq aa,rfl⟩
  |some d=>
   have hd:=AaT c hc;rw[Nf,show decide (0<d)=true from C3 aa,ax,cX aa,aL];have hb:QF acc d=acc.any (λy=>decide (d=y)):=by grind [JB]
   rw[hb,aL];dsimp only;cases acc.any (λy=>decide (d=y)) with
   |true=>exact .some ⟨aq aa,rfl⟩
   |false=>exact .bind (.app cq (.some ⟨aq aa,rfl⟩))
 .unfold nk;dsimp only;rw[eF,A9];refine .some (show acc=_ from ?_);rw[hj,EQ];rfl
end
def XS(lt:Ab->Ab->Bool)(b:Option Ab)(x:Ab):Option Ab:=match b with
 |none=>some x
 |some y=>bif lt x y then some x else some y
theorem AmC{I:Gi}{row l:Bc}{sen:FM Int Int}(hl:l.length<=1000):T (AB (AfU I row l sen) (0,-1)) λr=>(∃(i:Nat) (x:Ab),r=(i:Int)/\l[i]?=some x/\(l.find? (λx=> !l.any (DZ I row x))=some x\/(l.find? (λx=> !l.any (DZ I row x))=none/\l.foldl (XS λx y=>decide (Sg sen x.By<Sg sen y.By)) none=some x)))\/(l=[]/\r= -1):=by
 refine T.loop (λs=>s.1<=l.length/\(∀y∈l.take s.1,(!l.any (DZ I row y))=false)/\((s.1=0/\s.2= -1)\/∃(i:Nat) (x:Ab),s.2=(i:Int)/\l[i]?=some x/\(l.take s.1).foldl (XS λx y=>decide (Sg sen x.By<Sg sen y.By)) none=some x)) (λs=>l.length-s.1) (by grind) (by show l.length-0<_;omega) ?_;rintro⟨k,b⟩ ⟨hk,hw,hb⟩;dsimp only at hk hw hb;unfold AfU;dsimp only;cases hx:l[k]? with
 |none=>
  have hge:l.length<=k:=List.getElem?_eq_none_iff.1 hx;obtain rfl:k=l.length:=aa;rw[EQ] at hw hb;dsimp only;rw[Nat.beq_refl,ax];refine .some ?_;rcases hb with⟨h1,h2⟩|⟨i,x,h1,h2,h3⟩
  .exact .inr ⟨List.length_eq_zero_iff.1 h1,h2⟩
  .exact .inl (by grind)
 |some x=>
  have hlt:=(cr hx).1;dsimp only;refine .ite (λha=>?_) λha=> .some (.inl ⟨k,x,rfl,hx,.inl ?_⟩)
  .have hw':∀y∈l.take (k+1),(!l.any (DZ I row y))=false:=λy hy=>by rw[Rb hx] at hy;grind
   have ef:(l.take (k+1)).foldl (XS λx y=>decide (Sg sen x.By<Sg sen y.By)) none=XS (λx y=>decide (Sg sen x.By<Sg sen y.By)) ((l.take k).foldl (XS λx y=>decide (Sg sen x.By<Sg sen y.By)) none) x:=by rw[Rb hx,OP];rfl
   unfold upB;rcases hb with⟨rfl,rfl⟩|⟨i,y,rfl,hi,hf⟩
   .refine .some ⟨⟨aa,hw',.inr ⟨0,x,rfl,hx,?_⟩⟩,by show l.length-1<l.length-0;omega⟩;rw[ef];rfl
   .rw[hf] at ef;rw[show decide ((i:Int)<0)=false from C6 aa,A9,au,hi,aL];cases hc:decide (Sg sen x.By<Sg sen y.By) with
    |true=>exact .some ⟨⟨by show k+1<=_;omega,hw',.inr ⟨k,x,rfl,hx,by rw[ef];show(bif decide (Sg sen x.By<Sg sen y.By) then some x else some y)=_;rw[hc];rfl⟩⟩,by grind⟩
    |false=>exact .some ⟨⟨by show k+1<=_;omega,hw',.inr ⟨i,y,rfl,hi,by rw[ef];show(bif decide (Sg sen x.By<Sg sen y.By) then some x else some y)=_;rw[hc];rfl⟩⟩,by grind⟩
  .rw[List.find?_eq_some_iff_getElem];obtain⟨h1,h2⟩:=cr hx;refine⟨by rw[ha];rfl,k,h1,h2,λj hj=>?_⟩;have hj':l[j]?=some (l[j]'aa):=DR _;have:=hw _ (bO (i:=j) (by rw[List.getElem?_take,Bx hj];exact hj'));rw[this];simp
abbrev NxQ(g:A7)(m:JJ)(N:JD)(al:AQ)(l:Bc)(lt:Ab->Ab->Bool)(nx:Int):Prop:=(∃(p:Nat) (x:Ab),nx=(p:Int)/\g.IDs[p]?=some x/\x∈l/\(l.find? (λx=> !l.any (DZ (BX g m N) al.row x))=some x\/(l.find? (λx=> !l.any (DZ (BX g m N) al.row x))=none/\l.foldl (XS lt) none=some x)))\/(l=[]/\nx= -1)
section
variable {g:A7} {m:JJ} {N:JD} (P:Pg g m N)
include P
theorem AkD(h:Lr g dl al){s:Be}{lt:Ab->Ab->Bool}(hs:s.length<=1000)(hlf:l=al.row.filter λx=>decide (x∈l))(j:∀(p:Nat) (x:Ab),g.IDs[p]?=some x->x∈al.row->NQ g dl (p:Int)=some (decide (x∈l)))(hlt:∀x∈al.row,∀y∈al.row,lt x y=decide (snD s ((BX g m N).o x).By<snD s ((BX g m N).o y).By)):T (vL g dl s) λnx=>NxQ g m N al l lt nx:=by
 have w:=P.w;have hr:=h.nr;have inner:∀{i:Nat} {x:Ab},i<g.L.length->g.IDs[i]?=some x->AB (ut g dl (i:Int)) (true,0)=some (!l.any (DZ (BX g m N) al.row x)):=λ{i x} hi hx=>by
  refine T.eq (T.forA dl.Row.length (λk b=>b= !((al.row.take k).any λy=>decide (y∈l)&&DZ (BX g m N) al.row x y)) aa rfl (λk b hk hb=>?_) λb hb=>?_)
  .obtain⟨z,hz,_⟩:=dk hk;obtain⟨q,v,rfl,d,hv,a⟩:=O4 w h.row hz;rw[h.nm] at a;unfold ut;simp only[eA hk,ax,au,hz,aL,j q v hv (bO a),Ael P h hi d hx hv];have e:((al.row.take (k+1)).any λy=>decide (y∈l)&&DZ (BX g m N) al.row x y)=(((al.row.take k).any λy=>decide (y∈l)&&DZ (BX g m N) al.row x y)||(decide (v∈l)&&DZ (BX g m N) al.row x v)):=by rw[Rb a,List.any_append];simp
   rw[e];cases decide (v∈l) with
   |false=>exact .some ⟨aq aa,by simpa using hb⟩
   |true=>
    cases DZ (BX g m N) al.row x v with
    |false=>exact .some ⟨aq aa,by simpa using hb⟩
    |true=>exact .some ⟨aq aa,aC⟩
  .unfold ut;dsimp only;rw[eF,A9];refine .some (show b=_ from ?_);grind [Lr.nm,Hi]
 unfold vL;refine .bind ((T.forA (Q:=λr:Int⊕Int=>(∃(p:Nat) (x:Ab),r= .inr (p:Int)/\g.IDs[p]?=some x/\x∈l/\l.find? (λx=> !l.any (DZ (BX g m N) al.row x))=some x)\/(∃(p:Nat) (x:Ab),r= .inl (p:Int)/\g.IDs[p]?=some x/\x∈l/\l.find? (λx=> !l.any (DZ (BX g m N) al.row x))=none/\l.foldl (XS lt) none=some x)\/(l=[]/\r= .inl (-1))) dl.Row.length (λk b=>(∀y∈al.row.take k,y∈l->(!l.any (DZ (BX g m N) al.row y))=false)/\((b= -1/\((al.row.take k).filter λx=>decide (x∈l))=[])\/∃(p:Nat) (x:Ab),b=(p:Int)/\p<g.L.length/\g.IDs[p]?=some x/\x∈l/\((al.row.take k).filter λx=>decide (x∈l)).foldl (XS lt) none=some x)) aa ⟨λy hy=>(by cases hy),.inl ⟨rfl,rfl⟩⟩ (λk b hk hb=>?_) λb hb=>?_).mono ?_)
 .obtain⟨z,hz,_⟩:=dk hk;obtain⟨q,v,rfl,d,hv,a⟩:=O4 w h.row hz;rw[h.nm] at a;have n:=bO a;obtain⟨hb1,hb2⟩:=hb;have ef:(al.row.take (k+1)).filter (λx=>decide (x∈l))=(al.row.take k).filter (λx=>decide (x∈l))++(if v∈l then[v] else[]):=by rw[Rb a,Q1];grind
  unfold uu;simp only[eA hk,ax,au,hz,aL,j q v hv n];by_cases c:v∈l
  .rw[Bx c] at ef;rw[C3 c,Bool.not_true,A9,inner d hv,aL];cases hany:l.any (DZ (BX g m N) al.row v) with
   |false=>
    refine .some (.inl ⟨q,v,rfl,hv,c,?_⟩);have hkl:(al.row.take k).filter (λx=>decide (x∈l))++[v]++(al.row.drop (k+1)).filter (λx=>decide (x∈l))=l:=by grind [O6]
    have:l.find? (λx=> !l.any (DZ (BX g m N) al.row x))=((al.row.take k).filter (λx=>decide (x∈l))++[v]++(al.row.drop (k+1)).filter (λx=>decide (x∈l))).find? (λx=> !l.any (DZ (BX g m N) al.row x)):=by rw[hkl]
    rw[this,List.append_assoc,List.find?_append,List.find?_eq_none.2 λy hy=>by rw[HU] at hy;rw[hb1 y hy.1 (DP hy.2)];simp]
    rw[List.singleton_append,List.find?_cons,hany];rfl
   |true=>
    rw[Bool.not_true,A9];have hb1':∀y∈al.row.take (k+1),y∈l->(!l.any (DZ (BX g m N) al.row y))=false:=λy hy f=>by
     rw[Rb a] at hy;rcases I5.1 hy with hy|hy
     .exact hb1 y hy f
     .simp at hy;subst hy;rw[hany];rfl
    obtain⟨o,ho,so,u⟩:=w.op d;rcases hb2 with⟨rfl,he⟩|⟨p,y,rfl,hpl,hp,f,hf⟩
    .rw[show decide ((-1:Int)<0)=true from rfl,ax,aL,ax];refine .some ⟨aq aa,hb1',.inr ⟨q,v,rfl,d,hv,c,?_⟩⟩;rw[ef,he];rfl
    .obtain⟨t,ho2,_⟩:=w.op hpl;have hmx:EY (p:Int) 0=(p:Int):=by unfold EY;rw[BA aa]
     have hyr:y∈al.row:=by grind
     rw[show decide ((p:Int)<0)=false from C6 aa,A9,hmx];simp only[au,ho,ho2,aL,ZK hs];have hl1:=hlt v n y hyr;rw[(P.op ho hv).2,(P.op ho2 hp).2] at hl1;rw[<-hl1];have ef2:((al.row.take (k+1)).filter λx=>decide (x∈l)).foldl (XS lt) none=XS lt (some y) v:=by rw[ef,OP,hf];rfl
     cases hc:lt v y with
     |true=>exact .some ⟨aq aa,hb1',.inr ⟨q,v,rfl,d,hv,c,by rw[ef2];show(bif lt v y then some v else some y)=_;rw[hc];rfl⟩⟩
     |false=>exact .some ⟨aq aa,hb1',.inr ⟨p,y,rfl,hpl,hp,f,by rw[ef2];show(bif lt v y then some v else some y)=_;rw[hc];rfl⟩⟩
  .rw[BA c,MT] at ef;rw[C6 c,Bool.not_false,ax];refine .some ⟨aq aa,λy hy f=>?_,by rw[ef];exact hb2⟩;rw[Rb a] at hy;grind
 .unfold uu;dsimp only;rw[eF,A9];have hl2:al.row.length=dl.Row.length:=by rw[<-h.nm,Hi]
  rw[<-hl2,EQ,<-hlf] at hb;refine .some ?_;obtain⟨hb1,hb2⟩:=hb;rcases hb2 with⟨rfl,he⟩|⟨p,x,rfl,_,hp,hx,hf⟩
  .exact .inr (.inr ⟨he,rfl⟩)
  .refine .inr (.inl ⟨p,x,rfl,hp,hx,List.find?_eq_none.2 λy hy=>?_,hf⟩);have hyr:y∈al.row:=by rw[hlf] at hy;exact(HU.1 hy).1
   rw[hb1 y hyr hy];simp
 .rintro r (⟨p,x,rfl,hp,hx,h1⟩|⟨p,x,rfl,hp,hx,h1⟩|⟨h1,rfl⟩)
  .exact .some (.inl ⟨p,x,rfl,hp,hx,.inl h1⟩)
  .exact .some (.inl ⟨p,x,rfl,hp,hx,.inr h1⟩)
  .exact .some (.inr ⟨h1,rfl⟩)
end
theorem AbT{α:Type}[DecidableEq α]:∀{l row:List α},l.Sublist row->row.Nodup->l=row.filter λx=>decide (x∈l)
 |_,_,.slnil,_=>rfl
 |l,_,.cons (l₂:=r) a h,hn=>by rw[LV] at hn;rw[List.filter_cons_of_neg (by grind)];exact AbT h hn.2
 |_,_,.cons_cons (l₁:=l) (l₂:=r) a h,hn=>by rw[LV] at hn;rw[List.filter_cons_of_pos aC];have e:=AbT h hn.2;grind [List.filter_congr]
theorem Agu:Bb ((ofV vs).get x)=decide (x∈vs):=by
 have key:∀(l:Bc) (M:FM Ab Bool),Bb ((l.foldl (λm x=>C4 m x true) M).get x)=(Bb (M.get x)||decide (x∈l)):=by intro l;induction l<;>grind [BB,Bb]
 unfold ofV;rw[key];rfl
theorem AcJ{I:Gi}{row left:Bc}{x y:Ab}:∀{l:Bc} {v:FM Ab Bool},Bb ((l.foldl (vFu I row left x) v).get y)=(Bb (v.get y)||(decide (y∈l)&&(Jb I x y||(left.any (λz=>decide (y=z))&&DZ I row x y))))
 |[],v=>aC
 |a::r,v=>by
  rw[List.foldl_cons,AcJ (l:=r)];have e:Bb ((vFu I row left x v a).get y)=(Bb (v.get y)||(decide (y=a)&&(Jb I x y||(left.any (λz=>decide (y=z))&&DZ I row x y)))):=by unfold vFu;grind [BB,Bb]
  grind
section
variable {g:A7} {m:JJ} {N:JD} (P:Pg g m N)
include P
theorem AkE(hi:GJ g ids)(ho:n8 g ids=some row)(hrn:row.Nodup)(hr:row.length<=1000)(hrm:∀x∈row,x∈g.IDs)(hv:vJ ids=some vs)(d:vs.length<=1000)(hvm:∀x∈vs,x∈g.IDs):T (Aa g ids) λc=>Lr g c (XL ⟨g.Cards,m,N⟩ row vs)/\c.Decided=List.replicate g.L.length false:=by
 have w:=P.w;have nL:=w.nL;have nI:=w.nI;unfold Aa;rw[ho,aL];have hmk:rP 1 (false:Bool) (ah g.L)=some (List.replicate g.L.length false):=T.eq (.make (by unfold ah;omega) (by unfold ah;omega) (by unfold ah;omega) (by unfold ah;rw[Fv]));rw[hmk,aL,aL,aL];have pz:∀x∈g.IDs,∃i:Nat,g.IDs[i]?=some x/\i<g.L.length/\fC g x=some (i:Int):=λx hx=>by obtain⟨i,hi⟩:=G9 hx;have:=(cr hi).1;exact⟨i,hi,aa,by rw[dC aa];unfold gO;rw[NR w hi]⟩
 refine .bind ((T.forA row.length (λk acc=>EF g acc/\acc.length=k/\I4 g acc=row.take k) aa ⟨.nil,rfl,rfl⟩ (λk acc hk hj=>?_) λacc hj=>?_).mono (Q:=λacc=>EF g acc/\acc.length=row.length/\I4 g acc=row) λb h10=>?_)
 .obtain⟨x,hx,hmx⟩:=dk hk;obtain⟨i,hi,hil,hp⟩:=pz x (hrm x hmx);unfold uq;simp only[eA hk,ax,au,hx,aL,hp];refine .bind (.app cq (.some ⟨aq aa,hj.1.snoc hil,by simp;omega,?_⟩));grind [Rb]
 .unfold uq;dsimp only;rw[eF,A9];rw[EQ] at hj;exact .some hj
 .rw[hv,aL];refine .bind ((T.loop (Q:=λr:List Bool×List Bool=>r.1.length=g.L.length/\∀(p:Nat) (x:Ab),g.IDs[p]?=some x->r.1[p]?=some (decide (x∈vs))) (λs=>∃k:Nat,k<=vs.length/\s.2.2=(k:Int)/\s.1.length=g.L.length/\s.2.1.length=g.L.length/\∀(p:Nat) (x:Ab),g.IDs[p]?=some x->s.1[p]?=some (decide (x∈vs.take k))) (λs=>vs.length-s.2.2.toNat) ⟨0,aa,rfl,aC,aC,λp x hp=>?_⟩ cq ?_).mono λr a=>?_)
  .have:=(cr hp).1;show(List.replicate g.L.length false)[p]?=_;rw[List.getElem?_replicate,Bx aa];simp
  .rintro⟨V,F,i⟩ ⟨k,hk,rfl,h1,h2,h3⟩;dsimp only at h1 h2 h3;unfold uo;dsimp only;rcases Hx k vs.length with hlt|hge
   .obtain⟨x,hx,hmx⟩:=dk hlt;obtain⟨q,hq,e,hp⟩:=pz x (hvm x hmx);rw[eA hlt,ax,au,hx,aL,hp,aL];have ew:=aq (show k<2305843009213693952 by omega);refine .bind (.set aa aa (.bind (.set aa aa (.some ⟨⟨k+1,aa,ew,by simp;omega,by simp;omega,λp y hy=>?_⟩,by rw[ew];simp;omega⟩))));dsimp only;rw[Fv,List.getElem?_set,Rb hx];grind [MH,Fq.nd]
   .obtain rfl:k=vs.length:=aa;rw[eF,A9];rw[EQ] at h3;exact .some ⟨h1,h3⟩
  .refine .some ⟨⟨h10.1,h10.2.2,hrn,by show b.length<=1000;omega,a.1,aC,λp x hp=>?_⟩,rfl⟩;show r.1[p]?=some (Bb ((ofV vs).get x));rw[Agu];exact a.2 p x hp
structure RDb (g:A7) (I:Gi) (dl:JS) (al:AQ) (a:Bc×FM Ab Bool) (V D:List Bool):Prop where
 lr:Lr g {dl with Void:=V,Decided:=D} (wV al a.2)
 sub:a.1.Sublist al.row
 kil:∀x∈a.1,JI (I.o x).Kind=true
 dec:∀(p:Nat) (x:Ab),g.IDs[p]?=some x->x∈al.row->JI (I.o x).Kind=true->Bb (a.2.get x)=false->D[p]?=some (!decide (x∈a.1))
structure RDc (g:A7) (I:Gi) (dl:JS) (al:AQ) (s:Be) (a:Bc×FM Ab Bool) (b:List Bool×List Bool×Int):Prop extends RDb g I dl al a b.1 b.2.1 where
 nx:vL g {dl with Void:=b.1,Decided:=b.2.1} s=some b.2.2
theorem Ah4{a:Bc×FM Ab Bool}{V D:List Bool}(h:RDb g (BX g m N) dl al a V D)(hp:g.IDs[p]?=some x)(hx:x∈al.row):NQ g {dl with Void:=V,Decided:=D} (p:Int)=some (decide (x∈a.1.filter λx=> !Bb (a.2.get x))):=by
 have w:=P.w;have nI:=w.nI;have hpl:p<g.L.length:=by grind
 obtain⟨o,ho,so,c⟩:=w.op hpl;have b:=(P.op ho hp).2;have hv:=h.lr.vd p x hp;have hv:V[p]?=some (Bb (a.2.get x)):=hv;have hdl:=h.lr.nc;grind [NQ,au,JI,RDb.kil,RDb.dec,Bj]
end
end Go.Proofs.YtghphhhpagagbaaGreatDoor
