/- Readings of functions, and that the functions tell them (printed by dc.py). -/
import Derived.Test.YtlijnaneopediaaGreatDoorW6
namespace Go.Proofs.YtlijnaneopediaaGreatDoor
set_option linter.unusedSectionVars false
set_option linter.unusedVariables false
set_option linter.unusedSimpArgs false
open Go.RowKit Tryz
set_option maxHeartbeats 2000000
attribute [local irreducible] Tr dz Gp
section
variable (gl:Cd)
theorem AdU{g some_ at_}:DC prog gl (Fg g some_ at_) 184 [.agg (aI g),aE cZ some_,iG at_] (λr=> .agg (aU r)):=
 cy func184 λK=>ak λu e2=>aw [hf 11 (DN gl e2)]<|rdL 11101 1110122 (λj=>sp [] [(6,.ref 0 0),(7,.ref 1 0)] [ob 0 88 (bF [0,1,2,3,5] (aU eY)),ob 1 88 (aU j)] 2) (λs3=>so [0] [(3,.ref 0 0),(6,.ref 1 0),(7,.ref 2 0),(8,iG s3.2)] [ob 0 30 (aI g),ob 1 88 (bF [0,1,2,3,5] (aU eY)),ob 2 88 (aU s3.1)] 3) [] (λj=>aP c0 K []) λs3 k k6=>aF 15 (ak λl c=>ak λm e16=>ak λn a=>aw [Az 21 (zV.ixZ c),Az 22 (zV.p1Z Vt c),Az 25 (rZ.ixZ e16),Az 26 (rZ.p1Z tZ e16),Az 27 (rO.ixZ a)]<|kV (λb=>ak λo d=>ak λp e=>ak λq f=>ak λs h=>ak λt i=>aw [Az 28 (cB (rO.p1Z tO a) b),Az 34 (rZ.ixZ d),Az 35 (rZ.p1Z tZ d),Az 36 (eJ.ixZ e),Az 37 (eJ.ptZ GN e),Az 42 (rZ.ixZ f),Az 43 (rZ.p1Z tZ f),Az 44 (ac.ixZ h),Az 45 (ac.ptZ aW h),hf 46 (AU gl i)]<|cj k []) λb=>aw [Az 28 (cB (rO.p1Z tO a) b)]<|cj k [])<|aA c1 k6 [] (ρ:=[(0,1),(1,2)])
def QN(g:AQ)(d:Bh)(e:Int)(a:Int):Option ((Int)⊕(Unit⊕Int)):=
 bif a<ah d then((aS d a).bind λb=>(n9 g b e).bind λc=>bif c then(some (.inr (.inr 15)))else(some (.inl (wI (a+1)))))else(some (.inr (.inl ())))
def Ww(g:AQ)(ids:A3)(c:Ab):JK:=
 (jL ids c).bind λn=>bif(!n)then(some 4)else((oR g ids).bind λl=>(Qt g l).bind λd=>(fC g c).bind λa=>(aS l.Fork a).bind λe=>bif e then(some 13)else((fb d a).bind λf=>bif f then(some 0)else((AB (QN g d a) 0).bind λh=>ma h (λm=>(Fg g d a).bind λi=>(aS g.L a).bind λj=>(aS g.IDs a).bind λk=>(AX i j k).bind λb=>bif b=0 then(some 15)else(some b)) (λq=>some q))))
theorem AdV{g ids id_}:DC prog gl (Ww g ids id_) 95 [.agg (aI g),aE aj ids,.agg (aj id_)] iG:=
 cy func95 λK=>ak λB e2=>aw [hf 14 (jM gl e2)]<|aF 15 (aP c0 K [])<|ak λC e5=>ak λq e7=>ak λr s=>ak λt a=>aw [hf 18 (Db gl e5),hf 21 (rZ.fo (AY gl e7)),hf 24 (dX gl s),Az 28 (rO.ixZ a)]<|kV (λb=>aw [Az 29 (cB (rO.p1Z tO a) b)]<|aP c0 K []) λb=>ak λu e=>aw [Az 29 (cB (rO.p1Z tO a) b)]<|kV (λc=>aw [hf 32 (cF (Dk gl e) c)]<|aP c0 K []) λc=>aw [hf 32 (cF (Dk gl e) c)]<|qf 1111111101 111111110122 (λf=>sp [] [(3,.ref 0 0),(8,aE cZ q),(9,iG r)] [ob 0 30 (aI g)] 1) (λh=>sp [] [(3,.ref 0 0),(8,aE cZ q),(9,iG r),(10,iG h)] [ob 0 30 (aI g)] 1) [] K (λf=>ak λv m=>ak λw i=>ak λx j=>ak λy e32=>aw [hf 49 (AdU gl m),Az 53 (eJ.ixZ i),Az 54 (eJ.ptZ GN i),Az 58 (ac.ixZ j),Az 59 (ac.ptZ aW j),hf 60 (DO gl e32)]<|aF 62 (aP c0 K [])<|aP c0 K []) λh n o p=>aF 36 (ak λz k=>ak λA l=>aw [Az 42 (rZ.ixZ k),Az 43 (rZ.p1Z tZ k)]<|kV (λd=>aw [hf 45 (cF (mC gl l) d)]<|aP c3 p []) λd=>aw [hf 45 (cF (mC gl l) d)]<|cj n [])<|aA c2 o []
def Wx(g:AQ)(a:Ab):JK:=
 (fC g a).bind λj=>bif j<0 then(some 1)else((aS g.L j).bind λb=>bif b.Kind≠6 then(some 1)else((r9 g [a]).bind λe=>(aT 24 ([]:A3) e).bind λk=>(aT 24 k [a]).bind λf=>(Ww g f a).bind λc=>bif c≠0 then(some c)else((N8 g e).bind λd=>(bif(!d.2)then(some true)else(some (!decide (d.1=b.Epoch)))).bind λh=>bif h then(some 23)else((Nl g e b.By b.Epoch).bind λi=>bif b.N≠i then(some 11)else(some 0)))))
theorem Aba{g message}:DC prog gl (Wx g message) 38 [.agg (aI g),.agg (aj message)] iG:=
 cy func38 λK=>ak λo e2=>aw [hf 13 (dX gl e2)]<|aF 15 (aP c0 K [])<|ak λf e5=>aw [Az 19 (eJ.ixZ e5),Az 20 (eJ.ptZ GN e5)]<|aF 23 (aP c0 K [])<|ak λc e8=>ak λp h=>ak λd i=>ak λm j=>aw [ho 27 [.agg (aI g),aE aj [message]] [hc (ac.al [message])] (AP gl e8) (kF c),dg 31 ac h,dg 34 ac i,hq 36 [.agg (aI g),aE aj d,.agg (aj message)] [hc (ac.al d)] (AdV gl j)]<|aF 38 (aP c0 K [])<|ak λa k=>aw [hq 43 [.agg (aI g),aE aj c] [hc (ac.al c)] (Uc gl k)]<|cN 111111111100 (sp [] [(2,.ref 0 0),(6,.ref 1 0),(7,aE aj c),(9,.ref 2 0),(10,bG a.2)] [ob 0 30 (aI g),ob 1 63 (aJ f),ob 2 36 (aj a.1)] 3) [hc (ac.al c)] (ρ:=[(0,0),(1,2),(2,9)])<|cC 111111111100 (λb=>sx [9,10] [(53,bG b)] [ob 0 30 (aI g),ob 1 63 (aJ f)] 2) (λb=>eH [53] (aP c0 K [])<|ak λn l=>aw [hf 62 (Uy gl l)]<|aF 63 (aP c0 K [])<|aP c0 K []) λb e=>aF 47 (aA c0 e [])<|aw [hV 52 (dy a.1 f.Epoch rfl)]<|aA c0 e []
end
end Go.Proofs.YtlijnaneopediaaGreatDoor
