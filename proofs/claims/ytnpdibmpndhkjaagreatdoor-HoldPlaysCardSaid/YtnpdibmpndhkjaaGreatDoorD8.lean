/- Texts. -/
import Derived.Laws.Bits64b
import Derived.Lib.Mul64
import Derived.Test.YtnpdibmpndhkjaaGreatDoorSE
namespace Go.Proofs.YtnpdibmpndhkjaaGreatDoor
set_option linter.unusedSectionVars false
set_option linter.unusedVariables false
set_option linter.unusedSimpArgs false
open Go.RowKit Tryz
variable (gl:List (Nat×List G))
variable {α:Type}{leaves:List Int}{r:Bool}{k k':IntKind}{a b bd:Code}{x y:Operand}{i n:Nat}{s:List DIdent}{f fi_a1 fi_f fi_may fid:FuncId}{fa_a1 fa_f fa_may fc_a1 fc_f fc_may:List G}{L l:List Nat}{P:Program}{fn:Func}{ex:Exit}{t t2:TypeId}{fr:Fr}{ps:Array Tmp}{s1:St}{pe:Option Code}
section
set_option maxHeartbeats 2000000
attribute [local irreducible] Tr dz Gp
def xv(b:D15R)(device:Int)(h:D15M)(a:List Int×Int):Option ((List Int×Int)⊕(List Int)):=
 bif decide (a.2<ah b.V) then(((aS b.V a.2).bind λc=>bif decide (c.Of=h.ID) then((aS b.V a.2).bind λd=>some (decide (d.Device=device))) else(some false)).bind λe=>bif e then((aS b.V a.2).bind λf=>(aT 8 a.1 ([f.At]:List Int)).bind λg=>some (.inl (g,wI (a.2+1)))) else(some (.inl (a.1,wI (a.2+1))))) else(some (.inr a.1))
def Ff(g:D15R)(a:Int)(device:Int):Option (Int×Int):=
 (dS g a).bind λh=>bif decide (h<0) then(some (0,4)) else((aS g.L h).bind λb=>bif(!b.Is) then(some (0,4)) else((loop (xv g device b) ([],0)).bind λi=>(lg i).bind λc=>bif decide (ah c<b.Need) then(some (0,26)) else((bif b.Objected then((aS c 0).bind λd=>some (decide (d<=b.Last))) else(some false)).bind λe=>bif e then(some (0,28)) else((aS c (wI (b.Need-1))).bind λf=>some (wI (f+b.Wait),0)))))
theorem Nc{r_ a device r}(h:Ff r_ a device=some r):ba prog gl 315 [.agg (aU r_),iG a,iG device] (.tup [iG r.1,iG r.2]):=
 cy (λr=> .tup [iG r.1,iG r.2]) func315 h λK=>ak λz e2=>aw [hf 14 (dA gl e2)]<|aF 16 (aP c0 K [])<|ak λp e5=>aw [hv 20 (bI.ixZ e5),hv 21 (bI.ptZ LG e5)]<|aF 24 (aP c0 K [])<|gA 111111101 11111110122 (λu=>sp [] [(9,.ref 0 0),(10,aE cZ u)] [ob 0 289 (jG p)] 1) (λb=>sp [2] [(3,.ref 0 0),(9,.ref 1 0),(10,.rsl 2 0 b.1.length),(11,iG b.2)] [ob 0 231 (aU r_),ob 1 289 (jG p),ob 2 3 (b.1.flatMap cZ)] 3) [hc (rZ.imm [])] (vs:=[3]) (ρ:=rI 3) (kd:=[(2,.row)]) (λu=>ak λq s=>aw [hf 61 (Fe gl s)]<|aF 66 (aP c0 K [])<|cN 111111111100 (sf [] [(10,aE cZ q)]) []<|cC 111111111100 (λc=>sf [] [(76,bG c)]) (λc=>eH [76] (aP c0 K [])<|ak λv f=>aw [hv 81 (rZ.ixZ f),hv 82 (rZ.p1Z tZ f)]<|aP c0 K []) λc g=>aF 68 (ak λw i=>aw [hv 73 (rZ.ixZ i),hv 74 (rZ.p1Z tZ i)]<|aA c0 g [])<|aA c0 g []) λb k11 k10=>aF 29 (cN 111111101221020 (sf [] []) [hc (el b.1),hc (rZ.imm b.1)] (ρ:=rI 3) (kd:=[(2,.row)])<|cC 111111101221020 (λd=>sf [] [(50,bG d)]) (λd=>eH [50] (ak λx j=>ak λk t=>aw [hv 55 (bV.ixZ j),hv 57 (bV.fdZ tZ 5 j),dg 59 rZ t]<|cj k11 [hc (el k),hc (rZ.imm k)] (ρ:=[(0,0),(1,1),(2,4)]) (kd:=[(2,.row)]))<|cj k11 [hc (el b.1),hc (rZ.imm b.1)] (ρ:=rI 3) (kd:=[(2,.row)])) λd l=>ak λm n=>aw [hv 35 (bV.ixZ n),hv 37 (bV.fsZ aW jz 0 a9 n)]<|kV (λe=>ak λy o=>aw [hV 40 (cV (dU m.Of p.ID rfl) e),hv 45 (bV.ixZ o),hv 47 (bV.fdZ tZ 4 o)]<|aA c0 l [hc (el b.1),hc (rZ.imm b.1)] (ρ:=rI 3) (kd:=[(2,.row)])) λe=>aw [hV 40 (cV (dU m.Of p.ID rfl) e)]<|aA c0 l [hc (el b.1),hc (rZ.imm b.1)] (ρ:=rI 3) (kd:=[(2,.row)]))<|aA c1 k10 [hc (rZ.al b.1)] (ρ:=[(0,1)])
def mB(a:D15R)(o:DOp):Option Int:=
 (nY a o).bind λd=>bif decide (d.2≠0) then(some d.2) else((aS a.L d.1).bind λc=>(bif decide (o.Kind=11) then((gE a o.Device).bind λe=>some (decide (e≠c.N))) else(some false)).bind λk=>bif k then(some 16) else((bif decide (o.Kind=13) then((fb a.In o.Old).bind λf=>bif(!f) then(some true) else((gE a o.Old).bind λg=>bif decide (g≠c.N) then(some true) else((gE a o.Device).bind λh=>some (decide (h≠c.N))))) else(some false)).bind λl=>bif l then(some 17) else((nW a o.Device).bind λi=>bif(!i) then(some 17) else(bif decide (o.Kind=11) then(some 0) else((Ff a c.N o.Device).bind λb=>(bif decide (b.2=0) then(some (decide (o.At<b.1))) else(some false)).bind λj=>bif j then(some 27) else(some b.2))))))
theorem AW{r_ o r}(h:mB r_ o=some r):ba prog gl 214 [.agg (aU r_),.agg (aJ o)] (iG r):=
 cy iG func214 h λK=>ak λw e2=>aw [hf 14 (vG gl e2)]<|aF 18 (aP c0 K [])<|ak λp e5=>aw [hv 23 (bI.ixZ e5),hv 25 (bI.fdZ tZ 0 e5)]<|cN 1111100 (sp [] [(2,.ref 0 0),(3,.ref 1 0),(7,iG p.N)] [ob 0 231 (aU r_),ob 1 99 (aJ o)] 2) []<|cC 1111100 (λf=>sf [] [(36,bG f)]) (λf=>eH [36] (aP c0 K [])<|cN 11111100 (sf [36] []) []<|cC 11111100 (λg=>sf [] [(63,bG g)]) (λg=>eH [63] (aP c0 K [])<|ak λq i=>aw [hf 67 (qO gl i)]<|aF 69 (aP c0 K [])<|aF 72 (aP c0 K [])<|ak λc j=>aw [hf 78 (Nc gl j)]<|cN 1111111111100 (sk [] [(3,.ref 0 0),(9,iG c.1),(10,iG c.2)] [ob 0 99 (aJ o)] 1) [] (ρ:=[(0,1)])<|cC 1111111111100 (λb=>sk [10] [(88,bG b)] [] 0) (λb=>eH [88] (aP c0 K [])<|aP c0 K []) λb d=>aF 82 (aA c0 d [])<|aA c0 d []) λg a=>aF 39 (ak λs k=>aw [hf 45 (ci gl k)]<|aF 46 (aA c0 a [])<|ak λt l=>aw [hf 51 (c9 gl l)]<|aF 54 (aA c0 a [])<|ak λu m=>aw [hf 59 (c9 gl m)]<|aA c0 a [])<|aA c0 a []) λf e=>aF 28 (ak λv n=>aw [hf 33 (c9 gl n)]<|aA c0 e [])<|aA c0 e []
def xw(d:D15R)(o:DOp)(a:Int):Option ((Int)⊕(Unit⊕Int)):=
 bif decide (a<ah o.Guards) then((aS o.Guards a).bind λb=>(fb d.In b).bind λc=>bif(!c) then(some (.inr (.inr 17))) else(some (.inl (wI (a+1))))) else(some (.inr (.inl ())))
def AX(a:D15R)(o:DOp)(y:DIdent):Option Int:=
 (gE a o.By).bind λc=>bif decide (o.Kind=1) then(bif decide (c=0) then(some 17) else((bif decide (0<ah a.In) then(some true) else(some (decide (0<ah a.Gone)))).bind λx=>bif x then(some 5) else(some 0))) else((fb a.In o.By).bind λe=>bif(!e) then(some 15) else((se a c).bind λb=>bif decide (o.Kind=2) then((nW a o.Device).bind λf=>bif(!f) then(some 17) else((bif(!(decide (b=3))) then((gE a o.Device).bind λg=>some (decide (g≠c))) else(some false)).bind λh=>bif h then(some 14) else(some 0))) else(bif decide (o.Kind=3) then((o9 a o c (decide (b=3))).bind λi=>some i) else(bif decide (o.Kind=5) then(bif(!(decide (b=3))) then(some 14) else((dS a o.Member).bind λj=>bif decide (j<0) then(some 16) else(some 0))) else(bif decide (o.Kind=6) then((se a c).bind λk=>bif decide (k<2) then(some 14) else(some 0)) else(bif decide (o.Kind=8) then((bif(!(decide (b=3))) then((gE a o.Of.By).bind λl=>some (decide (l≠c))) else(some false)).bind λm=>bif m then(some 14) else(some 0)) else(bif decide (o.Kind=9) then((loop (xw a o) 0).bind λn=>ma n (λw=>some 0) (λq=>some q)) else((bif decide (o.Kind=10) then(some true) else(some (decide (o.Kind=12)))).bind λp=>bif p then((dS a c).bind λd=>bif decide (d<0) then(some 25) else(((aS a.L d).bind λr=>bif(!r.Is) then(some true) else((aS a.L d).bind λs=>some (!decide (s.ID=o.Of)))).bind λt=>bif t then(some 25) else(some 0))) else((bif decide (o.Kind=11) then(some true) else(some (decide (o.Kind=13)))).bind λu=>bif u then((mB a o).bind λv=>some v) else(some 0))))))))))
theorem DO{r_ o id_ r}(h:AX r_ o id_=some r):ba prog gl 153 [.agg (aU r_),.agg (aJ o),.agg (aj id_)] (iG r):=
 cy iG func153 h λK=>ak λt e2=>aw [hf 15 (c9 gl e2)]<|aF 18 (aF 20 (aP c0 K [])<|cN 111013100 (sp [] [(3,.ref 0 0)] [ob 0 231 (aU r_)] 1) []<|cC 111013100 (λu=>sk [] [(30,bG u)] [] 0) (λu=>eH [30] (aP c0 K [])<|aP c0 K []) λu N=>aF 24 (aA c0 N [])<|aA c0 N [])<|ak λO v=>aw [hf 35 (ci gl v)]<|aF 36 (aP c0 K [])<|ak λf w=>aw [hf 39 (ug gl w)]<|aF 44 (ak λP x=>aw [hf 48 (qO gl x)]<|aF 50 (aP c0 K [])<|cN 11111101213110 (sp [] [(3,.ref 0 0),(4,.ref 1 0),(7,iG t),(8,bG (decide (f=3)))] [ob 0 231 (aU r_),ob 1 99 (aJ o)] 2) []<|cC 11111101213110 (λa=>sk [] [(60,bG a)] [] 0) (λa=>eH [60] (aP c0 K [])<|aP c0 K []) λa g=>aF 52 (ak λQ y=>aw [hf 57 (c9 gl y)]<|aA c0 g [])<|aA c0 g [])<|aF 62 (ak λR z=>aw [hf 67 (Dh gl z)]<|aP c0 K [])<|aF 69 (aF 71 (aP c0 K [])<|ak λS A=>aw [hf 75 (dA gl A)]<|aF 76 (aP c0 K [])<|aP c0 K [])<|aF 78 (ak λU B=>aw [hf 81 (ug gl B)]<|aF 82 (aP c0 K [])<|aP c0 K [])<|aF 84 (cN 11111101214141414130 (sp [] [(3,.ref 0 0),(4,.ref 1 0),(7,iG t),(8,bG (decide (f=3)))] [ob 0 231 (aU r_),ob 1 99 (aJ o)] 2) []<|cC 11111101214141414130 (λb=>sk [] [(95,bG b)] [] 0) (λb=>eH [95] (aP c0 K [])<|aP c0 K []) λb i=>aF 86 (ak λV C=>aw [hf 92 (c9 gl C)]<|aA c0 i [])<|aA c0 i [])<|aF 97 (qf 1111110121414141414131 111111012141414141413122 (λj=>sg [] []) (λk=>sp [] [(3,.ref 0 0),(4,.ref 1 0),(10,iG k)] [ob 0 231 (aU r_),ob 1 99 (aJ o)] 2) [] K (λj=>aP c0 K []) λk D E F=>aF 102 (ak λW l=>ak λX H=>aw [hv 110 (rZ.ixZ l),hv 111 (rZ.p1Z tZ l),hf 112 (ci gl H)]<|aF 113 (aP c3 F [])<|cj D [])<|aA c2 E [])<|cN 11111101214141414141401 (sp [] [(3,.ref 0 0),(4,.ref 1 0),(7,iG t),(42,iG o.Kind),(114,bG (decide (o.Kind=10)))] [ob 0 231 (aU r_),ob 1 99 (aJ o)] 2) []<|cC 11111101214141414141401 (λc=>sf [] [(114,bG c)]) (λc=>eH [114] (ak λI J=>aw [hf 119 (dA gl J)]<|aF 121 (aP c0 K [])<|cN 11111101214141414141413110 (sg [3,4] [(11,iG I)]) []<|cC 11111101214141414141413110 (λd=>sk [] [(139,bG d)] [] 0) (λd=>eH [139] (aP c0 K [])<|aP c0 K []) λd m=>ak λY n=>aw [hv 125 (bI.ixZ n),hv 127 (bI.fdZ tO 2 n)]<|aF 128 (aA c0 m [])<|ak λL p=>aw [hv 133 (bI.ixZ p),hv 135 (bI.fsZ aW jz 3 a9 p),hV 138 (dy L.ID o.Of rfl)]<|aA c0 m [])<|cN 1111110121414141414141401 (sf [7,114] [(140,bG (decide (o.Kind=11)))]) []<|cC 1111110121414141414141401 (λe=>sf [42] [(140,bG e)]) (λe=>eH [140] (ak λZ M=>aw [hf 145 (AW gl M)]<|aP c0 K [])<|aP c0 K []) λe q=>eH [140] (aA c0 q [])<|aA c0 q []) λc s=>eH [114] (aA c0 s [])<|aA c0 s []
def xx(g:D12G)(a:List Int)(at_:Int)(s3:D15R×Int):Option ((D15R×Int)⊕(D15R)):=
 bif decide (s3.2<ah a) then((aS g.In at_).bind λb=>(aS a s3.2).bind λc=>(aS b c).bind λd=>bif d then((aS a s3.2).bind λe=>(aS g.L e).bind λf=>(aS a s3.2).bind λh=>(aS g.IDs h).bind λi=>(DM s3.1 f i).bind λj=>some (.inl (j,wI (s3.2+1)))) else(some (.inl (s3.1,wI (s3.2+1))))) else(some (.inr s3.1))
def Fg(g:D12G)(a:List Int)(at_:Int):Option D15R:=
 (AV g.Cards).bind λb=>(loop (xx g a at_) (b,0)).bind λc=>some c
theorem G5{g some_ at_ r}(h:Fg g some_ at_=some r):OU prog gl 307 [.agg (aI g),.rsl 0 0 some_.length,iG at_] [ob 0 3 (some_.flatMap cZ)] 1 1 (.agg (aU r)) [ob 0 3 (some_.flatMap cZ)]:=
 Yx (λr:D15R=> .agg (aU r)) (λr:D15R=>[ob 0 3 (some_.flatMap cZ)]) func307 h (λi hi=>by match i,hi with|0,_=>exact⟨_,rfl⟩) λK=>ak λv e2=>aw [hf 11 (DN gl e2)]<|gA 11101 1110122 (λl=>sp [] [(6,.ref 1 0),(7,.ref 2 0)] [ob 1 231 (bF [0,1,2,3,5] (aU eY)),ob 2 231 (aU l)] 3) (λs3=>so [0] [(3,.ref 1 0),(6,.ref 2 0),(7,.ref 3 0),(8,iG s3.2)] [ob 1 31 (aI g),ob 2 231 (bF [0,1,2,3,5] (aU eY)),ob 3 231 (aU s3.1)] 4) [hc (el some_),hc (rZ.imm some_)] (ρ:=rI 4) (kd:=[(0,.row)]) (λl=>rdU c0 K [hc (rZ.imm some_)] [(0,0)] [(0,.row)]) λs3 k7 k6=>aF 15 (ak λm c=>ak λn e16=>ak λo a=>aw [hv 21 (zV.ixZ c),hv 22 (zV.p1Z Vt c),hv 25 (rZ.ixrZ 0 e16),hv 26 (rZ.p10Z tZ e16),hv 27 (rO.ixZ a)]<|kV (λb=>ak λp d=>ak λq e=>ak λs f=>ak λt j=>ak λu k=>aw [hv 28 (cB (rO.p1Z tO a) b),hv 34 (rZ.ixrZ 0 d),hv 35 (rZ.p10Z tZ d),hv 36 (eJ.ixZ e),hv 37 (eJ.ptZ GN e),hv 42 (rZ.ixrZ 0 f),hv 43 (rZ.p10Z tZ f),hv 44 (ac.ixZ j),hv 45 (ac.ptZ aW j),hf 46 (AU gl k)]<|cj k7 [hc (el some_),hc (rZ.imm some_)] (ρ:=rI 4) (kd:=[(0,.row)])) λb=>aw [hv 28 (cB (rO.p1Z tO a) b)]<|cj k7 [hc (el some_),hc (rZ.imm some_)] (ρ:=rI 4) (kd:=[(0,.row)]))<|aA c1 k6 [hc (rZ.imm some_)] (ρ:=[(0,0),(1,2),(2,3)]) (kd:=[(0,.row)])
def um(g:D12G)(l:D16L)(s1:List Int×Int):Option ((List Int×Int)⊕(List Int)):=
 bif decide (s1.2<ah l.Row) then((aS l.Row s1.2).bind λa=>(aS l.Void a).bind λb=>bif b then(some (.inl (s1.1,wI (s1.2+1)))) else((Fg g s1.1 a).bind λc=>(aS g.L a).bind λd=>(aS g.IDs a).bind λe=>(AX c d e).bind λf=>bif decide (f=0) then((aT 8 s1.1 ([a]:List Int)).bind λh=>some (.inl (h,wI (s1.2+1)))) else(some (.inl (s1.1,wI (s1.2+1)))))) else(some (.inr s1.1))
def si(g:D12G)(l:D16L):Option (List Int):=
 (loop (um g l) ([],0)).bind λa=>some a
theorem AY{g l r}(h:si g l=some r):iV prog gl 207 [.agg (aI g),.agg (fU l)] 3 r.length (r.flatMap cZ):=
 gc func207 h λK=>gA 11101 1110122 (λk=>sp [] [(5,.rsl 0 0 k.length)] [ob 0 3 (k.flatMap cZ)] 1) (λs1=>sp [] [(2,.ref 0 0),(3,.ref 1 0),(5,.rsl 2 0 s1.1.length),(6,iG s1.2)] [ob 0 31 (aI g),ob 1 283 (fU l),ob 2 3 (s1.1.flatMap cZ)] 3) [hc (rZ.imm [])] (vs:=[3]) (ρ:=rI 3) (kd:=[(2,.row)]) (λk=>mr c0 K (rZ.imm _)) λs1 k5 p=>aF 12 (ak λq d=>ak λs a=>aw [hv 18 (rZ.ixZ d),hv 19 (rZ.p1Z tZ d),hv 23 (rO.ixZ a)]<|kV (λb=>aw [hv 24 (cB (rO.p1Z tO a) b)]<|cj k5 [hc (el s1.1),hc (rZ.imm s1.1)] (ρ:=rI 3) (kd:=[(2,.row)])) λb=>ak λt m=>ak λu e=>ak λv f=>ak λw n=>aw [hv 24 (cB (rO.p1Z tO a) b),hz 28 [2] (wS (i:=2) (c:=3) aH (G5 gl m) (aG 20 _ aH) (rZ.imm s1.1) a9 (by rfl) (CJ (aG 20 _ aH) (w5 (CJ (aG 20 _ aH) (wZ))))),hv 32 (eJ.ixZ e),hv 33 (eJ.ptZ GN e),hv 37 (ac.ixZ f),hv 38 (ac.ptZ aW f),hf 39 (DO gl n)]<|aF 40 (ak λj o=>aw [dg 44 rZ o]<|cj k5 [hc (el j),hc (rZ.imm j)] (ρ:=[(0,0),(1,1),(2,4)]) (kd:=[(2,.row)]))<|cj k5 [hc (el s1.1),hc (rZ.imm s1.1)] (ρ:=rI 3) (kd:=[(2,.row)]))<|aA c1 p [hc (el s1.1),hc (rZ.imm s1.1)] (ρ:=[(0,2)]) (kd:=[(0,.row)])
theorem JB{g l r}(h:si g l=some r):ba prog gl 207 [.agg (aI g),.agg (fU l)] (aE cZ r):=(AY gl h).fn rZ.sz (rZ.len _) (rZ.imm _)
def qR(g:D12G)(a:DIdent):Option Int:=
 (fC g a).bind λb=>some b
theorem yG{g id_ r}(h:qR g id_=some r):ba prog gl 224 [.agg (aI g),.agg (aj id_)] (iG r):=
 cy iG func224 h λK=>ak λa e2=>aw [hf 7 (dX gl e2)]<|aP c0 K []
def iP(g:D12G)(s1:List Int×Int)(a:Int×Int):Option ((Int×Int)⊕(Int)):=
 (aS g.Up s1.2).bind λb=>bif decide (a.2<ah b) then((aS g.Up s1.2).bind λc=>(aS c a.2).bind λd=>(aS s1.1 d).bind λe=>some (.inl (gB a.1 (wI (1+e)),wI (a.2+1)))) else(some (.inr a.1))
def pd(g:D12G)(s1:List Int×Int):Option ((List Int×Int)⊕(List Int)):=
 bif decide (s1.2<ah g.L) then((loop (iP g s1) (1,0)).bind λa=>(aT 8 s1.1 ([a]:List Int)).bind λb=>some (.inl (b,wI (s1.2+1)))) else(some (.inr s1.1))
def nZ(g:D12G):Option (List Int):=
 (loop (pd g) ([],0)).bind λa=>some a
theorem Fh{g r}(h:nZ g=some r):iV prog gl 316 [.agg (aI g)] 3 r.length (r.flatMap cZ):=
 gc func316 h λK=>gA 11101 1110122 (λj=>sp [] [(3,.rsl 0 0 j.length)] [ob 0 3 (j.flatMap cZ)] 1) (λs1=>sp [] [(1,.ref 0 0),(3,.rsl 1 0 s1.1.length),(4,iG s1.2)] [ob 0 31 (aI g),ob 1 3 (s1.1.flatMap cZ)] 2) [hc (rZ.imm [])] (vs:=[3]) (ρ:=[(0,0),(1,1)]) (kd:=[(1,.row)]) (λj=>mr c0 K (rZ.imm _)) λs1 k5 n=>aF 11 (gA 1110122102101 111012210210122 (λb=>sf [] [(5,iG b)]) (λa=>sf [] [(5,iG a.1),(6,iG a.2)]) [hc (el s1.1),hc (rZ.imm s1.1)] (ρ:=[(0,0),(1,1)]) (kd:=[(1,.row)]) (λb=>ak λc k=>aw [dg 41 rZ k]<|cj k5 [hc (el c),hc (rZ.imm c)] (ρ:=[(0,0),(1,3)]) (kd:=[(1,.row)])) λa l m=>ak λo d=>aw [hv 18 (nH.ixZ d),hv 19 (nH.p1Z Vs d)]<|aF 21 (ak λp e=>ak λq f=>ak λs i=>aw [hv 29 (nH.ixZ e),hv 30 (nH.p1Z Vs e),hv 32 (rZ.ixZ f),hv 33 (rZ.p1Z tZ f),hv 34 (rZ.ixrZ 1 i),hv 35 (rZ.p10Z tZ i)]<|cj l [hc (el s1.1),hc (rZ.imm s1.1)] (ρ:=[(0,0),(1,1)]) (kd:=[(1,.row)]))<|aA c1 m [hc (el s1.1),hc (rZ.imm s1.1)] (ρ:=[(0,0),(1,1)]) (kd:=[(1,.row)]))<|aA c1 n [hc (el s1.1),hc (rZ.imm s1.1)] (ρ:=[(0,1)]) (kd:=[(0,.row)])
theorem Fi{g r}(h:nZ g=some r):ba prog gl 316 [.agg (aI g)] (aE cZ r):=(Fh gl h).fn rZ.sz (rZ.len _) (rZ.imm _)
def vI(g:D12G)(l:List Int)(i:Int)(k:Int):Option Bool:=
 (aS l i).bind λd=>(aS l k).bind λe=>bif decide (d≠e) then((aS l i).bind λf=>(aS l k).bind λh=>some (decide (f<h))) else((aS g.IDs i).bind λa=>(aS g.IDs k).bind λb=>(oU a b).bind λc=>some c)
theorem G6{g l i k r}(h:vI g l i k=some r):ba prog gl 317 [.agg (aI g),aE cZ l,iG i,iG k] (bG r):=
 cy bG func317 h λK=>ak λj e2=>ak λm e4=>aw [hv 11 (rZ.ixZ e2),hv 12 (rZ.p1Z tZ e2),hv 15 (rZ.ixZ e4),hv 16 (rZ.p1Z tZ e4)]<|aF 17 (ak λn e7=>ak λo e9=>aw [hv 20 (rZ.ixZ e7),hv 21 (rZ.p1Z tZ e7),hv 24 (rZ.ixZ e9),hv 25 (rZ.p1Z tZ e9)]<|aP c0 K [])<|ak λd a=>ak λe b=>ak λf c=>aw [hv 30 (ac.ixZ a),hv 31 (ac.ptZ aW a),hv 35 (ac.ixZ b),hv 36 (ac.ptZ aW b),hf 37 (oV gl c)]<|aP c0 K []
def qS(g:D12G)(e:List Int)(a:List DIdent×Int):Option ((List DIdent×Int)⊕(List DIdent)):=
 bif decide (a.2<ah e) then((aS e a.2).bind λb=>(aS g.IDs b).bind λc=>(aT 24 a.1 [c]).bind λd=>some (.inl (d,wI (a.2+1)))) else(some (.inr a.1))
def qT(g:D12G)(f:List Int)(s3:List Int×Int)(b:Int)(a:Int):Option ((Int)⊕(Int)):=
 (bif decide (a<ah s3.1) then((aS s3.1 a).bind λc=>(vI g f c b).bind λd=>some d) else(some false)).bind λe=>bif e then(some (.inl (wI (a+1)))) else(some (.inr a))
def qU(g:D12G)(ids:List DIdent)(j:List Int)(s3:List Int×Int):Option ((List Int×Int)⊕(List Int)):=
 bif decide (s3.2<ah ids) then((aS ids s3.2).bind λc=>(qR g c).bind λa=>bif decide (a<0) then(some (.inl (s3.1,wI (s3.2+1)))) else((loop (qT g j s3 a) 0).bind λb=>(tq s3.1 b).bind λd=>(aT 8 ([]:List Int) d).bind λe=>(aT 8 e ([a]:List Int)).bind λf=>(mc s3.1 b).bind λh=>(aT 8 f h).bind λi=>some (.inl (i,wI (s3.2+1))))) else(some (.inr s3.1))
def n8(g:D12G)(ids:List DIdent):Option (List DIdent):=
 (nZ g).bind λb=>(loop (qU g ids b) ([],0)).bind λc=>(loop (qS g c) ([],0)).bind λa=>some a
theorem G7{g ids r}(h:n8 g ids=some r):iV prog gl 222 [.agg (aI g),aE aj ids] 50 r.length (r.flatMap aj):=
 gc func222 h λK=>ak λC e2=>aw [hf 14 (Fi gl e2)]<|gA 111101 11110122 (λB=>sp [] [(2,.ref 0 0),(6,aE cZ B)] [ob 0 31 (aI g)] 1) (λs3=>so [0] [(2,.ref 0 0),(5,aE cZ C),(6,aE cZ s3.1),(7,iG s3.2)] [ob 0 31 (aI g)] 1) [] (λB=>gA 11111101 1111110122 (λb=>sp [] [(11,.rsl 0 0 b.length)] [ob 0 50 (b.flatMap aj)] 1) (λa=>so [] [(11,.rsl 1 0 a.1.length),(12,iG a.2)] [ob 1 50 (a.1.flatMap aj)] 2) [hc (ac.imm [])] (vs:=[50]) (ρ:=[(0,0),(1,1)]) (kd:=[(1,.row)]) (λb=>mr c0 K (ac.imm _)) λa o p=>aF 62 (ak λD d=>ak λE e=>ak λf q=>aw [hv 70 (rZ.ixZ d),hv 71 (rZ.p1Z tZ d),hv 72 (ac.ixZ e),hv 73 (ac.ptZ aW e),dg 75 ac q]<|cj o [hc (el f),hc (ac.imm f)] (ρ:=[(0,0),(1,3)]) (kd:=[(1,.row)]))<|aA c1 p [hc (el a.1),hc (ac.imm a.1)] (ρ:=[(0,1)]) (kd:=[(0,.row)])) λs3 k7 k6=>aF 18 (ak λF i=>ak λj e32=>aw [hv 24 (ac.ixZ i),hv 25 (ac.ptZ aW i),hf 26 (yG gl e32)]<|aF 28 (cj k7 [])<|gA 111101221021110 11110122102111022 (λk=>sf [] [(8,iG j),(9,iG k)]) (λl=>sf [] [(8,iG j),(9,iG l)]) [] (λk=>ak λH s=>ak λI t=>ak λJ u=>ak λL v=>ak λw x=>aw [hv 48 (rZ.preZI s),wX 49 rZ t,dg 53 rZ u,hv 57 (rZ.sufZI v),eu 58 rZ x]<|cj k7 [hc (rZ.al w)]) λl y z=>cN 1111012210211102200 (sf [] []) []<|cC 1111012210211102200 (λc=>sf [] [(42,bG c)]) (λc=>eH [42] (cj y [])<|aA c1 z []) λc m=>aF 32 (ak λM n=>ak λN A=>aw [hv 38 (rZ.ixZ n),hv 39 (rZ.p1Z tZ n),hf 41 (G6 gl A)]<|aA c0 m [])<|aA c0 m [])<|aA c1 k6 []
theorem yH{g ids r}(h:n8 g ids=some r):ba prog gl 222 [.agg (aI g),aE aj ids] (aE aj r):=(G7 gl h).fn ac.sz (ac.len _) (ac.imm _)
def LJ(o:DOp):Option Int:=
 bif decide (o.Kind=1) then(some o.By) else((bif decide (o.Kind=2) then(some true) else(some (decide (o.Kind=13)))).bind λa=>bif a then(some o.Device) else(some 0))
theorem Pk{o r}(h:LJ o=some r):ba prog gl 223 [.agg (aJ o)] (iG r):=
 cy iG func223 h λK=>aF 5 (aP c0 K [])<|cN 11100 (sp [] [(1,.ref 0 0)] [ob 0 99 (aJ o)] 1) []<|cC 11100 (λa=>sf [] [(15,bG a)]) (λa=>eH [15] (aP c0 K [])<|aP c0 K []) λa k5=>aF 10 (aA c0 k5 [])<|aA c0 k5 []
end
section
set_option maxHeartbeats 2000000
attribute [local irreducible] Tr dz Gp
def nk(g:D12G)(i:List DIdent)(s3:List Int×Int):Option ((List Int×Int)⊕(List Int)):=
 bif decide (s3.2<ah i) then((aS i s3.2).bind λb=>(qR g b).bind λc=>(aS g.L c).bind λd=>(LJ d).bind λa=>(bif decide (0<a) then((fb s3.1 a).bind λe=>some (!e)) else(some false)).bind λf=>bif f then((aT 8 s3.1 ([a]:List Int)).bind λh=>some (.inl (h,wI (s3.2+1)))) else(some (.inl (s3.1,wI (s3.2+1))))) else(some (.inr s3.1))
def jn(g:D12G)(ids:List DIdent):Option (List Int):=
 (n8 g ids).bind λa=>(loop (nk g a) ([],0)).bind λb=>some b
theorem Di{g ids r}(h:jn g ids=some r):iV prog gl 156 [.agg (aI g),aE aj ids] 3 r.length (r.flatMap cZ):=
 gc func156 h λK=>ak λm e2=>aw [hf 11 (yH gl e2)]<|gA 111101 11110122 (λi=>sp [] [(6,.rsl 0 0 i.length)] [ob 0 3 (i.flatMap cZ)] 1) (λs3=>sp [] [(2,.ref 0 0),(5,aE aj m),(6,.rsl 1 0 s3.1.length),(7,iG s3.2)] [ob 0 31 (aI g),ob 1 3 (s3.1.flatMap cZ)] 2) [hc (rZ.imm [])] (vs:=[3]) (ρ:=[(0,0),(1,1)]) (kd:=[(1,.row)]) (λi=>mr c0 K (rZ.imm _)) λs3 k7 k6=>aF 15 (ak λn b=>ak λo e16=>ak λp c=>ak λd j=>aw [hv 23 (ac.ixZ b),hv 24 (ac.ptZ aW b),hf 25 (yG gl e16),hv 26 (eJ.ixZ c),hv 27 (eJ.ptZ GN c),hf 28 (Pk gl j)]<|cN 1111012210210 (sf [] [(8,iG d)]) [hc (el s3.1),hc (rZ.imm s3.1)] (ρ:=[(0,0),(1,1)]) (kd:=[(1,.row)])<|cC 1111012210210 (λa=>sf [] [(36,bG a)]) (λa=>eH [36] (ak λe k=>aw [dg 40 rZ k]<|cj k7 [hc (el e),hc (rZ.imm e)] (ρ:=[(0,0),(1,3)]) (kd:=[(1,.row)]))<|cj k7 [hc (el s3.1),hc (rZ.imm s3.1)] (ρ:=[(0,0),(1,1)]) (kd:=[(1,.row)])) λa f=>aF 30 (ak λq l=>aw [hq 34 [aE cZ s3.1,iG d] [hc (rZ.al s3.1)] (ci gl l)]<|aA c0 f [hc (el s3.1),hc (rZ.imm s3.1)] (ρ:=[(0,0),(1,1)]) (kd:=[(1,.row)]))<|aA c0 f [hc (el s3.1),hc (rZ.imm s3.1)] (ρ:=[(0,0),(1,1)]) (kd:=[(1,.row)]))<|aA c1 k6 [hc (el s3.1),hc (rZ.imm s3.1)] (ρ:=[(0,1)]) (kd:=[(0,.row)])
theorem tx{g ids r}(h:jn g ids=some r):ba prog gl 156 [.agg (aI g),aE aj ids] (aE cZ r):=(Di gl h).fn rZ.sz (rZ.len _) (rZ.imm _)
def un(ids:List DIdent)(s1:List DIdent×Int):Option ((List DIdent×Int)⊕(List DIdent)):=
 bif decide (s1.2<ah ids) then((aS ids s1.2).bind λb=>(qN ids b.By).bind λa=>(bif decide (0<a) then((aS ids s1.2).bind λc=>some (decide (a<=c.Seq))) else(some false)).bind λd=>bif d then((aS ids s1.2).bind λe=>(aT 24 s1.1 [e]).bind λf=>some (.inl (f,wI (s1.2+1)))) else(some (.inl (s1.1,wI (s1.2+1))))) else(some (.inr s1.1))
def vJ(ids:List DIdent):Option (List DIdent):=
 (loop (un ids) ([],0)).bind λb=>(iu b).bind λa=>some a
theorem JC{ids r}(h:vJ ids=some r):iV prog gl 369 [aE aj ids] 50 r.length (r.flatMap aj):=
 gc func369 h λK=>gA 11101 1110122 (λg=>sg [] [(3,aE aj g)]) (λs1=>so [] [(3,.rsl 0 0 s1.1.length),(4,iG s1.2)] [ob 0 50 (s1.1.flatMap aj)] 1) [hc (ac.imm [])] (vs:=[50]) (ρ:=[(0,0)]) (kd:=[(0,.row)]) (λg=>ak λi j=>aw [ho 38 [aE aj g] [] (iO gl j) (kF i)]<|mr c0 K (ac.imm _)) λs1 k5 m=>aF 9 (ak λn b=>ak λk e16=>aw [hv 15 (ac.ixZ b),hv 17 (ac.fdZ tZ 0 b),hf 18 (yF gl e16)]<|cN 111012210210 (sf [] [(5,iG k)]) [hc (el s1.1),hc (ac.imm s1.1)] (ρ:=[(0,0)]) (kd:=[(0,.row)])<|cC 111012210210 (λa=>sf [5] [(29,bG a)]) (λa=>eH [29] (ak λo c=>ak λd l=>aw [hv 33 (ac.ixZ c),hv 34 (ac.ptZ aW c),dg 36 ac l]<|cj k5 [hc (el d),hc (ac.imm d)] (ρ:=[(0,2)]) (kd:=[(0,.row)]))<|cj k5 [hc (el s1.1),hc (ac.imm s1.1)] (ρ:=[(0,0)]) (kd:=[(0,.row)])) λa e=>aF 20 (ak λp f=>aw [hv 24 (ac.ixZ f),hv 26 (ac.fdZ tZ 1 f)]<|aA c0 e [hc (el s1.1),hc (ac.imm s1.1)] (ρ:=[(0,0)]) (kd:=[(0,.row)]))<|aA c0 e [hc (el s1.1),hc (ac.imm s1.1)] (ρ:=[(0,0)]) (kd:=[(0,.row)]))<|aA c1 m [hc (ac.al s1.1)]
theorem JD{ids r}(h:vJ ids=some r):ba prog gl 369 [aE aj ids] (aE aj r):=(JC gl h).fn ac.sz (ac.len _) (ac.imm _)
def uo(g:D12G)(b:List DIdent)(a:List Bool×List Bool×Int):Option ((List Bool×List Bool×Int)⊕(List Bool×List Bool)):=
 bif decide (a.2.2<ah b) then((aS b a.2.2).bind λd=>(fC g d).bind λc=>(ji a.1 c true).bind λe=>(ji a.2.1 c true).bind λf=>some (.inl (e,f,wI (a.2.2+1)))) else(some (.inr (a.1,a.2.1)))
def uq(g:D12G)(e:List DIdent)(a:List Int×Int):Option ((List Int×Int)⊕(List Int)):=
 bif decide (a.2<ah e) then((aS e a.2).bind λb=>(fC g b).bind λc=>(aT 8 a.1 ([c]:List Int)).bind λd=>some (.inl (d,wI (a.2+1)))) else(some (.inr a.1))
def Aa(g:D12G)(ids:List DIdent):Option D16L:=
 (n8 g ids).bind λd=>(rP 1 (false:Bool) (ah g.L)).bind λe=>(rP 1 (false:Bool) (ah g.L)).bind λf=>(rP 1 (false:Bool) (ah g.L)).bind λh=>(loop (uq g d) ([],0)).bind λb=>(vJ ids).bind λc=>(loop (uo g c) (e,f,0)).bind λa=>some ⟨b,a.1,a.2,h⟩
theorem JE{g ids r}(h:Aa g ids=some r):OU prog gl 308 [.agg (aI g),aE aj ids] [] 0 0 (.agg [.rsl 0 0 r.Row.length,.rsl 1 0 r.Void.length,.rsl 2 0 r.Fork.length,.rsl 3 0 r.Decided.length]) [ob 0 3 (r.Row.flatMap cZ),ob 1 4 (r.Void.flatMap cO),ob 2 4 (r.Fork.flatMap cO),ob 3 4 (r.Decided.flatMap cO)]:=
 Yx (λr:D16L=> .agg [.rsl 0 0 r.Row.length,.rsl 1 0 r.Void.length,.rsl 2 0 r.Fork.length,.rsl 3 0 r.Decided.length]) (λr:D16L=>[ob 0 3 (r.Row.flatMap cZ),ob 1 4 (r.Void.flatMap cO),ob 2 4 (r.Fork.flatMap cO),ob 3 4 (r.Decided.flatMap cO)]) func308 h (λi hi=>absurd hi (Nat.not_lt_zero i)) λK=>ak λA e2=>ak λe e4=>ak λf e6=>ak λb e8=>aw [hf 13 (yH gl e2),ZW 17 rO e4,ZW 22 rO e6,ZW 27 rO e8]<|gA 111111101 11111110122 (λa=>so [0] [(2,.ref 0 0),(4,.ref 1 0),(5,.ref 2 0)] [ob 0 31 (aI g),ob 1 283 (bF [0,1,2,3] (fU AC)),ob 2 283 [.rsl 3 0 a.length,.rsl 4 0 e.length,.rsl 5 0 f.length,.rsl 6 0 b.length],ob 3 3 (a.flatMap cZ),ob 4 4 (e.flatMap cO),ob 5 4 (f.flatMap cO),ob 6 4 (b.flatMap cO)] 7) (λl=>so [0] [(2,.ref 0 0),(4,.ref 1 0),(5,.ref 2 0),(6,aE aj A),(7,iG l.2)] [ob 0 31 (aI g),ob 1 283 (bF [0,1,2,3] (fU AC)),ob 2 283 [.rsl 3 0 l.1.length,.rsl 4 0 e.length,.rsl 5 0 f.length,.rsl 6 0 b.length],ob 3 3 (l.1.flatMap cZ),ob 4 4 (e.flatMap cO),ob 5 4 (f.flatMap cO),ob 6 4 (b.flatMap cO)] 7) [hc (el e),hc (el f),hc (el b),hc (rZ.imm []),hc (rO.imm e),hc (rO.imm f),hc (rO.imm b)] (vs:=[3]) (ρ:=rI 3++[(3,6),(4,3),(5,4),(6,5)]) (kd:=[(3,.row),(4,.row),(5,.row),(6,.row)]) (λa=>ak λs t=>aw [hf 47 (JD gl t)]<|gA 11111111101 1111111110122 (λd=>sk [] [(4,.ref 0 0),(5,.ref 1 0)] [ob 0 283 (bF [0,1,2,3] (fU AC)),ob 1 283 [.rsl 2 0 a.length,.rsl 3 0 d.1.length,.rsl 4 0 d.2.length,.rsl 5 0 b.length],ob 2 3 (a.flatMap cZ),ob 3 4 (d.1.flatMap cO),ob 4 4 (d.2.flatMap cO),ob 5 4 (b.flatMap cO)] 6) (λc=>so [1] [(8,aE aj s),(9,iG c.2.2)] [ob 2 283 [.rsl 3 0 a.length,.rsl 4 0 c.1.length,.rsl 5 0 c.2.1.length,.rsl 6 0 b.length],ob 4 4 (c.1.flatMap cO),ob 5 4 (c.2.1.flatMap cO)] 7) [hc (el a),hc (el e),hc (el f),hc (el b),hc (rZ.imm a),hc (rO.imm e),hc (rO.imm f),hc (rO.imm b)] (ρ:=rI 7) (kd:=[(3,.row),(4,.row),(5,.row),(6,.row)]) (λd=>rdU c0 K [hc (el a),hc (el d.1),hc (el d.2),hc (el b),hc (rZ.imm a),hc (rO.imm d.1),hc (rO.imm d.2),hc (rO.imm b)] [(0,2),(1,3),(2,4),(3,5)] [(0,.row),(1,.row),(2,.row),(3,.row)]) λc u v=>aF 51 (ak λB m=>ak λC w=>ak λn j=>ak λo k=>aw [hv 57 (ac.ixZ m),hv 58 (ac.ptZ aW m),hf 59 (dX gl w),hv 63 (rO.ixsZ 4 j),hw 63 (n.flatMap cO) (rO.putZ j),hv 67 (rO.ixsZ 5 k),hw 67 (o.flatMap cO) (rO.putZ k)]<|cj u [hc (el a),hc (hZ j),hc (hZ k),hc (el b),hc (rZ.imm a),hc (rO.imm n),hc (rO.imm o),hc (rO.imm b)] (ρ:=rI 7) (kd:=[(3,.row),(4,.row),(5,.row),(6,.row)]))<|aA c1 v [hc (el a),hc (el c.1),hc (el c.2.1),hc (el b),hc (rZ.imm a),hc (rO.imm c.1),hc (rO.imm c.2.1),hc (rO.imm b)] (ρ:=[(0,1),(1,2),(2,3),(3,4),(4,5),(5,6)]) (kd:=[(2,.row),(3,.row),(4,.row),(5,.row)])) λl k13 x=>aF 32 (ak λD p=>ak λE y=>ak λq z=>aw [hv 40 (ac.ixZ p),hv 41 (ac.ptZ aW p),hf 42 (dX gl y),dg 44 rZ z]<|cj k13 [hc (el q),hc (el e),hc (el f),hc (el b),hc (rZ.imm q),hc (rO.imm e),hc (rO.imm f),hc (rO.imm b)] (ρ:=rI 3++[(3,8),(4,4),(5,5),(6,6)]) (kd:=[(3,.row),(4,.row),(5,.row),(6,.row)]))<|aA c1 x [hc (el l.1),hc (el e),hc (el f),hc (el b),hc (rZ.imm l.1),hc (rO.imm e),hc (rO.imm f),hc (rO.imm b)] (ρ:=rI 7) (kd:=[(3,.row),(4,.row),(5,.row),(6,.row)])
def sj(g:D12G)(l:D16L)(at_:Int):Option Bool:=
 (aS g.L at_).bind λa=>((aS l.Void at_).bind λc=>bif(!c) then((aS l.Decided at_).bind λb=>bif(!b) then(bif decide (a.Kind=3) then(some true) else(bif decide (a.Kind=13) then(some true) else(some (decide (a.Kind=12))))) else(some false)) else(some false)).bind λd=>some d
theorem lC{g l at_ r}(h:sj g l at_=some r):ba prog gl 311 [.agg (aI g),.agg (fU l),iG at_] (bG r):=
 cy bG func311 h λK=>ak λc e2=>aw [hv 11 (eJ.ixZ e2),hv 13 (eJ.fdZ tZ 2 e2)]<|cN 1110 (sp [2] [(4,.ref 0 0),(7,iG c.Kind)] [ob 0 283 (fU l)] 1) [] (ρ:=[(0,1)])<|cC 1110 (λb=>sk [] [(6,bG b)] [] 0) (λb=>aP c0 K []) λb k7=>ak λe e10=>aw [hv 17 (rO.ixZ e10),hv 18 (rO.p1Z tO e10)]<|aF 19 (ak λd a=>aw [hv 24 (rO.ixZ a),hv 25 (rO.p1Z tO a)]<|aF 27 (aF 30 (aA c0 k7 [])<|aF 34 (aA c0 k7 [])<|aA c0 k7 [])<|aA c0 k7 [])<|aA c0 k7 []
def n9(g:D12G)(c:Int)(y:Int):Option Bool:=
 (aS g.L c).bind λa=>(aS g.L y).bind λb=>(bif decide (c=y) then(some true) else((aS g.In c).bind λd=>(aS d y).bind λe=>bif e then(some true) else((aS g.In y).bind λf=>(aS f c).bind λh=>some h))).bind λl=>bif l then(some false) else((bif decide (a.Kind=3) then(some (decide (a.Device≠0))) else(some false)).bind λm=>bif m then(some (decide (b.By=a.Device))) else(bif decide (a.Kind=3) then((nT g b.By).bind λi=>some (decide (i=a.Member))) else(bif decide (a.Kind=13) then((bif decide (b.By=a.Old) then(bif decide (b.Kind≠12) then(some true) else(some (!decide (b.Of=a.Of)))) else(some false)).bind λj=>some j) else((bif decide (a.Kind=12) then(bif decide (b.Kind=13) then(bif decide (a.Of=b.Of) then(some (decide (a.At<=b.At))) else(some false)) else(some false)) else(some false)).bind λk=>some k))))
theorem mC{g x_ y r}(h:n9 g x_ y=some r):ba prog gl 310 [.agg (aI g),iG x_,iG y] (bG r):=
 cy bG func310 h λK=>ak λf e2=>ak λi e4=>aw [hv 12 (eJ.ixZ e2),hv 13 (eJ.ptZ GN e2),hv 17 (eJ.ixZ e4),hv 18 (eJ.ptZ GN e4)]<|cN 111100 (so [0] [(3,.ref 0 0),(7,.ref 1 0),(8,.ref 2 0)] [ob 0 31 (aI g),ob 1 99 (aJ f),ob 2 99 (aJ i)] 3) []<|cC 111100 (λo=>sf [1,2] [(41,bG o)]) (λo=>eH [41] (aP c0 K [])<|cN 1111100 (sf [41] []) []<|cC 1111100 (λp=>sf [] [(49,bG p)]) (λp=>eH [49] (aP c0 K [])<|aF 57 (ak λs q=>aw [hf 61 (vE gl q)]<|aP c0 K [])<|aF 67 (cN 11111110130 (sk [] [(7,.ref 0 0),(8,.ref 1 0)] [ob 0 99 (aJ f),ob 1 99 (aJ i)] 2) [] (ρ:=[(0,1),(1,2)])<|cC 11111110130 (λb=>sk [] [(6,bG b)] [] 0) (λb=>aP c0 K []) λb c=>aF 72 (aF 76 (aA c0 c [])<|aw [hV 82 (dy i.Of f.Of rfl)]<|aA c0 c [])<|aA c0 c [])<|cN 111111110 (sk [] [(7,.ref 0 0),(8,.ref 1 0)] [ob 0 99 (aJ f),ob 1 99 (aJ i)] 2) [] (ρ:=[(0,1),(1,2)])<|cC 111111110 (λd=>sk [] [(6,bG d)] [] 0) (λd=>aP c0 K []) λd a=>aF 87 (aF 92 (aw [hV 98 (dU f.Of i.Of rfl)]<|aF 99 (aA c0 a [])<|aA c0 a [])<|aA c0 a [])<|aA c0 a []) λp j=>aF 44 (aA c0 j [])<|aA c0 j []) λo e=>aF 21 (aA c0 e [])<|ak λt k=>ak λu l=>aw [hv 26 (zV.ixZ k),hv 27 (zV.p1Z Vt k),hv 29 (rO.ixZ l),hv 30 (rO.p1Z tO l)]<|aF 31 (aA c0 e [])<|ak λv m=>ak λw n=>aw [hv 36 (zV.ixZ m),hv 37 (zV.p1Z Vt m),hv 39 (rO.ixZ n),hv 40 (rO.p1Z tO n)]<|aA c0 e []
def qV(g:D12G)(l:D16L)(h:Int)(y:Int)(s2:Int):Option ((Int)⊕(Unit⊕Bool)):=
 bif decide (s2<ah l.Row) then((aS l.Row s2).bind λa=>(bif decide (a=h) then((n9 g y a).bind λb=>some b) else((aS g.In h).bind λc=>(aS c a).bind λd=>bif d then((n9 g y a).bind λe=>some e) else(some false))).bind λf=>bif f then(some (.inr (.inr true))) else(some (.inl (wI (s2+1))))) else(some (.inr (.inl ())))
def qW(g:D12G)(l:D16L)(a:Int)(y:Int):Option Bool:=
 bif decide (a=y) then(some false) else((loop (qV g l a y) 0).bind λb=>ma b (λc=>some false) (λq=>some q))
theorem yI{g l x_ y r}(h:qW g l x_ y=some r):ba prog gl 312 [.agg (aI g),.agg (fU l),iG x_,iG y] (bG r):=
 cy bG func312 h λK=>aF 13 (aP c0 K [])<|qf 11101 1110122 (λf=>sg [] []) (λs2=>so [0,1] [(4,.ref 0 0),(5,.ref 1 0),(9,iG s2)] [ob 0 31 (aI g),ob 1 283 (fU l)] 2) [] K (λf=>aP c0 K []) λs2 k6 k5 k7=>aF 18 (ak λi c=>aw [hv 24 (rZ.ixZ c),hv 25 (rZ.p1Z tZ c)]<|cN 111012210210 (sf [] [(10,iG i)]) []<|cC 111012210210 (λa=>sf [10] [(44,bG a)]) (λa=>eH [44] (aP c3 k7 [])<|cj k6 []) λa b=>aF 28 (ak λm j=>aw [hf 43 (mC gl j)]<|aA c0 b [])<|ak λn d=>ak λo e=>aw [hv 33 (zV.ixZ d),hv 34 (zV.p1Z Vt d),hv 36 (rO.ixZ e),hv 37 (rO.p1Z tO e)]<|aF 38 (ak λp k=>aw [hf 43 (mC gl k)]<|aA c0 b [])<|aA c0 b [])<|aA c2 k5 []
def ph(a:List Int)(device:Int)(s1:Int):Option ((Int)⊕(Unit⊕Int)):=
 bif decide (s1<ah a) then((aS a s1).bind λb=>bif decide (b=device) then(some (.inr (.inr s1))) else(some (.inl (wI (s1+1))))) else(some (.inr (.inl ())))
def oa(a:List Int)(device:Int):Option Int:=
 (loop (ph a device) 0).bind λb=>ma b (λc=>some (ah a)) (λq=>some q)
theorem vK{a device r}(h:oa a device=some r):ba prog gl 370 [aE cZ a,iG device] (iG r):=
 cy iG func370 h λK=>qf 1101 110122 (λc=>sf [1] []) (λs1=>sf [] [(5,iG s1)]) [] K (λc=>aP c0 K []) λs1 k5 d k6=>aF 9 (ak λe b=>aw [hv 14 (rZ.ixZ b),hv 15 (rZ.p1Z tZ b)]<|aF 17 (aP c3 k6 [])<|cj k5 [])<|aA c2 d []
def ut(g:D12G)(l:D16L)(b:Int)(a:Bool×Int):Option ((Bool×Int)⊕(Bool)):=
 bif decide (a.2<ah l.Row) then(((aS l.Row a.2).bind λc=>(sj g l c).bind λd=>bif d then((aS l.Row a.2).bind λe=>(qW g l b e).bind λf=>some f) else(some false)).bind λh=>bif h then(some (.inl (false,wI (a.2+1)))) else(some (.inl (a.1,wI (a.2+1))))) else(some (.inr a.1))
def uu(g:D12G)(l:D16L)(a:List Int)(s1:Int×Int):Option ((Int×Int)⊕(Int⊕Int)):=
 bif decide (s1.2<ah l.Row) then((aS l.Row s1.2).bind λb=>(sj g l b).bind λc=>bif(!c) then(some (.inl (s1.1,wI (s1.2+1)))) else((loop (ut g l b) (true,0)).bind λd=>bif d then(some (.inr (.inr b))) else((bif decide (s1.1<0) then(some true) else((aS g.L b).bind λe=>(oa a e.By).bind λf=>(aS g.L (gB s1.1 0)).bind λh=>(oa a h.By).bind λi=>some (decide (f<i)))).bind λj=>bif j then(some (.inl (b,wI (s1.2+1)))) else(some (.inl (s1.1,wI (s1.2+1))))))) else(some (.inr (.inl s1.1)))
def vL(g:D12G)(l:D16L)(a:List Int):Option Int:=
 (loop (uu g l a) ((-1),0)).bind λc=>ma c (λb=>some b) (λq=>some q)
theorem AZ{g l a r}(h:vL g l a=some r):ba prog gl 309 [.agg (aI g),.agg (fU l),aE cZ a] (iG r):=
 cy iG func309 h λK=>qf 11101 1110122 (λf=>sg [] [(7,iG f)]) (λs1=>sp [2] [(3,.ref 0 0),(4,.ref 1 0),(7,iG s1.1),(8,iG s1.2)] [ob 0 31 (aI g),ob 1 283 (fU l)] 2) [] K (λf=>aP c0 K []) λs1 k5 A k6=>aF 16 (ak λi j=>ak λB v=>aw [hv 22 (rZ.ixZ j),hv 23 (rZ.p1Z tZ j),hf 27 (lC gl v)]<|aF 28 (cj k5 [])<|gA 111012210211101 11101221021110122 (λk=>sf [] [(9,iG i),(10,bG k)]) (λb=>sf [] [(9,iG i),(10,bG b.1),(11,iG b.2)]) [] (λk=>aF 55 (aP c3 k6 [])<|cN 1110122102111110 (sf [10] []) []<|cC 1110122102111110 (λc=>sf [] [(78,bG c)]) (λc=>eH [78] (cj k5 [])<|cj k5 []) λc m=>aF 58 (aA c0 m [])<|ak λC n=>ak λD w=>ak λE o=>ak λF x=>aw [hv 64 (eJ.ixZ n),hv 66 (eJ.fdZ tZ 0 n),hf 67 (vK gl w),hv 73 (eJ.ixZ o),hv 75 (eJ.fdZ tZ 0 o),hf 76 (vK gl x)]<|aA c0 m []) λb p y=>aF 33 (cN 111012210211101221020 (sf [] []) []<|cC 111012210211101221020 (λd=>sf [] [(54,bG d)]) (λd=>eH [54] (cj p [])<|cj p []) λd q=>ak λH s=>ak λI t=>aw [hv 41 (rZ.ixZ s),hv 42 (rZ.p1Z tZ s)]<|kV (λe=>ak λJ u=>ak λL z=>aw [hf 43 (cF (lC gl t) e),hv 51 (rZ.ixZ u),hv 52 (rZ.p1Z tZ u),hf 53 (yI gl z)]<|aA c0 q []) λe=>aw [hf 43 (cF (lC gl t) e)]<|aA c0 q [])<|aA c1 y [])<|aA c2 A []
end
section
set_option maxHeartbeats 2000000
attribute [local irreducible] Tr dz Gp
def ng(b:List Int)(a:List Bool×Int):Option ((List Bool×Int)⊕(List Bool)):=
 bif decide (a.2<ah b) then((aS b a.2).bind λc=>(ji a.1 c true).bind λd=>some (.inl (d,wI (a.2+1)))) else(some (.inr a.1))
def nh(g:D12G)(d:D16L)(c:List Bool×List Bool×Int)(a:List Int×Int):Option ((List Int×Int)⊕(List Int)):=
 bif decide (a.2<ah d.Row) then((aS d.Row a.2).bind λb=>((n9 g c.2.2 b).bind λe=>bif e then(some true) else((sj g ({d with Void:=c.1,Decided:=c.2.1}) b).bind λf=>bif f then((qW g ({d with Void:=c.1,Decided:=c.2.1}) c.2.2 b).bind λh=>some h) else(some false)):Option Bool).bind λi=>bif i then((aT 8 a.1 ([b]:List Int)).bind λj=>some (.inl (j,wI (a.2+1)))) else(some (.inl (a.1,wI (a.2+1))))) else(some (.inr a.1))
def tw(g:D12G)(d:D16L)(k:List Int)(a:List Bool×List Bool×Int):Option ((List Bool×List Bool×Int)⊕(List Bool×List Bool)):=
 bif decide (0<=a.2.2) then((si g ({d with Void:=a.1,Decided:=a.2.1})).bind λe=>(fb e a.2.2).bind λf=>(loop (nh g d a) ([],0)).bind λh=>(bif(!f) then(some ([a.2.2]:List Int)) else(some h)).bind λi=>(ji a.2.1 a.2.2 true).bind λb=>(loop (ng i) (a.1,0)).bind λc=>(vL g ({d with Void:=c,Decided:=b}) k).bind λj=>some (.inl (c,b,j))) else(some (.inr (a.1,a.2.1)))
def oR(g:D12G)(ids:List DIdent):Option D16L:=
 (Aa g ids).bind λa=>(jn g ids).bind λb=>(vL g a b).bind λd=>(loop (tw g a b) (a.Void,a.Decided,d)).bind λc=>some ({a with Void:=c.1,Decided:=c.2})
theorem Db{g ids r}(h:oR g ids=some r):ba prog gl 208 [.agg (aI g),aE aj ids] (.agg (fU r)):=
 cy (λr=> .agg (fU r)) func208 h λK=>ak λe e2=>ak λD e4=>ak λV e6=>aw [hz 15 [] (Ts (c:=2) aH (JE gl e2) (eB aH) rn4 (rZ.imm e.Row) (rO.imm e.Void) (rO.imm e.Fork) (rO.imm e.Decided)),hf 18 (tx gl e4),hq 22 [.agg (aI g),.agg (fU e),aE cZ D] [hc (rZ.al e.Row),hc (rO.al e.Void),hc (rO.al e.Fork),hc (rO.al e.Decided)] (AZ gl e6)]<|gA 111110 11111022 (λE=>sp [] [(4,.ref 0 0),(5,.ref 1 0)] [ob 0 283 (bF [0,1,2,3] (fU AC)),ob 1 283 (fU ({e with Void:=E.1,Decided:=E.2}))] 2) (λa=>sp [] [(2,.ref 0 0),(4,.ref 1 0),(5,.ref 2 0),(6,aE cZ D),(7,iG a.2.2)] [ob 0 31 (aI g),ob 1 283 (bF [0,1,2,3] (fU AC)),ob 2 283 [aE cZ e.Row,.rsl 3 0 a.1.length,aE cO e.Fork,.rsl 4 0 a.2.1.length],ob 3 4 (a.1.flatMap cO),ob 4 4 (a.2.1.flatMap cO)] 5) [hc (rZ.al e.Row),hc (el e.Void),hc (rO.al e.Fork),hc (el e.Decided),hc (rO.imm e.Void),hc (rO.imm e.Decided)] (ρ:=[(0,0),(1,1),(2,6),(3,3),(4,5)]) (kd:=[(3,.row),(4,.row)]) (λE=>aP c0 K []) λa k11 k10=>aF 24 (ak λk F=>ak λl H=>aw [ho 27 [.agg (aI g),.agg (fU ({e with Void:=a.1,Decided:=a.2.1}))] [hc (rO.al a.1),hc (rO.al a.2.1)] (AY gl F) (lZ k),hq 29 [aE cZ k,iG a.2.2] [hc (rZ.al k)] (ci gl H)]<|gA 11111022121101 1111102212110122 (λu=>sf [] [(8,bG l),(9,aE cZ u)]) (λb=>so [] [(8,bG l),(9,.rsl 5 0 b.1.length),(10,iG b.2)] [ob 5 3 (b.1.flatMap cZ)] 6) [hc (el a.1),hc (el a.2.1),hc (rO.imm a.1),hc (rO.imm a.2.1),hc (rZ.imm [])] (vs:=[3]) (ρ:=rI 5++[(5,6)]) (kd:=[(5,.row),(3,.row),(4,.row)]) (λu=>cN 111110221211101 (sf [8] [(64,bG (!l))]) [hc (el a.1),hc (el a.2.1),hc (rO.imm a.1),hc (rO.imm a.2.1)] (ρ:=rI 5) (kd:=[(3,.row),(4,.row)])<|cC 111110221211101 (λm=>sf [64] [(9,aE cZ m)]) (λm=>ak λd n=>aw [hv 70 (rO.ixsZ 4 n),hw 70 (d.flatMap cO) (rO.putZ n)]<|gA 11111022121111101 1111102212111110122 (λf=>so [7,9] [] [ob 2 283 [aE cZ e.Row,.rsl 3 0 f.length,aE cO e.Fork,.rsl 4 0 d.length],ob 3 4 (f.flatMap cO),ob 4 4 (d.flatMap cO)] 5) (λi=>so [7] [(12,iG i.2)] [ob 2 283 [aE cZ e.Row,.rsl 3 0 i.1.length,aE cO e.Fork,.rsl 4 0 d.length],ob 3 4 (i.1.flatMap cO),ob 4 4 (d.flatMap cO)] 5) [hc (el a.1),hc (hZ n),hc (rO.imm a.1),hc (rO.imm d)] (ρ:=rI 5) (kd:=[(3,.row),(4,.row)]) (λf=>ak λP I=>aw [hq 87 [.agg (aI g),.agg (fU ({e with Void:=f,Decided:=d})),aE cZ D] [hc (rO.al f),hc (rO.al d)] (AZ gl I)]<|cj k11 [hc (el f),hc (el d),hc (rO.imm f),hc (rO.imm d)] (ρ:=rI 5) (kd:=[(3,.row),(4,.row)])) λi J L=>aF 74 (ak λQ v=>ak λw o=>aw [hv 81 (rZ.ixZ v),hv 82 (rZ.p1Z tZ v),hv 83 (rO.ixsZ 3 o),hw 83 (w.flatMap cO) (rO.putZ o)]<|cj J [hc (hZ o),hc (el d),hc (rO.imm w),hc (rO.imm d)] (ρ:=rI 5) (kd:=[(3,.row),(4,.row)]))<|aA c1 L [hc (el i.1),hc (el d),hc (rO.imm i.1),hc (rO.imm d)] (ρ:=rI 5) (kd:=[(3,.row),(4,.row)])) λm x=>eH [64] (aA c0 x [hc (rZ.al ([a.2.2]:List Int)),hc (el a.1),hc (el a.2.1),hc (rO.imm a.1),hc (rO.imm a.2.1)] (ρ:=rI 5) (kd:=[(3,.row),(4,.row)]))<|aA c0 x [hc (el a.1),hc (el a.2.1),hc (rO.imm a.1),hc (rO.imm a.2.1)] (ρ:=rI 5) (kd:=[(3,.row),(4,.row)])) λb y M=>aF 34 (ak λj z=>aw [hv 40 (rZ.ixZ z),hv 41 (rZ.p1Z tZ z)]<|cN 111110221211012210210 (sf [] [(11,iG j)]) [hc (el b.1),hc (el a.1),hc (el a.2.1),hc (rO.imm a.1),hc (rO.imm a.2.1),hc (rZ.imm b.1)] (ρ:=rI 6) (kd:=[(5,.row),(3,.row),(4,.row)])<|cC 111110221211012210210 (λp=>sf [] [(58,bG p)]) (λp=>eH [58] (ak λA N=>aw [dg 62 rZ N]<|cj y [hc (el A),hc (el a.1),hc (el a.2.1),hc (rO.imm a.1),hc (rO.imm a.2.1),hc (rZ.imm A)] (ρ:=rI 5++[(5,7)]) (kd:=[(5,.row),(3,.row),(4,.row)]))<|cj y [hc (el b.1),hc (el a.1),hc (el a.2.1),hc (rO.imm a.1),hc (rO.imm a.2.1),hc (rZ.imm b.1)] (ρ:=rI 6) (kd:=[(5,.row),(3,.row),(4,.row)])) λp q=>ak λR B=>kV (λs=>aw [hf 45 (cF (mC gl B) s)]<|aA c0 q [hc (el b.1),hc (el a.1),hc (el a.2.1),hc (rO.imm a.1),hc (rO.imm a.2.1),hc (rZ.imm b.1)] (ρ:=rI 6) (kd:=[(5,.row),(3,.row),(4,.row)])) λs=>ak λS C=>aw [hf 45 (cF (mC gl B) s)]<|kV (λt=>ak λU O=>aw [hq 50 [.agg (aI g),.agg (fU ({e with Void:=a.1,Decided:=a.2.1})),iG j] [hc (rO.al a.1),hc (rO.al a.2.1)] (cF (lC gl C) t),hq 56 [.agg (aI g),.agg (fU ({e with Void:=a.1,Decided:=a.2.1})),iG a.2.2,iG j] [hc (rO.al a.1),hc (rO.al a.2.1)] (yI gl O)]<|aA c0 q [hc (el b.1),hc (el a.1),hc (el a.2.1),hc (rO.imm a.1),hc (rO.imm a.2.1),hc (rZ.imm b.1)] (ρ:=rI 6) (kd:=[(5,.row),(3,.row),(4,.row)])) λt=>aw [hq 50 [.agg (aI g),.agg (fU ({e with Void:=a.1,Decided:=a.2.1})),iG j] [hc (rO.al a.1),hc (rO.al a.2.1)] (cF (lC gl C) t)]<|aA c0 q [hc (el b.1),hc (el a.1),hc (el a.2.1),hc (rO.imm a.1),hc (rO.imm a.2.1),hc (rZ.imm b.1)] (ρ:=rI 6) (kd:=[(5,.row),(3,.row),(4,.row)]))<|aA c1 M [hc (rZ.al b.1),hc (el a.1),hc (el a.2.1),hc (rO.imm a.1),hc (rO.imm a.2.1)] (ρ:=rI 5) (kd:=[(3,.row),(4,.row)]))<|aA c1 k10 [hc (rO.al a.1),hc (rO.al a.2.1)] (ρ:=[(0,1),(1,2)])
def tQ(g:D12G)(b:List Int)(a:D15R×Int):Option ((D15R×Int)⊕(D15R)):=
 bif decide (a.2<ah b) then((aS b a.2).bind λc=>(aS g.L c).bind λd=>(aS b a.2).bind λe=>(aS g.IDs e).bind λf=>(DM a.1 d f).bind λh=>some (.inl (h,wI (a.2+1)))) else(some (.inr a.1))
def zY(g:D12G)(ids:List DIdent):Option D15R:=
 (AV g.Cards).bind λa=>(oR g ids).bind λb=>(si g b).bind λc=>(loop (tQ g c) (a,0)).bind λd=>some d
theorem Jh{g ids r}(h:zY g ids=some r):ba prog gl 152 [.agg (aI g),aE aj ids] (.agg (aU r)):=
 cy (λr=> .agg (aU r)) func152 h λK=>ak λp e2=>ak λq e4=>ak λj e6=>aw [hf 10 (DN gl e2),hf 14 (Db gl e4),hf 15 (JB gl e6)]<|gA 111101 11110122 (λi=>sp [] [(4,.ref 0 0),(5,.ref 1 0)] [ob 0 231 (bF [0,1,2,3,5] (aU eY)),ob 1 231 (aU i)] 2) (λe=>sp [] [(2,.ref 0 0),(4,.ref 1 0),(5,.ref 2 0),(6,aE cZ j),(7,iG e.2)] [ob 0 31 (aI g),ob 1 231 (bF [0,1,2,3,5] (aU eY)),ob 2 231 (aU e.1)] 3) [] (λi=>aP c0 K []) λe k11 k10=>aF 19 (ak λk a=>ak λl b=>ak λm c=>ak λn d=>ak λo f=>aw [hv 27 (rZ.ixZ a),hv 28 (rZ.p1Z tZ a),hv 29 (eJ.ixZ b),hv 30 (eJ.ptZ GN b),hv 35 (rZ.ixZ c),hv 36 (rZ.p1Z tZ c),hv 37 (ac.ixZ d),hv 38 (ac.ptZ aW d),hf 39 (AU gl f)]<|cj k11 [])<|aA c1 k10 [] (ρ:=[(0,1),(1,2)])
def lu(b:D15R):Option (List Int):=
 (lg b.In).bind λa=>some a
theorem Dc{r_ r}(h:lu r_=some r):iV prog gl 154 [.agg (aU r_)] 3 r.length (r.flatMap cZ):=
 gc func154 h λK=>ak λa e2=>aw [ho 5 [aE cZ r_.In] [] (vH gl e2) (lZ a)]<|mr c0 K (rZ.imm _)
theorem Dd{r_ r}(h:lu r_=some r):ba prog gl 154 [.agg (aU r_)] (aE cZ r):=(Dc gl h).fn rZ.sz (rZ.len _) (rZ.imm _)
def qm(b:List Int)(c:List Int)(a:List Int×Int):Option ((List Int×Int)⊕(List Int)):=
 bif decide (a.2<ah b) then((aS b a.2).bind λd=>(fb c d).bind λe=>bif(!e) then((aS b a.2).bind λf=>(aT 8 a.1 ([f]:List Int)).bind λg=>some (.inl (g,wI (a.2+1)))) else(some (.inl (a.1,wI (a.2+1))))) else(some (.inr a.1))
def qn(c:List Int)(b:List Int)(a:List Int×Int):Option ((List Int×Int)⊕(List Int)):=
 bif decide (a.2<ah b) then((aS b a.2).bind λd=>(fb c d).bind λe=>bif e then((aS b a.2).bind λf=>(aT 8 a.1 ([f]:List Int)).bind λg=>some (.inl (g,wI (a.2+1)))) else(some (.inl (a.1,wI (a.2+1))))) else(some (.inr a.1))
def qo(g:D12G)(o:DOp):Option (List Int):=
 (o3 g o.Past).bind λd=>(qN d o.By).bind λj=>(bif decide (0<j) then(some (decide (j<=o.Seq))) else(some false)).bind λl=>bif l then(some []) else((zY g d).bind λk=>(pV o).bind λa=>(AX k o a).bind λe=>bif decide (e≠0) then(some []) else((DM k o a).bind λf=>(lu f).bind λb=>(jn g d).bind λc=>(loop (qn b c) ([],0)).bind λh=>(loop (qm b c) (h,0)).bind λi=>some i))
theorem GU{g o r}(h:qo g o=some r):iV prog gl 89 [.agg (aI g),.agg (aJ o)] 3 r.length (r.flatMap cZ):=
 gc func89 h λK=>ak λF e2=>ak λH e4=>aw [hf 17 (Ju gl e2),hf 21 (yF gl e4)]<|cN 111100 (sp [] [(2,.ref 0 0),(3,.ref 1 0),(5,aE aj F),(6,iG H)] [ob 0 31 (aI g),ob 1 99 (aJ o)] 2) []<|cC 111100 (λv=>sf [6] [(29,bG v)]) (λv=>eH [29] (mr c0 K (rZ.imm _))<|ak λS e9=>ak λI w=>ak λJ x=>aw [hf 32 (Jh gl e9),hf 34 (AI gl w),hf 38 (DO gl x)]<|aF 39 (mr c0 K (rZ.imm _))<|ak λL e16=>ak λf y=>ak λi z=>aw [hf 43 (AU gl e16),hf 44 (Dd gl y),hf 47 (tx gl z)]<|gA 1111111111101 111111111110122 (λc=>sk [] [(9,aE cZ f),(10,aE cZ i),(11,.rsl 0 0 c.length)] [ob 0 3 (c.flatMap cZ)] 1) (λa=>sk [] [(9,aE cZ f),(10,aE cZ i),(11,.rsl 0 0 a.1.length),(12,iG a.2)] [ob 0 3 (a.1.flatMap cZ)] 1) [hc (rZ.imm [])] (vs:=[3]) (ρ:=[(0,4)]) (kd:=[(0,.row)]) (λc=>gA 11111111111101 1111111111110122 (λd=>sp [] [(11,.rsl 0 0 d.length)] [ob 0 3 (d.flatMap cZ)] 1) (λb=>so [] [(11,.rsl 0 0 b.1.length),(13,iG b.2)] [ob 0 3 (b.1.flatMap cZ)] 1) [hc (el c),hc (rZ.imm c)] (ρ:=[(0,0)]) (kd:=[(0,.row)]) (λd=>mr c0 K (rZ.imm _)) λb j A=>aF 70 (ak λM k=>ak λN B=>aw [hv 76 (rZ.ixZ k),hv 77 (rZ.p1Z tZ k),hf 78 (ci gl B)]<|aF 79 (ak λO l=>ak λm C=>aw [hv 83 (rZ.ixZ l),hv 84 (rZ.p1Z tZ l),dg 86 rZ C]<|cj j [hc (el m),hc (rZ.imm m)] (ρ:=[(0,2)]) (kd:=[(0,.row)]))<|cj j [hc (el b.1),hc (rZ.imm b.1)] (ρ:=[(0,0)]) (kd:=[(0,.row)]))<|aA c1 A [hc (el b.1),hc (rZ.imm b.1)] (ρ:=[(0,0)]) (kd:=[(0,.row)])) λa n D=>aF 51 (ak λP p=>ak λQ q=>aw [hv 57 (rZ.ixZ p),hv 58 (rZ.p1Z tZ p)]<|kV (λe=>ak λR s=>ak λt E=>aw [hf 59 (cF (ci gl q) e),hv 63 (rZ.ixZ s),hv 64 (rZ.p1Z tZ s),dg 66 rZ E]<|cj n [hc (el t),hc (rZ.imm t)] (ρ:=[(0,2)]) (kd:=[(0,.row)])) λe=>aw [hf 59 (cF (ci gl q) e)]<|cj n [hc (el a.1),hc (rZ.imm a.1)] (ρ:=[(0,0)]) (kd:=[(0,.row)]))<|aA c1 D [hc (el a.1),hc (rZ.imm a.1)] (ρ:=[(0,0)]) (kd:=[(0,.row)])) λv u=>aF 23 (aA c0 u [])<|aA c0 u []
theorem GV{g o r}(h:qo g o=some r):ba prog gl 89 [.agg (aI g),.agg (aJ o)] (aE cZ r):=(GU gl h).fn rZ.sz (rZ.len _) (rZ.imm _)
def AE(n:Int)(s1:Int):Option ((Int)⊕(Int)):=
 bif decide (wI (2*s1)<n) then(some (.inl (wI (2*s1)))) else(some (.inr s1))
def zZ(n:Int):Option Int:=
 (loop (AE n) 1).bind λa=>some a
theorem Ji{n r}(h:zZ n=some r):ba prog gl 225 [iG n] (iG r):=
 cy iG func225 h λK=>gA 1110 111022 (λa=>sg [] [(3,iG a)]) (λs1=>sf [] [(3,iG s1)]) [] (λa=>aP c0 K []) λs1 k5 b=>aF 7 (cj k5 [])<|aA c1 b []
def lv:Nat->(List Int)->Option (List (List Int))
 |0,_=>none
 |nn+1,leaves=>
 bif decide (ah leaves=0) then(some []) else(bif decide (ah leaves=1) then(some [leaves]) else((zZ (ah leaves)).bind λd=>(tq leaves d).bind λe=>(lv nn e).bind λf=>(aT 24 [leaves] f).bind λg=>(mc leaves d).bind λa=>(lv nn a).bind λb=>(aT 24 g b).bind λc=>some c))
theorem qp:∀(nn:Nat) {leaves:List Int} {r:List (List Int)} (h:lv nn leaves=some r),iV prog gl 157 [aE cZ leaves] 22 r.length (r.flatMap Jc)
 |0,_,_,h=>by cases h
 |nn+1,leaves,r,h=>by unfold lv at h;exact gc func157 h λK=>aF 7 (mr c0 K (nH.imm _))<|aF 12 (mr c0 K (nH.imm _))<|ak λf e4=>ak λg e6=>ak λi e8=>ak λj e10=>ak λc a=>ak λd b=>ak λe e16=>aw [hf 16 (Ji gl e4),hv 20 (rZ.preZI e6),hf 21 ((qp nn e8).fn nH.sz (nH.len _) (nH.imm _)),eu 22 nH e10,hv 26 (rZ.sufZI a),hf 27 ((qp nn b).fn nH.sz (nH.len _) (nH.imm _)),eu 28 nH e16]<|mr c0 K (nH.imm _)
def z0(a:List Int):Option (List (List Int)):=lv (a.length+1) a
theorem Jj{r:List (List Int)}(h:z0 leaves=some r):iV prog gl 157 [aE cZ leaves] 22 r.length (r.flatMap Jc):=qp gl _ h
theorem Jk{r:List (List Int)}(h:z0 leaves=some r):ba prog gl 157 [aE cZ leaves] (aE Jc r):=(Jj gl h).fn nH.sz (nH.len _) (nH.imm _)
def AF(device:Int)(e:List (List Int))(s3:List (List Int)×Int):Option ((List (List Int)×Int)⊕(List (List Int))):=
 bif decide (0<=s3.2) then((aS e s3.2).bind λa=>(fb a device).bind λb=>bif b then((aS e s3.2).bind λc=>(aT 24 s3.1 [c]).bind λd=>some (.inl (d,wI (s3.2-1)))) else(some (.inl (s3.1,wI (s3.2-1))))) else(some (.inr s3.1))
def z5(a:List Int)(device:Int):Option (List (List Int)):=
 (z0 a).bind λb=>(loop (AF device b) ([],wI ((ah b)-1))).bind λc=>some c
theorem Jl{leaves device r}(h:z5 leaves device=some r):iV prog gl 91 [aE cZ leaves,iG device] 22 r.length (r.flatMap Jc):=
 gc func91 h λK=>ak λg e2=>aw [hf 9 (Jk gl e2)]<|gA 111101 11110122 (λe=>sp [] [(6,.rsl 0 0 e.length)] [ob 0 22 (e.flatMap Jc)] 1) (λs3=>so [0] [(5,aE Jc g),(6,.rsl 0 0 s3.1.length),(7,iG s3.2)] [ob 0 22 (s3.1.flatMap Jc)] 1) [hc (nH.imm [])] (vs:=[22]) (ρ:=[(0,0)]) (kd:=[(0,.row)]) (λe=>mr c0 K (nH.imm _)) λs3 k7 k6=>aF 14 (ak λi b=>ak λj e16=>aw [hv 19 (nH.ixZ b),hv 20 (nH.p1Z Vs b)]<|kV (λa=>ak λk c=>ak λd f=>aw [hf 22 (cF (ci gl e16) a),hv 26 (nH.ixZ c),hv 27 (nH.p1Z Vs c),dg 29 nH f]<|cj k7 [hc (el d),hc (nH.imm d)] (ρ:=[(0,2)]) (kd:=[(0,.row)])) λa=>aw [hf 22 (cF (ci gl e16) a)]<|cj k7 [hc (el s3.1),hc (nH.imm s3.1)] (ρ:=[(0,0)]) (kd:=[(0,.row)]))<|aA c1 k6 [hc (el s3.1),hc (nH.imm s3.1)] (ρ:=[(0,0)]) (kd:=[(0,.row)])
def jm(g:D12G)(o:DOp):Option (List (List Int)):=
 (eM o.Kind).bind λb=>bif(!b) then(some []) else((qo g o).bind λa=>(fb a o.By).bind λc=>bif(!c) then(some []) else((z5 a o.By).bind λd=>some d))
theorem E6{g o r}(h:jm g o=some r):iV prog gl 47 [.agg (aI g),.agg (aJ o)] 22 r.length (r.flatMap Jc):=
 gc func47 h λK=>ak λb e2=>aw [hf 9 (oX gl e2)]<|aF 11 (mr c0 K (nH.imm _))<|ak λd e5=>ak λe e7=>aw [hf 14 (GV gl e5),hf 18 (ci gl e7)]<|aF 19 (mr c0 K (nH.imm _))<|ak λa e10=>aw [hz 23 [] (Gi (c:=2) aH (Jl gl e10) (eB aH) (nH.imm a))]<|mr c0 K (nH.imm _)
theorem E7{g o r}(h:jm g o=some r):ba prog gl 47 [.agg (aI g),.agg (aJ o)] (aE Jc r):=(E6 gl h).fn nH.sz (nH.len _) (nH.imm _)
def lw(g:D12G×Int)(b:Int)(c:Bool)(a:List DNode×Int):Option ((List DNode×Int)⊕(List DNode)):=
 (bif decide (a.2<b) then(bif c then(some (decide (a.2<5))) else(some false)) else(some false)).bind λd=>bif d then(((aT 32 a.1 [(⟨wU (wI ((wI (1000+(wI (10*g.2))))+a.2)),[]⟩:DNode)]).bind λe=>some e:Option (List DNode)).bind λf=>some (.inl (f,wI (a.2+1)))) else(some (.inr a.1))
def ly(l:List Int)(most:Int)(a:D12G×Int):Option ((D12G×Int)⊕(D12G)):=
 (bif decide (a.2<most) then(bif decide (a.2<4) then(some true) else(some (decide (wI (2*a.2)<ah l)))) else(some false)).bind λf=>bif f then((bif decide (wI (2*a.2)<ah l) then((aS l (wI (2*a.2))).bind λg=>some g) else(some 0)).bind λh=>(bif decide (wI ((wI (2*a.2))+1)<ah l) then((aS l (wI ((wI (2*a.2))+1))).bind λi=>some i) else(some 0)).bind λc=>(sd a.1 h c).bind λb=>(jm a.1 ({b with Path:=[]})).bind λd=>(iq c 31).bind λj=>(bif decide (j=30) then(some (wI ((ah d)+1))) else(some (ah d))).bind λk=>(eM b.Kind).bind λm=>(loop (lw a k m) ([],0)).bind λn=>(nR ({b with Path:=n})).bind λo=>(AO a.1 o).bind λe=>bif decide (e.2=0) then(some (.inl (e.1,wI (a.2+1)))) else(some (.inl (a.1,wI (a.2+1))))) else(some (.inr a.1))
def vq(l:List Int)(most:Int):Option D12G:=
 (r8).bind λa=>(ql a).bind λb=>(Jf b).bind λc=>(loop (ly l most) (c,0)).bind λd=>some d
theorem Jm{l most r}(h:vq l most=some r):ba prog gl 15 [aE cZ l,iG most] (.agg (aI r)):=
 cy (λr=> .agg (aI r)) func15 h λK=>ak λP e2=>ak λQ e4=>ak λU e6=>aw [hf 15 (Fa gl e2),hf 16 (GR gl e4),hf 17 (M8 gl e6)]<|gA 11101 1110122 (λI=>sp [] [(4,.ref 0 0),(5,.ref 1 0)] [ob 0 31 (bF [0,1,2,3,4] (aI xm)),ob 1 31 (aI I)] 2) (λd=>so [] [(4,.ref 0 0),(5,.ref 1 0),(6,iG d.2)] [ob 0 31 (bF [0,1,2,3,4] (aI xm)),ob 1 31 (aI d.1)] 2) [] (λI=>aP c0 K []) λd k11 k10=>cN 111012200 (sf [] []) []<|cC 111012200 (λe=>sf [] [(31,bG e)]) (λe=>eH [31] (cN 11101221021101 (sf [31] [(7,iG 0),(8,iG 0),(38,bG (decide (wI (2*d.2)<ah l)))]) []<|cC 11101221021101 (λf=>sf [38] [(7,iG f)]) (λf=>cN 111012210211101 (sf [] [(49,bG (decide (wI ((wI (2*d.2))+1)<ah l)))]) []<|cC 111012210211101 (λg=>sf [49] [(8,iG g)]) (λg=>ak λa w=>ak λx y=>ak λz A=>aw [hf 59 (Jy gl w),hf 62 (UY [.agg (aI d.1),.agg (bF [9] (aJ ({a with Path:=[]})))] (E7 gl y)),hf 65 (iL gl A)]<|cN 111012210211111101 (so [7,8] [(9,.ref 2 0),(10,iG (ah x)),(66,bG (decide (z=30)))] [ob 2 99 (bF [9] (aJ ({a with Path:=[]})))] 3) []<|cC 111012210211111101 (λi=>sf [66] [(10,iG i)]) (λi=>ak λB e32=>aw [hf 71 (oX gl e32)]<|gA 11101221021111111101 1110122102111111110122 (λn=>so [10] [] [ob 2 99 (aJ ({a with Path:=n}))] 3) (λb=>so [] [(11,bG B),(12,iG b.2)] [ob 2 99 [iG a.By,iG a.Seq,iG a.Kind,iG a.At,aE aj a.Past,iG a.Device,iG a.Old,iG a.Member,iG a.Role,.rsl 3 0 b.1.length,iG a.Epoch.By,iG a.Epoch.Seq,uG a.Epoch.Sum,iG a.N,aE cY a.Body,aE cW a.Refs,iG a.Of.By,iG a.Of.Seq,uG a.Of.Sum,aE cZ a.Guards,iG a.Need,iG a.Wait,aE cz a.Boxes,uG a.Pub,aE bp a.Hist,uG a.Sig.R,uG a.Sig.S],ob 3 102 (b.1.flatMap bY)] 4) [hc (bZ.imm [])] (vs:=[102]) (ρ:=rI 4) (kd:=[(3,.row)]) (λn=>ak λJ C=>ak λL D=>aw [hf 99 (E8 gl C),hf 100 (M9 gl D)]<|aF 104 (cj k11 [])<|cj k11 []) λb E F=>cN 111012210211111111012200 (sf [] []) [hc (el b.1),hc (bZ.imm b.1)] (ρ:=rI 4) (kd:=[(3,.row)])<|cC 111012210211111111012200 (λj=>sf [] [(81,bG j)]) (λj=>eH [81] (cN 1110122102111111110122102 (sf [81] []) [hc (el b.1),hc (bZ.imm b.1)] (ρ:=rI 4) (kd:=[(3,.row)])<|cC 1110122102111111110122102 (λc=>so [] [] [ob 2 99 [iG a.By,iG a.Seq,iG a.Kind,iG a.At,aE aj a.Past,iG a.Device,iG a.Old,iG a.Member,iG a.Role,.rsl 3 0 c.length,iG a.Epoch.By,iG a.Epoch.Seq,uG a.Epoch.Sum,iG a.N,aE cY a.Body,aE cW a.Refs,iG a.Of.By,iG a.Of.Seq,uG a.Of.Sum,aE cZ a.Guards,iG a.Need,iG a.Wait,aE cz a.Boxes,uG a.Pub,aE bp a.Hist,uG a.Sig.R,uG a.Sig.S],ob 3 102 (c.flatMap bY)] 4) (λc=>cj E [hc (el c),hc (bZ.imm c)] (ρ:=rI 4) (kd:=[(3,.row)])) λc H=>ak λo p=>aw [hv 91 (C8 (wI ((wI (1000+(wI (10*d.2))))+b.2))),Tv 94 bZ p [uG (wU (wI ((wI (1000+(wI (10*d.2))))+b.2))),Iy] rfl]<|aA c0 H [hc (el o),ZV bZ p [uG (wU (wI ((wI (1000+(wI (10*d.2))))+b.2))),Iy]] (ρ:=rI 3++[(3,5)]) (kd:=[(3,.app (b.1.flatMap bY) [uG (wU (wI ((wI (1000+(wI (10*d.2))))+b.2))),Iy] (bY (⟨wU (wI ((wI (1000+(wI (10*d.2))))+b.2)),[]⟩:DNode)) (o.flatMap bY))]))<|aA c1 F [hc (bZ.al b.1)]) λj k=>aF 74 (aF 77 (aA c0 k [hc (el b.1),hc (bZ.imm b.1)] (ρ:=rI 4) (kd:=[(3,.row)]))<|aA c0 k [hc (el b.1),hc (bZ.imm b.1)] (ρ:=rI 4) (kd:=[(3,.row)]))<|aA c0 k [hc (el b.1),hc (bZ.imm b.1)] (ρ:=rI 4) (kd:=[(3,.row)])) λi q=>eH [66] (aA c0 q [])<|aA c0 q []) λg s=>eH [49] (ak λM t=>aw [hv 54 (rZ.ixZ t),hv 55 (rZ.p1Z tZ t)]<|aA c0 s [])<|aA c0 s []) λf u=>eH [38] (ak λO v=>aw [hv 42 (rZ.ixZ v),hv 43 (rZ.p1Z tZ v)]<|aA c0 u [])<|aA c0 u [])<|aA c1 k10 []) λe m=>aF 20 (aF 23 (aA c0 m [])<|aA c0 m [])<|aA c0 m []
def nO(n:Nat):Option Nat:=
 some (wU (((1:Nat):Int)+((n%2305843009213693949:Nat):Int)))
theorem vr{n r}(h:nO n=some r):ba prog gl 18 [uG n] (uG r):=
 cy (λr:Nat=>uG r) func18 h λK=>aw [hb 4 (iD n 2305843009213693949 a9),hb 5 (gV ((1:Nat):Int) ((n%2305843009213693949:Nat):Int))]<|aP c0 K []
end
structure FM (K V:Type) where
 es:List (K×V×Nat)
 clk:Nat
def FM.get{K V:Type}[DecidableEq K](m:FM K V)(k:K):Option V:=(m.es.find? λe=>decide (e.1=k)).map (·.2.1)
def FM.g{K V:Type}(kv:K->Value)(vg:V->G)(m:FM K V):G:= .mp (m.es.map λe=>kv e.1) (m.es.map λe=>vg e.2.1) (m.es.map (·.2.2)) m.clk
def bu{K:Type}[DecidableEq K](k:K):List K->Option Nat
 |[]=>none
 |x::r=>if k=x then some 0 else(bu k r).map (·+1)
structure KeyTy (P:Program) (kt:TypeId) {K:Type} [DecidableEq K] (kv:K->Value):Prop where
 chk:∀b k,rB P b kt (kv k)=true
 key:∀(k:K) (ks:List K),B7 P kt (kv k) (ks.map kv)=some (bu k ks)
section
variable {P:Program} {K:Type} [DecidableEq K] {kt:TypeId} {kv:K->Value}
theorem Ib(h:∀a b,bt P (Op.equal kt (kv a) (kv b))=some (decide (a=b)))(k:K):∀(ks:List K) (n:Nat),Kj P kt (kv k) (ks.map kv) n=some ((bu k ks).map (n+·))
 |[],n=>rfl
 |x::r,n=>by
  rw[List.map_cons,Kj,h,bu];by_cases e:k=x
  .rw[decide_eq_true e,if_pos e];rfl
  .rw[decide_eq_false e,if_neg e];simp only[];rw[Ib h k r (n+1)];cases bu k r with
   |none=>rfl
   |some j=>simp;omega
theorem Qv{x:Option Nat}:x.map (0+·)=x:=by cases x<;>simp
theorem Qw{d:TypeDesc}(hd:P.underlying kt=some d)(hc:∀b k,rB P b kt (kv k)=true)(hn:∀a b,Instr.sameNow d (kv a) (kv b)=none)(h:∀a b,bt P (Op.equal kt (kv a) (kv b))=some (decide (a=b))):KeyTy P kt kv:=⟨hc,λk c=>by
 unfold B7;rw[hd];dsimp only;cases c with
 |nil=>rfl
 |cons x r=>
  have e:B6 d (kv k) ((x::r).map kv) 0=none:=by rw[List.map_cons,B6,hn]
  rw[e];dsimp only;rw[Ib h k (x::r) 0,Qv]⟩
variable {V:Type} {vg:V->G}
theorem fz(k:K):∀(es:List (K×V×Nat)),(bu k (es.map (·.1))=none/\es.find? (λe=>decide (e.1=k))=none)\/∃j e,bu k (es.map (·.1))=some j/\es[j]?=some e/\es.find? (λe=>decide (e.1=k))=some e
 |[]=> .inl ⟨rfl,rfl⟩
 |x::r=>by
  rw[List.map_cons,bu,List.find?_cons];by_cases h:k=x.1
  .rw[if_pos h,decide_eq_true h.symm];exact .inr ⟨0,x,rfl,rfl,rfl⟩
  .rw[if_neg h,decide_eq_false (Ne.symm h)];rcases fz k r with⟨h1,h2⟩|⟨j,e,h1,h2,h3⟩
   .exact .inl ⟨by rw[h1];rfl,h2⟩
   .exact .inr ⟨j+1,e,by rw[h1];rfl,by simpa using h2,h3⟩
theorem FM.look(KT:KeyTy P kt kv){t et:TypeId}{a:V}(ht:pB P t=some (kt,et))(hz:((P.info? et).bind (·.zero)).map db=some (vg a))(m:FM K V)(k:K){gk:G}(hk:cD gk=some (kv k)):
  ∀σ,bL P σ t true (m.g kv vg) gk=some (.tup [vg ((m.get k).getD a),bG (m.get k).isSome]):=λσ=>by
 unfold bL FM.g
 rw[ht,hk]
 dsimp only
 have hm:(m.es.map λe=>kv e.1)=(m.es.map (·.1)).map kv:=by rw[List.map_map];rfl
 rw[KT.chk,ax,hm,KT.key]
 unfold FM.get
 rcases fz k m.es with⟨h1,h2⟩|⟨j,e,h1,h2,h3⟩
 .obtain⟨z,hz,hv⟩:=Option.map_eq_some_iff.1 hz
  rw[h1,h2,hz]
  show some (G.tup [db z,_])=_
  rw[hv];rfl
 .rw[h1,h3]
  dsimp only
  rw[List.getElem?_map,h2]
  rfl
theorem FM.look1(KT:KeyTy P kt kv){t et:TypeId}{a:V}(ht:pB P t=some (kt,et))(hz:((P.info? et).bind (·.zero)).map db=some (vg a))(m:FM K V)(k:K){gk:G}(hk:cD gk=some (kv k)):
  ∀σ,bL P σ t false (m.g kv vg) gk=some (vg ((m.get k).getD a)):=λσ=>by
 unfold bL FM.g
 rw[ht,hk]
 dsimp only
 have hm:(m.es.map λe=>kv e.1)=(m.es.map (·.1)).map kv:=by rw[List.map_map];rfl
 rw[KT.chk,ax,hm,KT.key]
 unfold FM.get
 rcases fz k m.es with⟨h1,h2⟩|⟨j,e,h1,h2,h3⟩
 .obtain⟨z,hz,hv⟩:=Option.map_eq_some_iff.1 hz
  rw[h1,h2,hz]
  show some (db z)=_
  rw[hv];rfl
 .rw[h1,h3]
  dsimp only
  rw[List.getElem?_map,h2]
  rfl
end
def ga(x:DIdent):Value:= .agg (Pe x).toArray
theorem jt:KeyTy prog 50 ga:=by obtain⟨fs,hd⟩:∃fs,prog.underlying 50=some (.struct fs):=⟨#[⟨ "By",3,0,false, "", "",0⟩,⟨ "Seq",3,1,false, "", "",8⟩,⟨ "Sum",23,2,false, "", "",16⟩],aH⟩;exact Qw hd (λb k=>by cases b<;>(show _=_;kernel_rfl)) (λa b=>rfl) (λa b=>Pf 9997 a b)
def bD(a b:Nat):Nat:=a%18446744073709551616&&&b%18446744073709551616
def gM(a b:Nat):Nat:=a%18446744073709551616|||b%18446744073709551616
def Yn(a b:Int):Int:=IntKind.i64.wrap ((BitVec.ofInt IntKind.i64.bits a&&&BitVec.ofInt IntKind.i64.bits b).toNat:Nat)
def wH(a b:Int):Int:=IntKind.i64.wrap ((BitVec.ofInt IntKind.i64.bits a&&& ~~~BitVec.ofInt IntKind.i64.bits b).toNat:Nat)
def cw(a n:Nat):Nat:=a/2^min n 64
def fN(a n:Nat):Nat:=a*2^min n 64%18446744073709551616
def Tf(a:Int)(n:Nat):Int:=a.fdiv (2^min n 64)
def wJ(i:Int):Option Nat:=if i<0 then none else some i.toNat
section
variable {P:Program} {t:TypeId}
theorem Ml{a b:Int}:b8 P .and t x y (.lit (.int k a)) (.lit (.int k b))=some (.lit (.int k (k.wrap ((BitVec.ofInt k.bits a&&&BitVec.ofInt k.bits b).toNat:Nat)))):=by simp[b8,cD,eqGuard,binOp,Op.intBits,bz,db]
theorem V7{a b:Int}:b8 P .or t x y (.lit (.int k a)) (.lit (.int k b))=some (.lit (.int k (k.wrap ((BitVec.ofInt k.bits a|||BitVec.ofInt k.bits b).toNat:Nat)))):=by simp[b8,cD,eqGuard,binOp,Op.intBits,bz,db]
theorem Kr{a b:Int}:b8 P .andNot t x y (.lit (.int k a)) (.lit (.int k b))=some (.lit (.int k (k.wrap ((BitVec.ofInt k.bits a&&& ~~~BitVec.ofInt k.bits b).toNat:Nat)))):=by simp[b8,cD,eqGuard,binOp,Op.intBits,bz,db]
theorem Mm{a:Int}(n:Nat):b8 P .shr t x y (.lit (.int k a)) (.lit (.int k' (n:Int)))=some (.lit (.int k (a.fdiv (2^min n k.bits)))):=by have h1:¬((n:Int)<0):=aa;simp[b8,cD,eqGuard,binOp,Op.shift,db,if_neg h1];exact⟨_,rfl,rfl⟩
theorem Tg{a:Int}(n:Nat):b8 P .shl t x y (.lit (.int k a)) (.lit (.int k' (n:Int)))=some (.lit (.int k (k.wrap (a*2^min n k.bits)))):=by have h1:¬((n:Int)<0):=aa;simp[b8,cD,eqGuard,binOp,Op.shift,db,if_neg h1];exact⟨_,rfl,rfl⟩
theorem UV(n:Nat)(h:n<18446744073709551616):IntKind.u64.wrap (n:Int)=(n:Int):=by rw[IntKind.wrap_u64];omega
theorem ju(a b:Nat):∀p q:Operand,b8 P .and t p q (uG a) (uG b)=some (uG (bD a b)):=λp q=>by
 show b8 P .and t p q (.lit (.int .u64 (a:Int))) (.lit (.int .u64 (b:Int)))=_;rw[Ml];have e:(BitVec.ofInt IntKind.u64.bits (a:Int)&&&BitVec.ofInt IntKind.u64.bits (b:Int)).toNat=bD a b:=by show(BitVec.ofInt 64 (a:Int)&&&BitVec.ofInt 64 (b:Int)).toNat=_;rw[BitVec.ofInt_natCast,BitVec.ofInt_natCast,BitVec.toNat_and,BitVec.toNat_ofNat,BitVec.toNat_ofNat];rfl
 rw[e,UV _ ?_];exact Nat.and_lt_two_pow (n:=64) _ (Nat.mod_lt _ a9)
theorem jc(a b:Nat):∀p q:Operand,b8 P .or t p q (uG a) (uG b)=some (uG (gM a b)):=λp q=>by
 show b8 P .or t p q (.lit (.int .u64 (a:Int))) (.lit (.int .u64 (b:Int)))=_;rw[V7];have e:(BitVec.ofInt IntKind.u64.bits (a:Int)|||BitVec.ofInt IntKind.u64.bits (b:Int)).toNat=gM a b:=by show(BitVec.ofInt 64 (a:Int)|||BitVec.ofInt 64 (b:Int)).toNat=_;rw[BitVec.ofInt_natCast,BitVec.ofInt_natCast,BitVec.toNat_or,BitVec.toNat_ofNat,BitVec.toNat_ofNat];rfl
 rw[e,UV _ ?_];exact Nat.or_lt_two_pow (n:=64) (Nat.mod_lt _ a9) (Nat.mod_lt _ a9)
theorem V8(a b:Int):∀p q:Operand,b8 P .and t p q (iG a) (iG b)=some (iG (Yn a b)):=λp q=>Ml
theorem NW(a b:Int):∀p q:Operand,b8 P .andNot t p q (iG a) (iG b)=some (iG (wH a b)):=λp q=>Kr
theorem nx{k':IntKind}(a n:Nat):∀p q:Operand,b8 P .shr t p q (uG a) (.lit (.int k' (n:Int)))=some (uG (cw a n)):=λp q=>by
 show b8 P .shr t p q (.lit (.int .u64 (a:Int))) _=_;rw[Mm];have:(a:Int).fdiv (2^min n IntKind.u64.bits)=((cw a n:Nat):Int):=by show(a:Int).fdiv (2^min n 64)=_;unfold cw;generalize min n 64=m;have e:((2:Int)^m)=((2^m:Nat):Int):=aC;rw[e,Int.fdiv_eq_ediv_of_nonneg _ (Int.natCast_nonneg _)];simp
 rw[this]
theorem Ks{k':IntKind}(a n:Nat):∀p q:Operand,b8 P .shl t p q (uG a) (.lit (.int k' (n:Int)))=some (uG (fN a n)):=λp q=>by
 show b8 P .shl t p q (.lit (.int .u64 (a:Int))) _=_;rw[Tg];have:IntKind.u64.wrap ((a:Int)*2^min n IntKind.u64.bits)=((fN a n:Nat):Int):=by show IntKind.u64.wrap ((a:Int)*2^min n 64)=_;unfold fN;generalize min n 64=m;have e:((2:Int)^m)=((2^m:Nat):Int):=aC;rw[e,<-Int.natCast_mul,IntKind.wrap_u64];generalize a*2^m=z;omega
 rw[this]
theorem V9{k':IntKind}(a:Int)(n:Nat):∀p q:Operand,b8 P .shr t p q (iG a) (.lit (.int k' (n:Int)))=some (iG (Tf a n)):=λp q=>Mm n
theorem Et{i:Int}(h:wJ i=some n):i=(n:Int):=by
 unfold wJ at h;split at h
 .cases h
 .cases h;omega
end
theorem Am{P:Program}{t:TypeId}(a:Nat){i:Int}(h:wJ i=some n):∀p q:Operand,b8 P .shr t p q (uG a) (iG i)=some (uG (cw a n)):=by rw[Et h];exact nx a n
theorem sM{P:Program}{t:TypeId}(a:Nat){i:Int}(h:wJ i=some n):∀p q:Operand,b8 P .shl t p q (uG a) (iG i)=some (uG (fN a n)):=by rw[Et h];exact Ks a n
theorem RowTy.isNil{P:Program}{ts te:TypeId}{k:Nat}{α:Type}{f:α->List G}(R:RowTy P ts te k f){l:List α}(h:l.flatMap f=[]):l=[]:=by
 have h1:=R.len l;rw[h] at h1;have h2:=R.kp;cases l with
 |nil=>rfl
 |cons x r=>simp only[List.length_nil,List.length_cons] at h1;exact absurd h1.symm (Nat.ne_of_gt (Nat.mul_pos (Nat.succ_pos r.length) h2))
theorem mV{b:Nat}{r:List α}(h:aT b [] []=some r):r=[]:=by
 unfold aT at h;split at h
 .cases h;rfl
 .cases h
section
variable {P:Program} {ta te:TypeId} {k:Nat} {α:Type} {f:α->List G}
structure ArrTy (P:Program) (ta te:TypeId) (n k:Nat):Prop where
 no:dp P ta=none
 ar:ND P ta=some (n,te)
 sz:bw P te=some k
theorem ArrTy.ix{n:Nat}(A:ArrTy P ta te n k){xs:List α}{L:List G}{i:Int}{x:α}(h:aS xs i=some x)(hl:xs.length=n):fh P ta (.ptr L 0) i=some (.ptr L (i.toNat*k)):=by obtain⟨h0,h1⟩:=fH h;have hlt:=(cr h1).1;unfold fh;simp only[A.no,A.ar,A.sz,aL];rw[if_pos aa];simp[wo]
end
structure DHoldName where
 commit:DIdent
 n:Int
 deriving DecidableEq
def bj(x:DHoldName):List G:=[iG x.commit.By,iG x.commit.Seq,uG x.commit.Sum,iG x.n]
theorem ee:fg prog 74=some true:=aH
def f7(x:DHoldName):List Value:=[.int .i64 x.commit.By,.int .i64 x.commit.Seq,.int .u64 (x.commit.Sum:Int),.int .i64 x.n]
theorem wy(d:Nat)(i j:DHoldName):bt prog (Op.equalIn (d+4) 74 (.agg (f7 i).toArray) (.agg (f7 j).toArray))=some (decide (i=j)):=by obtain⟨a0,a1⟩:=i;obtain⟨b0,b1⟩:=j;unfold f7;rw[xV (fs:= #[⟨ "commit",50,0,false, "", "huddle/hold",0⟩,⟨ "n",3,3,false, "", "huddle/hold",24⟩]) aH aH];simp only[Array.toList];rw[Qs (d:=d+3) (f:=⟨ "commit",50,0,false, "", "huddle/hold",0⟩) (fs:=[⟨ "n",3,3,false, "", "huddle/hold",24⟩]) (us:=(Pe a0).toArray) (vs:=(Pe b0).toArray) a9 aH aH (Pf d a0 b0)];rw[uJ (k:= .i64) (k':= .i64) (a:=a1) (b:=b1) a9 aH aH aH];simp only[DHoldName.mk.injEq];by_cases h0:a0=b0<;>by_cases h1:a1=b1<;>simp[h0,h1,Op.eqFields,bz]
theorem yV(i j:DHoldName)(h:decide (i=j)=r):∀p q:Operand,b8 prog .eql 74 p q (.agg (bj i)) (.agg (bj j))=some (bG r):=λp q=>by subst h;exact Eo (us:=f7 i) (vs:=f7 j) aH aH aH (wy 9996 i j)
def bU(x:DHoldName):Value:= .agg (f7 x).toArray
theorem fk:KeyTy prog 74 bU:=Qw (d:= .struct #[⟨ "commit",50,0,false, "", "huddle/hold",0⟩,⟨ "n",3,3,false, "", "huddle/hold",24⟩]) aH (λb k=>by cases b<;>(show _=_;kernel_rfl)) (λa b=>rfl) (λa b=>wy 9996 a b)
def zJ(x:Option Nat):Nat:=x.getD 0
theorem zK(m:FM DHoldName Nat)(k:DHoldName):∀σ,bL prog σ 80 false (FM.g bU (λx:Nat=>uG x) m) (.agg (bj k))=some ((λx:Nat=>uG x) (zJ (m.get k))):=FM.look1 (et:=23) fk aH aH m k rfl
structure DHoldHold where
 device:Int
 keys:FM DHoldName Nat
def Cd(x:DHoldHold):List G:=[iG x.device,FM.g bU (λx:Nat=>uG x) x.keys]
structure DPackOut where
 b:List UInt8
def FR(x:Option Int):Int:=x.getD 0
theorem H7(m:FM DIdent Int)(k:DIdent):∀σ,bL prog σ 164 true (FM.g ga iG m) (.agg (aj k))=some (.tup [iG (FR (m.get k)),bG (m.get k).isSome]):=FM.look (et:=3) jt aH aH m k rfl
structure A4W where
 a0:Nat
 a1:Nat
 a2:Nat
 a3:Nat
 deriving DecidableEq
def FSq(x:A4W):List G:=[uG x.a0,uG x.a1,uG x.a2,uG x.a3]
theorem aap:fg prog 171=some true:=aH
theorem aaq:bw prog 171=some 4:=aH
structure DGraphNode where
 o:DOp
 id:DIdent
 past:A4W
 level:Int
def d7(x:DGraphNode):List G:=[iG x.o.By,iG x.o.Seq,iG x.o.Kind,iG x.o.At,aE aj x.o.Past,iG x.o.Device,iG x.o.Old,iG x.o.Member,iG x.o.Role,aE bY x.o.Path,iG x.o.Epoch.By,iG x.o.Epoch.Seq,uG x.o.Epoch.Sum,iG x.o.N,aE cY x.o.Body,aE cW x.o.Refs,iG x.o.Of.By,iG x.o.Of.Seq,uG x.o.Of.Sum,aE cZ x.o.Guards,iG x.o.Need,iG x.o.Wait,aE cz x.o.Boxes,uG x.o.Pub,aE bp x.o.Hist,uG x.o.Sig.R,uG x.o.Sig.S,iG x.id.By,iG x.id.Seq,uG x.id.Sum,uG x.past.a0,uG x.past.a1,uG x.past.a2,uG x.past.a3,iG x.level]
structure DGraphGraph where
 cards:List DCard
 at_:FM DIdent Int
 nodes:List DGraphNode
def di(x:DGraphGraph):List G:=[aE bv x.cards,FM.g ga iG x.at_,aE d7 x.nodes]
theorem az:RowTy prog 165 173 35 d7:=⟨aH,aH,a9,λ_=>rfl,λ_=>rfl⟩
structure DRankRow where
 Graph:DGraphGraph
structure DForkFork where
 Device:Int
 Seq:Int
 deriving DecidableEq
structure DRollVouched where
 by_:Int
 device:Int
 deriving DecidableEq
structure DRollGuard where
 id:DIdent
 guards:List Int
 need:Int
 wait:Int
 vouches:FM DRollVouched Int
 objected:Bool
 last:Int
structure DRollMember where
 role:Int
 guard:DRollGuard
structure DRollRoll where
 cards:FM Int DCard
 in_:FM Int Bool
 was:FM Int Bool
 members:FM Int DRollMember
 back:Int
structure DAuthList where
 g:DGraphGraph
 row:List DIdent
 void:FM DIdent Bool
 fork:FM DIdent Bool
section
set_option maxHeartbeats 2000000
attribute [local irreducible] Tr dz Gp
def fm(a:List Int)(s1:Int):Option ((Int)⊕(Unit⊕Int)):=
 bif decide (s1<ah a) then((aS a s1).bind λb=>bif decide (b≠0) then(some (.inr (.inr b))) else(some (.inl (wI (s1+1))))) else(some (.inr (.inl ())))
def iy(a:List Int):Option Int:=
 (loop (fm a) 0).bind λb=>ma b (λc=>some 0) (λq=>some q)
theorem FT{vals r}(h:iy vals=some r):ba prog gl 177 [aE cZ vals] (iG r):=
 cy iG func177 h λK=>qf 11101 1110122 (λb=>sg [] [(3,iG 0)]) (λs1=>sg [] [(3,iG 0),(6,aE cZ vals),(7,iG (ah vals)),(8,iG s1)]) [] K (λb=>aP c0 K []) λs1 k5 c k6=>aF 9 (ak λd a=>aw [hv 10 (rZ.ixZ a),hv 11 (rZ.p1Z tZ a)]<|aF 14 (aP c3 k6 [])<|cj k5 [])<|aA c2 c []
def kO(a:Int):Option Bool:=
 some (decide (a≠a))
theorem dw{x_ r}(h:kO x_=some r):ba prog gl 276 [iG x_] (bG r):=
 cy bG func276 h λK=>aP c0 K []
def f8(a:Int)(y:Int):Option Int:=
 (kO a).bind λc=>(kO y).bind λb=>bif c then(bif b then(some 0) else(some (-1))) else(bif b then(some 1) else(bif decide (a<y) then(some (-1)) else(bif decide (y<a) then(some 1) else(some 0))))
theorem mQ{x_ y r}(h:f8 x_ y=some r):ba prog gl 178 [iG x_,iG y] (iG r):=
 cy iG func178 h λK=>ak λc e2=>ak λd e4=>aw [hf 10 (dw gl e4)]<|kV (λb5=>aw [hf 8 (cF (dw gl e2) b5)]<|kV (λa=>aw [hf 10 (cF (dw gl e4) a)]<|aP c0 K []) λa=>aw [hf 10 (cF (dw gl e4) a)]<|aP c0 K []) λb5=>aw [hf 8 (cF (dw gl e2) b5)]<|kV (λb=>aw [hf 10 (cF (dw gl e4) b)]<|aP c0 K []) λb=>aw [hf 10 (cF (dw gl e4) b)]<|aF 16 (aP c0 K [])<|aF 19 (aP c0 K [])<|aP c0 K []
def g9(a:Nat):Option Bool:=
 some (decide ((a:Int)≠(a:Int)))
theorem cH{x_ r}(h:g9 x_=some r):ba prog gl 277 [uG x_] (bG r):=
 cy bG func277 h λK=>aP c0 K []
def fQ(a:Nat)(y:Nat):Option Int:=
 (g9 a).bind λc=>(g9 y).bind λb=>bif c then(bif b then(some 0) else(some (-1))) else(bif b then(some 1) else(bif decide ((a:Int)<(y:Int)) then(some (-1)) else(bif decide ((y:Int)<(a:Int)) then(some 1) else(some 0))))
theorem rG{x_ y r}(h:fQ x_ y=some r):ba prog gl 179 [uG x_,uG y] (iG r):=
 cy iG func179 h λK=>ak λc e2=>ak λd e4=>aw [hf 10 (cH gl e4)]<|kV (λb5=>aw [hf 8 (cF (cH gl e2) b5)]<|kV (λa=>aw [hf 10 (cF (cH gl e4) a)]<|aP c0 K []) λa=>aw [hf 10 (cF (cH gl e4) a)]<|aP c0 K []) λb5=>aw [hf 8 (cF (cH gl e2) b5)]<|kV (λb=>aw [hf 10 (cF (cH gl e4) b)]<|aP c0 K []) λb=>aw [hf 10 (cF (cH gl e4) b)]<|aF 16 (aP c0 K [])<|aF 19 (aP c0 K [])<|aP c0 K []
def pE(a:DIdent)(b:DIdent):Option Bool:=
 (f8 a.By b.By).bind λc=>(f8 a.Seq b.Seq).bind λd=>(fQ a.Sum b.Sum).bind λe=>(iy ([c,d,e]:List Int)).bind λf=>some (decide (f<0))
theorem ox{a b r}(h:pE a b=some r):ba prog gl 108 [.agg (aj a),.agg (aj b)] (bG r):=
 cy bG func108 h λK=>ak λc e2=>ak λd e4=>ak λe e6=>ak λf e8=>aw [hf 9 (mQ gl e2),hf 14 (mQ gl e4),hf 19 (rG gl e6),hq 21 [aE cZ ([c,d,e]:List Int)] [hc (rZ.al ([c,d,e]:List Int))] (FT gl e8)]<|aP c0 K []
def wz(a:DHoldName)(b:DHoldName):Option Int:=
 (pE a.commit b.commit).bind λc=>bif c then(some (-1)) else((pE b.commit a.commit).bind λd=>bif d then(some 1) else(some (wI (a.n-b.n))))
theorem yW{a b r}(h:wz a b=some r):ba prog gl 54 [.agg (bj a),.agg (bj b)] (iG r):=
 cy iG func54 h λK=>ak λd e2=>kV (λb3=>aw [hf 10 (cF (ox gl e2) b3)]<|aP c0 K []) λb3=>ak λe e5=>aw [hf 10 (cF (ox gl e2) b3)]<|kV (λc=>aw [hf 16 (cF (ox gl e5) c)]<|aP c0 K []) λc=>aw [hf 16 (cF (ox gl e5) c)]<|aP c0 K []
def nw(b:DHoldHold)(a:DHoldName):Option DTerm:=
 bif decide (a=(⟨⟨0,0,0⟩,0⟩:DHoldName)) then(some ⟨1,⟨0,0,0⟩,b.device,0⟩) else(some ⟨3,a.commit,a.n,0⟩)
theorem xX{h_ x_ r}(h:nw h_ x_=some r):ba prog gl 25 [.ptr (Cd h_) 0,.agg (bj x_)] (.agg (fT r)):=
 cy (λr=> .agg (fT r)) func25 h λK=>kV (λb1=>aw [hV 7 (cV (yV x_ (⟨⟨0,0,0⟩,0⟩:DHoldName) rfl) b1)]<|aP c0 K []) λb1=>aw [hV 7 (cV (yV x_ (⟨⟨0,0,0⟩,0⟩:DHoldName) rfl) b1)]<|aP c0 K []
def iX(s:A4W)(n:Int):Option Bool:=
 (aS ([s.a0,s.a1,s.a2,s.a3]:List Nat) (wI (Int.tdiv n 64))).bind λa=>(wJ (Int.tmod n 64)).bind λb=>some (decide (((bD (cw a b) 1:Nat):Int)=((1:Nat):Int)))
def iY(s:List Int)(f:Int->Option Bool)(s1:Int):Option ((Int)⊕(Unit⊕Int)):=
 bif decide (s1<ah s) then((aS s s1).bind λa=>(f a).bind λb=>bif b then(some (.inr (.inr s1))) else(some (.inl (wI (s1+1))))) else(some (.inr (.inl ())))
def gK(s:List Int)(f:Int->Option Bool):Option Int:=
 (loop (iY s f) 0).bind λa=>ma a (λb=>some (-1)) (λq=>some q)
theorem pF{s:List Int}{f:Int->Option Bool}(a:FnV prog gl fi_f fa_f fc_f (λx:Int=>[iG x]) (λx:Bool=>bG x) f){r:Int}(h:gK s f=some r):ba prog gl 138 [aE cZ s,.clo (.func fi_f) fa_f fc_f] (iG r):=
 cy iG func138 h λK=>qf 1101 110122 (λi=>sg [] []) (λs1=>sf [] [(7,iG (ah s)),(8,iG s1)]) [hc (a.im)] K (λi=>aP c0 K []) λs1 k5 j k6=>aF 9 (ak λd e=>ak λk g=>aw [hv 14 (rZ.ixZ e),hv 15 (rZ.p1Z tZ e)]<|kV (λb=>aw [hz 16 [] (cS (a.cs (c:=0) g (aY (aG 20 (iG d) aH) (bf))) b)]<|aP c3 k6 []) λb=>aw [hz 16 [] (cS (a.cs (c:=0) g (aY (aG 20 (iG d) aH) (bf))) b)]<|cj k5 [hc (a.im)])<|aA c2 j []
def fq(s:List Int)(f:Int->Option Bool):Option Bool:=
 (gK s f).bind λa=>some (decide (0<=a))
theorem ml{s:List Int}{f:Int->Option Bool}(a:FnV prog gl fi_f fa_f fc_f (λx:Int=>[iG x]) (λx:Bool=>bG x) f)(h:fq s f=some r):ba prog gl 75 [aE cZ s,.clo (.func fi_f) fa_f fc_f] (bG r):=
 cy bG func75 h λK=>ak λb e2=>aw [hz 7 [] (jf (c:=0) aH (pF gl (a) e2) (aY (aG 20 (aE cZ s) aH) (aY (a.im) (bf))))]<|aP c0 K []
def cU(s:List DIdent):Option (List DIdent):=aT 24 [] s
theorem jY{r:List DIdent}(h:cU s=some r):iV prog gl 163 [aE aj s] 50 r.length (r.flatMap aj):=by
 unfold cU at h;refine OW func163 ?_;refine pO 1100 (s0 8 gl [(0,aE aj s)] [] 0 0) [] [] ?_;refine IA 0 3 4 27 50 rfl (cm aH) (cm aH) λb hb=>?_;cases b
 .exact EI [eu 7 ac h] (ac.imm _)
 .obtain rfl:=ac.isNil (hb rfl);obtain rfl:=mV h;exact EI [] (ac.imm [])
theorem rH{r:List DIdent}(h:cU s=some r):ba prog gl 163 [aE aj s] (aE aj r):=(jY gl h).fn ac.sz (ac.len _) (ac.imm _)
def de(s:List UInt8):Option (List UInt8):=aT 1 [] s
theorem tj{s r:List UInt8}(h:de s=some r):iV prog gl 164 [aE cY s] 5 r.length (r.flatMap cY):=by
 unfold de at h;refine OW func164 ?_;refine pO 1100 (s0 8 gl [(0,aE cY s)] [] 0 0) [] [] ?_;refine IA 0 3 4 44 5 rfl (cm aH) (cm aH) λb hb=>?_;cases b
 .exact EI [eu 7 rY h] (rY.imm _)
 .obtain rfl:=rY.isNil (hb rfl);obtain rfl:=mV h;exact EI [] (rY.imm [])
theorem kD{s r:List UInt8}(h:de s=some r):ba prog gl 164 [aE cY s] (aE cY r):=(tj gl h).fn rY.sz (rY.len _) (rY.imm _)
def dK(s:List Nat):Option (List Nat):=aT 8 [] s
theorem p9{s r:List Nat}(h:dK s=some r):iV prog gl 165 [aE cW s] 23 r.length (r.flatMap cW):=by
 unfold dK at h;refine OW func165 ?_;refine pO 1100 (s0 8 gl [(0,aE cW s)] [] 0 0) [] [] ?_;refine IA 0 3 4 47 23 rfl (cm aH) (cm aH) λb hb=>?_;cases b
 .exact EI [eu 7 rW h] (rW.imm _)
 .obtain rfl:=rW.isNil (hb rfl);obtain rfl:=mV h;exact EI [] (rW.imm [])
theorem qa{s r:List Nat}(h:dK s=some r):ba prog gl 165 [aE cW s] (aE cW r):=(p9 gl h).fn rW.sz (rW.len _) (rW.imm _)
def fF(s:List Int):Option (List Int):=aT 8 [] s
theorem uK{s r:List Int}(h:fF s=some r):iV prog gl 166 [aE cZ s] 3 r.length (r.flatMap cZ):=by
 unfold fF at h;refine OW func166 ?_;refine pO 1100 (s0 8 gl [(0,aE cZ s)] [] 0 0) [] [] ?_;refine IA 0 3 4 22 3 rfl (cm aH) (cm aH) λb hb=>?_;cases b
 .exact EI [eu 7 rZ h] (rZ.imm _)
 .obtain rfl:=rZ.isNil (hb rfl);obtain rfl:=mV h;exact EI [] (rZ.imm [])
theorem uL{s r:List Int}(h:fF s=some r):ba prog gl 166 [aE cZ s] (aE cZ r):=(uK gl h).fn rZ.sz (rZ.len _) (rZ.imm _)
def dx(s:List DBox):Option (List DBox):=aT 32 [] s
theorem uM{s r:List DBox}(h:dx s=some r):iV prog gl 167 [aE cz s] 249 r.length (r.flatMap cz):=by
 unfold dx at h;refine OW func167 ?_;refine pO 1100 (s0 8 gl [(0,aE cz s)] [] 0 0) [] [] ?_;refine IA 0 3 4 94 249 rfl (cm aH) (cm aH) λb hb=>?_;cases b
 .exact EI [eu 7 dl h] (dl.imm _)
 .obtain rfl:=dl.isNil (hb rfl);obtain rfl:=mV h;exact EI [] (dl.imm [])
theorem lU{s r:List DBox}(h:dx s=some r):ba prog gl 167 [aE cz s] (aE cz r):=(uM gl h).fn dl.sz (dl.len _) (dl.imm _)
def gt(s:List DNode):Option (List DNode):=aT 32 [] s
theorem tk{s r:List DNode}(h:gt s=some r):iV prog gl 168 [aE bY s] 102 r.length (r.flatMap bY):=by
 unfold gt at h;refine OW func168 ?_;refine pO 1100 (s0 8 gl [(0,aE bY s)] [] 0 0) [] [] ?_;refine IA 0 3 4 93 102 rfl (cm aH) (cm aH) λb hb=>?_;cases b
 .exact EI [eu 7 bZ h] (bZ.imm _)
 .obtain rfl:=bZ.isNil (hb rfl);obtain rfl:=mV h;exact EI [] (bZ.imm [])
def fu(s:List DSealed):Option (List DSealed):=aT 48 [] s
theorem qb{s r:List DSealed}(h:fu s=some r):iV prog gl 169 [aE bp s] 196 r.length (r.flatMap bp):=by
 unfold fu at h;refine OW func169 ?_;refine pO 1100 (s0 8 gl [(0,aE bp s)] [] 0 0) [] [] ?_;refine IA 0 3 4 95 196 rfl (cm aH) (cm aH) λb hb=>?_;cases b
 .exact EI [eu 7 bH h] (bH.imm _)
 .obtain rfl:=bH.isNil (hb rfl);obtain rfl:=mV h;exact EI [] (bH.imm [])
def jC(b:List DSealed)(a:List DSealed×Int):Option ((List DSealed×Int)⊕(List DSealed)):=
 bif decide (a.2<ah b) then((aS a.1 a.2).bind λc=>(de c.Body).bind λd=>(aS a.1 a.2).bind λe=>(ji a.1 a.2 ({e with Body:=d})).bind λf=>some (.inl (f,wI (a.2+1)))) else(some (.inr a.1))
def jD(b:List DNode)(a:List DNode×Int):Option ((List DNode×Int)⊕(List DNode)):=
 bif decide (a.2<ah b) then((aS a.1 a.2).bind λc=>(dx c.Boxes).bind λd=>(aS a.1 a.2).bind λe=>(ji a.1 a.2 ({e with Boxes:=d})).bind λf=>some (.inl (f,wI (a.2+1)))) else(some (.inr a.1))
def pG(o:DOp):Option DOp:=
 (cU o.Past).bind λe=>(de o.Body).bind λf=>(dK o.Refs).bind λg=>(fF o.Guards).bind λh=>(dx o.Boxes).bind λi=>(gt o.Path).bind λa=>(fu o.Hist).bind λb=>(loop (jD a) (a,0)).bind λc=>(loop (jC b) (b,0)).bind λd=>some ({o with Past:=e,Path:=c,Body:=f,Refs:=g,Guards:=h,Boxes:=i,Hist:=d})
theorem Ds{o r}(h:pG o=some r):ba prog gl 96 [.agg (aJ o)] (.agg (aJ r)):=
 cy (λr=> .agg (aJ r)) func96 h λK=>ak λp e2=>ak λq e4=>ak λs e6=>ak λt e8=>ak λu e10=>ak λe v=>ak λa w=>aw [hf 7 (rH gl e2),hf 10 (kD gl e4),hf 13 (qa gl e6),hf 16 (uL gl e8),hf 19 (lU gl e10),hz 27 [] (Gi (c:=2) aH (tk gl v) (eB aH) (bZ.imm e)),hz 30 [] (Gi (c:=3) aH (qb gl w) (eB aH) (bH.imm a))]<|gA 111101 11110122 (λf=>sp [] [(1,.ref 0 0),(2,.ref 2 0)] [ob 0 99 [iG o.By,iG o.Seq,iG o.Kind,iG o.At,aE aj p,iG o.Device,iG o.Old,iG o.Member,iG o.Role,aE bY f,iG o.Epoch.By,iG o.Epoch.Seq,uG o.Epoch.Sum,iG o.N,aE cY q,aE cW s,iG o.Of.By,iG o.Of.Seq,uG o.Of.Sum,aE cZ t,iG o.Need,iG o.Wait,aE cz u,uG o.Pub,.rsl 1 0 a.length,uG o.Sig.R,uG o.Sig.S],ob 1 196 (a.flatMap bp),ob 2 99 (bF [4,9,14,15,19,22,24] (aJ ip))] 3) (λb=>sp [] [(1,.ref 0 0),(2,.ref 3 0),(35,iG (ah e)),(36,iG b.2)] [ob 0 99 [iG o.By,iG o.Seq,iG o.Kind,iG o.At,aE aj p,iG o.Device,iG o.Old,iG o.Member,iG o.Role,.rsl 1 0 b.1.length,iG o.Epoch.By,iG o.Epoch.Seq,uG o.Epoch.Sum,iG o.N,aE cY q,aE cW s,iG o.Of.By,iG o.Of.Seq,uG o.Of.Sum,aE cZ t,iG o.Need,iG o.Wait,aE cz u,uG o.Pub,.rsl 2 0 a.length,uG o.Sig.R,uG o.Sig.S],ob 1 102 (b.1.flatMap bY),ob 2 196 (a.flatMap bp),ob 3 99 (bF [4,9,14,15,19,22,24] (aJ ip))] 4) [hc (el e),hc (el a),hc (bZ.imm e),hc (bH.imm a)] (ρ:=[(0,0),(1,2),(2,3),(3,1)]) (kd:=[(1,.row),(2,.row)]) (λf=>gA 1111101 111110122 (λj=>sx [] [(2,.ref 1 0)] [ob 0 99 (aJ ({o with Past:=p,Path:=f,Body:=q,Refs:=s,Guards:=t,Boxes:=u,Hist:=j})),ob 1 99 (bF [4,9,14,15,19,22,24] (aJ ip))] 2) (λd=>so [] [(54,iG (ah a)),(55,iG d.2)] [ob 0 99 [iG o.By,iG o.Seq,iG o.Kind,iG o.At,aE aj p,iG o.Device,iG o.Old,iG o.Member,iG o.Role,aE bY f,iG o.Epoch.By,iG o.Epoch.Seq,uG o.Epoch.Sum,iG o.N,aE cY q,aE cW s,iG o.Of.By,iG o.Of.Seq,uG o.Of.Sum,aE cZ t,iG o.Need,iG o.Wait,aE cz u,uG o.Pub,.rsl 1 0 d.1.length,uG o.Sig.R,uG o.Sig.S],ob 1 196 (d.1.flatMap bp)] 3) [hc (el a),hc (bH.imm a)] (ρ:=rI 3) (kd:=[(1,.row)]) (λj=>aP c0 K []) λd x y=>aF 56 (ak λI k=>ak λz A=>ak λJ B=>ak λl g=>aw [hv 64 (bH.ixrZ 1 k),hv 66 (bH.fd0Z tLY 3 k),hf 67 (kD gl A),hv 68 (bH.ixsZ 1 g),hw 69 (l.flatMap bp) (bH.putF g B 3 1 (gs:=[aE cY z]) rfl a9 rfl)]<|cj x [hc (hZ g),hc (bH.imm l)] (ρ:=rI 3) (kd:=[(1,.row)]))<|aA c1 y [hc (bH.al d.1)] (ρ:=[(0,0),(1,2)])) λb C D=>aF 37 (ak λL m=>ak λE F=>ak λM H=>ak λn i=>aw [hv 45 (bZ.ixrZ 1 m),hv 47 (bZ.fd0Z E3 1 m),hf 48 (lU gl F),hv 49 (bZ.ixsZ 1 i),hw 50 (n.flatMap bY) (bZ.putF i H 1 1 (gs:=[aE cz E]) rfl a9 rfl)]<|cj C [hc (hZ i),hc (el a),hc (bZ.imm n),hc (bH.imm a)] (ρ:=rI 4) (kd:=[(1,.row),(2,.row)]))<|aA c1 D [hc (bZ.al b.1),hc (el a),hc (bH.imm a)] (ρ:=[(0,0),(1,2),(2,3)]) (kd:=[(1,.row)])
def gv(s:List DCard):Option (List DCard):=aT 40 [] s
theorem tn{s r:List DCard}(h:gv s=some r):iV prog gl 92 [aE bv s] 129 r.length (r.flatMap bv):=by
 unfold gv at h;refine OW func92 ?_;refine pO 1100 (s0 8 gl [(0,aE bv s)] [] 0 0) [] [] ?_;refine IA 0 3 4 25 129 rfl (cm aH) (cm aH) λb hb=>?_;cases b
 .exact EI [eu 7 bT h] (bT.imm _)
 .obtain rfl:=bT.isNil (hb rfl);obtain rfl:=mV h;exact EI [] (bT.imm [])
end
section
set_option maxHeartbeats 2000000
attribute [local irreducible] Tr dz Gp
def dj(s:List DIdent)(f:DIdent->Option Bool)(s1:Int):Option ((Int)⊕(Unit⊕Int)):=
 bif decide (s1<ah s) then((aS s s1).bind λa=>(f a).bind λb=>bif b then(some (.inr (.inr s1))) else(some (.inl (wI (s1+1))))) else(some (.inr (.inl ())))
def da(s:List DIdent)(f:DIdent->Option Bool):Option Int:=
 (loop (dj s f) 0).bind λa=>ma a (λb=>some (-1)) (λq=>some q)
theorem gS{f:DIdent->Option Bool}(a:FnV prog gl fi_f fa_f fc_f (λx:DIdent=>[.agg (aj x)]) (λx:Bool=>bG x) f){r:Int}(h:da s f=some r):ba prog gl 136 [aE aj s,.clo (.func fi_f) fa_f fc_f] (iG r):=
 cy iG func136 h λK=>qf 1101 110122 (λi=>sg [] []) (λs1=>sf [] [(7,iG (ah s)),(8,iG s1)]) [hc (a.im)] K (λi=>aP c0 K []) λs1 k5 j k6=>aF 9 (ak λd e=>ak λk g=>aw [hv 14 (ac.ixZ e),hv 15 (ac.ptZ aW e)]<|kV (λb=>aw [hz 16 [] (cS (a.cs (c:=0) g (aY (aG 20 (.agg (aj d)) aH) (bf))) b)]<|aP c3 k6 []) λb=>aw [hz 16 [] (cS (a.cs (c:=0) g (aY (aG 20 (.agg (aj d)) aH) (bf))) b)]<|cj k5 [hc (a.im)])<|aA c2 j []
def ij(g:DGraphGraph)(device:Int)(s1:DCard×Int):Option ((DCard×Int)⊕(DCard⊕(DCard×Bool))):=
 bif decide (s1.2<ah g.cards) then((aS g.cards s1.2).bind λa=>bif decide (a.Device=device) then(some (.inr (.inr (a,true)))) else(some (.inl (s1.1,wI (s1.2+1))))) else(some (.inr (.inl s1.1)))
def hY(g:DGraphGraph)(device:Int):Option (DCard×Bool):=
 (loop (ij g device) (⟨0,0,0,0,0⟩,0)).bind λa=>ma a (λb=>some (⟨0,0,0,0,0⟩,false)) (λq=>some q)
theorem uN{g device r}(h:hY g device=some r):ba prog gl 98 [.ptr (di g) 0,iG device] (.tup [.agg (bv r.1),bG r.2]):=
 cy (λr=> .tup [.agg (bv r.1),bG r.2]) func98 h λK=>qf 1101 110122 (λa=>sp [] [(4,.ref 0 0)] [ob 0 129 (bv a)] 1) (λs1=>so [0] [(4,.ref 0 0),(11,aE bv g.cards),(12,iG (ah g.cards)),(13,iG s1.2)] [ob 0 129 (bv s1.1)] 1) [] K (λa=>aP c0 K []) λs1 k5 c k6=>aF 14 (ak λd b=>aw [hv 15 (bT.ixZ b),hv 16 (bT.ptZ E2 b)]<|aF 20 (aP c3 k6 [])<|cj k5 [])<|aA c2 c []
def ef(s:List DIdent)(f:DIdent->Option Bool):Option Bool:=
 (da s f).bind λa=>some (decide (0<=a))
theorem kP{f:DIdent->Option Bool}(a:FnV prog gl fi_f fa_f fc_f (λx:DIdent=>[.agg (aj x)]) (λx:Bool=>bG x) f)(h:ef s f=some r):ba prog gl 69 [aE aj s,.clo (.func fi_f) fa_f fc_f] (bG r):=
 cy bG func69 h λK=>ak λb e2=>aw [hz 7 [] (jf (c:=0) aH (gS gl (a) e2) (aY (aG 20 (aE aj s) aH) (aY (a.im) (bf))))]<|aP c0 K []
def Kp(a:DCard)(b:DCard):Option Int:=
 some (wI (a.Device-b.Device))
theorem Dt{a b r}(h:Kp a b=some r):ba prog gl 94 [.agg (bv a),.agg (bv b)] (iG r):=
 cy iG func94 h λK=>aP c0 K []
def FV(n:Int)(low:Int)(high:Int):Option Bool:=
 (bif decide (low<=n) then(some (decide (n<=high))) else(some false)).bind λa=>some a
theorem eE{n low high r}(h:FV n low high=some r):ba prog gl 236 [iG n,iG low,iG high] (bG r):=
 cy bG func236 h λK=>cN [1,0] (sf [] []) []<|cC [1,0] (λa=>sg [] [(6,bG a)]) (λa=>aP c0 K []) λa k3=>aF 9 (aA c0 k3 [])<|aA c0 k3 []
def Kq(n:Nat):Option Bool:=
 some (decide ((n:Int)<((2305843009213693951:Nat):Int)))
theorem Ak{n r}(h:Kq n=some r):ba prog gl 246 [uG n] (bG r):=
 cy bG func246 h λK=>aP c0 K []
def Al(a:DIdent):Option Bool:=
 ((FV a.By 1 12).bind λd=>bif d then((FV a.Seq 1 2147483647).bind λb=>bif b then((Kq a.Sum).bind λc=>some c) else(some false)) else(some false)).bind λe=>some e
theorem pH{id_ r}(h:Al id_=some r):ba prog gl 237 [.agg (aj id_)] (bG r):=
 cy bG func237 h λK=>cN [1,0] (sp [] [(1,.ref 0 0)] [ob 0 50 (aj id_)] 1) []<|cC [1,0] (λa=>sk [] [(2,bG a)] [] 0) (λa=>aP c0 K []) λa k5=>ak λg e8=>kV (λb=>ak λe c=>aw [hf 5 (cF (eE gl e8) b),hf 9 (eE gl c)]<|aF 10 (ak λf d=>aw [hf 14 (Ak gl d)]<|aA c0 k5 [])<|aA c0 k5 []) λb=>aw [hf 5 (cF (eE gl e8) b)]<|aA c0 k5 []
def rJ(n:Nat):Option Bool:=
 (bif decide (((1:Nat):Int)<=(n:Int)) then(some (decide ((n:Int)<((2305843009213693951:Nat):Int)))) else(some false)).bind λa=>some a
theorem iz{n r}(h:rJ n=some r):ba prog gl 238 [uG n] (bG r):=
 cy bG func238 h λK=>cN [1,0] (sf [] []) []<|cC [1,0] (λa=>sg [] [(2,bG a)]) (λa=>aP c0 K []) λa k3=>aF 4 (aA c0 k3 [])<|aA c0 k3 []
def iZ(s:List DBox)(f:DBox->Option Bool)(s1:Int):Option ((Int)⊕(Unit⊕Int)):=
 bif decide (s1<ah s) then((aS s s1).bind λa=>(f a).bind λb=>bif b then(some (.inr (.inr s1))) else(some (.inl (wI (s1+1))))) else(some (.inr (.inl ())))
def gL(s:List DBox)(f:DBox->Option Bool):Option Int:=
 (loop (iZ s f) 0).bind λa=>ma a (λb=>some (-1)) (λq=>some q)
theorem pI{s:List DBox}{f:DBox->Option Bool}(a:FnV prog gl fi_f fa_f fc_f (λx:DBox=>[.agg (cz x)]) (λx:Bool=>bG x) f){r:Int}(h:gL s f=some r):ba prog gl 372 [aE cz s,.clo (.func fi_f) fa_f fc_f] (iG r):=
 cy iG func372 h λK=>qf 1101 110122 (λi=>sg [] []) (λs1=>sf [] [(7,iG (ah s)),(8,iG s1)]) [hc (a.im)] K (λi=>aP c0 K []) λs1 k5 j k6=>aF 9 (ak λd e=>ak λk g=>aw [hv 14 (dl.ixZ e),hv 15 (dl.ptZ UL e)]<|kV (λb=>aw [hz 16 [] (cS (a.cs (c:=0) g (aY (aG 20 (.agg (cz d)) aH) (bf))) b)]<|aP c3 k6 []) λb=>aw [hz 16 [] (cS (a.cs (c:=0) g (aY (aG 20 (.agg (cz d)) aH) (bf))) b)]<|cj k5 [hc (a.im)])<|aA c2 j []
def fw(s:List DBox)(f:DBox->Option Bool):Option Bool:=
 (gL s f).bind λa=>some (decide (0<=a))
theorem mm{s:List DBox}{f:DBox->Option Bool}(a:FnV prog gl fi_f fa_f fc_f (λx:DBox=>[.agg (cz x)]) (λx:Bool=>bG x) f)(h:fw s f=some r):ba prog gl 323 [aE cz s,.clo (.func fi_f) fa_f fc_f] (bG r):=
 cy bG func323 h λK=>ak λb e2=>aw [hz 7 [] (jf (c:=0) aH (pI gl (a) e2) (aY (aG 20 (aE cz s) aH) (aY (a.im) (bf))))]<|aP c0 K []
end
section
set_option maxHeartbeats 2000000
attribute [local irreducible] Tr dz Gp
def mR(b:DBox)(a1:DBox->Option Bool):Option Bool:=
 (a1 b).bind λa=>some (!a)
theorem Ce{x_:DBox}{a1:DBox->Option Bool}(a:FnV prog gl fi_a1 fa_a1 fc_a1 (λx:DBox=>[.agg (cz x)]) (λx:Bool=>bG x) a1)(h:mR x_ a1=some r):ba prog gl 324 [.agg (cz x_),.ptr [.clo (.func fi_a1) fa_a1 fc_a1] 0] (bG r):=
 cy bG func324 h λK=>ak λb e2=>aw [hz 6 [] (a.cs (c:=1) e2 (aY (aG 20 (.agg (cz x_)) aH) (bf)))]<|aP c0 K []
def oz(l:List DBox)(a:DBox->Option Bool):Option Bool:=
 (fw l (λz=>mR z a)).bind λb=>some (!b)
theorem wA{l:List DBox}{may:DBox->Option Bool}(a:FnV prog gl fi_may fa_may fc_may (λx:DBox=>[.agg (cz x)]) (λx:Bool=>bG x) may)(h:oz l may=some r):ba prog gl 240 [aE cz l,.clo (.func fi_may) fa_may fc_may] (bG r):=
 cy bG func240 h λK=>cN [1,0] (sf [1] [(3,.ptr [.clo (.func fi_may) fa_may fc_may] 0)]) [hc (a.im),hc (aY (a.im) (bf))]<|ak λb e2=>aw [hz 7 [] (jf (c:=0) aH (mm gl (⟨aH,bf,eB aH,λ_ _ e=>Ce gl a e⟩) e2) (aY (aG 20 (aE cz l) aH) (aY (aG 20 (.clo (.func 324) [] [.ptr [.clo (.func fi_may) fa_may fc_may] 0]) aH) (bf))))]<|aP c0 K []
def wB(b:DBox):Option Bool:=
 ((rJ b.To).bind λe=>bif e then((rJ b.Eph).bind λa=>bif a then((Kq b.Body).bind λc=>bif c then((Kq b.Tag).bind λd=>some d) else(some false)) else(some false)) else(some false)).bind λf=>some f
theorem Cf{b r}(h:wB b=some r):ba prog gl 241 [.agg (cz b)] (bG r):=
 cy bG func241 h λK=>cN [1,0] (sp [] [(1,.ref 0 0)] [ob 0 249 (cz b)] 1) []<|cC [1,0] (λa=>sk [] [(2,bG a)] [] 0) (λa=>aP c0 K []) λa k5=>ak λk e8=>kV (λc=>ak λg d=>aw [hf 5 (cF (iz gl e8) c),hf 9 (iz gl d)]<|aF 10 (ak λi e=>aw [hf 14 (Ak gl e)]<|aF 15 (ak λj f=>aw [hf 19 (Ak gl f)]<|aA c0 k5 [])<|aA c0 k5 [])<|aA c0 k5 []) λc=>aw [hf 5 (cF (iz gl e8) c)]<|aA c0 k5 []
def uP(n:DNode):Option Bool:=
 ((rJ n.Pub).bind λb=>bif b then((oz n.Boxes (λz=>wB z)).bind λa=>some a) else(some false)).bind λc=>some c
theorem Du{n r}(h:uP n=some r):ba prog gl 239 [.agg (bY n)] (bG r):=
 cy bG func239 h λK=>cN [1,0] (sp [] [(1,.ref 0 0)] [ob 0 102 (bY n)] 1) []<|cC [1,0] (λa=>sk [] [(2,bG a)] [] 0) (λa=>aP c0 K []) λa k5=>ak λf e8=>kV (λb=>ak λd c=>aw [hf 5 (cF (iz gl e8) b),hf 9 (wA gl (⟨aH,bf,eB aH,λ_ _ e=>Cf gl e⟩) c)]<|aA c0 k5 []) λb=>aw [hf 5 (cF (iz gl e8) b)]<|aA c0 k5 []
def uQ(s:DSealed):Option Bool:=
 (Al s.Of).bind λa=>some a
theorem Dv{s r}(h:uQ s=some r):ba prog gl 242 [.agg (bp s)] (bG r):=
 cy bG func242 h λK=>ak λa e2=>aw [hf 5 (pH gl e2)]<|aP c0 K []
def uR(n:Int):Option Bool:=
 (FV n 1 12).bind λa=>some a
theorem Dw{n r}(h:uR n=some r):ba prog gl 243 [iG n] (bG r):=
 cy bG func243 h λK=>ak λa e2=>aw [hf 4 (eE gl e2)]<|aP c0 K []
def mS(b:Int)(a1:Int->Option Bool):Option Bool:=
 (a1 b).bind λa=>some (!a)
theorem Cg{x_:Int}{a1:Int->Option Bool}(a:FnV prog gl fi_a1 fa_a1 fc_a1 (λx:Int=>[iG x]) (λx:Bool=>bG x) a1)(h:mS x_ a1=some r):ba prog gl 325 [iG x_,.ptr [.clo (.func fi_a1) fa_a1 fc_a1] 0] (bG r):=
 cy bG func325 h λK=>ak λb e2=>aw [hz 6 [] (a.cs (c:=0) e2 (aY (aG 20 (iG x_) aH) (bf)))]<|aP c0 K []
def sK(l:List Int)(a:Int->Option Bool):Option Bool:=
 (fq l (λz=>mS z a)).bind λb=>some (!b)
theorem FW{l:List Int}{may:Int->Option Bool}(a:FnV prog gl fi_may fa_may fc_may (λx:Int=>[iG x]) (λx:Bool=>bG x) may)(h:sK l may=some r):ba prog gl 244 [aE cZ l,.clo (.func fi_may) fa_may fc_may] (bG r):=
 cy bG func244 h λK=>cN [1,0] (sf [1] [(3,.ptr [.clo (.func fi_may) fa_may fc_may] 0)]) [hc (a.im),hc (aY (a.im) (bf))]<|ak λb e2=>aw [hz 7 [] (jf (c:=0) aH (ml gl (⟨aH,bf,eB aH,λ_ _ e=>Cg gl a e⟩) e2) (aY (aG 20 (aE cZ l) aH) (aY (aG 20 (.clo (.func 325) [] [.ptr [.clo (.func fi_may) fa_may fc_may] 0]) aH) (bf))))]<|aP c0 K []
def gF(s:List Nat)(f:Nat->Option Bool)(s1:Int):Option ((Int)⊕(Unit⊕Int)):=
 bif decide (s1<ah s) then((aS s s1).bind λa=>(f a).bind λb=>bif b then(some (.inr (.inr s1))) else(some (.inl (wI (s1+1))))) else(some (.inr (.inl ())))
def fx(s:List Nat)(f:Nat->Option Bool):Option Int:=
 (loop (gF s f) 0).bind λa=>ma a (λb=>some (-1)) (λq=>some q)
theorem mo{s:List Nat}{f:Nat->Option Bool}(a:FnV prog gl fi_f fa_f fc_f (λx:Nat=>[uG x]) (λx:Bool=>bG x) f){r:Int}(h:fx s f=some r):ba prog gl 373 [aE cW s,.clo (.func fi_f) fa_f fc_f] (iG r):=
 cy iG func373 h λK=>qf 1101 110122 (λi=>sg [] []) (λs1=>sf [] [(7,iG (ah s)),(8,iG s1)]) [hc (a.im)] K (λi=>aP c0 K []) λs1 k5 j k6=>aF 9 (ak λd e=>ak λk g=>aw [hv 14 (rW.ixZ e),hv 15 (rW.p1Z tW e)]<|kV (λb=>aw [hz 16 [] (cS (a.cs (c:=0) g (aY (aG 20 (uG d) aH) (bf))) b)]<|aP c3 k6 []) λb=>aw [hz 16 [] (cS (a.cs (c:=0) g (aY (aG 20 (uG d) aH) (bf))) b)]<|cj k5 [hc (a.im)])<|aA c2 j []
def dQ(s:List Nat)(f:Nat->Option Bool):Option Bool:=
 (fx s f).bind λa=>some (decide (0<=a))
theorem ku{s:List Nat}{f:Nat->Option Bool}(a:FnV prog gl fi_f fa_f fc_f (λx:Nat=>[uG x]) (λx:Bool=>bG x) f)(h:dQ s f=some r):ba prog gl 326 [aE cW s,.clo (.func fi_f) fa_f fc_f] (bG r):=
 cy bG func326 h λK=>ak λb e2=>aw [hz 7 [] (jf (c:=0) aH (mo gl (a) e2) (aY (aG 20 (aE cW s) aH) (aY (a.im) (bf))))]<|aP c0 K []
def ja(b:Nat)(a1:Nat->Option Bool):Option Bool:=
 (a1 b).bind λa=>some (!a)
theorem wC{x_:Nat}{a1:Nat->Option Bool}(a:FnV prog gl fi_a1 fa_a1 fc_a1 (λx:Nat=>[uG x]) (λx:Bool=>bG x) a1)(h:ja x_ a1=some r):ba prog gl 327 [uG x_,.ptr [.clo (.func fi_a1) fa_a1 fc_a1] 0] (bG r):=
 cy bG func327 h λK=>ak λb e2=>aw [hz 6 [] (a.cs (c:=0) e2 (aY (aG 20 (uG x_) aH) (bf)))]<|aP c0 K []
def kQ(l:List Nat)(a:Nat->Option Bool):Option Bool:=
 (dQ l (λz=>ja z a)).bind λb=>some (!b)
theorem zL{may:Nat->Option Bool}(a:FnV prog gl fi_may fa_may fc_may (λx:Nat=>[uG x]) (λx:Bool=>bG x) may)(h:kQ l may=some r):ba prog gl 245 [aE cW l,.clo (.func fi_may) fa_may fc_may] (bG r):=
 cy bG func245 h λK=>cN [1,0] (sf [1] [(3,.ptr [.clo (.func fi_may) fa_may fc_may] 0)]) [hc (a.im),hc (aY (a.im) (bf))]<|ak λb e2=>aw [hz 7 [] (jf (c:=0) aH (ku gl (⟨aH,bf,eB aH,λ_ _ e=>wC gl a e⟩) e2) (aY (aG 20 (aE cW l) aH) (aY (aG 20 (.clo (.func 327) [] [.ptr [.clo (.func fi_may) fa_may fc_may] 0]) aH) (bf))))]<|aP c0 K []
def jE(b:DIdent)(a1:DIdent->Option Bool):Option Bool:=
 (a1 b).bind λa=>some (!a)
theorem xY{x_:DIdent}{a1:DIdent->Option Bool}(a:FnV prog gl fi_a1 fa_a1 fc_a1 (λx:DIdent=>[.agg (aj x)]) (λx:Bool=>bG x) a1)(h:jE x_ a1=some r):ba prog gl 328 [.agg (aj x_),.ptr [.clo (.func fi_a1) fa_a1 fc_a1] 0] (bG r):=
 cy bG func328 h λK=>ak λb e2=>aw [hz 6 [] (a.cs (c:=1) e2 (aY (aG 20 (.agg (aj x_)) aH) (bf)))]<|aP c0 K []
def mU(l:List DIdent)(a:DIdent->Option Bool):Option Bool:=
 (ef l (λz=>jE z a)).bind λb=>some (!b)
theorem Ch{l:List DIdent}{may:DIdent->Option Bool}(a:FnV prog gl fi_may fa_may fc_may (λx:DIdent=>[.agg (aj x)]) (λx:Bool=>bG x) may)(h:mU l may=some r):ba prog gl 247 [aE aj l,.clo (.func fi_may) fa_may fc_may] (bG r):=
 cy bG func247 h λK=>cN [1,0] (sf [1] [(3,.ptr [.clo (.func fi_may) fa_may fc_may] 0)]) [hc (a.im),hc (aY (a.im) (bf))]<|ak λb e2=>aw [hz 7 [] (jf (c:=0) aH (kP gl (⟨aH,bf,eB aH,λ_ _ e=>xY gl a e⟩) e2) (aY (aG 20 (aE aj l) aH) (aY (aG 20 (.clo (.func 328) [] [.ptr [.clo (.func fi_may) fa_may fc_may] 0]) aH) (bf))))]<|aP c0 K []
def iA(s:List DNode)(f:DNode->Option Bool)(s1:Int):Option ((Int)⊕(Unit⊕Int)):=
 bif decide (s1<ah s) then((aS s s1).bind λa=>(f a).bind λb=>bif b then(some (.inr (.inr s1))) else(some (.inl (wI (s1+1))))) else(some (.inr (.inl ())))
def f9(s:List DNode)(f:DNode->Option Bool):Option Int:=
 (loop (iA s f) 0).bind λa=>ma a (λb=>some (-1)) (λq=>some q)
theorem oB{s:List DNode}{f:DNode->Option Bool}(a:FnV prog gl fi_f fa_f fc_f (λx:DNode=>[.agg (bY x)]) (λx:Bool=>bG x) f){r:Int}(h:f9 s f=some r):ba prog gl 374 [aE bY s,.clo (.func fi_f) fa_f fc_f] (iG r):=
 cy iG func374 h λK=>qf 1101 110122 (λi=>sg [] []) (λs1=>sf [] [(7,iG (ah s)),(8,iG s1)]) [hc (a.im)] K (λi=>aP c0 K []) λs1 k5 j k6=>aF 9 (ak λd e=>ak λk g=>aw [hv 14 (bZ.ixZ e),hv 15 (bZ.ptZ Pc e)]<|kV (λb=>aw [hz 16 [] (cS (a.cs (c:=0) g (aY (aG 20 (.agg (bY d)) aH) (bf))) b)]<|aP c3 k6 []) λb=>aw [hz 16 [] (cS (a.cs (c:=0) g (aY (aG 20 (.agg (bY d)) aH) (bf))) b)]<|cj k5 [hc (a.im)])<|aA c2 j []
def eQ(s:List DNode)(f:DNode->Option Bool):Option Bool:=
 (f9 s f).bind λa=>some (decide (0<=a))
theorem lV{s:List DNode}{f:DNode->Option Bool}(a:FnV prog gl fi_f fa_f fc_f (λx:DNode=>[.agg (bY x)]) (λx:Bool=>bG x) f)(h:eQ s f=some r):ba prog gl 329 [aE bY s,.clo (.func fi_f) fa_f fc_f] (bG r):=
 cy bG func329 h λK=>ak λb e2=>aw [hz 7 [] (jf (c:=0) aH (oB gl (a) e2) (aY (aG 20 (aE bY s) aH) (aY (a.im) (bf))))]<|aP c0 K []
def kR(b:DNode)(a1:DNode->Option Bool):Option Bool:=
 (a1 b).bind λa=>some (!a)
theorem zM{x_:DNode}{a1:DNode->Option Bool}(a:FnV prog gl fi_a1 fa_a1 fc_a1 (λx:DNode=>[.agg (bY x)]) (λx:Bool=>bG x) a1)(h:kR x_ a1=some r):ba prog gl 330 [.agg (bY x_),.ptr [.clo (.func fi_a1) fa_a1 fc_a1] 0] (bG r):=
 cy bG func330 h λK=>ak λb e2=>aw [hz 6 [] (a.cs (c:=1) e2 (aY (aG 20 (.agg (bY x_)) aH) (bf)))]<|aP c0 K []
def js(l:List DNode)(a:DNode->Option Bool):Option Bool:=
 (eQ l (λz=>kR z a)).bind λb=>some (!b)
theorem tK{l:List DNode}{may:DNode->Option Bool}(a:FnV prog gl fi_may fa_may fc_may (λx:DNode=>[.agg (bY x)]) (λx:Bool=>bG x) may)(h:js l may=some r):ba prog gl 248 [aE bY l,.clo (.func fi_may) fa_may fc_may] (bG r):=
 cy bG func248 h λK=>cN [1,0] (sf [1] [(3,.ptr [.clo (.func fi_may) fa_may fc_may] 0)]) [hc (a.im),hc (aY (a.im) (bf))]<|ak λb e2=>aw [hz 7 [] (jf (c:=0) aH (lV gl (⟨aH,bf,eB aH,λ_ _ e=>zM gl a e⟩) e2) (aY (aG 20 (aE bY l) aH) (aY (aG 20 (.clo (.func 330) [] [.ptr [.clo (.func fi_may) fa_may fc_may] 0]) aH) (bf))))]<|aP c0 K []
def gG(s:List DSealed)(f:DSealed->Option Bool)(s1:Int):Option ((Int)⊕(Unit⊕Int)):=
 bif decide (s1<ah s) then((aS s s1).bind λa=>(f a).bind λb=>bif b then(some (.inr (.inr s1))) else(some (.inl (wI (s1+1))))) else(some (.inr (.inl ())))
def fy(s:List DSealed)(f:DSealed->Option Bool):Option Int:=
 (loop (gG s f) 0).bind λa=>ma a (λb=>some (-1)) (λq=>some q)
theorem mq{s:List DSealed}{f:DSealed->Option Bool}(a:FnV prog gl fi_f fa_f fc_f (λx:DSealed=>[.agg (bp x)]) (λx:Bool=>bG x) f){r:Int}(h:fy s f=some r):ba prog gl 375 [aE bp s,.clo (.func fi_f) fa_f fc_f] (iG r):=
 cy iG func375 h λK=>qf 1101 110122 (λi=>sg [] []) (λs1=>sf [] [(7,iG (ah s)),(8,iG s1)]) [hc (a.im)] K (λi=>aP c0 K []) λs1 k5 j k6=>aF 9 (ak λd e=>ak λk g=>aw [hv 14 (bH.ixZ e),hv 15 (bH.ptZ GM e)]<|kV (λb=>aw [hz 16 [] (cS (a.cs (c:=0) g (aY (aG 20 (.agg (bp d)) aH) (bf))) b)]<|aP c3 k6 []) λb=>aw [hz 16 [] (cS (a.cs (c:=0) g (aY (aG 20 (.agg (bp d)) aH) (bf))) b)]<|cj k5 [hc (a.im)])<|aA c2 j []
def dR(s:List DSealed)(f:DSealed->Option Bool):Option Bool:=
 (fy s f).bind λa=>some (decide (0<=a))
theorem kw{s:List DSealed}{f:DSealed->Option Bool}(a:FnV prog gl fi_f fa_f fc_f (λx:DSealed=>[.agg (bp x)]) (λx:Bool=>bG x) f)(h:dR s f=some r):ba prog gl 331 [aE bp s,.clo (.func fi_f) fa_f fc_f] (bG r):=
 cy bG func331 h λK=>ak λb e2=>aw [hz 7 [] (jf (c:=0) aH (mq gl (a) e2) (aY (aG 20 (aE bp s) aH) (aY (a.im) (bf))))]<|aP c0 K []
def jb(b:DSealed)(a1:DSealed->Option Bool):Option Bool:=
 (a1 b).bind λa=>some (!a)
theorem wD{x_:DSealed}{a1:DSealed->Option Bool}(a:FnV prog gl fi_a1 fa_a1 fc_a1 (λx:DSealed=>[.agg (bp x)]) (λx:Bool=>bG x) a1)(h:jb x_ a1=some r):ba prog gl 332 [.agg (bp x_),.ptr [.clo (.func fi_a1) fa_a1 fc_a1] 0] (bG r):=
 cy bG func332 h λK=>ak λb e2=>aw [hz 6 [] (a.cs (c:=1) e2 (aY (aG 20 (.agg (bp x_)) aH) (bf)))]<|aP c0 K []
def gz(l:List DSealed)(a:DSealed->Option Bool):Option Bool:=
 (dR l (λz=>jb z a)).bind λb=>some (!b)
theorem pY{l:List DSealed}{may:DSealed->Option Bool}(a:FnV prog gl fi_may fa_may fc_may (λx:DSealed=>[.agg (bp x)]) (λx:Bool=>bG x) may)(h:gz l may=some r):ba prog gl 249 [aE bp l,.clo (.func fi_may) fa_may fc_may] (bG r):=
 cy bG func249 h λK=>cN [1,0] (sf [1] [(3,.ptr [.clo (.func fi_may) fa_may fc_may] 0)]) [hc (a.im),hc (aY (a.im) (bf))]<|ak λb e2=>aw [hz 7 [] (jf (c:=0) aH (kw gl (⟨aH,bf,eB aH,λ_ _ e=>wD gl a e⟩) e2) (aY (aG 20 (aE bp l) aH) (aY (aG 20 (.clo (.func 332) [] [.ptr [.clo (.func fi_may) fa_may fc_may] 0]) aH) (bf))))]<|aP c0 K []
def wE(n:DNode):Option Bool:=
 some (decide (ah n.Boxes<=12))
theorem H8{n r}(h:wE n=some r):ba prog gl 250 [.agg (bY n)] (bG r):=
 cy bG func250 h λK=>aP c0 K []
def wF(s:DSealed):Option Bool:=
 some (decide (ah s.Body<=208))
theorem H9{s r}(h:wF s=some r):ba prog gl 251 [.agg (bp s)] (bG r):=
 cy bG func251 h λK=>aP c0 K []
def FX(o:DOp):Option Bool:=
 (bif decide (12<ah o.Past) then(some true) else(bif decide (5<ah o.Path) then(some true) else((js o.Path (λz=>wE z)).bind λa=>bif(!a) then(some true) else(bif decide (208<ah o.Body) then(some true) else(bif decide (8<ah o.Refs) then(some true) else(bif decide (20<ah o.Hist) then(some true) else((gz o.Hist (λz=>wF z)).bind λb=>bif(!b) then(some true) else(some (decide (6<ah o.Guards)))))))))).bind λc=>bif c then(some true) else(bif decide (o.Kind=7) then((FV (ah o.Body) 1 20).bind λd=>some (!d)) else(bif decide (o.Kind=9) then(some (decide (ah o.Boxes≠ah o.Guards))) else(bif decide (o.Kind=10) then((FV (ah o.Boxes) 1 6).bind λe=>some (!e)) else(bif decide (o.Kind=11) then(some (decide (ah o.Boxes≠1))) else(some false)))))
theorem Es{o r}(h:FX o=some r):ba prog gl 162 [.agg (aJ o)] (bG r):=
 cy bG func162 h λK=>cN 111100 (sp [] [(1,.ref 0 0),(3,.clo (.func 250) [] []),(4,.clo (.func 251) [] [])] [ob 0 99 (aJ o)] 1) [hc (aG 20 (.clo (.func 250) [] []) aH),hc (aG 20 (.clo (.func 251) [] []) aH)]<|cC 111100 (λb=>sg [1] [(52,bG b)]) (λb=>eH [52] (aP c0 K [])<|aF 56 (ak λi e6=>aw [hf 60 (eE gl e6)]<|aP c0 K [])<|aF 63 (aP c0 K [])<|aF 72 (ak λj e10=>aw [hf 76 (eE gl e10)]<|aP c0 K [])<|aF 79 (aP c0 K [])<|aP c0 K []) λb a=>aF 8 (aA c0 a [])<|aF 14 (aA c0 a [])<|ak λf c=>aw [hf 19 (tK gl (⟨aH,bf,eB aH,λ_ _ e=>H8 gl e⟩) c)]<|aF 21 (aA c0 a [])<|aF 27 (aA c0 a [])<|aF 33 (aA c0 a [])<|aF 39 (aA c0 a [])<|ak λg d=>aw [hf 44 (pY gl (⟨aH,bf,eB aH,λ_ _ e=>H9 gl e⟩) d)]<|aF 46 (aA c0 a [])<|aA c0 a []
def eR(n:Nat):Option Nat:=
 bif decide (((2305843009213693951:Nat):Int)<=((wU (((bD n 2305843009213693951:Nat):Int)+((cw n 61:Nat):Int)):Nat):Int)) then(some (wU (((wU (((bD n 2305843009213693951:Nat):Int)+((cw n 61:Nat):Int)):Nat):Int)-((2305843009213693951:Nat):Int)))) else(some (wU (((bD n 2305843009213693951:Nat):Int)+((cw n 61:Nat):Int))))
theorem dr{n r}(h:eR n=some r):ba prog gl 110 [uG n] (uG r):=
 cy (λr:Nat=>uG r) func110 h λK=>aw [hV 4 (ju (P:=prog) (t:=23) n 2305843009213693951),hV 6 (nx (P:=prog) (t:=23) (k':= .u64) n 61),hb 7 (gV ((bD n 2305843009213693951:Nat):Int) ((cw n 61:Nat):Int))]<|aF 9 (aw [hb 11 (YH ((wU (((bD n 2305843009213693951:Nat):Int)+((cw n 61:Nat):Int)):Nat):Int) ((2305843009213693951:Nat):Int))]<|aP c0 K [])<|aP c0 K []
def sL(a:Nat)(y:Nat):Option (Nat×Nat):=
 some (wU (((wU (((wU (((cw a 32:Nat):Int)*((cw y 32:Nat):Int)):Nat):Int)+((cw (wU (((wU (((cw a 32:Nat):Int)*((bD y 4294967295:Nat):Int)):Nat):Int)+((cw (wU (((bD a 4294967295:Nat):Int)*((bD y 4294967295:Nat):Int))) 32:Nat):Int))) 32:Nat):Int)):Nat):Int)+((cw (wU (((bD (wU (((wU (((cw a 32:Nat):Int)*((bD y 4294967295:Nat):Int)):Nat):Int)+((cw (wU (((bD a 4294967295:Nat):Int)*((bD y 4294967295:Nat):Int))) 32:Nat):Int))) 4294967295:Nat):Int)+((wU (((bD a 4294967295:Nat):Int)*((cw y 32:Nat):Int)):Nat):Int))) 32:Nat):Int)),wU ((a:Int)*(y:Int)))
theorem FY{x_ y r}(h:sL x_ y=some r):ba prog gl 111 [uG x_,uG y] (.tup [uG r.1,uG r.2]):=
 cy (λr=> .tup [uG r.1,uG r.2]) func111 h λK=>aw [hV 15 (ju (P:=prog) (t:=23) x_ 4294967295),hV 17 (nx (P:=prog) (t:=23) (k':= .u64) x_ 32),hV 19 (ju (P:=prog) (t:=23) y 4294967295),hV 21 (nx (P:=prog) (t:=23) (k':= .u64) y 32),hb 24 (na ((bD x_ 4294967295:Nat):Int) ((bD y 4294967295:Nat):Int)),hb 27 (na ((cw x_ 32:Nat):Int) ((bD y 4294967295:Nat):Int)),hV 29 (nx (P:=prog) (t:=23) (k':= .u64) (wU (((bD x_ 4294967295:Nat):Int)*((bD y 4294967295:Nat):Int))) 32),hb 30 (gV ((wU (((cw x_ 32:Nat):Int)*((bD y 4294967295:Nat):Int)):Nat):Int) ((cw (wU (((bD x_ 4294967295:Nat):Int)*((bD y 4294967295:Nat):Int))) 32:Nat):Int)),hV 32 (ju (P:=prog) (t:=23) (wU (((wU (((cw x_ 32:Nat):Int)*((bD y 4294967295:Nat):Int)):Nat):Int)+((cw (wU (((bD x_ 4294967295:Nat):Int)*((bD y 4294967295:Nat):Int))) 32:Nat):Int))) 4294967295),hV 34 (nx (P:=prog) (t:=23) (k':= .u64) (wU (((wU (((cw x_ 32:Nat):Int)*((bD y 4294967295:Nat):Int)):Nat):Int)+((cw (wU (((bD x_ 4294967295:Nat):Int)*((bD y 4294967295:Nat):Int))) 32:Nat):Int))) 32),hb 38 (na ((bD x_ 4294967295:Nat):Int) ((cw y 32:Nat):Int)),hb 39 (gV ((bD (wU (((wU (((cw x_ 32:Nat):Int)*((bD y 4294967295:Nat):Int)):Nat):Int)+((cw (wU (((bD x_ 4294967295:Nat):Int)*((bD y 4294967295:Nat):Int))) 32:Nat):Int))) 4294967295:Nat):Int) ((wU (((bD x_ 4294967295:Nat):Int)*((cw y 32:Nat):Int)):Nat):Int)),hb 42 (na ((cw x_ 32:Nat):Int) ((cw y 32:Nat):Int)),hb 44 (gV ((wU (((cw x_ 32:Nat):Int)*((cw y 32:Nat):Int)):Nat):Int) ((cw (wU (((wU (((cw x_ 32:Nat):Int)*((bD y 4294967295:Nat):Int)):Nat):Int)+((cw (wU (((bD x_ 4294967295:Nat):Int)*((bD y 4294967295:Nat):Int))) 32:Nat):Int))) 32:Nat):Int)),hV 46 (nx (P:=prog) (t:=23) (k':= .u64) (wU (((bD (wU (((wU (((cw x_ 32:Nat):Int)*((bD y 4294967295:Nat):Int)):Nat):Int)+((cw (wU (((bD x_ 4294967295:Nat):Int)*((bD y 4294967295:Nat):Int))) 32:Nat):Int))) 4294967295:Nat):Int)+((wU (((bD x_ 4294967295:Nat):Int)*((cw y 32:Nat):Int)):Nat):Int))) 32),hb 47 (gV ((wU (((wU (((cw x_ 32:Nat):Int)*((cw y 32:Nat):Int)):Nat):Int)+((cw (wU (((wU (((cw x_ 32:Nat):Int)*((bD y 4294967295:Nat):Int)):Nat):Int)+((cw (wU (((bD x_ 4294967295:Nat):Int)*((bD y 4294967295:Nat):Int))) 32:Nat):Int))) 32:Nat):Int)):Nat):Int) ((cw (wU (((bD (wU (((wU (((cw x_ 32:Nat):Int)*((bD y 4294967295:Nat):Int)):Nat):Int)+((cw (wU (((bD x_ 4294967295:Nat):Int)*((bD y 4294967295:Nat):Int))) 32:Nat):Int))) 4294967295:Nat):Int)+((wU (((bD x_ 4294967295:Nat):Int)*((cw y 32:Nat):Int)):Nat):Int))) 32:Nat):Int)),hb 50 (na (x_:Int) (y:Int))]<|aP c0 K []
def jZ(a:Nat)(b:Nat):Option Nat:=
 (eR a).bind λd=>(eR b).bind λe=>(sL d e).bind λc=>(eR c.2).bind λf=>(eR (wU ((f:Int)+((fN c.1 3:Nat):Int)))).bind λg=>some g
theorem j0{a b r}(h:jZ a b=some r):ba prog gl 57 [uG a,uG b] (uG r):=
 cy (λr:Nat=>uG r) func57 h λK=>ak λe e2=>ak λf e4=>ak λc e6=>ak λd e8=>ak λg e10=>aw [hf 9 (dr gl e2),hf 11 (dr gl e4),hf 12 (FY gl e6),hf 16 (dr gl e8),hV 18 (Ks (P:=prog) (t:=23) (k':= .u64) c.1 3),hb 19 (gV (d:Int) ((fN c.1 3:Nat):Int)),hf 20 (dr gl e10)]<|aP c0 K []
def iB(n:Nat)(low:Nat)(high:Nat):Option Bool:=
 (bif decide ((low:Int)<=(n:Int)) then(some (decide ((n:Int)<=(high:Int)))) else(some false)).bind λa=>some a
theorem eS{n low high r}(h:iB n low high=some r):ba prog gl 266 [uG n,uG low,uG high] (bG r):=
 cy bG func266 h λK=>cN [1,0] (sf [] []) []<|cC [1,0] (λa=>sg [] [(6,bG a)]) (λa=>aP c0 K []) λa k3=>aF 9 (aA c0 k3 [])<|aA c0 k3 []
end
section
set_option maxHeartbeats 2000000
attribute [local irreducible] Tr dz Gp
def df(a:DIdent)(a1:DGraphGraph):Option Bool:=
 some ((a1.at_.get a).isSome)
theorem jk{id_ a1 r}(h:df id_ a1=some r):ba prog gl 174 [.agg (aj id_),.ptr [.ptr (di a1) 0] 0] (bG r):=
 cy bG func174 h λK=>aw [hm 12 (H7 a1.at_ id_)]<|aP c0 K []
def wG(a:Nat)(b:Nat):Option Nat:=
 (eR a).bind λc=>(eR b).bind λd=>(eR (wU ((c:Int)+(d:Int)))).bind λe=>some e
theorem Ia{a b r}(h:wG a b=some r):ba prog gl 376 [uG a,uG b] (uG r):=
 cy (λr:Nat=>uG r) func376 h λK=>ak λc e2=>ak λd e4=>ak λe e6=>aw [hf 6 (dr gl e2),hf 8 (dr gl e4),hb 9 (gV (c:Int) (d:Int)),hf 10 (dr gl e6)]<|aP c0 K []
end
section
variable {P:Program}
inductive Rounds (P:Program) (c:Code) (e:Exit) (s:St):Nat->St->Prop
 |last {st:St} (he:e≠ .normal) (h:Tr P c st (λe' s'=>e'=e/\s'=s)):Rounds P c e s 0 st
 |more {k:Nat} {st s1 s2:St} (h:Tr P c st (λe' s'=>e'= .normal/\s'=s1)) (hl:Le P s1 s2) (hr:Rounds P c e s k s2):Rounds P c e s (k+1) st
def jg(P:Program)(gl:List (Nat×List G))(f:FuncId)(gs:List G)(σ:aQ)(c:Nat)(r:G)(σ':aQ)(c':Nat):Prop:=
 aK P f=true/\∃fn body,P.funcs[f]?=some fn/\fn.body=some body/\gs.length<=fn.ntmps/\
  Tr P body ⟨fn.ntmps,gl,bQ 0 gs,σ,c,c,false⟩ (λe s=>(e= .normal\/e= .ret)/\s.gl=gl/\(∀k o,ag σ' k=some o->ag s.σ k=some o)/\s.c=c'/\∃a,fn.results.toList.mapM (jV P s)=some a/\r=iU a)
section
variable {ops:Array Oper} {K:St->Prop} {ty:TypeId} {pos:String} {af:Array Edge} {rest:List Oper} {n:Nat} {gl:List (Nat×List G)} {fr:Fr} {σ:aQ} {c p d j:Nat} {bars:List Nat} {rr:Bool}
end
section
variable {ops:Array Oper} {K:St->Prop} {ty:TypeId} {pos:String} {af:Array Edge} {rest:List Oper} {n:Nat} {gl:List (Nat×List G)} {fr:Fr} {σ:aQ} {c p d j:Nat} {bars:List Nat} {rr:Bool}
end
end
section
variable {P:Program} {ops:Array Oper} {K:St->Prop} {op:Op} {ty:TypeId} {pos:String} {af:Array Edge} {rest:List Oper} {n:Nat} {gl:List (Nat×List G)} {fr:Fr} {σ:aQ} {c p d j:Nat} {bars:List Nat} {rr:Bool} {gq:Option (Nat×Bool)}
end
def qg(κ:Nat->Option Nat):Nat->G->G
 |0,_=> .junk
 |n+1,g=>match g with
  | .lit v=> .lit v
  | .agg l=> .agg (l.map (qg κ n))
  | .tup l=> .tup (l.map (qg κ n))
  | .clo f a b=> .clo f (a.map (qg κ n)) (b.map (qg κ n))
  | .ifc t x=> .ifc t (qg κ n x)
  | .ref i o=>match κ i with|some k=> .ref k o|none=> .junk
  | .rsl i o m=>match κ i with|some k=> .rsl k o m|none=> .junk
  | .mref i=>match κ i with|some k=> .mref k|none=> .junk
  | .yld i=>match κ i with|some k=> .yld k|none=> .junk
  | .ptr l o=> .ptr l o
  | .sl l m=> .sl l m
  | .mp a b c d=> .mp a b c d
  | .junk=> .junk
theorem IG{β β2:Bm}{S:Nat->Prop}{w:World}{κ:Nat->Option Nat}(c:∀i k,κ i=some k->β2 k=β i):∀(n:Nat) (g:G) (v:Value),RV β S w g v->RV β2 S w (qg κ n g) v
 |0,g,v,h=> .junk v
 |n+1,g,v,h=>by
  have ih:=IG (w:=w) (S:=S) c n;have el:∀(l:List G) (us:Array Value),(∀(i:Nat) (g:G) (u:Value),l[i]?=some g->us[i]?=some u->RV β S w g u)->∀(i:Nat) (g:G) (u:Value),(l.map (qg κ n))[i]?=some g->us[i]?=some u->RV β2 S w g u:=λl us hl i g u hg hu=>by
   rw[List.getElem?_map] at hg;cases hx:l[i]? with
   |none=>rw[hx] at hg;cases hg
   |some x=>rw[hx] at hg;simp only[Option.map_some,bg] at hg;subst hg;exact ih x u (hl i x u hx hu)
  have im:∀(l:List G) (us:Array Value),(∀(i:Nat) (g:G) (u:Value),l[i]?=some g->us[i]?=some u->IV S w g u)->∀(i:Nat) (g:G) (u:Value),(l.map (qg κ n))[i]?=some g->us[i]?=some u->RV β2 S w g u:=λl us hl=>el l us λi g u h1 h2=> .imm _ _ (hl i g u h1 h2);cases h with
  |imm _ _ h=>
   cases h with
   |lit=>exact .imm _ _ (.lit v)
   |agg l us hl h1 h=>exact .agg _ us (by simpa using hl) h1 (im l us h)
   |tup l us hl h=>exact .tup _ us (by simpa using hl) (im l us h)
   |ptr l o b off us hs hb hc h1 h=>exact .imm _ _ (.ptr l o b off us hs hb hc h1 h)
   |sl l m a cap us hn hm ha h1 h=>exact .imm _ _ (.sl l m a cap us hn hm ha h1 h)
   |clo f a b fs cs hf hc h h'=>exact .clo f _ _ fs cs (by simpa using hf) (by simpa using hc) (im a fs h) (im b cs h')
   |ifc t x u h=>exact .ifc t _ u (ih x u (.imm _ _ h))
   |mp ks vs ns clock b ents hs hb ho hl hk hn h=>exact .imm _ _ (.mp ks vs ns clock b ents hs hb ho hl hk hn h)
  |agg l us hl h1 h=>exact .agg _ us (by simpa using hl) h1 (el l us h)
  |tup l us hl h=>exact .tup _ us (by simpa using hl) (el l us h)
  |clo f a b fs cs hf hc h h'=>exact .clo f _ _ fs cs (by simpa using hf) (by simpa using hc) (el a fs h) (el b cs h')
  |ifc t x u h=>exact .ifc t _ u (ih x u h)
  |ref i o b C h=>
   simp only[qg];cases hk:κ i with
   |none=>exact .junk _
   |some k=>exact .ref k o b C (by rw[c i k hk];exact h)
  |rsl0 i o h=>
   simp only[qg];cases hk:κ i with
   |none=>exact .junk _
   |some k=>exact .rsl0 k o (by rw[c i k hk];exact h)
  |rsl i o m b C o' cap h hn hm ho hC=>
   simp only[qg];cases hk:κ i with
   |none=>exact .junk _
   |some k=>exact .rsl k o m b C o' cap (by rw[c i k hk];exact h) hn hm ho hC
  |mref i b C h=>
   simp only[qg];cases hk:κ i with
   |none=>exact .junk _
   |some k=>exact .mref k b C (by rw[c i k hk];exact h)
  |yld i b C h=>
   simp only[qg];cases hk:κ i with
   |none=>exact .junk _
   |some k=>exact .yld k b C (by rw[c i k hk];exact h)
  |junk=>exact .junk v
def Wu(κ:Nat->Option Nat)(l a:List G):Prop:=a=l.map (qg κ 20)\/(a=l/\∀g∈l,bB g)
def RnE(κ:Nat->Option Nat)(l a:List (Value×G×Nat)):Prop:=a=l.map (λe=>(e.1,qg κ 20 e.2.1,e.2.2))\/(a=l/\∀e∈l,bB e.2.1)
def MB(κ:Nat->Option Nat)(o a:Ob):Prop:=a.t=o.t/\match o.x,a.x with
 |none,none=>Wu κ o.l a.l
 |some (.map es c),some (.map es' c')=>o.l=[]/\a.l=[]/\c'=c/\RnE κ es es'
 |_,_=>False
theorem Wu.get{β β2:Bm}{S:Nat->Prop}{w:World}{κ:Nat->Option Nat}{l l':List G}(h:Wu κ l l')(a:∀i k,κ i=some k->β2 k=β i){j:Nat}{g':G}(hg:l'[j]?=some g'):∃g,l[j]?=some g/\∀v,RV β S w g v->RV β2 S w g' v:=by
 rcases h with rfl|⟨rfl,hi⟩
 .rw[List.getElem?_map] at hg;cases hx:l[j]? with
  |none=>rw[hx] at hg;cases hg
  |some x=>rw[hx] at hg;simp only[Option.map_some,bg] at hg;subst hg;exact⟨x,rfl,λv hv=>IG a 20 x v hv⟩
 .exact⟨g',hg,λv hv=> .imm _ _ (hi g' (bO hg) _ _ _ _ hv)⟩
theorem Wu.len{κ:Nat->Option Nat}{l l':List G}(h:Wu κ l l'):l'.length=l.length:=by
 rcases h with rfl|⟨rfl,_⟩
 .simp
 .rfl
theorem U8{β β2:Bm}{S:Nat->Prop}{w:World}{κ:Nat->Option Nat}(p:∀i k,κ i=some k->β2 k=β i){k:Nat}{o o':Ob}(h:RO P β S w i o)(hr:MB κ o o')(hk:β2 k=β i):RO P β2 S w k o':=by
 obtain⟨t,l,x⟩:=o;obtain⟨E,r,a⟩:=o';obtain⟨e,hr⟩:=hr;simp only at e hr;subst e;rcases h with⟨h1,h2,h3⟩|⟨b,y,q,h1,h2,h3,h4,h5⟩|⟨b,C,cur,hx,h1,h2,h3,h4,h5,h6⟩
 .simp only at h2 h3;rcases h3 with rfl|rfl
  .cases a with
   |some a=>exact hr.elim
   |none=>exact .inl ⟨hk.trans h1,by have:=hr.len;rw[h2] at this;exact List.eq_nil_of_length_eq_zero this,.inl rfl⟩
  .cases a<;>exact hr.elim
 .simp only at h1 h2;subst h1;cases y with
  |map es c=>
   cases a with
   |none=>exact hr.elim
   |some a=>
    cases a with
    |map es' c'=>
     obtain⟨_,e1,rfl,he⟩:=hr;refine .inr (.inl ⟨b,_,q,rfl,e1,hk.trans h3,h4,?_⟩);obtain⟨ents,g1,g2,f⟩:=h5;rcases he with rfl|⟨rfl,hi⟩
     .refine⟨ents,g1,by simpa using g2,λj s g n hj=>?_⟩;rw[List.getElem?_map] at hj;cases hx:es[j]? with
      |none=>rw[hx] at hj;cases hj
      |some z=>obtain⟨v,m,A⟩:=z;rw[hx] at hj;simp only[Option.map_some,bg,Prod.mk.injEq] at hj;obtain⟨rfl,rfl,rfl⟩:=hj;obtain⟨e,e1,e2,e3,e4⟩:=f j v m A hx;exact⟨e,e1,e2,e3,IG p 20 m _ e4⟩
     .refine⟨ents,g1,g2,λj s g n hj=>?_⟩;obtain⟨e,e1,e2,e3,e4⟩:=f j s g n hj;exact⟨e,e1,e2,e3,.imm _ _ (hi _ (bO hj) _ _ _ _ e4)⟩
    |iter _ _ _ _=>exact hr.elim
    |loop _ _ _ _ _ _ _=>exact hr.elim
    |resv=>exact hr.elim
  |iter _ _ _ _=>cases a<;>exact hr.elim
  |loop _ _ _ _ _ _ _=>cases a<;>exact hr.elim
  |resv=>cases a<;>exact hr.elim
 .simp only at hx h2 h3 h5 h6;subst hx;cases a with
  |some a=>exact hr.elim
  |none=>have hl:r.length=l.length:=Wu.len hr;refine .inr (.inr ⟨b,C,cur,rfl,hk.trans h1,h2,h3,h4,by show r.length<=_;omega,λj g hg=>?_⟩);obtain⟨g0,d,hv⟩:=Wu.get (S:=S) (w:=w) hr p hg;obtain⟨u,u1,B,D⟩:=h6 j g0 d;exact⟨u,u1,B,hv u D⟩
def vi(L:List Nat)(i:Nat):Option Nat:=L.findIdx? (Nat.beq · i)
def eD(L:List Nat)(c:Nat)(k:Nat):Option Nat:=match L[k]? with
 |some i=>some i
 |none=>some (c+(k-L.length))
theorem QX{k:Nat}(h:vi L i=some k):L[k]?=some i:=by unfold vi at h;obtain⟨hk,e,_⟩:=List.findIdx?_eq_some_iff_getElem.1 h;rw[cv hk,bc e]
theorem Tz{c k j:Nat}(h:eD L c k=some i)(h':eD L c k=some j):i=j:=by rw[h] at h';cases h';rfl
section
variable {P:Program}
def Xx(P:Program)(gl:List (Nat×List G))(f:FuncId)(gs:List G)(σ:aQ)(c:Nat){ι:Type}(r:ι->G)(σ':ι->aQ)(c':ι->Nat):Prop:=
 aK P f=true/\∃fn body,P.funcs[f]?=some fn/\fn.body=some body/\gs.length<=fn.ntmps/\
  Tr P body ⟨fn.ntmps,gl,bQ 0 gs,σ,c,c,false⟩ (λe s=>(e= .normal\/e= .ret)/\s.gl=gl/\∃x,(∀k o,ag (σ' x) k=some o->ag s.σ k=some o)/\s.c=c' x/\∃a,fn.results.toList.mapM (jV P s)=some a/\r x=iU a)
theorem MC{o:Oper}{st:St}{f:Operand}{xs:Array Operand}{ats:Array TypeId}{fid:FuncId}{fst cap:List G}(L:List Nat){gs0:List G}{σ0:aQ}{ι:Type}{r:ι->G}{σ1:ι->aQ}{c1:ι->Nat}(ho:o.op= .call {callee:= .value f,args:=xs,argTypes:=ats})(hd:H_d o st.n)(hf:aB st f= .clo (.func fid) fst cap)
  (hM:Xx P st.gl fid gs0 σ0 L.length r σ1 c1) (hL:∀(k i:Nat),L[k]?=some i->i<st.c) (hnd:L.Nodup) (hgs:gs0=(fst++xs.toList.map (aB st)++cap).map (qg (vi L) 20))
  (hin:∀(k i:Nat),L[k]?=some i->∃o o0,ag st.σ i=some o/\ag σ0 k=some o0/\MB (vi L) o o0) (h0:∀k o,ag σ0 k=some o->k<L.length)
  (τ:ι->aQ) (A:∀x i o,ag (τ x) i=some o->(∃k o1,eD L st.c k=some i/\ag (σ1 x) k=some o1/\MB (eD L st.c) o1 o)\/(ag st.σ i=some o/\i∉L)):
  th P o st (λs'=>∃x,s'={st with σ:=τ x,c:=st.c+(c1 x-L.length)}.put o.dst (qg (eD L st.c) 20 (r x))):=by
 obtain⟨hc,fn,body,V,hb,hn,hT⟩:=hM
 intro cx a w K R ⟨β,h⟩ M
 obtain⟨vs,hrun,hsz,hv⟩:=lQ h ho hf hc
 refine h.loose.oper (λc hc=>by rw[ho] at hc;cases hc) ?_
 unfold Oper.wp
 rw[hrun]
 have hlive:∀i o,ag st.σ i=some o->∃x,β i=some x:=λi o ho=>by
  rcases(h.ob i o ho).at with h1|⟨b,C,_,h1,_⟩
  .exact⟨_,h1⟩
  .exact⟨_,h1⟩
 have hbound:∀i o,ag st.σ i=some o->i<st.c:=λi ob ho=>by
  rcases Nat.lt_or_ge i st.c with hlt|hge
  .exact hlt
  .obtain⟨x,hx⟩:=hlive i ob ho;rw[h.fresh i hge] at hx;cases hx
 obtain⟨t,S⟩:∃t:Bm,t=λk=>match L[k]? with|some i=>β i|none=>none:=⟨_,rfl⟩
 have b0:∀{k i:Nat},L[k]?=some i->t k=β i:=λ{k i} hk=>by rw[S];simp only[hk]
 have b0n:∀{k:Nat},L.length<=k->t k=none:=λ{k} hk=>by rw[S];simp only[List.getElem?_eq_none hk]
 have hk0:∀{k:Nat} {o0:Ob},ag σ0 k=some o0->∃i o,L[k]?=some i/\i∈L/\ag st.σ i=some o/\MB (vi L) o o0:=λ{k o0} hk=>by have hlt:=h0 k o0 hk;have hi:L[k]?=some (L[k]'hlt):=cv hlt;obtain⟨o,Y,g1,g2,m⟩:=hin k _ hi;rw[hk] at g2;cases g2;exact⟨_,o,hi,List.getElem_mem hlt,g1,m⟩
 have hmem:∀{i:Nat},i∈L->∃k o0,L[k]?=some i/\ag σ0 k=some o0:=λ{i} hi=>by obtain⟨k,hk⟩:=List.getElem?_of_mem hi;obtain⟨o,o0,_,g2,_⟩:=hin k i hk;exact⟨k,o0,hk,g2⟩
 obtain⟨Hid,d⟩:∃Hid:Nat->Prop,Hid=λb=>cx.S0 b\/∃i ob C,ag st.σ i=some ob/\β i=some (some (b,C))/\i∉L:=⟨_,rfl⟩
 have hav0:∀b,Av Hid t σ0 b↔Av cx.S0 β st.σ b:=λb=>by
  rw[d];constructor
  .rintro((hb|⟨i,ob,C,h1,h2,_⟩)|⟨k,ob,C,h1,h2⟩)
   .exact .inl hb
   .exact .inr ⟨i,ob,C,h1,h2⟩
   .obtain⟨i,o,g1,_,g2,_⟩:=hk0 h1;rw[b0 g1] at h2;exact .inr ⟨i,o,C,g2,h2⟩
  .rintro(hb|⟨i,ob,C,h1,h2⟩)
   .exact .inl (.inl hb)
   .by_cases hi:i∈L
    .obtain⟨k,o0,g1,g2⟩:=hmem hi;exact .inr ⟨k,o0,C,g2,(b0 g1).trans h2⟩
    .exact .inl (.inr ⟨i,ob,C,h1,h2,hi⟩)
 have kin:∀i k,vi L i=some k->t k=β i:=λi k hk=>b0 (QX hk)
 have hlivS:∀b,GG t σ0 b->∃i o C,i∈L/\ag st.σ i=some o/\β i=some (some (b,C)):=λb ⟨k,ob,C,h1,h2⟩=>by obtain⟨i,o,g1,g2,m,_⟩:=hk0 h1;rw[b0 g1] at h2;exact⟨i,o,C,g2,m,h2⟩
 have hsz0:vs.size=gs0.length:=by rw[hgs,List.length_map];exact hsz
 have hv0:∀(i:Nat) (g:G) (u:Value),gs0[i]?=some g->vs[i]?=some u->RV t (Av Hid t σ0) w g u:=λi g u hg hu=>by
  rw[hgs,List.getElem?_map] at hg;cases hx:(fst++xs.toList.map (aB st)++cap)[i]? with
  |none=>rw[hx] at hg;cases hg
  |some x=>rw[hx] at hg;simp only[Option.map_some,bg] at hg;subst hg;exact IG kin 20 x u ((hv i x u hx hu).step (λ_ _ x=>x) (λb _ hb=>(hav0 b).1 hb) (Keeps.refl _ _))
 have hfront:RelB P ⟨w,GG t σ0,Hid,t,Fence.wide,9⟩ ⟨fn.ntmps,st.gl,bQ 0 gs0,σ0,L.length,L.length,false⟩ {tmps:=vs++Array.replicate (fn.ntmps-vs.size) undef,defers:=[]} w t:={
  size:=by rw[Array.size_append,Array.size_replicate,hsz0];show gs0.length+(fn.ntmps-gs0.length)=fn.ntmps;omega
  defers:= .nil rfl
  loose:=lP
  rnd:=λ_=>rfl
  fr:=λi=>Ca hsz0 hn hv0 i
  ob:=λk o0 hk=>by obtain⟨i,o,g1,_,g2,m⟩:=hk0 hk;exact U8 kin ((h.ob i o g2).step (λ_ _ x=>x) (λb _ hb=>(hav0 b).1 hb) (Keeps.refl _ _) (λ_ _ _=>rfl)) m (b0 g1)
  inj:=λk1 k2 o1 H b C D h1 h2 h3 h4=>by obtain⟨i1,q1,g1,_,g2,_⟩:=hk0 h1;obtain⟨Z,q2,e1,_,e2,_⟩:=hk0 h2;rw[b0 g1] at h3;rw[b0 e1] at h4;have:=h.inj i1 Z q1 q2 b C D g2 e2 h3 h4;subst this;exact(List.getElem?_inj (cr g1).1 hnd).1 (g1.trans e1.symm)
  own:=λk o0 b C h1 h2=> .inl ⟨k,o0,C,h1,h2⟩
  sep:=λk o0 b C h1 h2 hx=>by
   obtain⟨i,o,g1,g0,g2,_⟩:=hk0 h1;rw[b0 g1] at h2;have hx':Hid b:=hx;rw[d] at hx';rcases hx' with hx|⟨j,ob,D,e1,e2,e3⟩
   .exact h.sep i o b C g2 h2 hx
   .have:=h.inj i j o ob b C D g2 e1 h2 e2;subst this;exact e3 g0
  fresh:=λk hk=>b0n hk
  glob:=λg l hl=>(h.glob g l hl).sub λb _ hb=>(hav0 b).1 hb
  keep:=Keeps.refl _ _
  old:=λb hb=>by
   have hx':Hid b:=hb;rw[d] at hx';rcases hx' with hb|⟨i,ob,C,h1,h2,_⟩
   .exact h.keep.lt (h.old b hb)
   .exact h.lt h1 h2
  pin:=λk x hx=>⟨(by
   rcases Nat.lt_or_ge k L.length with h'|h'
   .exact h'
   .have hx':t k=some x:=hx;rw[b0n h'] at hx';cases hx'),hx⟩}
 refine rq (cx:=⟨w,GG t σ0,Hid,t,Fence.wide,9⟩) V hb hT rfl rfl ⟨t,hfront⟩ ?_
 rintro e s a' w' ⟨he,hgl,B,p,hsc,gs',N,O⟩ ⟨X,hr⟩
 replace A:=A B
 replace M:=λs' (hs:s'={st with σ:=τ B,c:=st.c+(c1 B-L.length)}.put o.dst (qg (eD L st.c) 20 (r B)))=>M s' ⟨B,hs⟩
 generalize r B=r at O M
 generalize σ1 B=σ1 at p A
 generalize c1 B=c1 at hsc M
 generalize τ B=τ at A M
 obtain⟨v,hres,W⟩:=mP hr N
 obtain⟨z,J⟩:∃z:Bm,z=λi=>if i<st.c then β i else X (L.length+(i-st.c)):=⟨_,rfl⟩
 have b2:∀{i:Nat},i<st.c->z i=β i:=λ{i} hi=>by rw[J];simp only[hi,if_true]
 have key:∀k i,eD L st.c k=some i->z i=X k:=λk i hk=>by
  unfold eD at hk;cases hx:L[k]? with
  |some j=>rw[hx] at hk;cases hk;obtain⟨q,q0,g1,_,_⟩:=hin k i hx;obtain⟨x,Q⟩:=hlive i q g1;rw[b2 (hL k i hx),Q];exact((hr.pin k x ((b0 hx).trans Q)).2).symm
  |none=>rw[hx] at hk;simp only[bg] at hk;have hge:L.length<=k:=List.getElem?_eq_none_iff.1 hx;rw[J];simp only;rw[if_neg aa,show L.length+(i-st.c)=k by omega]
 have hext:∀i x,β i=some x->z i=some x:=λi x hx=>by
  rcases Nat.lt_or_ge i st.c with h'|h'
  .rw[b2 h'];exact hx
  .rw[h.fresh i h'] at hx;cases hx
 have hblk:∀i o b C,ag st.σ i=some o->z i=some (some (b,C))->β i=some (some (b,C)):=λi o b C ho hb=>by rw[b2 (hbound i o ho)] at hb;exact hb
 have hav:∀b,Av cx.S0 z τ b->Av Hid X s.σ b:=by
  rintro b (hb|⟨i,ob,C,h1,h2⟩)
  .exact .inl (by rw[d];exact .inl hb)
  .rcases A i ob h1 with⟨k,o1,g1,g2,m⟩|⟨g1,g2⟩
   .exact .inr ⟨k,o1,C,p k o1 g2,(key k i g1).symm.trans h2⟩
   .exact .inl (by rw[d];exact .inr ⟨i,ob,C,g1,hblk i ob b C g1 h2,g2⟩)
 have hAo:∀b,b<w.heap.size->Av cx.S0 z τ b->Av cx.S0 β st.σ b:=by
  intro b hlt hb;rcases hav b hb with hb|⟨k,ob,C,h1,h2⟩
  .rw[d] at hb;rcases hb with hb|⟨i,ob,C,h1,h2,_⟩
   .exact .inl hb
   .exact .inr ⟨i,ob,C,h1,h2⟩
  .rcases hr.own k ob b C h1 h2 with hb|hb
   .obtain⟨i,o,E,_,m,I⟩:=hlivS b hb;exact .inr ⟨i,o,E,m,I⟩
   .exact absurd hlt (by have:w.heap.size<=b:=hb;omega)
 have hkp:Keeps (Av cx.S0 β st.σ) w w':=hr.keep.mono λb _ hb=>by obtain⟨i,o,E,_,m,I⟩:=hlivS b hb;exact .inr ⟨i,o,E,m,I⟩
 have hframe:∀i o b C,ag st.σ i=some o->i∉L->β i=some (some (b,C))->w'.heap[b]?=w.heap[b]? :=λi o b C ho hn hb=>hr.keep.block b (h.lt ho hb) (λhl=>by obtain⟨j,H,E,g1,m,I⟩:=hlivS b hl;have:=h.inj i j o H b C E ho m hb I;subst this;exact hn g1)
 have hback:RelB P cx {st with σ:=τ,c:=st.c+(c1-L.length)} a w' z:={
  size:=h.size
  defers:=h.defers.keep hr.keep (λD hD hl=>by obtain⟨j,H,E,g1,m,I⟩:=hlivS D hl;exact h.not_marks m I hD)
  loose:=h.loose
  rnd:=h.rnd
  fr:=λi=>(h.fr i).step hext hAo hkp
  ob:=λi o ho=>by
   rcases A i o ho with⟨k,o1,g1,g2,m⟩|⟨g1,g2⟩
   .exact U8 key ((hr.ob k o1 (p k o1 g2)).step (λ_ _ x=>x) (λb _ hb=>hav b hb) (Keeps.refl _ _) (λ_ _ _=>rfl)) m (key k i g1)
   .exact(h.ob i o g1).step hext hAo hkp (λb C hb=>hframe i o b C g1 g2 hb)
  inj:=λi j o U b C D hi hj hbi y=>by
   rcases A i o hi with⟨k,o1,g1,g2,m⟩|⟨g1,g2⟩<;>rcases A j U hj with⟨k',F,e1,e2,e3⟩|⟨e1,e2⟩
   .rw[key k i g1] at hbi;rw[key k' j e1] at y;have:=hr.inj k k' o1 F b C D (p k o1 g2) (p k' F e2) hbi y;subst this;exact Tz g1 e1
   .rw[key k i g1] at hbi;exact absurd (by rw[d];exact .inr ⟨j,U,D,e1,hblk j U b D e1 y,e2⟩) (hr.sep k o1 b C (p k o1 g2) hbi)
   .rw[key k' j e1] at y;exact absurd (by rw[d];exact .inr ⟨i,o,C,g1,hblk i o b C g1 hbi,g2⟩) (hr.sep k' F b D (p k' F e2) y)
   .exact h.inj i j o U b C D g1 e1 (hblk i o b C g1 hbi) (hblk j U b D e1 y)
  own:=λi o b C hi hbi=>by
   rcases A i o hi with⟨k,o1,g1,g2,m⟩|⟨g1,g2⟩
   .rw[key k i g1] at hbi;rcases hr.own k o1 b C (p k o1 g2) hbi with hb|hb
    .obtain⟨j,H,E,_,e3,e4⟩:=hlivS b hb;exact h.own j H b E e3 e4
    .have:=h.keep.size;have hb':w.heap.size<=b:=hb;right;omega
   .exact h.own i o b C g1 (hblk i o b C g1 hbi)
  sep:=λi o b C hi hbi hx=>by
   rcases A i o hi with⟨k,o1,g1,g2,m⟩|⟨g1,g2⟩
   .rw[key k i g1] at hbi;exact hr.sep k o1 b C (p k o1 g2) hbi (by rw[d];exact .inl hx)
   .exact h.sep i o b C g1 (hblk i o b C g1 hbi) hx
  fresh:=λi hi=>by have hi':st.c+(c1-L.length)<=i:=hi;rw[J];simp only;rw[if_neg aa];exact hr.fresh _ (by rw[hsc];omega)
  glob:=λg l hl=>(hr.glob g l (by rw[hgl];exact hl)).sub λb _ hb=>hav b hb
  keep:=h.keep.then hr.keep (λb hb hl=>by
   obtain⟨j,H,E,_,e3,e4⟩:=hlivS b hl;rcases h.own j H b E e3 e4 with h1|h1
   .exact h1
   .omega)
  old:=h.old
  pin:=λi x hx=>⟨(h.pin i x hx).1,hext i x (h.pin i x hx).2⟩}
 have hval:RV z (Av cx.S0 z τ) w' (qg (eD L st.c) 20 r) v:=by rw[O];exact IG key 20 _ v (W.step (λ_ _ x=>x) (λb _ hb=>hav b hb) (Keeps.refl _ _))
 exact⟨he,v,hres,M _ rfl _ _ ⟨z,hback.put o.dst hd hval⟩⟩
theorem jg.F{gl:List (Nat×List G)}{f:FuncId}{gs:List G}{σ0:aQ}{c:Nat}{r:G}{σ1:aQ}{c1:Nat}(h:jg P gl f gs σ0 c r σ1 c1):Xx P gl f gs σ0 c (ι:=Unit) (λ_=>r) (λ_=>σ1) (λ_=>c1):=by obtain⟨hc,fn,body,a,hb,hn,hT⟩:=h;exact⟨hc,fn,body,a,hb,hn,hT.mono λe s ⟨h1,h2,h3,h4,h5⟩=>⟨h1,h2,(),h3,h4,h5⟩⟩
theorem MD{o:Oper}{st:St}{f:Operand}{xs:Array Operand}{ats:Array TypeId}{fid:FuncId}{fst cap:List G}(L:List Nat){gs0:List G}{σ0:aQ}{r:G}{σ1:aQ}{c1:Nat}(ho:o.op= .call {callee:= .value f,args:=xs,argTypes:=ats})(hd:H_d o st.n)(hf:aB st f= .clo (.func fid) fst cap)
  (hM:jg P st.gl fid gs0 σ0 L.length r σ1 c1) (hL:∀(k i:Nat),L[k]?=some i->i<st.c) (hnd:L.Nodup) (hgs:gs0=(fst++xs.toList.map (aB st)++cap).map (qg (vi L) 20))
  (hin:∀(k i:Nat),L[k]?=some i->∃o o0,ag st.σ i=some o/\ag σ0 k=some o0/\MB (vi L) o o0) (h0:∀k o,ag σ0 k=some o->k<L.length)
  (τ:aQ) (d:∀i o,ag τ i=some o->(∃k o1,eD L st.c k=some i/\ag σ1 k=some o1/\MB (eD L st.c) o1 o)\/(ag st.σ i=some o/\i∉L)):
  th P o st (λs'=>s'={st with σ:=τ,c:=st.c+(c1-L.length)}.put o.dst (qg (eD L st.c) 20 r)):=by
 have:=MC (o:=o) (st:=st) (ι:=Unit) (r:=λ_=>r) (σ1:=λ_=>σ1) (c1:=λ_=>c1) L ho hd hf hM.F hL hnd hgs hin h0 (λ_=>τ) λ_=>d
 exact λcx a w K R h b=>this cx a w K R h λs' ⟨_,hs⟩=>b s' hs
end
section
variable {P:Program} [M:Mix P] {c:Code} {K:List Kf} {st:St} {Q:Exit->St->Prop}
def uF(x:Option (Prop×List Nat×Exit×St)):List Nat:=match x with|some (_,u,_)=>u|none=>[0]
def Ok(P:Program)(fn:Func)(gl:List (Nat×List G))(r:G)(σ1:aQ)(c1:Nat)(e:Exit)(s:St):Prop:=(e= .normal\/e= .ret)/\s.gl=gl/\(∀k o,ag σ1 k=some o->ag s.σ k=some o)/\s.c=c1/\∃a,fn.results.toList.mapM (jV P s)=some a/\r=iU a
theorem sMc{gl:List (Nat×List G)}{gs:List G}{σ0 σ1:aQ}{c0 c1:Nat}{r:G}(hf:P.funcs[f]?=some fn)(h:Tr P (ai fn) ⟨fn.ntmps,gl,bQ 0 gs,σ0,c0,c0,false⟩ (dz P [] (Ok P fn gl r σ1 c1)))(hc:aK P f=true:=by kernel_rfl)(hb:fn.body.isSome=true:=by kernel_rfl)(hn:Nat.ble gs.length fn.ntmps=true:=by kernel_rfl):jg P gl f gs σ0 c0 r σ1 c1:=by
 obtain⟨body,hb'⟩:=Option.isSome_iff_exists.1 hb;refine⟨hc,fn,body,hf,hb',cm hn,?_⟩;have e:ai fn=body:=by unfold ai;rw[hb'];rfl
 rw[e] at h;exact Tr.leQ h
theorem Wo{gl:List (Nat×List G)}{r:G}{σ1:aQ}{c1:Nat}{S0:St}{gs:List G}(he:tc ex=true)(hr:vR P S0 fn.results.toList=some gs)(hg:S0.gl=gl)(a:S0.σ=σ1)(hc:S0.c=c1)(h:iU gs=r):Ok P fn gl r σ1 c1 ex S0:=⟨eO he,hg,λk o hk=>by rw[a];exact hk,hc,gs,gh hr,h.symm⟩
def w6(κ:Nat->Option Nat)(σ σ0:aQ):Nat->List Nat->Prop
 |_,[]=>True
 |k,i::L=>(match ag σ i,ag σ0 k with|some o,some o0=>MB κ o o0|_,_=>False)/\w6 κ σ σ0 (k+1) L
def EJ(κ:Nat->Option Nat)(σ1:aQ):List (Nat×Ob)->Prop
 |[]=>True
 |(k,o)::U=>(match ag σ1 k with|some o1=>MB κ o1 o|none=>False)/\EJ κ σ1 U
theorem w6.get{κ:Nat->Option Nat}{σ σ0:aQ}:∀{L:List Nat} {a:Nat},w6 κ σ σ0 a L->∀(k i:Nat),L[k]?=some i->∃o o0,ag σ i=some o/\ag σ0 (a+k)=some o0/\MB κ o o0
 |[],_,_,_,_,h=>by cases h
 |j::L,a,h,0,i,hi=>by
  simp at hi;subst hi;have h1:=h.1;split at h1
  .rename_i o o0 e1 e2;exact⟨o,o0,e1,e2,h1⟩
  .exact h1.elim
 |j::L,a,h,k+1,i,hi=>by have:=w6.get h.2 k i (by simpa using hi);rw[show a+(k+1)=a+1+k by omega];exact this
theorem EJ.get{κ:Nat->Option Nat}{σ1:aQ}:∀{U:List (Nat×Ob)},EJ κ σ1 U->∀q∈U,∃o1,ag σ1 q.1=some o1/\MB κ o1 q.2
 |[],_,q,hq=>by cases hq
 |(k,o)::U,h,q,hq=>by
  rcases List.mem_cons.1 hq with rfl|hq
  .have h1:=h.1;split at h1
   .rename_i o1 e1;exact⟨o1,e1,h1⟩
   .exact h1.elim
  .exact EJ.get h.2 q hq
def KQ(L:List Nat)(c:Nat)(U:List (Nat×Ob)):aQ:=U.map λq=>((eD L c q.1).getD 0,some q.2)
theorem Gl(L:List Nat)(c k:Nat):∃i,eD L c k=some i:=by
 unfold eD;cases L[k]? with
 |some i=>exact⟨i,rfl⟩
 |none=>exact⟨_,rfl⟩
theorem YM{gl:List (Nat×List G)}{gs0 gs:List G}{σ0 σ1 σR:aQ}{r g:G}{c1 c c':Nat}(L:List Nat)(U:List (Nat×Ob))(hM:jg P gl fid gs0 σ0 L.length r σ1 c1)
  (hin:w6 (vi L) σR σ0 0 L) (b:EJ (eD L c) σ1 U) (hlt:L.all (λi=>Nat.blt i c)=true:=by kernel_rfl) (hnd:decide L.Nodup=true:=by kernel_rfl) (hgs:gs.map (qg (vi L) 20)=gs0:=by kernel_rfl)
  (hk0:σ0.all (λq=>Nat.blt q.1 L.length)=true:=by kernel_rfl) (hcov:(List.range L.length).all (λk=>U.any λq=>Nat.beq q.1 k)=true:=by kernel_rfl) (hg:qg (eD L c) 20 r=g:=by kernel_rfl) (hc:c+(c1-L.length)=c':=by kernel_rfl) (n:σR.all (λq=>q.2.isSome)=true:=by kernel_rfl):oJ P gl fid gs σR c g (KQ L c U) c':=by
 intro o st y xs ats fst cap ho hd hf d hgl hq hsc
 have j:=hin.get
 have hgetR:∀i o,ag σR i=some o->ag st.σ i=some o:=λi o m=>by
  have:∀l:aQ,(∀q∈l,q∈σR)->ag l i=some o->ag st.σ i=some o:=by
   intro l;induction l with
   |nil=>intro _ h;cases h
   |cons q t ih=>
    intro hs h;rw[show(q::t:aQ)=(q.1,q.2)::t from rfl,am] at h;split at h
    .rename_i e;subst e;rw[hq q (hs q aC)];exact h
    .exact ih (λx hx=>hs x (by simp[hx])) h
  exact this σR (λ_ h=>h) m
 have key:=MD (o:=o) (st:=st) (f:=y) (xs:=xs) (ats:=ats) (fid:=fid) (fst:=fst) (cap:=cap) L (gs0:=gs0) (σ0:=σ0) (r:=r) (σ1:=σ1) (c1:=c1) ho hd hf (by rw[hgl];exact hM) (λk i hk=>by
   have:=List.all_eq_true.1 hlt i (bO hk);rw[hsc];exact cm this) (of_decide_eq_true hnd) (by rw[d,hgs]) (λk i hk=>by
   obtain⟨o,o0,h1,h2,h3⟩:=j k i hk;rw[Nat.zero_add] at h2;exact⟨o,o0,hgetR i o h1,h2,h3⟩) (λk o hkk=>by
   have:∀l:aQ,(∀q∈l,q∈σ0)->ag l k=some o->k<L.length:=by
    intro l;induction l with
    |nil=>intro _ h;cases h
    |cons q t ih=>
     intro hs h;rw[show(q::t:aQ)=(q.1,q.2)::t from rfl,am] at h;split at h
     .rename_i e;subst e;exact cm (List.all_eq_true.1 hk0 q (hs q aC))
     .exact ih (λx hx=>hs x (by simp[hx])) h
   exact this σ0 (λ_ h=>h) hkk) (KQ L c U++st.σ) (λi o m=>by
   have:∀l:List (Nat×Ob),(∀q∈l,q∈U)->ag (KQ L c l++st.σ) i=some o->(∃q∈U,eD L c q.1=some i/\q.2=o)\/(ag st.σ i=some o/\∀q∈l,eD L c q.1≠some i):=by
    intro l;induction l with
    |nil=>intro _ h;exact .inr ⟨h,λq hq=>by cases hq⟩
    |cons q t ih=>
     intro hs h;obtain⟨p,hi'⟩:=Gl L c q.1;rw[show KQ L c (q::t)++st.σ=((eD L c q.1).getD 0,some q.2)::(KQ L c t++st.σ) from rfl,hi',Option.getD_some,am] at h;split at h
     .rename_i e;subst e;cases h;exact .inl ⟨q,hs q aC,hi',rfl⟩
     .rename_i hne;rcases ih (λx hx=>hs x (by simp[hx])) h with h|⟨h,h2⟩
      .exact .inl h
      .refine .inr ⟨h,λx hx=>?_⟩;rcases List.mem_cons.1 hx with rfl|hx
       .rw[hi'];intro e;cases e;exact hne rfl
       .exact h2 x hx
   rcases this U (λ_ h=>h) m with⟨q,a,h1,rfl⟩|⟨h1,h2⟩
   .obtain⟨o1,e1,e2⟩:=b.get q a;exact .inl ⟨q.1,o1,by rw[hsc];exact h1,e1,by rw[hsc];exact e2⟩
   .refine .inr ⟨h1,λhi=>?_⟩;obtain⟨k,hk⟩:=List.getElem?_of_mem hi;have hkl:=(cr hk).1;obtain⟨q,a,he⟩:=List.any_eq_true.1 (List.all_eq_true.1 hcov k (List.mem_range.2 hkl));refine h2 q a ?_;rw[bc he];unfold eD;rw[hk])
 have:=key.gs (st':={st with σ:=KQ L c U++st.σ,c:=c'}.put o.dst g) λs hs=>by rw[hs,hsc,hg,hc]
 exact this
end
section
variable {P:Program} [M:Mix P] {c:Code} {K:List Kf} {st:St} {Q:Exit->St->Prop} {fn:Func} {Bs:List (St->Prop)} {m:Bool} {p:List Nat}
def YN:Code->Bool
 | .rangeFunc _ _ _ _=>true
 |_=>false
def rfG:Code->Operand
 | .rangeFunc g _ _ _=>g
 |_=> .tmp 0
def Dy:Code->Array Tmp
 | .rangeFunc _ ps _ _=>ps
 |_=> #[]
def Dz:Code->Code
 | .rangeFunc _ _ a _=>a
 |_=> .skip
def DA:Code->Code
 | .rangeFunc _ _ _ b=>b
 |_=> .skip
theorem sRf{fst cap:List G}(fn:Func)(f:P.funcs[fid]?=some fn)(hg:aB st (rfG c)= .clo (.func fid) fst cap)(h:Tr P (ai fn) ⟨fn.ntmps,st.gl,bQ 0 (fst++[G.yld st.c]++cap),(st.c,some ⟨0,[],some (.loop .ready none st.n st.fr (Dy c) (Dz c) (DA c))⟩)::st.σ,st.c+1,st.c+1,false⟩ (dz P [] (sI P st Q)))
  (hi:YN c=true:=by kernel_rfl) (hr:st.r=false:=by kernel_rfl) (hc:aK P fid=true:=by kernel_rfl) (hb:fn.body.isSome=true:=by kernel_rfl) (hn:Nat.ble (fst++[G.yld st.c]++cap).length fn.ntmps=true:=by kernel_rfl) (hres:fn.results.toList=[]:=by kernel_rfl):Tr P c st Q:=by
 obtain⟨d,hb'⟩:=Option.isSome_iff_exists.1 hb
 have e:ai fn=d:=by unfold ai;rw[hb'];rfl
 rw[e] at h
 cases c with
 |rangeFunc g ps a b=>exact wx hr hg hc f hb' (cm hn) hres (Tr.leQ h)
 |_=>cases hi
theorem QW{s:St}(he:tc ex=true)(hgl:s.gl=st.gl)(ho:ag s.σ st.c=some ⟨t,[],some (.loop .ready none n fr ps a b)⟩)(h:Q .normal {st with σ:=(st.c,none)::(st.c,some ⟨t,[],some (.loop .exhausted none n fr ps a b)⟩)::s.σ,c:=s.c}):sI P st Q ex s:=
 ⟨eO he,hgl,t,.ready,none,n,fr,ps,a,b,ho,(λe=>by cases e),h⟩
def YO:Code->Bool
 | .region _ _ false=>true
 |_=>false
def pZ:Code->List Oper
 | .region _ ops _=>ops.toList
 |_=>[]
def YP(o:Oper):Operand:=match o.op with
 | .call {callee:= .value f,.. }=>f
 |_=> .tmp 0
def Tw(o:Oper):List Operand:=match o.op with
 | .call {callee:= .value _,args:=xs,.. }=>xs.toList
 |_=>[]
def oIs(o:Oper):Bool:=match o.op with
 | .call {callee:= .value _,.. }=>true
 |_=>false
def qd(P:Program)(ops:Array Oper)(hs:List Hn)(l:List Oper)(st:St):Option (Prop×List Nat×St):=match EP P ops hs (λs=>some (True,[],.fin .normal s)) l st with
 |some (C,u,.fin _ s)=>some (C,u,s)
 |_=>none
def uO(x:Option (Prop×List Nat×St)):List Nat:=match x with|some (_,u,_)=>u|none=>[0]
theorem Mz{ops:Array Oper}{hs:List Hn}{l:List Oper}{C:Prop}{u:List Nat}(h:qd P ops hs l st=some (C,u,s1))(hC:C):D8 P ops (λs=>s=s1) l st:=by
 unfold qd at h;split at h
 .rename_i C' a e s hr;cases h;refine(xa l st _ _ hr hC).mono (λs' hs'=>?_) _ _;obtain⟨C',a,h1,_⟩:=hs';cases h1;rfl
 .cases h
theorem As{ops:Array Oper}{a K2:St->Prop}:∀(l l2:List Oper) (st:St),D8 P ops a l st->(∀s,a s->vU P ops K2 l2 s)->vU P ops K2 (l++l2) st
 |[],l2,st,h,hk=>hk st h
 |o::r,l2,st,h,hk=>by
  rcases h with⟨hw,s1,hg,hr⟩|⟨hw,hd,hr⟩
  .exact .inl ⟨hw,hg.gsn.eqv λs hs=>⟨s,by rw[hs];exact As r l2 s1 hr hk,Eqv.refl _⟩⟩
  .exact .inr ⟨hw,hd,As r l2 _ hr hk⟩
def MA(P:Program)(st:St)(i:Nat)(S:Option Code->Xob->TypeId->St->Prop)(bd:Code)(e:Exit)(s:St):Prop:=e= .normal/\s.gl=st.gl/\∃h a j b d f g,ag s.σ i=some ⟨h,[],some (.loop .ready a j b d f g)⟩/\Tr P bd {s with σ:=(i,some ⟨h,[],some (.loop .busy a j b d f g)⟩)::s.σ} (rE P st i S)
def Tx(b:aQ)(c2:Nat)(a:Xob)(t2:TypeId)(j:Option Code)(x:Xob)(t:TypeId)(s:St):Prop:=j=none/\x=a/\t=t2/\s.σ=b/\s.c=c2
theorem Wp{s:St}{S:Option Code->Xob->TypeId->St->Prop}(he:ex= .normal)(hgl:s.gl=st.gl)(ho:ag s.σ i=some ⟨t,[],some (.loop .ready pe n fr ps a b)⟩)(h:Tr P bd {s with σ:=(i,some ⟨t,[],some (.loop .busy pe n fr ps a b)⟩)::s.σ} (dz P [] (rE P st i S))):MA P st i S bd ex s:=
 ⟨he,hgl,t,pe,n,fr,ps,a,b,ho,Tr.leQ h⟩
theorem jy{s:St}{σ2:aQ}{c2:Nat}{d:Xob}{ls:LoopState}(he:ex= .normal)(hgl:s.gl=st.gl)(ho:ag s.σ i=some ⟨t2,[],some (.loop ls pe n fr ps a b)⟩)(e: .loop .ready none n fr ps a b=d)(f:s.σ=σ2)(hc:s.c=c2):rE P st i (Tx σ2 c2 d t2) ex s:=
 ⟨hgl,none,t2,ls,pe,n,fr,ps,a,b,by rw[he];rfl,ho,rfl,e,rfl,f,hc⟩
theorem sYd(j i:Nat){s3:St}{o:Oper}(k:aQ)(c2:Nat)(d:Xob)(e A g B:List HP)
  (hob:ag s1.σ i=some ⟨t,[],some (.loop .ready pe n fr ps a b)⟩)
  (h:Tr P a ⟨n,s1.gl,xU (ps.toList.zip ((Tw o).map (aB s1))) fr,s1.σ,s1.c,s1.c,true⟩ (dz P [] (MA P s1 i (Tx k c2 d t2) b)))
  (h3:dz P K Q .normal s3)
  (e1:qd P (pZ c).toArray (bK e) ((pZ c).take j) st=some (vb e (uO (qd P (pZ c).toArray (bK e) ((pZ c).take j) st)),uO (qd P (pZ c).toArray (bK e) ((pZ c).take j) st),s1):=by kernel_rfl)
  (u:(pZ c)[j]?=some o:=by kernel_rfl)
  (e2:qd P (pZ c).toArray (bK g) ((pZ c).drop (j+1)) ({s1 with σ:=(i,some ⟨t2,[],some d⟩)::k,c:=c2}.put o.dst (.lit (.bool true)))=some (vb g (uO (qd P (pZ c).toArray (bK g) ((pZ c).drop (j+1)) ({s1 with σ:=(i,some ⟨t2,[],some d⟩)::k,c:=c2}.put o.dst (.lit (.bool true))))),uO (qd P (pZ c).toArray (bK g) ((pZ c).drop (j+1)) ({s1 with σ:=(i,some ⟨t2,[],some d⟩)::k,c:=c2}.put o.dst (.lit (.bool true)))),s3):=by kernel_rfl)
  (hk1:qe e (uO (qd P (pZ c).toArray (bK e) ((pZ c).take j) st))=true:=by kernel_rfl)
  (hk2:qe g (uO (qd P (pZ c).toArray (bK g) ((pZ c).drop (j+1)) ({s1 with σ:=(i,some ⟨t2,[],some d⟩)::k,c:=c2}.put o.dst (.lit (.bool true)))))=true:=by kernel_rfl)
  (hi:YO c=true:=by kernel_rfl) (hw:ce s1 (pZ c).toArray o=some true:=by kernel_rfl) (hoi:oIs o=true:=by kernel_rfl) (hd:pj s1.n o.dst=true:=by kernel_rfl) (hf:aB s1 (YP o)= .yld i:=by kernel_rfl)
  (hsz:Nat.beq (Tw o).length ps.size=true:=by kernel_rfl) (hps:ps.toList.all (λp=>Nat.blt p n)=true:=by kernel_rfl):Tr P c st (dz P K Q):=by
 cases c with
 |region id ops draw=>
  cases draw with
  |true=>cases hi
  |false=>
   have hl:(pZ (.region id ops false)).toArray=ops:=Array.toArray_toList
   rw[hl] at e1 e2 hw hk1 hk2
   have hsplit:ops.toList=ops.toList.take j++(o::ops.toList.drop (j+1)):=by have hj:ops.toList[j]?=some o:=u;obtain⟨hlt,he⟩:=cr hj;rw[<-he,<-List.drop_eq_getElem_cons hlt,List.take_append_drop]
   have key:Tr P (.region id ops.toList.toArray false) st (dz P K Q):=by
    refine lG ?_;rw[Array.toArray_toList];rw[hsplit];refine As _ _ _ (Mz e1 (kA hk1)) λs hs=>?_;rw[hs];obtain⟨l,v,ty,q,w,y⟩:=o;cases v with
    |call cl=>
     obtain⟨r,xs,ats⟩:=cl;cases r with
     |value f=>
      refine .inl ⟨hw,?_⟩;have hy:=Em (P:=P) (o:=⟨l,.call {callee:= .value f,args:=xs,argTypes:=ats},ty,q,w,y⟩) (st:=s1) (f:=f) (xs:=xs) (ats:=ats) (i:=i) (n:=n) (t:=t) (pe:=pe) (fr:=fr) (ps:=ps) (az9:=a) (bd:=b) (S:=Tx k c2 d t2) rfl (eN hd) hf hob (bc hsz) (λp hp=>cm (List.all_eq_true.1 hps p hp)) (Tr.leQ h);refine hy.eqv λs hs=>⟨s,?_,Eqv.refl _⟩;obtain⟨C,x,D,s',⟨rfl,rfl,rfl,z,hc⟩,rfl⟩:=hs;rw[z,hc];have:=As (K2:=dz P K Q .normal) _ [] _ (Mz e2 (kA hk2)) λs hs=>by rw[hs];exact h3
      rw[List.append_nil] at this;exact this
     |_=>cases hoi
    |_=>cases hoi
   rw[Array.toArray_toList] at key
   exact key
 |_=>cases hi
def Gm(P:Program)(hs:List Hn)(m:Code⊕Exit)(K:List Kf)(vs:List TypeId)(ρ:List (Nat×Nat))(kd:List (Nat×Rk))(J st:St):Option (Prop×List Nat×List Prop×Exit×St):=match sy P hs 1000000 1000 m K st with
 |some (C,u,.fin e s)=>match Iw P vs ρ kd J s with
  |some (L,s')=>some (C,u,L,e,s')
  |none=>none
 |_=>none
def Wq(x:Option (Prop×List Nat×List Prop×Exit×St)):List Nat:=match x with|some (_,u,_)=>u|none=>[0]
theorem C9(a:Exit)(J:St)(A O:List HP)(h:Q a J)(vs:List TypeId:=[])(ρ:List (Nat×Nat):=OY J)(kd:List (Nat×Rk):=[])(hk:qe A (Wq (Gm P (bK A) (c7 m p (ai fn)) (bE p (ai fn) Bs []) vs ρ kd J st))=true:=by kernel_rfl)(e:Gm P (bK A) (c7 m p (ai fn)) (bE p (ai fn) Bs []) vs ρ kd J st=some (vb A (Wq (Gm P (bK A) (c7 m p (ai fn)) (bE p (ai fn) Bs []) vs ρ kd J st)),Wq (Gm P (bK A) (c7 m p (ai fn)) (bE p (ai fn) Bs []) vs ρ kd J st),pR O,a,J):=by kernel_rfl):Gp P fn Q Bs m p st:=by
 have hC:=kA hk;generalize Wq _=u at hC e;generalize vb A u=C at hC e;unfold Gp;unfold Gm at e;split at e;rotate_left
 .cases e
 rename_i b d x s1 h1;split at e;rotate_left
 .cases e
 rename_i L s' h2;simp only[bg,Prod.mk.injEq] at e;obtain⟨rfl,rfl,rfl,rfl,rfl⟩:=e;exact oK M.mx (out:= .fin x s1) ⟨_,sR h2 (wR O),h⟩ 1000 _ _ _ _ _ h1 hC
theorem pP{gl:List (Nat×List G)}{gs:List G}{σ0 σ1:aQ}{c0 c1:Nat}{r:G}(hf:P.funcs[f]?=some fn)(h:Gp P fn (Ok P fn gl r σ1 c1) [] false [] ⟨fn.ntmps,gl,bQ 0 gs,σ0,c0,c0,false⟩)(hc:aK P f=true:=by kernel_rfl)(hb:fn.body.isSome=true:=by kernel_rfl)(hn:Nat.ble gs.length fn.ntmps=true:=by kernel_rfl):jg P gl f gs σ0 c0 r σ1 c1:=sMc hf h hc hb hn
theorem mt{gl:List (Nat×List G)}{r:G}{σ1:aQ}{c1:Nat}(a:Exit)(J:St)(gs:List G)(A O:List HP)(hg:J.gl=gl:=by rfl)(b:J.σ=σ1:=by rfl)(hc:J.c=c1:=by rfl)(hr:iU gs=r:=by rfl)(vs:List TypeId:=[])(ρ:List (Nat×Nat):=OY J)(kd:List (Nat×Rk):=[])(he:tc a=true:=by rfl)(hx:vR P J fn.results.toList=some gs:=by kernel_rfl)(hk:qe A (Wq (Gm P (bK A) (c7 m p (ai fn)) (bE p (ai fn) Bs []) vs ρ kd J st))=true:=by kernel_rfl)(e:Gm P (bK A) (c7 m p (ai fn)) (bE p (ai fn) Bs []) vs ρ kd J st=some (vb A (Wq (Gm P (bK A) (c7 m p (ai fn)) (bE p (ai fn) Bs []) vs ρ kd J st)),Wq (Gm P (bK A) (c7 m p (ai fn)) (bE p (ai fn) Bs []) vs ρ kd J st),pR O,a,J):=by kernel_rfl):Gp P fn (Ok P fn gl r σ1 c1) Bs m p st:=
 C9 a J A O (Wo he hx hg b hc hr) vs ρ kd hk e
def fnB(fn:Func)(c:Code):Func:={fn with body:=some c}
theorem Xt{fst cap:List G}(a:Func)(b:P.funcs[fid]?=some a)(h:Gp P a (sI P st (dz P (bE p (ai fn) Bs []) Q)) [] false [] ⟨a.ntmps,st.gl,bQ 0 (fst++[G.yld st.c]++cap),(st.c,some ⟨0,[],some (.loop .ready none st.n st.fr (Dy (bq p (ai fn))) (Dz (bq p (ai fn))) (DA (bq p (ai fn))))⟩)::st.σ,st.c+1,st.c+1,false⟩)
  (hg:aB st (rfG (bq p (ai fn)))= .clo (.func fid) fst cap:=by kernel_rfl) (hi:YN (bq p (ai fn))=true:=by kernel_rfl) (hr:st.r=false:=by kernel_rfl) (hc:aK P fid=true:=by kernel_rfl) (hb:a.body.isSome=true:=by kernel_rfl) (hn:Nat.ble (fst++[G.yld st.c]++cap).length a.ntmps=true:=by kernel_rfl) (hres:a.results.toList=[]:=by kernel_rfl):Gp P fn Q Bs false p st:=sRf (c:=bq p (ai fn)) a b hg h hi hr hc hb hn hres
theorem Xu{s:St}(h:Gp P fn Q Bs true p {st with σ:=(st.c,none)::(st.c,some ⟨t,[],some (.loop .exhausted none n fr ps a b)⟩)::s.σ,c:=s.c})(ho:ag s.σ st.c=some ⟨t,[],some (.loop .ready none n fr ps a b)⟩)(hgl:s.gl=st.gl:=by rfl)(he:tc ex=true:=by rfl):sI P st (dz P (bE p (ai fn) Bs []) Q) ex s:=QW he hgl ho h
theorem Xv{s:St}{S:Option Code->Xob->TypeId->St->Prop}(fn:Func)(h:Gp P (fnB fn bd) (rE P st i S) [] false [] {s with σ:=(i,some ⟨t,[],some (.loop .busy pe n fr ps a b)⟩)::s.σ})(ho:ag s.σ i=some ⟨t,[],some (.loop .ready pe n fr ps a b)⟩)(hgl:s.gl=st.gl:=by rfl)(he:ex= .normal:=by rfl):MA P st i S bd ex s:=Wp he hgl ho h
def CK(c:Code)(j:Nat):Oper:=((pZ c)[j]?).getD ⟨none,.assign (.tmp 0),0, "",#[],none⟩
theorem Xw(j i:Nat){s1 s3:St}{t t2:TypeId}{pe:Option Code}{n:Nat}{fr:Fr}{ps:Array Tmp}{a b:Code}(g:aQ)(c2:Nat)(f:Xob)(d e:List HP)
  (h:Gp P (fnB fn a) (MA P s1 i (Tx g c2 f t2) b) [] false [] ⟨n,s1.gl,xU (ps.toList.zip ((Tw (CK (bq p (ai fn)) j)).map (aB s1))) fr,s1.σ,s1.c,s1.c,true⟩)
  (h3:Gp P fn Q Bs true p s3)
  (hob:ag s1.σ i=some ⟨t,[],some (.loop .ready pe n fr ps a b)⟩:=by kernel_rfl)
  (e1:qd P (pZ (bq p (ai fn))).toArray (bK d) ((pZ (bq p (ai fn))).take j) st=some (vb d (uO (qd P (pZ (bq p (ai fn))).toArray (bK d) ((pZ (bq p (ai fn))).take j) st)),uO (qd P (pZ (bq p (ai fn))).toArray (bK d) ((pZ (bq p (ai fn))).take j) st),s1):=by kernel_rfl)
  (k:(pZ (bq p (ai fn)))[j]?=some (CK (bq p (ai fn)) j):=by kernel_rfl)
  (e2:qd P (pZ (bq p (ai fn))).toArray (bK e) ((pZ (bq p (ai fn))).drop (j+1)) ({s1 with σ:=(i,some ⟨t2,[],some f⟩)::g,c:=c2}.put (CK (bq p (ai fn)) j).dst (.lit (.bool true)))=some (vb e (uO (qd P (pZ (bq p (ai fn))).toArray (bK e) ((pZ (bq p (ai fn))).drop (j+1)) ({s1 with σ:=(i,some ⟨t2,[],some f⟩)::g,c:=c2}.put (CK (bq p (ai fn)) j).dst (.lit (.bool true))))),uO (qd P (pZ (bq p (ai fn))).toArray (bK e) ((pZ (bq p (ai fn))).drop (j+1)) ({s1 with σ:=(i,some ⟨t2,[],some f⟩)::g,c:=c2}.put (CK (bq p (ai fn)) j).dst (.lit (.bool true)))),s3):=by kernel_rfl)
  (hk1:qe d (uO (qd P (pZ (bq p (ai fn))).toArray (bK d) ((pZ (bq p (ai fn))).take j) st))=true:=by kernel_rfl)
  (hk2:qe e (uO (qd P (pZ (bq p (ai fn))).toArray (bK e) ((pZ (bq p (ai fn))).drop (j+1)) ({s1 with σ:=(i,some ⟨t2,[],some f⟩)::g,c:=c2}.put (CK (bq p (ai fn)) j).dst (.lit (.bool true)))))=true:=by kernel_rfl)
  (hi:YO (bq p (ai fn))=true:=by kernel_rfl) (hw:ce s1 (pZ (bq p (ai fn))).toArray (CK (bq p (ai fn)) j)=some true:=by kernel_rfl) (hoi:oIs (CK (bq p (ai fn)) j)=true:=by kernel_rfl) (hd:pj s1.n (CK (bq p (ai fn)) j).dst=true:=by kernel_rfl) (hf:aB s1 (YP (CK (bq p (ai fn)) j))= .yld i:=by kernel_rfl)
  (hsz:Nat.beq (Tw (CK (bq p (ai fn)) j)).length ps.size=true:=by kernel_rfl) (hps:ps.toList.all (λp=>Nat.blt p n)=true:=by kernel_rfl):Gp P fn Q Bs false p st:=
 sYd (c:=bq p (ai fn)) j i g c2 f d [] e [] hob h h3 e1 k e2 hk1 hk2 hi hw hoi hd hf hsz hps
def hmc(d:Nat)(L:List Nat)(c:Nat)(σR:aQ)(gs:List G)(U:List (Nat×Ob)){gl:List (Nat×List G)}{fid:FuncId}{gs0:List G}{σ0 σ1:aQ}{r:G}{c1:Nat}(hM:jg P gl fid gs0 σ0 L.length r σ1 c1)
  (hin:w6 (vi L) σR σ0 0 L) (a:EJ (eD L c) σ1 U) (hlt:L.all (λi=>Nat.blt i c)=true:=by kernel_rfl) (hnd:decide L.Nodup=true:=by kernel_rfl) (hgs:gs.map (qg (vi L) 20)=gs0:=by kernel_rfl)
  (hk0:σ0.all (λq=>Nat.blt q.1 L.length)=true:=by kernel_rfl) (hcov:(List.range L.length).all (λk=>U.any λq=>Nat.beq q.1 k)=true:=by kernel_rfl) (b:σR.all (λq=>q.2.isSome)=true:=by kernel_rfl):HP:=
 hz d L (P:=P) (gl:=gl) (f:=fid) (gs:=gs) (σR:=σR) (c:=c) (g:=qg (eD L c) 20 r) (U:=KQ L c U) (c':=c+(c1-L.length)) (YM L U hM hin a hlt hnd hgs hk0 hcov rfl rfl b)
def YQ(P:Program)(hs:List Hn)(cut:Nat)(m:Code⊕Exit)(K:List Kf)(a:List Nat)(st:St):Option (Prop×List Nat×St×Code×List Kf):=match sy P hs cut 1000 m K st with
 |some (C,u,.ct c' K' s)=>some (C,u,{s with fr:=a.map λk=>(k,aD s.fr k)},c',K')
 |_=>none
def ZX(x:Option (Prop×List Nat×St×Code×List Kf)):List Nat:=match x with|some (_,u,_)=>u|none=>[0]
theorem IB{fr:Fr}{d:Nat}:∀a:List Nat,aD (a.map λk=>(k,aD fr k)) d=aD fr d\/aD (a.map λk=>(k,aD fr k)) d= .junk
 |[]=> .inr rfl
 |k::r=>by
  rw[List.map_cons,aO];split
  .rename_i e;subst e;exact .inl rfl
  .exact IB r
theorem UZ{s:St}(b:List Nat):Le P s {s with fr:=b.map λk=>(k,aD s.fr k)}:=by
 rintro cx a w ⟨β,r⟩;refine⟨β,{r with fr:=λi=>?_}⟩;rcases IB (fr:=s.fr) (d:=i) b with e|e
 .show RV β _ w (aD (b.map λk=>(k,aD s.fr k)) i) _;rw[e];exact r.fr i
 .show RV β _ w (aD (b.map λk=>(k,aD s.fr k)) i) _;rw[e];exact .junk _
theorem YR(q:List Nat)(J:St)(A:List HP)(b:Gp P fn Q Bs false q J)
  (hk:qe A (ZX (YQ P (bK A) (wT (bq q (ai fn))) (c7 m p (ai fn)) (bE p (ai fn) Bs []) (xb J) st))=true:=by kernel_rfl)
  (e:YQ P (bK A) (wT (bq q (ai fn))) (c7 m p (ai fn)) (bE p (ai fn) Bs []) (xb J) st=some (vb A (ZX (YQ P (bK A) (wT (bq q (ai fn))) (c7 m p (ai fn)) (bE p (ai fn) Bs []) (xb J) st)),ZX (YQ P (bK A) (wT (bq q (ai fn))) (c7 m p (ai fn)) (bE p (ai fn) Bs []) (xb J) st),J,bq q (ai fn),bE q (ai fn) Bs []):=by kernel_rfl):Gp P fn Q Bs m p st:=by
 have hC:=kA hk
 generalize ZX _=u at hC e
 generalize vb A u=C at hC e
 generalize hks:xb J=ks at e
 unfold Gp
 unfold YQ at e
 split at e
 rotate_left
 .cases e
 rename_i d f c K' s1 h1
 simp only[bg,Prod.mk.injEq] at e
 obtain⟨rfl,rfl,a,rfl,rfl⟩:=e
 refine oK M.mx (out:= .ct (bq q (ai fn)) (bE q (ai fn) Bs []) s1) (Tr.le b ?_) 1000 _ _ _ _ _ h1 hC
 rw[<-a]
 exact UZ ks
def Gn(P:Program)(hs:List Hn)(m:Code⊕Exit)(K:List Kf)(a:List Nat)(st:St):Option (Prop×List Nat×Exit×St):=match sy P hs 1000000 1000 m K st with
 |some (C,u,.fin e s)=>some (C,u,e,{s with fr:=a.map λk=>(k,aD s.fr k)})
 |_=>none
theorem dFf(a:Exit)(J:St)(A:List HP)(h:Q a J)
  (hk:qe A (uF (Gn P (bK A) (c7 m p (ai fn)) (bE p (ai fn) Bs []) (xb J) st))=true:=by kernel_rfl)
  (e:Gn P (bK A) (c7 m p (ai fn)) (bE p (ai fn) Bs []) (xb J) st=some (vb A (uF (Gn P (bK A) (c7 m p (ai fn)) (bE p (ai fn) Bs []) (xb J) st)),uF (Gn P (bK A) (c7 m p (ai fn)) (bE p (ai fn) Bs []) (xb J) st),a,J):=by kernel_rfl):Gp P fn Q Bs m p st:=by
 have hC:=kA hk
 generalize uF _=u at hC e
 generalize vb A u=C at hC e
 generalize hks:xb J=ks at e
 unfold Gp
 unfold Gn at e
 split at e
 rotate_left
 .cases e
 rename_i d f x s1 h1
 simp only[bg,Prod.mk.injEq] at e
 obtain⟨rfl,rfl,rfl,b⟩:=e
 refine oK M.mx (out:= .fin x s1) ⟨J,?_,h⟩ 1000 _ _ _ _ _ h1 hC
 rw[<-b]
 exact UZ ks
theorem dEf{gl:List (Nat×List G)}{r:G}{σ1:aQ}{c1:Nat}(a:Exit)(J:St)(gs:List G)(A:List HP)(b:∀k o,ag σ1 k=some o->ag J.σ k=some o)(hg:J.gl=gl:=by rfl)(hc:J.c=c1:=by rfl)(hr:iU gs=r:=by rfl)(he:tc a=true:=by rfl)(hx:vR P J fn.results.toList=some gs:=by kernel_rfl)
  (hk:qe A (uF (Gn P (bK A) (c7 m p (ai fn)) (bE p (ai fn) Bs []) (xb J) st))=true:=by kernel_rfl)
  (e:Gn P (bK A) (c7 m p (ai fn)) (bE p (ai fn) Bs []) (xb J) st=some (vb A (uF (Gn P (bK A) (c7 m p (ai fn)) (bE p (ai fn) Bs []) (xb J) st)),uF (Gn P (bK A) (c7 m p (ai fn)) (bE p (ai fn) Bs []) (xb J) st),a,J):=by kernel_rfl):Gp P fn (Ok P fn gl r σ1 c1) Bs m p st:=
 dFf a J A ⟨eO he,hg,b,hc,gs,gh hx,hr.symm⟩ hk e
end
section
attribute [local irreducible] Tr dz Gp
abbrev u1(n:Nat):Option Ob:=some ⟨23,[uG n],none⟩
theorem Kt(a n:Nat):jg prog gl 56 [uG a,uG n] [] 0 (.clo (.func 109) [] [.ref 0 0,.ref 1 0]) [(0,u1 a),(1,u1 n)] 2:=by refine pP func56 ?_;exact dEf .ret (s0 6 gl [(4,.clo (.func 109) [] [.ref 0 0,.ref 1 0])] [(1,u1 n),(0,u1 a)] 2 0) [.clo (.func 109) [] [.ref 0 0,.ref 1 0]] [] (λk o hk=>by rcases k with _|_|k<;>exact hk)
def mW(s:Nat×Nat×Nat):Option ((Nat×Nat×Nat)⊕Nat):=
 bif decide (((0:Nat):Int)<(s.2.1:Int)) then((bif decide (((bD s.2.1 1:Nat):Int)=((1:Nat):Int)) then(jZ s.2.2 s.1) else some s.2.2).bind λo=>(jZ s.1 s.1).bind λb=>some (.inl (b,cw s.2.1 1,o))) else some (.inr s.2.2)
def j7(a n:Nat):Option Nat:=(eR a).bind λv=>loop mW (v,n,1)
noncomputable abbrev FZ:Code:=bq 111012 (ai Tryz.f36)
noncomputable abbrev tL(st:LoopState)(fr:Fr):Option Ob:=some ⟨0,[],some (.loop st none 18 fr (Dy FZ) (Dz FZ) (DA FZ))⟩
noncomputable abbrev Yo:Fr:=[(5,.ref 0 0),(10,.clo (.func 109) [] [.ref 1 0,.ref 2 0])]
abbrev r4:List (Nat×Nat):=[(0,0),(1,1),(2,2),(3,3)]
theorem mX{a r:Nat}(h:j7 a n=some r):ba prog gl 36 [uG a,uG n] (uG r):=by
 unfold j7 at h;obtain⟨v,e,h⟩:=bS h;refine Gh func36 ?_;refine YR [1,1,0,1,2] (s0 18 gl Yo [(1,u1 a),(2,u1 n),(0,u1 1)] 3 0) [hmc 10 [] 1 [] [uG a,uG n] [(0,⟨23,[uG a],none⟩),(1,⟨23,[uG n],none⟩)] (Kt gl a n) trivial ⟨⟨rfl,.inl rfl⟩,⟨rfl,.inl rfl⟩,trivial⟩] ?_;refine Xt (fst:=[]) (cap:=[.ref 1 0,.ref 2 0]) Tryz.f109 func109 ?_;refine pN (λs:Nat×Nat×Nat=>(s0 22 gl [(0,.yld 3),(1,.ref 1 0),(2,.ref 2 0),(4,uG s.1)] [(0,u1 s.2.2),(2,u1 s.2.1),(3,tL .ready [(5,.ref 0 0)])] 4 4)) 1122 h [hf 6 (dr gl e)] [] (λB s w hs k5 d=>?_) [] r4;unfold mW at hs;rcases bC hs with⟨b1,hs⟩|⟨b1,hs⟩
 .obtain⟨o,c,hs⟩:=bS hs;obtain⟨b,eb,hs⟩:=bS hs;obtain rfl:=bn hs;refine pO 112200 (s0 22 gl [(0,.yld 3),(1,.ref 1 0),(2,.ref 2 0),(4,uG s.1)] [(0,u1 s.2.2),(2,u1 s.2.1),(3,tL .ready [(5,.ref 0 0)])] 4 4) [] [] ?_ [] r4;refine Xw (i:=3) (j:=8) (n:=18) (t:=0) (t2:=0) (pe:=none) (fr:=[(5,.ref 0 0)]) (ps:=Dy FZ) (a:=Dz FZ) (b:=DA FZ) (s1:=(s0 22 gl [(14,bG (decide (((bD s.2.1 1:Nat):Int)=((1:Nat):Int)))),(13,uG (bD s.2.1 1)),(12,uG s.2.1),(11,uG s.1),(10,.yld 3),(9,bG true),(8,bG true),(7,uG s.2.1),(0,.yld 3),(1,.ref 1 0),(2,.ref 2 0),(4,uG s.1)] [(0,u1 s.2.2),(2,u1 s.2.1),(3,tL .ready [(5,.ref 0 0)])] 4 4))
   (s3:=(s0 22 gl [(16,bG true),(15,bG true),(14,bG (decide (((bD s.2.1 1:Nat):Int)=((1:Nat):Int)))),(13,uG (bD s.2.1 1)),(12,uG s.2.1),(11,uG s.1),(10,.yld 3),(9,bG true),(8,bG true),(7,uG s.2.1),(0,.yld 3),(1,.ref 1 0),(2,.ref 2 0),(4,uG s.1)] ((3,tL .ready [(5,.ref 0 0)])::[(0,u1 o),(2,u1 s.2.1),(3,tL .busy [(5,.ref 0 0)])]) 4 4))
   [(0,u1 o),(2,u1 s.2.1),(3,tL .busy [(5,.ref 0 0)])] 4 (.loop .ready none 18 [(5,.ref 0 0)] (Dy FZ) (Dz FZ) (DA FZ)) [hr 8 b1,hV 13 (ju (P:=prog) (t:=23) s.2.1 1)] [] ?_ ?_
  .refine C9 .normal ⟨18,gl,[(5,.ref 0 0),(6,uG s.1),(7,bG (decide (((bD s.2.1 1:Nat):Int)=((1:Nat):Int))))],[(0,u1 s.2.2),(2,u1 s.2.1),(3,tL .ready [(5,.ref 0 0)])],4,4,true⟩ [] [] (Xv Tryz.f36 ?_ rfl) [] r4;rcases bC c with⟨b2,c⟩|⟨b2,c⟩
   .rw[b2];exact C9 .normal ⟨18,gl,[],[(0,u1 o),(2,u1 s.2.1),(3,tL .busy [(5,.ref 0 0)])],4,4,true⟩ [hf 16 (j0 gl c)] [] (jy rfl rfl rfl rfl rfl rfl) [] r4
   .rw[b2];obtain rfl:=bn c;exact C9 .normal ⟨18,gl,[],[(0,u1 s.2.2),(2,u1 s.2.1),(3,tL .busy [(5,.ref 0 0)])],4,4,true⟩ [] [] (jy rfl rfl rfl rfl rfl rfl) [] r4
  .exact jw [hf 21 (j0 gl eb),hV 18 (nx (P:=prog) (t:=23) (k':= .u64) s.2.1 1)] [] (k5 _ rfl) [] r4
 .obtain rfl:=bn hs;obtain rfl:=d _ rfl;refine C9 .normal (s0 22 gl [] [(0,u1 s.2.2),(3,tL .ready [(5,.ref 0 0)])] 4 4) [hr 8 b1] [] (Xu ?_ rfl) [] r4;exact Ar [] []
end
section
attribute [local irreducible] Tr dz Gp
def kE(s k w:Nat):Option Nat:=(jZ 37 s).bind λa=>(eR (wU ((w:Int)+((wU ((k:Int)+((1:Nat):Int)):Nat):Int)))).bind λb=>(wG a b).bind λc=>j7 c 17
def rK(l:List Nat)(x:Nat×Nat×Int):Option ((Nat×Nat×Int)⊕(Nat×Nat)):=bif decide (x.2.2<ah l) then(aS l x.2.2).bind λw=>(kE x.1 x.2.1 w).bind λs=>some (.inl (s,wU ((x.2.1:Int)+((1:Nat):Int)),wI (x.2.2+1))) else some (.inr (x.1,x.2.1))
abbrev Ku(s k:Nat):Option Ob:=some ⟨380,[uG s,uG k],none⟩
abbrev Ci(l:List Nat):Option Ob:=some ⟨23,l.flatMap cW,none⟩
theorem Th{s k:Nat}{r:Nat×Nat}(h:loop (rK l) (s,k,0)=some r):jg prog gl 333 [.ref 0 0,.rsl 1 0 l.length] [(0,Ku s k),(1,Ci l)] 2 (.tup []) [(0,Ku r.1 r.2),(1,Ci l)] 2:=by
 refine pP func333 ?_;refine pN (λx:Nat×Nat×Int=>(s0 37 gl [(0,.ref 0 0),(6,.rsl 1 0 l.length),(7,iG (ah l)),(8,iG x.2.2)] [(0,Ku x.1 x.2.1),(1,Ci l)] 2 2)) 1122 h [] [hc (rfl:l.length=l.length),hc (rW.imm l)] (λB x w hs k5 e=>?_) (kd:=[(1,.row)]);unfold rK at hs;rcases bC hs with⟨b1,hs⟩|⟨b1,hs⟩
 .obtain⟨y,d,hs⟩:=bS hs;obtain⟨s',es,hs⟩:=bS hs;obtain rfl:=bn hs;unfold kE at es;obtain⟨a,ea,es⟩:=bS es;obtain⟨b,eb,es⟩:=bS es;obtain⟨c,f,es⟩:=bS es;exact jw [hr 9 b1,hv 10 (rW.ixrZ 1 d),hv 11 (rW.p10Z tW d),hb 16 (gV (x.2.1:Int) ((1:Nat):Int)),hf 24 (j0 gl ea),hb 30 (gV (y:Int) ((wU ((x.2.1:Int)+((1:Nat):Int)):Nat):Int)),hf 31 (dr gl eb),hf 32 (Ia gl f),hf 33 (mX gl es)] [hc (rfl:l.length=l.length),hc (rW.imm l)] (k5 _ rfl) (kd:=[(1,.row)])
 .obtain rfl:=bn hs;obtain rfl:=e _ rfl;exact mt .normal (s0 37 gl [] [(0,Ku x.1 x.2.1),(1,Ci l)] 2 2) [] [hr 9 b1] [hc (rW.imm l)] (kd:=[(1,.row)])
end
section
attribute [local irreducible] Tr dz Gp
abbrev ny(b:List UInt8):G:= .clo (.func 335) [] [.ptr [aE cY b] 0]
abbrev Kv(b:List UInt8):G:= .clo (.func 377) [] [.ptr [aE cY b] 0,.ptr [iG 7] 0]
theorem Ic(b:List UInt8):ba prog gl 254 [aE cY b] (ny b):=by refine Gh func254 ?_;refine pO [1,0] (s0 4 gl [(1,.ptr [aE cY b] 0)] [] 0 0) [] [hc (aY (aG 20 (aE cY b) aH) bf)] ?_;exact Ar [] []
theorem Ie(b:List UInt8):ba prog gl 336 [aE cY b,iG 7] (Kv b):=by refine Gh func336 ?_;refine pO 1100 (s0 9 gl [(2,.ptr [aE cY b] 0),(3,.ptr [iG 7] 0)] [] 0 0) [] [hc (aY (aG 20 (aE cY b) aH) bf),hc (aY (aG 20 (iG 7) aH) bf)] ?_;exact Ar [] []
def hcv(d:Nat){g:G}{p:Prop}(t:p):HP:=⟨some (.c d g),p,t⟩
theorem Yp{ts te:TypeId}{k:Nat}{f:α->List G}(R:RowTy P ts te k f){l y z:List α}{i j:Int}(h1:tq l j=some y)(h2:mc y i=some z):sJ P ts (aE f l) (iG i) (iG j) (iG j)=some (aE f z):=by obtain⟨a1,a2,rfl⟩:=ym h1;obtain⟨b1,b2,rfl⟩:=yn h2;rw[List.length_take] at b2;simp only[sJ,R.el,R.sz,aE,iG,xL];rw[if_pos aa,yk R.ln,sQ R.ln,List.length_drop,List.length_take];congr 2;omega
def oD(q:List UInt8)(x:Nat×Int):Option ((Nat×Int)⊕Nat):=bif decide (x.2<ah q) then(aS q x.2).bind λy=>(wJ (wI (8*x.2))).bind λn=>some (.inl (gM x.1 (fN (wU (y.toNat:Int)) n),wI (x.2+1))) else some (.inr x.1)
def xZ(b:List UInt8)(x:List Nat×Int):Option ((List Nat×Int)⊕List Nat):=bif decide (x.2<ah b) then(mc b x.2).bind λq0=>(tq b (wI (x.2+iI 7 (ah q0)))).bind λy=>(mc y x.2).bind λq=>(loop (oD q) (0,0)).bind λw=>(aT 8 x.1 [w]).bind λa=>some (.inl (a,wI (x.2+7))) else some (.inr x.1)
def Cj(b:List UInt8):Option (List Nat):=loop (xZ b) ([],0)
end
section
attribute [local irreducible] Tr dz Gp
noncomputable abbrev OV:Code:=bq 11012 (ai Tryz.f334)
noncomputable abbrev Kw:Code:=bq 1112 (ai Tryz.f335)
noncomputable abbrev uS(st:LoopState):Option Ob:=some ⟨0,[],some (.loop st none 13 [(2,.ref 0 0)] (Dy OV) (Dz OV) (DA OV))⟩
noncomputable abbrev rL(st:LoopState):Option Ob:=some ⟨0,[],some (.loop st none 29 [(2,.ref 2 0)] (Dy Kw) (Dz Kw) (DA Kw))⟩
abbrev I8(g:G):Option Ob:=some ⟨47,[g],none⟩
abbrev Kx(i:Nat):Option Ob:=some ⟨307,[.yld i],none⟩
abbrev aar(b:List UInt8)(i m:Int):Fr:=[(0,.yld 3),(1,.ptr [aE cY b] 0),(2,.ptr [iG 7] 0),(4,iG i),(5,iG m)]
noncomputable abbrev σCh(a:List Nat):aQ:=[(0,I8 (.rsl 4 0 a.length)),(1,uS .ready),(2,Kx 1),(3,rL .ready),(4,Ci a)]
abbrev Ti(b q:List UInt8)(i m:Int):Fr:=[(28,aE cY q),(27,iG (wI (i+m))),(26,iG m),(25,iG i),(24,iG (wI (i+m))),(23,iG m),(22,iG i),(21,iG i),(20,aE cY b),(19,.yld 3)]++aar b i m
noncomputable abbrev σRd(a:List Nat):aQ:=[(0,I8 (.rsl 5 0 a.length)),(1,uS .ready),(2,Kx 1),(3,rL .busy),(5,Ci a)]
theorem F0{b:List UInt8}{r:List Nat}(h:Cj b=some r):iV prog gl 334 [.lit (.slice none 0 0),ny b] 23 r.length (r.flatMap cW):=by
 unfold Cj at h;refine OW func334 ?_;refine YR [1,0,1,2] (s0 13 gl [(2,.ref 0 0),(6,ny b)] [(0,I8 (.lit (.slice none 0 0)))] 1 0) [] ?_;refine Xt (fst:=[]) (cap:=[.ptr [aE cY b] 0]) Tryz.f335 func335 ?_;refine YR [1,1,2] (s0 29 gl [(2,.ref 2 0),(8,Kv b)] [(2,Kx 1),(1,some ⟨0,[],some (.loop .ready none 13 [(2,.ref 0 0),(6,ny b)] (Dy OV) (Dz OV) (DA OV))⟩),(0,I8 (.lit (.slice none 0 0)))] 3 2) [hf 8 (Ie gl b)] ?_;refine Xt (fst:=[]) (cap:=[.ptr [aE cY b] 0,.ptr [iG 7] 0]) Tryz.f377 func377 ?_;refine pN (λx:List Nat×Int=>(s0 31 gl [(0,.yld 3),(1,.ptr [aE cY b] 0),(2,.ptr [iG 7] 0),(4,iG x.2)] [(0,I8 (.rsl 4 0 x.1.length)),(1,uS .ready),(2,Kx 1),(3,rL .ready),(4,Ci x.1)] 5 4)) 1122 h [] [hc (rW.imm [])] (λB x w hs k5 d=>?_) (vs:=[23]) (ρ:=rI 5) (kd:=[(4,.row)]);unfold xZ at hs;rcases bC hs with⟨b1,hs⟩|⟨b1,hs⟩
 .obtain⟨q0,e0,hs⟩:=bS hs;obtain⟨y,k,hs⟩:=bS hs;obtain⟨q,l,hs⟩:=bS hs;obtain⟨w,ew,hs⟩:=bS hs;obtain⟨a,ea,hs⟩:=bS hs;obtain rfl:=bn hs;refine pO 112210210 (s0 31 gl [(0,.yld 3),(1,.ptr [aE cY b] 0),(2,.ptr [iG 7] 0),(4,iG x.2),(5,iG (iI 7 (ah q0)))] [(0,I8 (.rsl 4 0 x.1.length)),(1,uS .ready),(2,Kx 1),(3,rL .ready),(4,Ci x.1)] 5 4) [hr 9 b1,hv 16 (rY.sufZI e0)] [hc (rfl:x.1.length=x.1.length),hc (rW.imm x.1)] ?_ (ρ:=rI 5) (kd:=[(4,.row)]);refine Xw (i:=3) (j:=10) (n:=29) (t:=0) (t2:=0) (pe:=none) (fr:=[(2,.ref 2 0)]) (ps:=Dy Kw) (a:=Dz Kw) (b:=DA Kw) (s1:=(s0 31 gl (Ti b q x.2 (iI 7 (ah q0))) (σCh x.1) 5 4))
   (s3:=(s0 31 gl ([(30,bG false),(29,bG true)]++Ti b q x.2 (iI 7 (ah q0))) ((3,rL .ready)::σRd a) 6 4))
   (σRd a) 6 (.loop .ready none 29 [(2,.ref 2 0)] (Dy Kw) (Dz Kw) (DA Kw)) [hcv 28 (g:=aE cY q) (Yp rY k l)] [] ?_ ?_
  .refine C9 .normal ⟨29,gl,[(2,.ref 2 0),(3,aE cY q)],σCh x.1,5,5,true⟩ [] [hc (rfl:x.1.length=x.1.length),hc (rW.imm x.1)] (Xv Tryz.f335 ?_ rfl) (ρ:=rI 5) (kd:=[(4,.row)]);refine Ix 12101 ⟨29,gl,[(2,.ref 2 0),(4,uG w)],[(0,I8 (.rsl 4 0 x.1.length)),(1,uS .ready),(2,Kx 1),(3,rL .busy),(4,Ci x.1)],5,5,true⟩ ?_ λm=>?_
   .refine pO 12110 ⟨29,gl,[(2,.ref 2 0),(4,uG w)],[(0,I8 (.rsl 4 0 x.1.length)),(1,uS .ready),(2,Kx 1),(3,rL .busy),(4,Ci x.1)],5,5,true⟩ [] [hc (rfl:x.1.length=x.1.length),hc (rW.imm x.1)] ?_ (ρ:=rI 5) (kd:=[(4,.row)]);refine Xw (i:=1) (j:=2) (n:=13) (t:=0) (t2:=0) (pe:=none) (fr:=[(2,.ref 0 0)]) (ps:=Dy OV) (a:=Dz OV) (b:=DA OV) (s1:=⟨29,gl,[(26,uG w),(25,.yld 1),(2,.ref 2 0),(4,uG w)],[(0,I8 (.rsl 4 0 x.1.length)),(1,uS .ready),(2,Kx 1),(3,rL .busy),(4,Ci x.1)],5,5,true⟩)
     (s3:=⟨29,gl,[(28,bG false),(27,bG true),(26,uG w),(25,.yld 1),(2,.ref 2 0),(4,uG w)],(1,uS .ready)::[(0,I8 (.rsl 5 0 a.length)),(1,uS .busy),(2,Kx 1),(3,rL .busy),(5,Ci a)],6,5,true⟩)
     [(0,I8 (.rsl 5 0 a.length)),(1,uS .busy),(2,Kx 1),(3,rL .busy),(5,Ci a)] 6 (.loop .ready none 13 [(2,.ref 0 0)] (Dy OV) (Dz OV) (DA OV)) [] [] ?_ ?_
    .refine C9 .normal ⟨13,gl,[(2,.ref 0 0),(5,uG w)],[(0,I8 (.rsl 4 0 x.1.length)),(1,uS .ready),(2,Kx 1),(3,rL .busy),(4,Ci x.1)],5,5,true⟩ [] [hc (rfl:x.1.length=x.1.length),hc (rW.imm x.1)] (Xv Tryz.f334 ?_ rfl) (ρ:=rI 5) (kd:=[(4,.row)]);exact C9 .normal ⟨13,gl,[],[(0,I8 (.rsl 5 0 a.length)),(1,uS .busy),(2,Kx 1),(3,rL .busy),(5,Ci a)],6,5,true⟩ [dg 11 rW ea] [hc (el a),hc (rW.imm a)] (jy rfl rfl rfl rfl rfl rfl) (ρ:=rI 5++[(5,6)]) (kd:=[(5,.row)])
    .exact C9 .normal ⟨29,gl,[],σRd a,6,5,true⟩ [] [hc (el a),hc (rW.imm a)] (jy rfl rfl rfl rfl rfl rfl) (ρ:=rI 6) (kd:=[(5,.row)])
   refine pN (λz:Nat×Int=>⟨29,gl,[(2,.ref 2 0),(4,uG z.1),(10,aE cY q),(11,iG (ah q)),(12,iG z.2)],[(0,I8 (.rsl 4 0 x.1.length)),(1,uS .ready),(2,Kx 1),(3,rL .busy),(4,Ci x.1)],5,5,true⟩) [2,1,0,1,2,2] ew [] [hc (rfl:x.1.length=x.1.length),hc (rW.imm x.1)] (λo z v hz e f=>?_) (ρ:=rI 5) (kd:=[(4,.row)]);unfold oD at hz;rcases bC hz with⟨c1,hz⟩|⟨c1,hz⟩
   .obtain⟨c,e1,hz⟩:=bS hz;obtain⟨n1,e2,hz⟩:=bS hz;obtain rfl:=bn hz;exact jw [hr 13 c1,hv 15 (rY.ixZ e1),hv 16 (rY.p1Z tY e1),hv 19 (C8 (c.toNat:Int)),hV 22 (sM (P:=prog) (t:=23) (wU (c.toNat:Int)) e2),hV 23 (jc (P:=prog) (t:=23) z.1 (fN (wU (c.toNat:Int)) n1))] [hc (rfl:x.1.length=x.1.length),hc (rW.imm x.1)] (e _ rfl) (ρ:=rI 5) (kd:=[(4,.row)])
   .obtain rfl:=bn hz;obtain rfl:=f _ rfl;exact yl 12101 [hr 13 c1] [hc (rfl:x.1.length=x.1.length),hc (rW.imm x.1)] m (ρ:=rI 5) (kd:=[(4,.row)])
  .exact jw [] [hc (rfl:a.length=a.length),hc (rW.imm a)] (k5 _ rfl) (ρ:=rI 4++[(4,5)]) (kd:=[(4,.row)])
 .obtain rfl:=bn hs;obtain rfl:=d _ rfl;refine C9 .normal (s0 31 gl [] [(0,I8 (.rsl 4 0 x.1.length)),(1,uS .ready),(3,rL .ready),(4,Ci x.1)] 5 4) [hr 9 b1] [hc (rfl:x.1.length=x.1.length),hc (rW.imm x.1)] (Xu ?_ rfl) (ρ:=rI 5) (kd:=[(4,.row)]);refine C9 .normal (s0 29 gl [] [(0,I8 (.rsl 4 0 x.1.length)),(1,uS .ready),(4,Ci x.1)] 5 2) [] [hc (rfl:x.1.length=x.1.length),hc (rW.imm x.1)] (Xu ?_ rfl) (ρ:=[(0,0),(1,1),(4,4)]) (kd:=[(4,.row)]);exact EI [] (rW.imm _)
end
section
attribute [local irreducible] Tr dz Gp
theorem Ky{b:List UInt8}{r:List Nat}(h:Cj b=some r):iV prog gl 253 [ny b] 23 r.length (r.flatMap cW):=by refine OW func253 ?_;exact EI [ho 4 [.lit (.slice none 0 0),ny b] [] (F0 gl h) (Gj (λx g hg=>by simp only[cW,List.mem_singleton] at hg;exact⟨_,hg⟩) r)] (rW.imm _)
end
section
attribute [local irreducible] Tr dz Gp
theorem Qx{σ ρ:Type}{step:σ->Option (σ⊕ρ)}{s s':σ}{r:ρ}(h1:step s=some (.inl s'))(h2:step s'=some (.inr r)):loop step s=some r:=by unfold loop FU;rw[show(4611686018427387904:Nat)=4611686018427387902+1+1 from rfl];unfold KN;rw[h1];show KN step (4611686018427387902+1) s'=some r;unfold KN;rw[h2]
def k1(k:Nat):Nat:=wU ((k:Int)+((1:Nat):Int))
theorem Qy{s k w s':Nat}(h:kE s k w=some s'):jg prog gl 333 [.ref 0 0,.rsl 1 0 1] [(0,Ku s k),(1,Ci [w])] 2 (.tup []) [(0,Ku s' (k1 k)),(1,Ci [w])] 2:=by
 have e:loop (rK [w]) (s,k,0)=some (s',k1 k):=by
  refine Qx (s':=(s',k1 k,1)) ?_ ?_
  .unfold rK;rw[decide_eq_true (show((s,k,0):Nat×Nat×Int).2.2<ah [w] by simp[ah]),ax];show(some w:Option Nat).bind _=_;rw[aL];show(kE s k w).bind _=_;rw[h,aL];rfl
  .unfold rK;rw[decide_eq_false (show¬((s',k1 k,1):Nat×Nat×Int).2.2<ah [w] by simp[ah]),aM]
 exact Th gl e
end
section
attribute [local irreducible] Tr dz Gp
def F1(b:List UInt8)(x:(Nat×Nat)×Int):Option (((Nat×Nat)×Int)⊕(Nat×Nat)):=bif decide (x.2<ah b) then(mc b x.2).bind λq0=>(tq b (wI (x.2+iI 7 (ah q0)))).bind λy=>(mc y x.2).bind λq=>(loop (oD q) (0,0)).bind λw=>(kE x.1.1 x.1.2 w).bind λs=>some (.inl ((s,k1 x.1.2),wI (x.2+7))) else some (.inr x.1)
def F3(l:List Nat)(x:(Nat×Nat)×Int):Option (((Nat×Nat)×Int)⊕(Nat×Nat)):=bif decide (x.2<ah l) then(aS l x.2).bind λy=>(eR y).bind λn=>(kE x.1.1 x.1.2 n).bind λs=>some (.inl ((s,k1 x.1.2),wI (x.2+1))) else some (.inr x.1)
def x6(label:List UInt8)(l:List Nat):Option Nat:=(Gk label).bind λt=>(loop (F1 t) ((wU (ah label),0),0)).bind λa=>(kE a.1 a.2 (wU (ah l))).bind λs1=>(loop (F3 l) ((s1,k1 a.2),0)).bind λc=>kE c.1 c.2 0
end
def T{α:Type}(x:Option α)(Q:α->Prop):Prop:=∃v,x=some v/\Q v
section
variable {α β γ σ ρ:Type}
theorem T.mono{x:Option α}{Q R:α->Prop}(h:T x Q)(k:∀v,Q v->R v):T x R:=by obtain⟨v,e,q⟩:=h;exact⟨v,e,k v q⟩
theorem T.some{v:α}{Q:α->Prop}(h:Q v):T (some v) Q:=⟨v,rfl,h⟩
theorem T.bind{x:Option α}{f:α->Option β}{Q:β->Prop}(h:T x λv=>T (f v) Q):T (x.bind f) Q:=by obtain⟨v,e,w,e2,q⟩:=h;exact⟨w,by rw[e];exact e2,q⟩
theorem T.eqb{x:Option α}{f:α->Option β}{Q:β->Prop}{v:α}(e:x= .some v)(h:T (f v) Q):T (x.bind f) Q:= .bind ⟨v,e,h⟩
theorem T.ite{c:Bool}{a b:Option α}{Q:α->Prop}(h1:c=true->T a Q)(h2:c=false->T b Q):T (bif c then a else b) Q:=by
 cases c with
 |true=>exact h1 rfl
 |false=>exact h2 rfl
theorem T.dec{p:Prop}[Decidable p]{a b:Option α}{Q:α->Prop}(h1:p->T a Q)(h2:¬p->T b Q):T (bif decide p then a else b) Q:= .ite (λh=>h1 (of_decide_eq_true h)) λh=>h2 (of_decide_eq_false h)
theorem T.eq{x:Option α}{v:α}(h:T x λw=>w=v):x= .some v:=by obtain⟨w,e,rfl⟩:=h;exact e
theorem T.of{x:Option α}{v:α}{Q:α->Prop}(h:x= .some v)(q:Q v):T x Q:=⟨v,h,q⟩
theorem T.ix{l:List α}{i:Int}{Q:α->Prop}{x:α}(h0:0<=i)(hx:l[i.toNat]?= .some x)(h:Q x):T (aS l i) Q:=⟨x,by unfold aS;rw[if_pos h0,hx],h⟩
theorem T.ixl{l:List α}{i:Int}{Q:α->Prop}(h0:0<=i)(h1:i<l.length)(h:∀x,l[i.toNat]?= .some x->x∈l->Q x):T (aS l i) Q:=by have hx:l[i.toNat]?= .some (l[i.toNat]'aa):=cv _;exact .ix h0 hx (h _ hx (bO hx))
theorem T.app{b:Nat}{l r:List α}{Q:List α->Prop}(h:(l.length+r.length)*b<=140737488355328)(q:Q (l++r)):T (aT b l r) Q:=⟨_,by unfold aT;rw[if_pos h],q⟩
theorem T.rem{a b:Int}{Q:Int->Prop}(h:b≠0)(q:Q (a.tmod b)):T (u9 a b) Q:=⟨_,by unfold u9;rw[if_neg h],q⟩
theorem T.quo{a b:Int}{Q:Int->Prop}(h:b≠0)(q:Q (IntKind.i64.wrap (a.tdiv b))):T (Gg a b) Q:=⟨_,by unfold Gg;rw[if_neg h],q⟩
theorem T.set{l:List α}{i:Int}{x:α}{Q:List α->Prop}(h0:0<=i)(h1:i<l.length)(q:Q (l.set i.toNat x)):T (ji l i x) Q:=⟨_,by unfold ji;rw[if_pos ⟨h0,aa⟩],q⟩
theorem T.pre{l:List α}{i:Int}{Q:List α->Prop}(h0:0<=i)(h1:i<=l.length)(q:Q (l.take i.toNat)):T (tq l i) Q:=⟨_,by unfold tq;rw[if_pos ⟨h0,aa⟩],q⟩
theorem T.suf{l:List α}{i:Int}{Q:List α->Prop}(h0:0<=i)(h1:i<=l.length)(q:Q (l.drop i.toNat)):T (mc l i) Q:=⟨_,by unfold mc;rw[if_pos ⟨h0,aa⟩],q⟩
theorem T.make{b:Nat}{z:α}{n:Int}{Q:List α->Prop}(h0:0<=n)(h1:b*n.toNat<=281474976710656)(h2:n<=9223372036854775807)(q:Q (List.replicate n.toNat z)):T (rP b z n) Q:=⟨_,by unfold rP;rw[if_pos ⟨h0,h1,h2⟩],q⟩
def Rd(N:σ->Prop)(Q:ρ->Prop):σ⊕ρ->Prop
 | .inl s=>N s
 | .inr r=>Q r
theorem T.lpN{step:σ->Option (σ⊕ρ)}{Q:ρ->Prop}(I:σ->Prop)(μ:σ->Nat)(h:∀s,I s->T (step s) (Rd (λs'=>I s'/\μ s'<μ s) Q)):∀(n:Nat) (s:σ),μ s<n->I s->T (KN step n s) Q
 |0,s,hn,_=>absurd hn (Nat.not_lt_zero _)
 |n+1,s,hn,hi=>by
  obtain⟨r,e,q⟩:=h s hi;unfold KN;rw[e];cases r with
  |inl s'=>exact T.lpN I μ h n s' (by have:=q.2;omega) q.1
  |inr r=>exact⟨r,rfl,q⟩
theorem T.loop{step:σ->Option (σ⊕ρ)}{Q:ρ->Prop}{s:σ}(I:σ->Prop)(μ:σ->Nat)(hi:I s)(hm:μ s<4611686018427387904)(h:∀s,I s->T (step s) (Rd (λs'=>I s'/\μ s'<μ s) Q)):T (loop step s) Q:=T.lpN I μ h _ s hm hi
theorem T.forA{step:σ×Int->Option ((σ×Int)⊕ρ)}{Q:ρ->Prop}{a:σ}(n:Nat)(J:Nat->σ->Prop)(hn:n<2305843009213693952)(h0:J 0 a)(h:∀k b,k<n->J k b->T (step (b,(k:Int))) (Rd (λs'=>s'.2=((k+1:Nat):Int)/\J (k+1) s'.1) Q))(he:∀b,J n b->T (step (b,(n:Int))) (Rd (λ_=>False) Q)):T (Go.Proofs.YtnpdibmpndhkjaaGreatDoor.loop step (a,0)) Q:=by
 refine T.loop (λs=>∃k:Nat,k<=n/\s.2=(k:Int)/\J k s.1) (λs=>n-s.2.toNat) ⟨0,aa,rfl,h0⟩ cq ?_;rintro⟨b,i⟩ ⟨k,hk,hik,hj⟩;simp only at hik hj;subst hik;rcases Nat.lt_or_ge k n with hlt|hge
 .refine(h k b hlt hj).mono λr hr=>?_;cases r with
  |inl s'=>refine⟨⟨k+1,aa,hr.1,hr.2⟩,?_⟩;rw[hr.1];simp;omega
  |inr r=>exact hr
 .obtain rfl:k=n:=aa;refine(he b hj).mono λr hr=>?_;cases r with
  |inl s'=>exact hr.elim
  |inr r=>exact hr
theorem T.forI{step:Int->Option (Int⊕ρ)}{Q:ρ->Prop}(n:Nat)(J:Nat->Prop)(hn:n<2305843009213693952)(h0:J 0)(h:∀k,k<n->J k->T (step (k:Int)) (Rd (λs'=>s'=((k+1:Nat):Int)/\J (k+1)) Q))(he:J n->T (step (n:Int)) (Rd (λ_=>False) Q)):T (Go.Proofs.YtnpdibmpndhkjaaGreatDoor.loop step 0) Q:=by
 refine T.loop (λs=>∃k:Nat,k<=n/\s=(k:Int)/\J k) (λs=>n-s.toNat) ⟨0,aa,rfl,h0⟩ cq ?_;rintro i ⟨k,hk,hik,hj⟩;subst hik;rcases Nat.lt_or_ge k n with hlt|hge
 .refine(h k hlt hj).mono λr hr=>?_;cases r with
  |inl s'=>refine⟨⟨k+1,aa,hr.1,hr.2⟩,?_⟩;rw[hr.1];simp;omega
  |inr r=>exact hr
 .obtain rfl:k=n:=aa;refine(he hj).mono λr hr=>?_;cases r with
  |inl s'=>exact hr.elim
  |inr r=>exact hr
theorem bM{z:Int}(h1: -9223372036854775808<=z)(h2:z<=9223372036854775807):wI z=z:=by unfold wI;rw[IntKind.wrap_i64];omega
theorem aq{k:Nat}(h:k<2305843009213693952):wI ((k:Int)+1)=((k+1:Nat):Int):=by rw[bM aa aa];omega
theorem rM(h:n<18446744073709551616):wU (n:Int)=n:=by unfold wU;rw[IntKind.wrap_u64];omega
theorem au{l:List α}{k:Nat}:aS l (k:Int)=l[k]? :=by unfold aS;rw[if_pos aa,Int.toNat_natCast]
theorem eA{l:List α}{k:Nat}(h:k<l.length):decide ((k:Int)<ah l)=true:=decide_eq_true (by unfold ah;omega)
theorem eF{l:List α}:decide ((l.length:Int)<ah l)=false:=decide_eq_false (by unfold ah;omega)
theorem T.forE{step:List β×Int->Option ((List β×Int)⊕List β)}(l:List α)(b:List β)(enc:α->List β)(c:Nat)(hn:l.length<2305843009213693952)(hc:∀x∈l,(enc x).length<=c)(h:∀(k:Nat) (a:List β) (x:α),l[k]?= .some x->x∈l->k<l.length->a.length<=b.length+k*c->T (step (a,(k:Int))) (Rd (λs'=>s'.2=((k+1:Nat):Int)/\s'.1=a++enc x) (λ_=>False)))(he:∀a,step (a,(l.length:Int))= .some (.inr a)):T (Go.Proofs.YtnpdibmpndhkjaaGreatDoor.loop step (b,0)) (λr=>r=b++l.flatMap enc):=by
 refine T.forA l.length (λk a=>a=b++(l.take k).flatMap enc/\a.length<=b.length+k*c) hn aC (λk a hk hj=>?_) λa hj=>?_
 .have hx:l[k]?= .some (l[k]'hk):=cv hk;refine(h k a _ hx (List.getElem_mem hk) hk hj.2).mono λr hr=>?_;cases r with
  |inr r=>exact hr.elim
  |inl s'=>
   obtain⟨h1,h2⟩:=hr;refine⟨h1,?_,?_⟩
   .have e:l.take (k+1)=l.take k++[l[k]]:=by rw[List.take_add_one,hx];rfl
    rw[h2,hj.1,e,List.flatMap_append,List.append_assoc];simp
   .have:=hc _ (List.getElem_mem hk);rw[h2,List.length_append,Nat.succ_mul];have:=hj.2;omega
 .rw[he];refine .some ?_;show a=_;rw[hj.1,List.take_length]
theorem d8{l:List α}{enc:α->List β}{c:Nat}(hc:∀x∈l,(enc x).length<=c):(l.flatMap enc).length<=l.length*c:=by
 induction l with
 |nil=>simp
 |cons x r ih=>rw[List.flatMap_cons,List.length_append,List.length_cons,Nat.succ_mul];have h1:=hc x aC;have h2:=ih λy hy=>hc y (by simp[hy]);omega
theorem T.appL{l r:List α}{n m:Nat}{Q:List α->Prop}(h1:l.length<=n)(h2:r.length<=m)(a:n+m<=140737488355328)(q:(l++r).length<=n+m->Q (l++r)):T (aT 1 l r) Q:= .app aa (q (by rw[List.length_append];omega))
theorem T.then{x:Option α}{f:α->Option β}{v:α}{Q:β->Prop}(h:T x λw=>w=v)(q:T (f v) Q):T (x.bind f) Q:= .bind (h.mono λw e=>by rw[e];exact q)
end
section
attribute [local irreducible] Tr D8 tg GS TG Le Wk ve ba bB zD J6 Dp
section
variable {P:Program} {t:TypeId} {x y:Operand}
theorem SS{a b:Nat}(ha:a<2^63)(hb:b<2^63):b8 P .or t x y (.lit (.int .i64 (a:Int))) (.lit (.int .i64 (b:Int)))=some (.lit (.int .i64 ((a|||b:Nat):Int))):=by
 have h:b8 P .or t x y (.lit (.int .i64 (a:Int))) (.lit (.int .i64 (b:Int)))=some (.lit (.int .i64 (IntKind.i64.wrap ((BitVec.ofInt IntKind.i64.bits (a:Int)|||BitVec.ofInt IntKind.i64.bits (b:Int)).toNat:Nat)))):=by simp[b8,cD,eqGuard,binOp,Op.intBits,bz,db]
 have h1:(BitVec.ofInt IntKind.i64.bits (a:Int)|||BitVec.ofInt IntKind.i64.bits (b:Int)).toNat=a|||b:=by show(BitVec.ofInt 64 (a:Int)|||BitVec.ofInt 64 (b:Int)).toNat=a|||b;rw[BitVec.ofInt_natCast,BitVec.ofInt_natCast,BitVec.toNat_or,BitVec.toNat_ofNat,BitVec.toNat_ofNat,Nat.mod_eq_of_lt aa,Nat.mod_eq_of_lt aa]
 have h2:a|||b<2^63:=Nat.or_lt_two_pow ha hb;rw[h,h1,w64 aa]
end
section
variable {P:Program} {ops:Array Oper} {K:St->Prop} {rest:List Oper} {n:Nat} {gl:List (Nat×List G)} {fr:Fr} {σ:aQ} {c p:Nat} {rr:Bool} {d:Tmp} {ty:TypeId} {pos:String} {af:Array Edge}
end
end
section
variable {P:Program} {x y:Operand} {t:TypeId}
end
theorem im1{a:G}(ha:bB a):∀g∈[a],bB g:=λg hg=>by simp only[List.mem_cons,List.not_mem_nil,or_false] at hg;subst hg;exact ha
theorem im2{a b:G}(ha:bB a)(hb:bB b):∀g∈[a,b],bB g:=λg hg=>by
 simp only[List.mem_cons,List.not_mem_nil,or_false] at hg;rcases hg with rfl|rfl
 .exact ha
 .exact hb
abbrev gU'(n:Nat):G:= .lit (.int .u64 (n:Int))
def nb(k:Nat):List UInt8:=if h:k<128 then[UInt8.ofNat k] else UInt8.ofNat (k%128+128)::nb (k/128)
 termination_by k
 decreasing_by omega
theorem H6{k:Nat}(h:k<128):nb k=[UInt8.ofNat k]:=by rw[nb,dif_pos h]
theorem Er{k:Nat}(h:¬k<128):nb k=UInt8.ofNat (k%128+128)::nb (k/128):=by rw[nb,dif_neg h]
theorem Qu:∀(f k:Nat),k<128^(f+1)->(nb k).length<=f+1
 |0,k,h=>by rw[H6 (by simpa using h)];simp
 |f+1,k,h=>by
  by_cases h1:k<128
  .rw[H6 h1];simp
  .rw[Er h1];have:=Qu f (k/128) (by rw[Nat.div_lt_iff_lt_mul aa,<-Nat.pow_succ];exact h);simp;omega
theorem ow{k:Nat}(h:k<18446744073709551616):(nb k).length<=10:=Qu 9 k (Nat.lt_of_lt_of_le h a9)
theorem Yj(k:Nat):nb k≠[]:=by
 by_cases h:k<128
 .rw[H6 h];simp
 .rw[Er h];simp
theorem Yk(h:n<256):gY (UInt8.ofNat n)= .lit (.int .u8 (n:Int)):=by
 have:(UInt8.ofNat n).toNat=n:=by simp;omega
 unfold gY;rw[this]
set_option maxRecDepth 100000 in
theorem V4:∀a:Fin 256,a.1|||128=a.1%128+128:=a9
theorem Yl{a b:Int}:b8 P .or t x y (.lit (.int k a)) (.lit (.int k b))=some (.lit (.int k (k.wrap ((BitVec.ofInt k.bits a|||BitVec.ofInt k.bits b).toNat:Nat)))):=by simp[b8,cD,eqGuard,binOp,Op.intBits,bz,db]
theorem V5{a b:Int}:b8 P .xor t x y (.lit (.int k a)) (.lit (.int k b))=some (.lit (.int k (k.wrap ((BitVec.ofInt k.bits a^^^BitVec.ofInt k.bits b).toNat:Nat)))):=by simp[b8,cD,eqGuard,binOp,Op.intBits,bz,db]
theorem V6:b8 P .or t x y (.lit (.int .u8 (n:Int))) (.lit (.int .u8 128))=some (.lit (.int .u8 ((n%128+128:Nat):Int))):=by
 rw[Yl];have h:(BitVec.ofInt IntKind.u8.bits (n:Int)|||BitVec.ofInt IntKind.u8.bits 128).toNat=n%128+128:=by show(BitVec.ofInt 8 (n:Int)|||BitVec.ofInt 8 ((128:Nat):Int)).toNat=_;rw[BitVec.ofInt_natCast,BitVec.ofInt_natCast,BitVec.toNat_or,BitVec.toNat_ofNat,BitVec.toNat_ofNat];have:=V4 ⟨n%256,aa⟩;simp only[] at this;show n%256|||128=_;rw[this];omega
 rw[h,wu8 aa]
def Mk(n:Int):Nat:=if n<0 then(-(n+1)).toNat*2+1 else n.toNat*2
theorem FQ{n:Int}(h: -9223372036854775808<=n/\n<=9223372036854775807):Mk n<18446744073709551616:=by unfold Mk;split<;>omega
theorem Ym{n:Int}(h: -9223372036854775808<=n/\n<=9223372036854775807):b8 P .xor t x y (.lit (.int .u64 (IntKind.u64.wrap (IntKind.u64.wrap n*2^1)))) (.lit (.int .u64 (IntKind.u64.wrap (n.fdiv (2^63)))))=some (gU' (Mk n)):=by
 rw[V5];have h64:∀z:Int,IntKind.u64.wrap z=z%18446744073709551616:=λz=>IntKind.wrap_u64 z;congr 3;by_cases hn:n<0
 .have e1:n.fdiv (2^63)= -1:=by rw[Int.fdiv_eq_ediv_of_nonneg _ a9];have e:(2:Int)^63=9223372036854775808:=a9;rw[e];omega
  have e2:IntKind.u64.wrap (IntKind.u64.wrap n*2^1)=(((18446744073709551616+2*n)%18446744073709551616).toNat:Int):=by simp only[h64];omega
  rw[e1,e2,h64 (-1)];show IntKind.u64.wrap ((BitVec.ofInt 64 _^^^BitVec.ofInt 64 ((18446744073709551615:Nat):Int)).toNat:Nat)=_;rw[BitVec.ofInt_natCast,BitVec.ofInt_natCast];have e3:BitVec.ofNat 64 18446744073709551615=BitVec.allOnes 64:=a9;rw[e3,BitVec.xor_allOnes,BitVec.toNat_not,BitVec.toNat_ofNat,h64];unfold Mk;rw[if_pos hn];omega
 .have e1:n.fdiv (2^63)=0:=by rw[Int.fdiv_eq_ediv_of_nonneg _ a9];have e:(2:Int)^63=9223372036854775808:=a9;rw[e];omega
  have e2:IntKind.u64.wrap (IntKind.u64.wrap n*2^1)=((n.toNat*2:Nat):Int):=by simp only[h64];omega
  rw[e1,e2,h64 0];show IntKind.u64.wrap ((BitVec.ofInt 64 _^^^BitVec.ofInt 64 ((0:Nat):Int)).toNat:Nat)=_;rw[BitVec.ofInt_natCast,BitVec.ofInt_natCast];have e3:BitVec.ofNat 64 0=0#64:=a9;rw[e3,BitVec.xor_zero,BitVec.toNat_ofNat,h64];unfold Mk;rw[if_neg hn];omega
end Go.Proofs.YtnpdibmpndhkjaaGreatDoor
