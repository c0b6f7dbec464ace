/- Texts. -/
import Derived.Test.YtaiecngnppbhlaaGreatDoorSA
namespace Go.Proofs.YtaiecngnppbhlaaGreatDoor
set_option linter.unusedSectionVars false
set_option linter.unusedVariables false
set_option linter.unusedSimpArgs false
open Go.RowKit Tryz
variable (gl:List (Nat×List G))
variable {L seen:List Nat}{c clock i j k n nn p since:Nat}{f fi_f fid:FuncId}{fa_f fc_f gs:List G}{r:G}{fn:Func}{ex:Exit}{s:List DBox}{t t2:TypeId}{fr:Fr}{ps:Array Tmp}{a b bd:Code}{l:List Oper}{s1 st:St}{pe:Option Code}{o:Oper}{es:List (Value×G×Nat)}
section
set_option maxHeartbeats 2000000
attribute [local irreducible] Tr dz Gp
def sd(g:D12G)(n:Int)(m:Int):Option DOp:=
 (iq n 1000000).bind λj=>(iq m 1000000).bind λb=>(z7 b).bind λO=>bif decide (ah g.L=0) then(some ⟨1,1,1,0,[],0,0,0,0,[],⟨0,0,0⟩,0,[],[],⟨0,0,0⟩,[],Int.tmod j 4,0,[],0,[],⟨0,0⟩⟩) else((bif decide (ah g.L<4) then(some ⟨1,0,2,0,[],wI ((ah g.L)+1),0,0,wI (3-(wI (Int.tdiv (Int.tmod j 5) 4))),[],⟨0,0,0⟩,0,[],[],⟨0,0,0⟩,[],0,0,[],0,[],⟨0,0⟩⟩) else(some ⟨wI (1+(Int.tmod j 5)),0,O,0,[],0,0,0,0,[],⟨0,0,0⟩,0,[],[],⟨0,0,0⟩,[],0,0,[],0,[],⟨0,0⟩⟩):Option DOp).bind λa=>(zJ g a.By (wI (Int.tdiv j 5))).bind λz=>(bif decide (ah g.L<4) then((xt g).bind λk=>some k) else(some z)).bind λj12=>(nS g j12 6).bind λf=>(bif decide (f.1=(⟨0,0,0⟩:DIdent)) then((aS g.IDs 0).bind λe=>some (e.By,e.Seq,e.Sum)) else(some (f.1.By,f.1.Seq,f.1.Sum)):Option (Int×Int×Nat)).bind λc=>(bif decide (a.Kind=2) then((bif decide (4<=ah g.L) then(some (wI (4+(Int.tmod (wI (Int.tdiv b 20)) 3)),wI (1+(Int.tmod (wI (Int.tdiv (wI (Int.tdiv b 20)) 3)) 3)))) else(some (a.Device,a.Role))).bind λl=>some ({a with Past:=[],Device:=l.1,Role:=l.2,Path:=[],Body:=[],Refs:=[],Guards:=[],Boxes:=[],Hist:=[]},j12)) else((bif decide (a.Kind=3) then((bif decide (Int.tmod (wI (Int.tdiv b 20)) 5=1) then(some (0,wI (1+(Int.tmod (wI (Int.tdiv (wI (Int.tdiv b 20)) 5)) 3)))) else(some (wI (1+(Int.tmod (wI (Int.tdiv b 20)) 6)),a.Member))).bind λo=>some ({a with Past:=[],Device:=o.1,Member:=o.2,Path:=[],Body:=[],Refs:=[],Guards:=[],Boxes:=[],Hist:=[]},j12)) else((bif decide (a.Kind=5) then(some ({a with Past:=[],Member:=wI (1+(Int.tmod (wI (Int.tdiv b 20)) 3)),Role:=wI (1+(Int.tmod (wI (Int.tdiv (wI (Int.tdiv b 20)) 3)) 3)),Path:=[],Body:=[],Refs:=[],Guards:=[],Boxes:=[],Hist:=[]},j12)) else((bif decide (a.Kind=6) then((u9 (wI (Int.tdiv b 20)) (iI (ah g.IDs) 4)).bind λA=>(aS g.IDs A).bind λB=>(bif decide (Int.tmod (wI (Int.tdiv b 20)) 3=1) then(some ([wU (Int.tmod (wI (Int.tdiv (wI (Int.tdiv b 20)) 3)) 5),wU (Int.tmod (wI (Int.tdiv (wI (Int.tdiv b 20)) 15)) 5)]:List Nat)) else(some [])).bind λC=>some ({a with Past:=[],Path:=[],Epoch:=B,N:=Int.tmod (wI (Int.tdiv (wI (Int.tdiv b 20)) 4)) 2,Body:=([wY (wI (Int.tdiv b 20)),1,2,3,4,5,6,7,8]:List UInt8),Refs:=C,Guards:=[],Boxes:=[],Hist:=[]},j12)) else((bif decide (a.Kind=7) then(some ({a with Past:=[],Path:=[],Body:=([wY (wI (97+(Int.tmod (wI (Int.tdiv b 20)) 3)))]:List UInt8),Refs:=[],Of:=⟨c.1,c.2.1,c.2.2⟩,Guards:=[],Boxes:=[],Hist:=[]},j12)) else((bif decide (a.Kind=8) then(some ({a with Past:=[],Path:=[],Body:=[],Refs:=[],Of:=⟨c.1,c.2.1,c.2.2⟩,Guards:=[],Boxes:=[],Hist:=[]},j12)) else((bif decide (a.Kind=9) then(some true) else((bif decide (a.Kind=11) then(some true) else((bif decide (a.Kind=13) then(some true) else((bif decide (a.Kind=12) then(some true) else(some (decide (a.Kind=10)))).bind λp=>some p)).bind λq=>some q)).bind λr=>some r)).bind λD=>(bif D then((sc g j12 ({a with Past:=[],Path:=[],Body:=[],Refs:=[],Guards:=[],Boxes:=[],Hist:=[]}) (wI (Int.tdiv b 20))).bind λh=>(bif decide (h.By≠a.By) then((zJ g h.By (wI (Int.tdiv j 5))).bind λs=>some s) else(some j12)).bind λE=>some ({h with Path:=[]},E)) else(some ({a with Past:=[],Path:=[],Body:=[],Refs:=[],Guards:=[],Boxes:=[],Hist:=[]},j12)):Option (DOp×List DIdent)).bind λt=>some ({t.1 with Path:=[]},t.2)):Option (DOp×List DIdent)).bind λu=>some ({u.1 with Path:=[]},u.2)):Option (DOp×List DIdent)).bind λv=>some ({v.1 with Path:=[]},v.2)):Option (DOp×List DIdent)).bind λw=>some ({w.1 with Path:=[]},w.2)):Option (DOp×List DIdent)).bind λx=>some ({x.1 with Path:=[]},x.2)):Option (DOp×List DIdent)).bind λy=>some ({y.1 with Path:=[]},y.2)):Option (DOp×List DIdent)).bind λd=>(bif(!decide (d.1.Of=(⟨0,0,0⟩:DIdent))) then((jL d.2 d.1.Of).bind λF=>some (!F)) else(some false):Option Bool).bind λH=>(bif H then((xt g).bind λI=>some I) else(some d.2)).bind λi=>(qL g i).bind λJ=>(Fc g i d.1.By).bind λK=>(z8 g i).bind λM=>some ({d.1 with Seq:=K,At:=wI (M+(Int.tmod (wI (Int.tdiv j 5)) 2)),Past:=J,Path:=[]}))
theorem Jy{g n m}:eP prog gl (sd g n m) 5 [.agg (aI g),iG n,iG m] (λr=> .agg (bF [9] (aJ ({r with Path:=[]})))):=
 cy func5 λK=>dI 15 (iL gl) λv1=>dI 17 (iL gl) λa=>dI 22 (Js gl) λv5=>aF 28 (rv K)<|cN 111111101 (sp [] [(1,iG v1),(2,iG a),(3,.ref 0 0),(6,.ref 1 0),(7,.ref 2 0),(8,iG (ah g.L)),(33,bG (decide (ah g.L<4)))] [ob 0 30 (aI g),ob 1 44 (bF [4,9,14,15,19,22,24] (aJ ip)),ob 2 44 (bF [4,9,14,15,19,22,24] (aJ (⟨wI (1+(Int.tmod v1 5)),0,v5,0,[],0,0,0,0,[],⟨0,0,0⟩,0,[],[],⟨0,0,0⟩,[],0,0,[],0,[],⟨0,0⟩⟩:DOp)))] 3) []<|cC 111111101 (λc=>so [33] [] [ob 2 44 (bF [4,9,14,15,19,22,24] (aJ ({c with Past:=[],Path:=[],Body:=[],Refs:=[],Guards:=[],Boxes:=[],Hist:=[]})))] 3) (λc=>mH 46 ac (Jv gl) λv10=>cN 11111111101 (sf [] [(9,aE aj v10),(48,bG (decide (ah g.L<4)))]) []<|cC 11111111101 (λj12=>sf [48] [(9,aE aj j12)]) (λj12=>dI 54 (vD gl) λA=>aw [hV 59 (dU A.1 (⟨0,0,0⟩:DIdent) rfl)]<|cN 1111111111101 (so [] [(10,.ref 3 0),(59,bG (decide (A.1=(⟨0,0,0⟩:DIdent))))] [ob 3 36 (aj A.1)] 4) []<|cC 1111111111101 (λd=>so [59] [] [ob 3 36 (aj (⟨d.1,d.2.1,d.2.2⟩:DIdent))] 4) (λd=>cN 11111111111110121 (sf [2] [(12,iG (wI (Int.tdiv a 20))),(67,iG c.Kind),(68,bG (decide (c.Kind=2)))]) []<|cC 11111111111110121 (λb=>sk [1,3,6,7] [(9,aE aj b.2)] [ob 0 30 (aI g),ob 1 44 (bF [4,9,14,15,19,22,24] (aJ ip)),ob 2 44 (bF [9] (aJ ({b.1 with Path:=[]})))] 3) (λb=>cN 1111111111111100 (sf [] []) []<|cC 1111111111111100 (λB=>sf [] [(188,bG B)]) (λB=>cC 1111111111111101 (λC=>sf [188] [(9,aE aj C)]) (λC=>mH 193 ac (G3 gl) λv24=>dI 199 (Na gl) λv26=>dI 203 (Jx gl) λv28=>rv K) λC I=>eH [188] (mH 190 ac (DK gl) λv33=>rx I)<|rx I) λB J=>kV (λD=>dI 186 (jM gl) λv38=>aw [hV 181 (cV (dy b.1.Of (⟨0,0,0⟩:DIdent) rfl) D)]<|rx J) λD=>aw [hV 181 (cV (dy b.1.Of (⟨0,0,0⟩:DIdent) rfl) D)]<|rx J) λb M=>eH [68] (cC 1111111111111012131 (λi=>sx [8,10,12,67,68] [] [ob 0 30 (aI g),ob 1 44 (bF [4,9,14,15,19,22,24] (aJ ip)),ob 2 44 (bF [4,9,14,15,19,22,24] (aJ ({c with Past:=[],Device:=i.1,Role:=i.2,Path:=[],Body:=[],Refs:=[],Guards:=[],Boxes:=[],Hist:=[]})))] 3) (λi=>rx M) λi O=>aF 71 (rx O)<|rx O)<|cC 1111111111111012141 (λj=>sk [1,3,6,7] [(9,aE aj j.2)] [ob 0 30 (aI g),ob 1 44 (bF [4,9,14,15,19,22,24] (aJ ip)),ob 2 44 (bF [9] (aJ ({j.1 with Path:=[]})))] 3) (λj=>rx M) λj P=>aF 82 (cC 1111111111111012141311 (λk=>sx [8,10,12,67,68] [] [ob 0 30 (aI g),ob 1 44 (bF [4,9,14,15,19,22,24] (aJ ip)),ob 2 44 (bF [4,9,14,15,19,22,24] (aJ ({c with Past:=[],Device:=k.1,Member:=k.2,Path:=[],Body:=[],Refs:=[],Guards:=[],Boxes:=[],Hist:=[]})))] 3) (λk=>rx P) λk Q=>aF 89 (rx Q)<|rx Q)<|cC 111111111111101214141 (λl=>sk [1,3,6,7] [(9,aE aj l.2)] [ob 0 30 (aI g),ob 1 44 (bF [4,9,14,15,19,22,24] (aJ ip)),ob 2 44 (bF [9] (aJ ({l.1 with Path:=[]})))] 3) (λl=>rx P) λl R=>aF 97 (rx R)<|cC 11111111111110121414141 (λo=>sk [1,3,6,7] [(9,aE aj o.2)] [ob 0 30 (aI g),ob 1 44 (bF [4,9,14,15,19,22,24] (aJ ip)),ob 2 44 (bF [9] (aJ ({o.1 with Path:=[]})))] 3) (λo=>rx R) λo S=>aF 108 (ak λq68 e69=>ak λy70 U=>cC 1111111111111012141414131111 (λE=>sx [8,10,12,67,68] [] [ob 0 30 (aI g),ob 1 44 (bF [4,9,14,15,19,22,24] (aJ ip)),ob 2 44 (bF [4,9,19,22,24] (aJ ({c with Past:=[],Path:=[],Epoch:=y70,N:=Int.tmod (wI (Int.tdiv (wI (Int.tdiv a 20)) 4)) 2,Body:=([wY (wI (Int.tdiv a 20)),1,2,3,4,5,6,7,8]:List UInt8),Refs:=E,Guards:=[],Boxes:=[],Hist:=[]})))] 3) (λE=>rx S) λE V=>aw [hbb 116 (KO e69),bR 117 (ac.ixZ U),bR 118 (ac.ptZ aW U),bR 125 (Iz (wI (Int.tdiv a 20)))]<|aF 130 (aw [bR 134 (C8 (Int.tmod (wI (Int.tdiv (wI (Int.tdiv a 20)) 3)) 5)),bR 138 (C8 (Int.tmod (wI (Int.tdiv (wI (Int.tdiv a 20)) 15)) 5))]<|aA c0 V [hc (rY.al ([wY (wI (Int.tdiv a 20)),1,2,3,4,5,6,7,8]:List UInt8)),hc (rW.al ([wU (Int.tmod (wI (Int.tdiv (wI (Int.tdiv a 20)) 3)) 5),wU (Int.tmod (wI (Int.tdiv (wI (Int.tdiv a 20)) 15)) 5)]:List Nat))])<|aA c0 V [hc (rY.al ([wY (wI (Int.tdiv a 20)),1,2,3,4,5,6,7,8]:List UInt8))])<|cC 1111111111111012141414141 (λp=>sk [1,3,6,7] [(9,aE aj p.2)] [ob 0 30 (aI g),ob 1 44 (bF [4,9,14,15,19,22,24] (aJ ip)),ob 2 44 (bF [9] (aJ ({p.1 with Path:=[]})))] 3) (λp=>rx S) λp W=>aF 142 (aw [bR 148 (Iz (wI (97+(Int.tmod (wI (Int.tdiv a 20)) 3))))]<|aA c0 W [hc (rY.al ([wY (wI (97+(Int.tmod (wI (Int.tdiv a 20)) 3)))]:List UInt8))])<|cC 111111111111101214141414141 (λq=>sk [1,3,6,7] [(9,aE aj q.2)] [ob 0 30 (aI g),ob 1 44 (bF [4,9,14,15,19,22,24] (aJ ip)),ob 2 44 (bF [9] (aJ ({q.1 with Path:=[]})))] 3) (λq=>rx W) λq X=>aF 152 (rx X)<|cN 111111111111101214141414141401 (sx [8,10,68] [(155,bG (decide (c.Kind=9)))] [ob 0 30 (aI g),ob 1 44 (bF [4,9,14,15,19,22,24] (aJ ip)),ob 2 44 (bF [4,9,14,15,19,22,24] (aJ ({c with Past:=[],Path:=[],Body:=[],Refs:=[],Guards:=[],Boxes:=[],Hist:=[]})))] 3) []<|cC 111111111111101214141414141401 (λF=>sf [67] [(155,bG F)]) (λF=>cC 11111111111110121414141414141 (λs=>so [12,155] [(9,aE aj s.2)] [ob 2 44 (bF [9] (aJ ({s.1 with Path:=[]})))] 3) (λs=>rx X) λs Y=>eH [155] (ak λv94 e95=>cC 111111111111101214141414141413111 (λH=>so [12,155] [(9,aE aj H)] [ob 2 44 (bF [9] (aJ ({v94 with Path:=[]})))] 3) (λH=>rx Y) λH Z=>aw [hf 167 (UY [.agg (aI g),aE aj j12,.agg (bF [4,9,14,15,19,22,24] (aJ ({c with Past:=[],Path:=[],Body:=[],Refs:=[],Guards:=[],Boxes:=[],Hist:=[]}))),iG (wI (Int.tdiv a 20))] (Fb gl e95))]<|aF 171 (mH 177 ac (Jv gl) λv101=>rx Z)<|rx Z)<|rx Y) λF t=>eH [155] (rx t)<|cC 11111111111110121414141414140141 (λe=>sf [67] [(155,bG e)]) (λe=>rx t) λe u=>aF 157 (rx u)<|cC 1111111111111012141414141414014141 (λf=>sf [67] [(155,bG f)]) (λf=>rx u) λf v=>aF 158 (rx v)<|cC 111111111111101214141414141401414141 (λh=>sf [67] [(155,bG h)]) (λh=>rx v) λh w=>aF 159 (rx w)<|rx w) λd x=>eH [59] (dV 62 ac.ixZ 63 (ac.ptZ aW) λy124=>rx x)<|rx x) λj12 y=>eH [48] (mH 50 ac (DK gl) λv129=>rx y)<|rx y) λc z=>eH [33] (rx z)<|rx z
def uf(ids:List DIdent)(device:Int)(seq:Int)(s1:Int×Int):Option ((Int×Int)⊕(Int)):=
 bif decide (s1.2<ah ids) then(((aS ids s1.2).bind λa=>bif decide (a.By=device) then((aS ids s1.2).bind λb=>some (decide (b.Seq=seq))) else(some false)).bind λj13=>bif j13 then(some (.inl (wI (s1.1+1),wI (s1.2+1)))) else(some (.inl (s1.1,wI (s1.2+1))))) else(some (.inr s1.1))
def z9(ids:List DIdent)(device:Int)(seq:Int):Option Int:=
 (bo (uf ids device seq) (0,0)).bind λa=>some a
theorem Jz{ids device seq}:eP prog gl (z9 ids device seq) 89 [aE aj ids,iG device,iG seq] iG:=
 cy func89 λK=>lS 11101 (λb=>sg [] [(7,iG b)]) (λs1=>sf [] [(7,iG s1.1),(8,iG s1.2)]) [] (λb=>rv K) λs1 k5 c=>aF 12 (tl 11101221020 (sf [] []) [] 30 (rb k5) (rb k5) λa=>dV 17 ac.ixZ 19 (ac.fdY tZ 0) λd=>aF 21 (dV 25 ac.ixZ 27 (ac.fdY tZ 1) λe=>rx a)<|rx a)<|aA c1 c []
def qM(ids:List DIdent)(device:Int)(s1:Int×Int):Option ((Int×Int)⊕(Int)):=
 bif decide (s1.2<ah ids) then((aS ids s1.2).bind λa=>(z9 ids device a.Seq).bind λb=>((aS ids s1.2).bind λc=>bif decide (c.By=device) then(bif decide (1<b) then(bif decide (s1.1=0) then(some true) else((aS ids s1.2).bind λd=>some (decide (d.Seq<s1.1)))) else(some false)) else(some false)).bind λe=>bif e then((aS ids s1.2).bind λf=>some (.inl (f.Seq,wI (s1.2+1)))) else(some (.inl (s1.1,wI (s1.2+1))))) else(some (.inr s1.1))
def qN(ids:List DIdent)(device:Int):Option Int:=
 (bo (qM ids device) (0,0)).bind λa=>some a
theorem yF{ids device}:eP prog gl (qN ids device) 37 [aE aj ids,iG device] iG:=
 cy func37 λK=>lS 11101 (λd=>sg [] [(5,iG d)]) (λs1=>sf [] [(5,iG s1.1),(6,iG s1.2)]) [] (λd=>rv K) λs1 k5 e=>aF 11 (dV 18 ac.ixZ 20 (ac.fdY tZ 1) λf=>dI 21 (Jz gl) λc=>cN 111012210210 (sf [] [(7,iG c)]) []<|cC 111012210210 (λb=>sf [7] [(45,bG b)]) (λb=>eH [45] (dV 48 ac.ixZ 50 (ac.fdY tZ 1) λg=>rb k5)<|rb k5) λb a=>dV 24 ac.ixZ 26 (ac.fdY tZ 0) λh=>aF 28 (aF 32 (aF 35 (rx a)<|dV 39 ac.ixZ 41 (ac.fdY tZ 1) λi=>rx a)<|rx a)<|rx a)<|aA c1 e []
def AR(c:D15R)(device:Int)(s1:Int):Option ((Int)⊕(Unit⊕Int)):=
 bif decide (s1<ah c.Cards) then((aS c.Cards s1).bind λa=>bif decide (a.Device=device) then((aS c.Cards s1).bind λb=>some (.inr (.inr b.Member))) else(some (.inl (wI (s1+1))))) else(some (.inr (.inl ())))
def gE(c:D15R)(device:Int):Option Int:=
 (bo (AR c device) 0).bind λa=>ma a (λb=>some 0) (λq=>some q)
theorem c9{r_ device}:eP prog gl (gE r_ device) 95 [.agg (aU r_),iG device] iG:=
 cy func95 λK=>uy 1101 (λa=>sg [] []) (λs1=>so [0] [(2,.ref 0 0),(5,iG s1)] [ob 0 86 (aU r_)] 1) [] K (λa=>rv K) λs1 k5 b k6=>aF 10 (dV 16 bT.ixZ 18 (bT.fdY tZ 0) λc=>aF 20 (dV 24 bT.ixZ 26 (bT.fdY tZ 1) λd=>aP c3 k6 [])<|rb k5)<|aA c2 b []
def o5(b:D15R)(n:Int)(s1:Int):Option ((Int)⊕(Unit⊕Int)):=
 bif decide (s1<ah b.L) then((aS b.L s1).bind λa=>bif decide (a.N=n) then(some (.inr (.inr s1))) else(some (.inl (wI (s1+1))))) else(some (.inr (.inl ())))
def dS(c:D15R)(n:Int):Option Int:=
 (bo (o5 c n) 0).bind λa=>ma a (λb=>some (-1)) (λq=>some q)
theorem dA{r_ n}:eP prog gl (dS r_ n) 99 [.agg (aU r_),iG n] iG:=
 cy func99 λK=>uy 1101 (λa=>sg [] []) (λs1=>so [0] [(2,.ref 0 0),(5,iG s1)] [ob 0 86 (aU r_)] 1) [] K (λa=>rv K) λs1 k5 b k6=>aF 10 (dV 16 bI.ixZ 18 (bI.fdY tZ 0) λc=>aF 20 (aP c3 k6 [])<|rb k5)<|aA c2 b []
def se(b:D15R)(n:Int):Option Int:=
 (dS b n).bind λa=>bif decide (a<0) then(some 0) else((aS b.L a).bind λc=>some c.Role)
theorem ug{r_ n}:eP prog gl (se r_ n) 96 [.agg (aU r_),iG n] iG:=
 cy func96 λK=>dI 8 (dA gl) λa=>aF 10 (rv K)<|dV 14 bI.ixZ 16 (bI.fdY tZ 1) λb=>rv K
def Fd(b:D15R)(device:Int):Option Bool:=
 ((fb b.In device).bind λc=>bif c then(some true) else((fb b.Gone device).bind λa=>some a)).bind λd=>some d
theorem Nb{r_ device}:eP prog gl (Fd r_ device) 180 [.agg (aU r_),iG device] bG:=
 cy func180 λK=>cN [1,0] (so [0] [(2,.ref 0 0)] [ob 0 86 (aU r_)] 1) []<|cC [1,0] (λa=>sk [] [(4,bG a)] [] 0) (λa=>rv K) λa k5=>ak λd e8=>kV (λb=>aw [hf 8 (cF (fq gl e8) b)]<|rx k5) λb=>dI 13 (fq gl) λc=>aw [hf 8 (cF (fq gl e8) b)]<|rx k5
def nW(a:D15R)(device:Int):Option Bool:=
 (Fd a device).bind λb=>((gE a device).bind λc=>bif decide (0<c) then(some (!b)) else(some false)).bind λd=>some d
theorem qO{r_ device}:eP prog gl (nW r_ device) 97 [.agg (aU r_),iG device] bG:=
 cy func97 λK=>dI 8 (Nb gl) λc=>cN 1110 (so [0] [(2,.ref 0 0),(5,bG c)] [ob 0 86 (aU r_)] 1) []<|cC 1110 (λa=>sk [] [(4,bG a)] [] 0) (λa=>rv K) λa b=>dI 11 (c9 gl) λd=>aF 12 (rx b)<|rx b
def nX(a:D15R)(device:Int)(role:Int):Option D15R:=
 (nW a device).bind λh=>bif(!h) then(some a) else((aT 8 ([]:List Int) a.In).bind λi=>(aT 8 i ([device]:List Int)).bind λb=>(gE ({a with In:=b}) device).bind λg=>(dS ({a with In:=b}) g).bind λc=>bif decide (c<0) then(((aT 104 ([]:List D15M) a.L).bind λd=>(aT 104 d [(⟨g,role,false,⟨0,0,0⟩,[],0,0,false,0⟩:D15M)]).bind λe=>some e:Option (List D15M)).bind λf=>some ({a with In:=b,L:=f})) else(some ({a with In:=b})))
theorem qP{r_ device role}:eP prog gl (nX r_ device role) 102 [.agg (aU r_),iG device,iG role] (λr=> .agg (aU r)):=
 cy func102 λK=>dI 11 (qO gl) λj=>aF 13 (rv K)<|iZ (eu 18 rZ) λk=>iZ (dg 21 rZ) λb=>ak λc e9=>ak λi f=>aw [hq 25 [.agg (aU ({r_ with In:=b})),iG device] [hc (rZ.al b)] (c9 gl e9),hq 28 [.agg (aU ({r_ with In:=b})),iG c] [hc (rZ.al b)] (dA gl f)]<|aF 29 (cN 111111013 (sp [2] [(3,.ref 0 0),(6,.ref 1 0),(8,iG c)] [ob 0 86 (aU ({r_ with In:=b})),ob 1 86 (bF [0,1,2,3,5] (aU eY))] 2) [hc (rZ.al b)]<|cC 111111013 (λa=>sp [3] [(6,.ref 2 0)] [ob 0 86 [aE bv r_.Cards,aE cZ b,aE cZ r_.Gone,.rsl 1 0 a.length,iG r_.Back,aE nJ r_.V],ob 1 173 (a.flatMap jG),ob 2 86 (bF [0,1,2,3,5] (aU eY))] 3) (λa=>aP c0 K [hc (bI.al a)]) λa g=>iZ (eu 33 bI) λh=>ak λd e=>aw [Tv 38 bI e [iG c,iG role,bG false,iG 0,iG 0,uG 0,Iy,iG 0,iG 0,bG false,iG 0] rfl]<|aA c0 g [hc (el d),ZV bI e [iG c,iG role,bG false,iG 0,iG 0,uG 0,Iy,iG 0,iG 0,bG false,iG 0]] (kd:=[(1,.app (h.flatMap jG) [iG c,iG role,bG false,iG 0,iG 0,uG 0,Iy,iG 0,iG 0,bG false,iG 0] (jG (⟨c,role,false,⟨0,0,0⟩,[],0,0,false,0⟩:D15M)) (d.flatMap jG))]))<|aP c0 K [hc (rZ.al b)]
def qQ(c:D15R)(d:DIdent)(s1:Int):Option ((Int)⊕(Unit⊕Int)):=
 bif decide (s1<ah c.L) then(((aS c.L s1).bind λa=>bif a.Is then((aS c.L s1).bind λb=>some (decide (b.ID=d))) else(some false)).bind λj13=>bif j13 then(some (.inr (.inr s1))) else(some (.inl (wI (s1+1))))) else(some (.inr (.inl ())))
def jN(d:D15R)(a:DIdent):Option Int:=
 (bo (qQ d a) 0).bind λb=>ma b (λc=>some (-1)) (λq=>some q)
theorem mA{r_ id_}:eP prog gl (jN r_ id_) 107 [.agg (aU r_),.agg (aj id_)] iG:=
 cy func107 λK=>uy 1101 (λd=>sg [] []) (λs1=>sp [] [(2,.ref 0 0),(3,.ref 1 0),(5,iG s1)] [ob 0 86 (aU r_),ob 1 36 (aj id_)] 2) [] K (λd=>rv K) λs1 k5 f k6=>aF 10 (tl 1101221020 (sf [] []) [] 28 (aP c3 k6 []) (rb k5) λc=>ak λg a=>aw [bR 16 (bI.ixZ a)]<|kV (λb=>dV 23 bI.ixZ 25 (bI.fsZ aW jz 3 dL) λe=>aw [bR 18 (cB (bI.fdZ tO 2 a) b),hV 27 (dU e.ID id_ rfl)]<|rx c) λb=>aw [bR 18 (cB (bI.fdZ tO 2 a) b)]<|rx c)<|aA c2 f []
end
section
set_option maxHeartbeats 2000000
attribute [local irreducible] Tr dz Gp
def uh(b:D15R)(i:List Int×Bool)(c:List Int)(d:List D15M×List D15V)(a:List D15V×Int):Option ((List D15V×Int)⊕(List D15V)):=
 bif decide (a.2<ah b.V) then((aS b.V a.2).bind λe=>(jN ({b with In:=i.1,Gone:=c,L:=d.1}) e.Of).bind λf=>bif decide (0<=f) then((aS b.V a.2).bind λg=>(aT 48 a.1 [g]).bind λh=>some (.inl (h,wI (a.2+1)))) else(some (.inl (a.1,wI (a.2+1))))) else(some (.inr a.1))
def ui(e:D15R)(f:Int)(a:List D15M×List D15V×Int):Option ((List D15M×List D15V×Int)⊕(List D15M×List D15V)):=
 bif decide (a.2.2<ah e.L) then((aS e.L a.2.2).bind λb=>bif decide (b.N≠f) then((aS e.L a.2.2).bind λc=>(aT 104 a.1 [c]).bind λd=>some (.inl (d,a.2.1,wI (a.2.2+1)))) else(some (.inl (a.1,a.2.1,wI (a.2.2+1))))) else(some (.inr (a.1,a.2.1)))
def uj(b:D15R)(device:Int)(i:Int)(a:List Int×Bool×Int):Option ((List Int×Bool×Int)⊕(List Int×Bool)):=
 bif decide (a.2.2<ah b.In) then((aS b.In a.2.2).bind λc=>bif decide (c≠device) then((aS b.In a.2.2).bind λd=>(aT 8 a.1 ([d]:List Int)).bind λe=>(bif a.2.1 then(some true) else((aS b.In a.2.2).bind λf=>(gE b f).bind λg=>some (decide (g=i)))).bind λh=>some (.inl (e,h,wI (a.2.2+1)))) else(some (.inl (a.1,a.2.1,wI (a.2.2+1))))) else(some (.inr (a.1,a.2.1)))
def sh(a:D15R)(device:Int):Option D15R:=
 (fb a.In device).bind λh=>bif(!h) then(some a) else((gE a device).bind λg=>(bo (uj a device g) ([],false,0)).bind λd=>(aT 8 ([]:List Int) a.Gone).bind λe=>(aT 8 e ([device]:List Int)).bind λb=>bif d.2 then(some ({a with In:=d.1,Gone:=b})) else((bo (ui a g) ([],[],0)).bind λc=>(bo (uh a d b c) (c.2,0)).bind λf=>some ⟨a.Cards,d.1,b,c.1,a.Back,f⟩))
theorem AS{r_ device}:eP prog gl (sh r_ device) 103 [.agg (aU r_),iG device] (λr=> .agg (aU r)):=
 cy func103 λK=>dI 16 (fq gl) λD=>aF 17 (rv K)<|dI 21 (c9 gl) λs=>lS 11111101 (λf=>so [0] [(2,.ref 0 0),(4,.ref 1 0),(5,iG s),(6,aE cZ f.1),(7,bG f.2)] [ob 0 86 (aU r_),ob 1 86 (bF [0,1,2,3,5] (aU eY))] 2) (λg=>so [0] [(2,.ref 0 0),(4,.ref 1 0),(5,iG s),(6,.rsl 2 0 g.1.length),(7,bG g.2.1),(8,iG g.2.2)] [ob 0 86 (aU r_),ob 1 86 (bF [0,1,2,3,5] (aU eY)),ob 2 3 (g.1.flatMap cZ)] 3) [hc (rZ.imm [])] (λf=>iZ (eu 61 rZ) λt=>iZ (dg 64 rZ) λc=>aF 66 (aP c0 K [hc (rZ.al c)])<|lS 11111111111101 (λb=>sp [2,4] [(9,aE jG b.1),(10,.rsl 2 0 b.2.length)] [ob 0 86 (aU ({r_ with In:=f.1,Gone:=c})),ob 2 259 (b.2.flatMap nJ)] 3) (λa=>so [1,6,7] [(9,.rsl 2 0 a.1.length),(10,.rsl 3 0 a.2.1.length),(11,iG a.2.2)] [ob 0 86 (aU ({r_ with In:=f.1,Gone:=c})),ob 2 173 (a.1.flatMap jG),ob 3 259 (a.2.1.flatMap nJ)] 4) [hc (rZ.al c),hc (bI.imm []),hc (bV.imm [])] (λb=>lS 1111111111111101 (λi=>sx [9] [(10,aE nJ i)] [ob 0 86 (aU ({r_ with In:=f.1,Gone:=c,L:=b.1})),ob 1 86 (bF [0,1,2,3,5] (aU eY))] 2) (λd=>so [9] [(10,.rsl 2 0 d.1.length),(12,iG d.2)] [ob 0 86 (aU ({r_ with In:=f.1,Gone:=c,L:=b.1})),ob 2 259 (d.1.flatMap nJ)] 3) (fx bV b.2) (λi=>rv K) λd j o=>aF 97 (dV 104 bV.ixZ 106 (bV.fsZ aW jz 0 dL) λu=>dI 107 (mA gl) λv=>aF 108 (dV 113 bV.ixZ 114 (bV.ptZ Pd) λw=>iZ (dg 116 bV) λp=>cj j (fx bV p))<|cj j (fx bV d.1))<|aA c1 o [hc (bV.al d.1)]) λa k q=>aF 72 (dV 78 bI.ixZ 80 (bI.fdY tZ 0) λx=>aF 82 (dV 87 bI.ixZ 88 (bI.ptZ LG) λy=>iZ (dg 90 bI) λl=>cj k [hc (el l),hc (el a.2.1),hc (bI.imm l),hc (bV.imm a.2.1)])<|cj k [hc (el a.1),hc (el a.2.1),hc (bI.imm a.1),hc (bV.imm a.2.1)])<|aA c1 q [hc (bI.al a.1),hc (el a.2.1),hc (bV.imm a.2.1)]) λg m k9=>aF 26 (dV 32 rZ.ixZ 33 (rZ.p1Y tZ) λz=>aF 35 (dV 40 rZ.ixZ 41 (rZ.p1Y tZ) λA=>iZ (dg 43 rZ) λe=>cN 1111110122102131 (so [] [(6,.rsl 2 0 e.length)] [ob 2 3 (e.flatMap cZ)] 3) (fx rZ e)<|cC 1111110122102131 (λh=>sf [] [(7,bG h)]) (λh=>cj m (fx rZ e)) λh n=>aF 44 (aA c0 n (fx rZ e))<|dV 50 rZ.ixZ 51 (rZ.p1Y tZ) λB=>dI 52 (c9 gl) λC=>aA c0 n (fx rZ e))<|cj m (fx rZ g.1))<|aA c1 k9 [hc (rZ.al g.1)]
def o6(l:List D15M)(at_:Int)(m:D15M):Option (List D15M):=
 (aT 104 ([]:List D15M) l).bind λa=>(ji a at_ m).bind λb=>some b
theorem JA{l at_ m}:rX prog gl (o6 l at_ m) 104 [aE jG l,iG at_,.agg (jG m)] 173 jG:=
 gc func104 λK=>iZ (wX 10 bI) λb=>ak λa e4=>aw [bR 14 (bI.ixsZ 1 e4),hw 14 (a.flatMap jG) (bI.putZ e4)]<|mr c0 K (bI.imm _) _ (hZ e4)
def ni(b:D15R)(c:List D15M)(a:List D15V×Int):Option ((List D15V×Int)⊕(List D15V)):=
 bif decide (a.2<ah b.V) then((aS b.V a.2).bind λd=>(jN ({b with L:=c}) d.Of).bind λe=>bif decide (0<=e) then((aS b.V a.2).bind λf=>(aT 48 a.1 [f]).bind λg=>some (.inl (g,wI (a.2+1)))) else(some (.inl (a.1,wI (a.2+1))))) else(some (.inr a.1))
def o7(a:D15R)(o:DOp)(e:DIdent):Option D15R:=
 (gE a o.By).bind λf=>(dS a f).bind λc=>bif decide (c<0) then(some a) else((aS a.L c).bind λg=>(aS a.L c).bind λh=>(o6 a.L c (⟨g.N,h.Role,true,e,o.Guards,o.Need,o.Wait,false,0⟩:D15M)).bind λb=>(bo (ni a b) ([],0)).bind λd=>some ({a with L:=b,V:=d}))
theorem Df{r_ o id_}:eP prog gl (o7 r_ o id_) 105 [.agg (aU r_),.agg (aJ o),.agg (aj id_)] (λr=> .agg (aU r)):=
 cy func105 λK=>dI 14 (c9 gl) λj=>dI 15 (dA gl) λk=>aF 17 (rv K)<|dV 25 bI.ixZ 27 (bI.fdY tZ 0) λl=>dV 31 bI.ixZ 33 (bI.fdY tZ 1) λm=>mH 42 bI (JA gl) λb=>lS 11111101 (λc=>sp [] [(3,.ref 0 0),(6,.ref 1 0),(8,aE nJ c)] [ob 0 86 (aU ({r_ with L:=b})),ob 1 86 (bF [0,1,2,3,5] (aU eY))] 2) (λa=>sp [] [(3,.ref 0 0),(6,.ref 1 0),(8,.rsl 2 0 a.1.length),(9,iG a.2)] [ob 0 86 (aU ({r_ with L:=b})),ob 1 86 (bF [0,1,2,3,5] (aU eY)),ob 2 259 (a.1.flatMap nJ)] 3) [hc (bV.imm [])] (λc=>rv K) λa d e=>aF 48 (dV 55 bV.ixZ 57 (bV.fsZ aW jz 0 dL) λg=>dI 58 (mA gl) λh=>aF 59 (dV 64 bV.ixZ 65 (bV.ptZ Pd) λi=>iZ (dg 67 bV) λf=>cj d (fx bV f))<|cj d (fx bV a.1))<|aA c1 e [hc (bV.al a.1)]
def nY(b:D15R)(o:DOp):Option (Int×Int):=
 (jN b o.Of).bind λa=>bif decide (a<0) then(some ((-1),25)) else((aS b.L a).bind λc=>(fb c.Guards o.By).bind λd=>bif(!d) then(some ((-1),14)) else(some (a,0)))
theorem vG{r_ o}:eP prog gl (nY r_ o) 181 [.agg (aU r_),.agg (aJ o)] (λr=> .tup [iG r.1,iG r.2]):=
 cy func181 λK=>dI 10 (mA gl) λa=>aF 12 (rv K)<|dV 16 bI.ixZ 18 (bI.fdY Vs 6) λb=>dI 21 (fq gl) λc=>aF 22 (rv K)<|rv K
def nj(b:D15R)(o:DOp)(a:Int×List D15V×Int):Option ((Int×List D15V×Int)⊕(Int×List D15V)):=
 bif decide (a.2.2<ah b.V) then(((aS b.V a.2.2).bind λc=>bif decide (c.Of=o.Of) then((aS b.V a.2.2).bind λd=>bif decide (d.By=o.By) then((aS b.V a.2.2).bind λe=>some (decide (e.Device=o.Device))) else(some false)) else(some false)).bind λf=>bif f then((aS b.V a.2.2).bind λg=>some (.inl (iI a.1 g.At,a.2.1,wI (a.2.2+1)))) else((aS b.V a.2.2).bind λh=>(aT 48 a.2.1 [h]).bind λi=>some (.inl (a.1,i,wI (a.2.2+1))))) else(some (.inr (a.1,a.2.1)))
def o8(a:D15R)(o:DOp):Option D15R:=
 (nY a o).bind λd=>bif decide (d.2≠0) then(some a) else((bo (nj a o) (o.At,[],0)).bind λc=>(aT 48 c.2 [{o with At:=c.1}]).bind λb=>some ({a with V:=b}))
theorem Dg{r_ o}:eP prog gl (o8 r_ o) 106 [.agg (aU r_),.agg (aJ o)] (λr=> .agg (aU r)):=
 cy func106 λK=>dI 13 (vG gl) λm=>aF 17 (rv K)<|lS 11111101 (λe=>sp [] [(2,.ref 0 0),(4,.ref 1 0),(7,.ref 2 0),(8,.rsl 3 0 e.2.length)] [ob 0 86 (aU r_),ob 1 86 (bF [0,1,2,3,5] (aU eY)),ob 2 259 (nJ ({o with At:=e.1})),ob 3 259 (e.2.flatMap nJ)] 4) (λa=>sp [] [(2,.ref 0 0),(4,.ref 1 0),(7,.ref 2 0),(8,.rsl 3 0 a.2.1.length),(9,iG a.2.2)] [ob 0 86 (aU r_),ob 1 86 (bF [0,1,2,3,5] (aU eY)),ob 2 259 (nJ ({o with At:=a.1})),ob 3 259 (a.2.1.flatMap nJ)] 4) [hc (bV.imm [])] (λe=>iZ (dg 87 bV) λf=>aP c0 K [hc (bV.al f)]) λa k8 h=>aF 32 (tl 11111101221020 (sf [] []) (fx bV a.2.1) 65 (dV 71 bV.ixZ 73 (bV.fdY tZ 5) λi=>cj k8 (fx bV a.2.1)) (dV 80 bV.ixZ 81 (bV.ptZ Pd) λj=>iZ (dg 83 bV) λg=>cj k8 (fx bV g)) λb=>dV 38 bV.ixZ 40 (bV.fsZ aW jz 0 dL) λd=>kV (λc=>dV 48 bV.ixZ 50 (bV.fdY tZ 3) λk=>aw [hV 43 (cV (dU d.Of o.Of rfl) c)]<|aF 54 (dV 59 bV.ixZ 61 (bV.fdY tZ 4) λl=>aA c0 b (fx bV a.2.1))<|aA c0 b (fx bV a.2.1)) λc=>aw [hV 43 (cV (dU d.Of o.Of rfl) c)]<|aA c0 b (fx bV a.2.1))<|aA c1 h (fx bV a.2.1)
def AT(b:List Int)(a:D15R×Int):Option ((D15R×Int)⊕(D15R)):=
 bif decide (a.2<ah b) then((aS b a.2).bind λc=>(sh a.1 c).bind λd=>some (.inl (d,wI (a.2+1)))) else(some (.inr a.1))
def Pj(b:D15R)(o:DOp)(a:List Int×Int):Option ((List Int×Int)⊕(List Int)):=
 bif decide (a.2<ah b.In) then((aS b.In a.2).bind λc=>(gE b c).bind λd=>bif decide (d=o.Member) then((aS b.In a.2).bind λe=>(aT 8 a.1 ([e]:List Int)).bind λf=>some (.inl (f,wI (a.2+1)))) else(some (.inl (a.1,wI (a.2+1))))) else(some (.inr a.1))
def DM(a:D15R)(o:DOp)(E:DIdent):Option D15R:=
 (gE a o.By).bind λF=>(dS a F).bind λd=>bif decide (o.Kind=1) then((bif decide (0<ah a.In) then(some true) else(bif decide (0<ah a.Gone) then(some true) else((gE a o.By).bind λm=>some (decide (m=0))))).bind λH=>bif H then(some a) else((nX a o.By 3).bind λI=>some ({I with Back:=o.Need}))) else(bif decide (o.Kind=2) then((nX a o.Device o.Role).bind λn=>some n) else(bif decide (o.Kind=3) then((bif decide (o.Device=0) then((bo (Pj a o) ([],0)).bind λp=>some (.inl p)) else(some (.inl ([o.Device]:List Int))):Option ((List Int)⊕D15R)).bind λq=>ma q (λe=>(bo (AT e) (a,0)).bind λr=>some r) some) else(bif decide (o.Kind=5) then((dS a o.Member).bind λb=>bif decide (0<=b) then((aS a.L b).bind λs=>(o6 a.L b ({s with Role:=o.Role})).bind λt=>some ({a with L:=t})) else(some a)) else(bif decide (o.Kind=9) then((o7 a o E).bind λu=>some u) else(bif decide (o.Kind=11) then((o8 a o).bind λv=>some v) else(bif decide (o.Kind=12) then((bif decide (0<=d) then((aS a.L (hE d 0)).bind λw=>bif w.Is then((aS a.L (hE d 0)).bind λx=>some (decide (x.ID=o.Of))) else(some false)) else(some false)).bind λy=>bif y then((aS a.L d).bind λf=>(o6 a.L d ({f with Objected:=true,Last:=hE f.Last o.At})).bind λz=>some ({a with L:=z})) else(some a)) else(bif decide (o.Kind=13) then((jN a o.Of).bind λc=>(bif decide (0<=c) then((fb a.In o.Old).bind λg=>bif g then((gE a o.Old).bind λh=>(aS a.L (hE c 0)).bind λi=>bif decide (h=i.N) then((gE a o.Device).bind λj=>(aS a.L (hE c 0)).bind λk=>some (decide (j=k.N))) else(some false)) else(some false)) else(some false)).bind λA=>bif A then((gE a o.Device).bind λB=>(se a B).bind λC=>(nX a o.Device C).bind λD=>(sh D o.Old).bind λl=>some l) else(some a)) else(some a))))))))
theorem AU{r_ o id_}:eP prog gl (DM r_ o id_) 42 [.agg (aU r_),.agg (aJ o),.agg (aj id_)] (λr=> .agg (aU r)):=
 cy func42 λK=>dI 19 (c9 gl) λW=>dI 20 (dA gl) λy=>aF 24 (tl 1110121300 (sp [] [(3,.ref 0 0),(4,.ref 1 0),(6,.ref 2 0)] [ob 0 86 (aU r_),ob 1 44 (aJ o),ob 2 86 (bF [0,1,2,3,5] (aU eY))] 3) [] 41 (rv K) (dI 46 (qP gl) λX=>rv K) λk11=>aF 28 (rx k11)<|aF 34 (rx k11)<|dI 39 (c9 gl) λz=>rx k11)<|aF 51 (dI 57 (qP gl) λA=>rv K)<|aF 59 (cN 111012141413101 (sp [] [(3,.ref 0 0),(4,.ref 1 0),(6,.ref 2 0),(8,aE cZ ([o.Device]:List Int)),(65,bG (decide (o.Device=0)))] [ob 0 86 (aU r_),ob 1 44 (aJ o),ob 2 86 (bF [0,1,2,3,5] (aU eY))] 3) [hc (rZ.al ([o.Device]:List Int))]<|rdM 111012141413101 (λc=>sk [3] [(6,.ref 1 0),(8,aE cZ c)] [ob 0 86 (aU r_),ob 1 86 (bF [0,1,2,3,5] (aU eY))] 2) (λc=>lS 111012141413111 (λg=>so [8] [] [ob 0 86 (aU g)] 2) (λd=>so [] [(10,iG d.2)] [ob 0 86 (aU d.1)] 2) [] (λg=>rv K) λd k l=>aF 94 (dV 100 rZ.ixZ 101 (rZ.p1Y tZ) λB=>dI 102 (AS gl) λC=>rb k)<|aA c1 l []) λD h E=>eH [65] (lS 111012141413101311 (λi=>sk [3] [(6,.ref 1 0),(8,aE cZ i)] [ob 0 86 (aU r_),ob 1 86 (bF [0,1,2,3,5] (aU eY))] 2) (λb=>so [65] [(8,.rsl 3 0 b.1.length),(9,iG b.2)] [ob 3 3 (b.1.flatMap cZ)] 4) [hc (rZ.imm [])] (λi=>aA c4 h []) λb j m=>aF 70 (dV 77 rZ.ixZ 78 (rZ.p1Y tZ) λF=>dI 79 (c9 gl) λH=>aF 82 (dV 87 rZ.ixZ 88 (rZ.p1Y tZ) λI=>iZ (dg 90 rZ) λn=>cj j (fx rZ n))<|cj j (fx rZ b.1))<|aA c1 m [hc (rZ.al b.1)])<|aA c4 h [])<|aF 104 (dI 108 (dA gl) λJ=>aF 110 (dV 114 bI.ixZ 115 (bI.ptZ LG) λL=>mH 123 bI (JA gl) λM=>rv K)<|rv K)<|aF 126 (dI 130 (Df gl) λN=>rv K)<|aF 132 (dI 135 (Dg gl) λO=>rv K)<|aF 137 (tl 111012141414141414130 (sp [] [(3,.ref 0 0),(4,.ref 1 0),(6,.ref 2 0),(7,iG y)] [ob 0 86 (aU r_),ob 1 44 (aJ o),ob 2 86 (bF [0,1,2,3,5] (aU eY))] 3) [] 160 (dV 164 bI.ixZ 165 (bI.ptZ LG) λP=>mH 177 bI (JA gl) λQ=>rv K) (rv K) λe=>aF 139 (dV 145 bI.ixZ 147 (bI.fdY tO 2) λR=>aF 148 (dV 154 bI.ixZ 156 (bI.fsZ aW jz 3 dL) λp=>aw [hV 159 (dU p.ID o.Of rfl)]<|rx e)<|rx e)<|rx e)<|aF 180 (dI 184 (mA gl) λq=>cN 111012141414141414141310 (sp [] [(3,.ref 0 0),(4,.ref 1 0),(6,.ref 2 0),(14,iG q)] [ob 0 86 (aU r_),ob 1 44 (aJ o),ob 2 86 (bF [0,1,2,3,5] (aU eY))] 3) []<|cC 111012141414141414141310 (λf=>sf [14] [(221,bG f)]) (λf=>eH [221] (dI 229 (c9 gl) λS=>dI 230 (ug gl) λU=>dI 231 (qP gl) λV=>dI 235 (AS gl) λs=>rv K)<|rv K) λf a=>aF 186 (dI 192 (fq gl) λt=>aF 193 (dI 198 (c9 gl) λu=>dV 203 bI.ixZ 205 (bI.fdY tZ 0) λv=>aF 207 (dI 212 (c9 gl) λw=>dV 217 bI.ixZ 219 (bI.fdY tZ 0) λx=>rx a)<|rx a)<|rx a)<|rx a)<|rv K
def AV(cards:List DCard):Option D15R:=
 some ⟨cards,[],[],[],0,[]⟩
theorem DN{cards}:eP prog gl (AV cards) 90 [aE bv cards] (λr=> .agg (aU r)):=
 cy func90 λK=>rv K
def o9(e:D15R)(o:DOp)(m:Int)(a:Bool):Option Int:=
 bif decide (o.Device≠0) then((fb e.In o.Device).bind λf=>bif(!f) then(some 17) else((bif(!a) then((gE e o.Device).bind λb=>some (decide (b≠m))) else(some false)).bind λg=>bif g then(some 14) else(some 0))) else((dS e o.Member).bind λc=>bif decide (c<0) then(some 16) else((bif(!a) then(some (decide (o.Member≠m))) else(some false)).bind λd=>bif d then(some 14) else(some 0)))
theorem Dh{r_ o m rules}:eP prog gl (o9 r_ o m rules) 98 [.agg (aU r_),.agg (aJ o),iG m,bG rules] iG:=
 cy func98 λK=>aF 11 (dI 16 (fq gl) λd=>aF 17 (rv K)<|MY 11013100 (so [0,1] [(4,.ref 0 0),(5,.ref 1 0)] [ob 0 86 (aU r_),ob 1 44 (aJ o)] 2) [] 27 (rv K) (rv K) λk8=>aF 19 (dI 24 (c9 gl) λb=>rx k8)<|rx k8)<|dI 31 (dA gl) λc=>aF 32 (rv K)<|MY 111100 (so [0,1] [(5,.ref 0 0)] [ob 0 44 (aJ o)] 1) [] 40 (rv K) (rv K) λa=>aF 34 (rx a)<|rx a
def pa(l:List Int)(s1:List Int×Int)(a:Int):Option ((Int)⊕(Int)):=
 (bif decide (a<ah s1.1) then((aS s1.1 a).bind λb=>(aS l s1.2).bind λc=>some (decide (b<=c))) else(some false)).bind λd=>bif d then(some (.inl (wI (a+1)))) else(some (.inr a))
def pb(l:List Int)(s1:List Int×Int):Option ((List Int×Int)⊕(List Int)):=
 bif decide (s1.2<ah l) then((bo (pa l s1) 0).bind λa=>(tq s1.1 a).bind λb=>(aT 8 ([]:List Int) b).bind λc=>(aS l s1.2).bind λd=>(aT 8 c ([d]:List Int)).bind λe=>(mc s1.1 a).bind λf=>(aT 8 e f).bind λg=>some (.inl (g,wI (s1.2+1)))) else(some (.inr s1.1))
def lg(l:List Int):Option (List Int):=
 (bo (pb l) ([],0)).bind λa=>some a
theorem vH{l}:rX prog gl (lg l) 101 [aE cZ l] 3 cZ:=
 gc func101 λK=>lS 11101 (λd=>sp [] [(3,.rsl 0 0 d.length)] [ob 0 3 (d.flatMap cZ)] 1) (λs1=>so [] [(3,.rsl 0 0 s1.1.length),(4,iG s1.2)] [ob 0 3 (s1.1.flatMap cZ)] 1) [hc (rZ.imm [])] (λd=>mr c0 K (rZ.imm _)) λs1 k5 h=>aF 10 (lS 111012210210 (λa=>sx [] [(3,aE cZ s1.1),(5,iG a)] [] 0) (λb=>sx [] [(3,aE cZ s1.1),(5,iG b)] [] 0) [hc (rZ.al s1.1)] (λa=>rdv 33 rZ.preZI λi=>iZ (wX 34 rZ) λj=>dV 38 rZ.ixZ 39 (rZ.p1Y tZ) λk=>iZ (dg 41 rZ) λm=>rdv 45 rZ.sufZI λn=>iZ (eu 46 rZ) λe=>cj k5 (fx rZ e)) λb f g=>tl 1110122102102200 (sf [] []) [] 27 (rb f) (aA c1 g []) λc=>aF 16 (dV 20 rZ.ixZ 21 (rZ.p1Y tZ) λo=>dV 24 rZ.ixZ 25 (rZ.p1Y tZ) λp=>rx c)<|rx c)<|aA c1 h (fx rZ s1.1)
end
section
set_option maxHeartbeats 2000000
attribute [local irreducible] Tr dz Gp
def w7(b:D15R)(device:Int)(h:D15M)(a:List Int×Int):Option ((List Int×Int)⊕(List Int)):=
 bif decide (a.2<ah b.V) then(((aS b.V a.2).bind λc=>bif decide (c.Of=h.ID) then((aS b.V a.2).bind λd=>some (decide (d.Device=device))) else(some false)).bind λe=>bif e then((aS b.V a.2).bind λf=>(aT 8 a.1 ([f.At]:List Int)).bind λg=>some (.inl (g,wI (a.2+1)))) else(some (.inl (a.1,wI (a.2+1))))) else(some (.inr a.1))
def Ff(g:D15R)(a:Int)(device:Int):Option (Int×Int):=
 (dS g a).bind λh=>bif decide (h<0) then(some (0,4)) else((aS g.L h).bind λb=>bif(!b.Is) then(some (0,4)) else((bo (w7 g device b) ([],0)).bind λi=>(lg i).bind λc=>bif decide (ah c<b.Need) then(some (0,26)) else((bif b.Objected then((aS c 0).bind λd=>some (decide (d<=b.Last))) else(some false)).bind λe=>bif e then(some (0,28)) else((aS c (wI (b.Need-1))).bind λf=>some (wI (f+b.Wait),0)))))
theorem Nc{r_ a device}:eP prog gl (Ff r_ a device) 182 [.agg (aU r_),iG a,iG device] (λr=> .tup [iG r.1,iG r.2]):=
 cy func182 λK=>dI 14 (dA gl) λp=>aF 16 (rv K)<|dV 20 bI.ixZ 21 (bI.ptZ LG) λg=>aF 24 (rv K)<|lS 111111101 (λk=>sp [] [(9,.ref 0 0),(10,aE cZ k)] [ob 0 173 (jG g)] 1) (λb=>sp [2] [(3,.ref 0 0),(9,.ref 1 0),(10,.rsl 2 0 b.1.length),(11,iG b.2)] [ob 0 86 (aU r_),ob 1 173 (jG g),ob 2 3 (b.1.flatMap cZ)] 3) [hc (rZ.imm [])] (λk=>mH 61 rZ (vH gl) λh=>aF 66 (rv K)<|tl 111111111100 (sf [] [(10,aE cZ h)]) [] 76 (rv K) (dV 81 rZ.ixZ 82 (rZ.p1Y tZ) λl=>rv K) λd=>aF 68 (dV 73 rZ.ixZ 74 (rZ.p1Y tZ) λm=>rx d)<|rx d) λb k11 i=>aF 29 (tl 111111101221020 (sf [] []) (fx rZ b.1) 50 (dV 55 bV.ixZ 57 (bV.fdY tZ 5) λn=>iZ (dg 59 rZ) λj=>cj k11 (fx rZ j)) (cj k11 (fx rZ b.1)) λe=>dV 35 bV.ixZ 37 (bV.fsZ aW jz 0 dL) λf=>kV (λc=>dV 45 bV.ixZ 47 (bV.fdY tZ 4) λo=>aw [hV 40 (cV (dU f.Of g.ID rfl) c)]<|aA c0 e (fx rZ b.1)) λc=>aw [hV 40 (cV (dU f.Of g.ID rfl) c)]<|aA c0 e (fx rZ b.1))<|aA c1 i [hc (rZ.al b.1)]
def mB(a:D15R)(o:DOp):Option Int:=
 (nY a o).bind λd=>bif decide (d.2≠0) then(some d.2) else((aS a.L d.1).bind λc=>(bif decide (o.Kind=11) then((gE a o.Device).bind λe=>some (decide (e≠c.N))) else(some false)).bind λk=>bif k then(some 16) else((bif decide (o.Kind=13) then((fb a.In o.Old).bind λf=>bif(!f) then(some true) else((gE a o.Old).bind λg=>bif decide (g≠c.N) then(some true) else((gE a o.Device).bind λh=>some (decide (h≠c.N))))) else(some false)).bind λl=>bif l then(some 17) else((nW a o.Device).bind λi=>bif(!i) then(some 17) else(bif decide (o.Kind=11) then(some 0) else((Ff a c.N o.Device).bind λb=>(bif decide (b.2=0) then(some (decide (o.At<b.1))) else(some false)).bind λj=>bif j then(some 27) else(some b.2))))))
theorem AW{r_ o}:eP prog gl (mB r_ o) 100 [.agg (aU r_),.agg (aJ o)] iG:=
 cy func100 λK=>dI 14 (vG gl) λl=>aF 18 (rv K)<|dV 23 bI.ixZ 25 (bI.fdY tZ 0) λf=>tl 1111100 (sp [] [(2,.ref 0 0),(3,.ref 1 0),(7,iG f.N)] [ob 0 86 (aU r_),ob 1 44 (aJ o)] 2) [] 36 (rv K) (tl 11111100 (sf [36] []) [] 63 (rv K) (dI 67 (qO gl) λg=>aF 69 (rv K)<|aF 72 (rv K)<|dI 78 (Nc gl) λc=>cN 1111111111100 (sk [] [(3,.ref 0 0),(9,iG c.1),(10,iG c.2)] [ob 0 44 (aJ o)] 1) []<|cC 1111111111100 (λb=>sk [10] [(88,bG b)] [] 0) (λb=>eH [88] (rv K)<|rv K) λb d=>aF 82 (rx d)<|rx d) λa=>aF 39 (dI 45 (fq gl) λh=>aF 46 (rx a)<|dI 51 (c9 gl) λi=>aF 54 (rx a)<|dI 59 (c9 gl) λj=>rx a)<|rx a) λe=>aF 28 (dI 33 (c9 gl) λk=>rx e)<|rx e
def Bp(d:D15R)(o:DOp)(a:Int):Option ((Int)⊕(Unit⊕Int)):=
 bif decide (a<ah o.Guards) then((aS o.Guards a).bind λb=>(fb d.In b).bind λc=>bif(!c) then(some (.inr (.inr 17))) else(some (.inl (wI (a+1))))) else(some (.inr (.inl ())))
def AX(a:D15R)(o:DOp)(y:DIdent):Option Int:=
 (gE a o.By).bind λc=>bif decide (o.Kind=1) then(bif decide (c=0) then(some 17) else((bif decide (0<ah a.In) then(some true) else(some (decide (0<ah a.Gone)))).bind λx=>bif x then(some 5) else(some 0))) else((fb a.In o.By).bind λe=>bif(!e) then(some 15) else((se a c).bind λb=>bif decide (o.Kind=2) then((nW a o.Device).bind λf=>bif(!f) then(some 17) else((bif(!(decide (b=3))) then((gE a o.Device).bind λg=>some (decide (g≠c))) else(some false)).bind λh=>bif h then(some 14) else(some 0))) else(bif decide (o.Kind=3) then((o9 a o c (decide (b=3))).bind λi=>some i) else(bif decide (o.Kind=5) then(bif(!(decide (b=3))) then(some 14) else((dS a o.Member).bind λj=>bif decide (j<0) then(some 16) else(some 0))) else(bif decide (o.Kind=6) then((se a c).bind λk=>bif decide (k<2) then(some 14) else(some 0)) else(bif decide (o.Kind=8) then((bif(!(decide (b=3))) then((gE a o.Of.By).bind λl=>some (decide (l≠c))) else(some false)).bind λm=>bif m then(some 14) else(some 0)) else(bif decide (o.Kind=9) then((bo (Bp a o) 0).bind λn=>ma n (λw=>some 0) (λq=>some q)) else((bif decide (o.Kind=10) then(some true) else(some (decide (o.Kind=12)))).bind λp=>bif p then((dS a c).bind λd=>bif decide (d<0) then(some 25) else(((aS a.L d).bind λr=>bif(!r.Is) then(some true) else((aS a.L d).bind λs=>some (!decide (s.ID=o.Of)))).bind λt=>bif t then(some 25) else(some 0))) else((bif decide (o.Kind=11) then(some true) else(some (decide (o.Kind=13)))).bind λu=>bif u then((mB a o).bind λv=>some v) else(some 0))))))))))
theorem DO{r_ o id_}:eP prog gl (AX r_ o id_) 40 [.agg (aU r_),.agg (aJ o),.agg (aj id_)] iG:=
 cy func40 λK=>dI 15 (c9 gl) λj=>aF 18 (aF 20 (rv K)<|MY 111013100 (sp [] [(3,.ref 0 0)] [ob 0 86 (aU r_)] 1) [] 30 (rv K) (rv K) λk8=>aF 24 (rx k8)<|rx k8)<|dI 35 (fq gl) λq=>aF 36 (rv K)<|dI 39 (ug gl) λb=>aF 44 (dI 48 (qO gl) λr=>aF 50 (rv K)<|MY 11111101213110 (sp [] [(3,.ref 0 0),(4,.ref 1 0),(7,iG j),(8,bG (decide (b=3)))] [ob 0 86 (aU r_),ob 1 44 (aJ o)] 2) [] 60 (rv K) (rv K) λc=>aF 52 (dI 57 (c9 gl) λs=>rx c)<|rx c)<|aF 62 (dI 67 (Dh gl) λt=>rv K)<|aF 69 (aF 71 (rv K)<|dI 75 (dA gl) λu=>aF 76 (rv K)<|rv K)<|aF 78 (dI 81 (ug gl) λv=>aF 82 (rv K)<|rv K)<|aF 84 (MY 11111101214141414130 (sp [] [(3,.ref 0 0),(4,.ref 1 0),(7,iG j),(8,bG (decide (b=3)))] [ob 0 86 (aU r_),ob 1 44 (aJ o)] 2) [] 95 (rv K) (rv K) λd=>aF 86 (dI 92 (c9 gl) λw=>rx d)<|rx d)<|aF 97 (uy 1111110121414141414131 (λe=>sg [] []) (λf=>sp [] [(3,.ref 0 0),(4,.ref 1 0),(10,iG f)] [ob 0 86 (aU r_),ob 1 44 (aJ o)] 2) [] K (λe=>rv K) λf k l m=>aF 102 (dV 110 rZ.ixZ 111 (rZ.p1Y tZ) λx=>dI 112 (fq gl) λy=>aF 113 (aP c3 m [])<|rb k)<|aA c2 l [])<|tl 11111101214141414141401 (sp [] [(3,.ref 0 0),(4,.ref 1 0),(7,iG j),(42,iG o.Kind),(114,bG (decide (o.Kind=10)))] [ob 0 86 (aU r_),ob 1 44 (aJ o)] 2) [] 114 (dI 119 (dA gl) λn=>aF 121 (rv K)<|MY 11111101214141414141413110 (sg [3,4] [(11,iG n)]) [] 139 (rv K) (rv K) λg=>dV 125 bI.ixZ 127 (bI.fdY tO 2) λz=>aF 128 (rx g)<|dV 133 bI.ixZ 135 (bI.fsZ aW jz 3 dL) λp=>aw [hV 138 (dy p.ID o.Of rfl)]<|rx g) (cN 1111110121414141414141401 (sf [7,114] [(140,bG (decide (o.Kind=11)))]) []<|cC 1111110121414141414141401 (λa=>sf [42] [(140,bG a)]) (λa=>eH [140] (dI 145 (AW gl) λA=>rv K)<|rv K) λa h=>eH [140] (rx h)<|rx h) λi=>eH [114] (rx i)<|rx i
def xx(g:D12G)(a:List Int)(at_:Int)(s3:D15R×Int):Option ((D15R×Int)⊕(D15R)):=
 bif decide (s3.2<ah a) then((aS g.In at_).bind λb=>(aS a s3.2).bind λc=>(aS b c).bind λd=>bif d then((aS a s3.2).bind λe=>(aS g.L e).bind λf=>(aS a s3.2).bind λh=>(aS g.IDs h).bind λi=>(DM s3.1 f i).bind λj=>some (.inl (j,wI (s3.2+1)))) else(some (.inl (s3.1,wI (s3.2+1))))) else(some (.inr s3.1))
def Fg(g:D12G)(a:List Int)(at_:Int):Option D15R:=
 (AV g.Cards).bind λb=>(bo (xx g a at_) (b,0)).bind λc=>some c
theorem G5{g some_ at_ r}(h:Fg g some_ at_=some r):OU prog gl 165 [.agg (aI g),.rsl 0 0 some_.length,iG at_] [ob 0 3 (some_.flatMap cZ)] 1 1 (.agg (aU r)) [ob 0 3 (some_.flatMap cZ)]:=
 Yx (λr:D15R=> .agg (aU r)) (λr:D15R=>[ob 0 3 (some_.flatMap cZ)]) func165 h (λi hi=>by match i,hi with|0,_=>exact⟨_,rfl⟩) λK=>ak λw e2=>aw [hf 11 (DN gl e2)]<|rdL 11101 1110122 (λl=>sp [] [(6,.ref 1 0),(7,.ref 2 0)] [ob 1 86 (bF [0,1,2,3,5] (aU eY)),ob 2 86 (aU l)] 3) (λs3=>so [0] [(3,.ref 1 0),(6,.ref 2 0),(7,.ref 3 0),(8,iG s3.2)] [ob 1 30 (aI g),ob 2 86 (bF [0,1,2,3,5] (aU eY)),ob 3 86 (aU s3.1)] 4) [hc (el some_),hc (rZ.imm some_)] (ρ:=rI 4) (kd:=[(0,.row)]) (λl=>rdU c0 K [hc (rZ.imm some_)] [(0,0)] [(0,.row)]) λs3 m k6=>aF 15 (ak λn c=>ak λo e16=>ak λp a=>aw [bR 21 (zV.ixZ c),bR 22 (zV.p1Z Vt c),bR 25 (rZ.ixrZ 0 e16),bR 26 (rZ.p10Z tZ e16),bR 27 (rO.ixZ a)]<|kV (λb=>ak λq d=>ak λs e=>ak λt f=>ak λu j=>ak λv k=>aw [bR 28 (cB (rO.p1Z tO a) b),bR 34 (rZ.ixrZ 0 d),bR 35 (rZ.p10Z tZ d),bR 36 (eJ.ixZ e),bR 37 (eJ.ptZ GN e),bR 42 (rZ.ixrZ 0 f),bR 43 (rZ.p10Z tZ f),bR 44 (ac.ixZ j),bR 45 (ac.ptZ aW j),hf 46 (AU gl k)]<|cj m [hc (el some_),hc (rZ.imm some_)] (ρ:=rI 4) (kd:=[(0,.row)])) λb=>aw [bR 28 (cB (rO.p1Z tO a) b)]<|cj m [hc (el some_),hc (rZ.imm some_)] (ρ:=rI 4) (kd:=[(0,.row)]))<|aA c1 k6 [hc (rZ.imm some_)] (ρ:=[(0,0),(1,2),(2,3)]) (kd:=[(0,.row)])
def um(g:D12G)(l:D16L)(s1:List Int×Int):Option ((List Int×Int)⊕(List Int)):=
 bif decide (s1.2<ah l.Row) then((aS l.Row s1.2).bind λa=>(aS l.Void a).bind λb=>bif b then(some (.inl (s1.1,wI (s1.2+1)))) else((Fg g s1.1 a).bind λc=>(aS g.L a).bind λd=>(aS g.IDs a).bind λe=>(AX c d e).bind λf=>bif decide (f=0) then((aT 8 s1.1 ([a]:List Int)).bind λh=>some (.inl (h,wI (s1.2+1)))) else(some (.inl (s1.1,wI (s1.2+1)))))) else(some (.inr s1.1))
def zK(g:D12G)(l:D16L):Option (List Int):=
 (bo (um g l) ([],0)).bind λa=>some a
theorem AY{g l}:rX prog gl (zK g l) 91 [.agg (aI g),.agg (fU l)] 3 cZ:=
 gc func91 λK=>lS 11101 (λd=>sp [] [(5,.rsl 0 0 d.length)] [ob 0 3 (d.flatMap cZ)] 1) (λs1=>sp [] [(2,.ref 0 0),(3,.ref 1 0),(5,.rsl 2 0 s1.1.length),(6,iG s1.2)] [ob 0 30 (aI g),ob 1 166 (fU l),ob 2 3 (s1.1.flatMap cZ)] 3) [hc (rZ.imm [])] (λd=>mr c0 K (rZ.imm _)) λs1 k5 h=>aF 12 (dV 18 rZ.ixZ 19 (rZ.p1Y tZ) λj=>ak λk a=>aw [bR 23 (rO.ixZ a)]<|kV (λb=>aw [bR 24 (cB (rO.p1Z tO a) b)]<|cj k5 (fx rZ s1.1)) λb=>ak λm e=>dV 32 eJ.ixZ 33 (eJ.ptZ GN) λn=>dV 37 ac.ixZ 38 (ac.ptZ aW) λo=>dI 39 (DO gl) λp=>aw [bR 24 (cB (rO.p1Z tO a) b),hz 28 [2] (wS (i:=2) (c:=3) aH (G5 gl e) (aG 20 _ aH) (rZ.imm s1.1) dL (by rfl) (CJ (aG 20 _ aH) (w5 (CJ (aG 20 _ aH) (wZ)))))]<|aF 40 (iZ (dg 44 rZ) λf=>cj k5 (fx rZ f))<|cj k5 (fx rZ s1.1))<|aA c1 h (fx rZ s1.1)
def qR(g:D12G)(a:DIdent):Option Int:=
 (fC g a).bind λb=>some b
theorem yG{g id_}:eP prog gl (qR g id_) 110 [.agg (aI g),.agg (aj id_)] iG:=
 cy func110 λK=>dI 7 (dX gl) λa=>rv K
def iP(g:D12G)(s1:List Int×Int)(a:Int×Int):Option ((Int×Int)⊕(Int)):=
 (aS g.Up s1.2).bind λb=>bif decide (a.2<ah b) then((aS g.Up s1.2).bind λc=>(aS c a.2).bind λd=>(aS s1.1 d).bind λe=>some (.inl (hE a.1 (wI (1+e)),wI (a.2+1)))) else(some (.inr a.1))
def pd(g:D12G)(s1:List Int×Int):Option ((List Int×Int)⊕(List Int)):=
 bif decide (s1.2<ah g.L) then((bo (iP g s1) (1,0)).bind λa=>(aT 8 s1.1 ([a]:List Int)).bind λb=>some (.inl (b,wI (s1.2+1)))) else(some (.inr s1.1))
def nZ(g:D12G):Option (List Int):=
 (bo (pd g) ([],0)).bind λa=>some a
theorem Fh{g}:rX prog gl (nZ g) 183 [.agg (aI g)] 3 cZ:=
 gc func183 λK=>lS 11101 (λc=>sp [] [(3,.rsl 0 0 c.length)] [ob 0 3 (c.flatMap cZ)] 1) (λs1=>sp [] [(1,.ref 0 0),(3,.rsl 1 0 s1.1.length),(4,iG s1.2)] [ob 0 30 (aI g),ob 1 3 (s1.1.flatMap cZ)] 2) [hc (rZ.imm [])] (λc=>mr c0 K (rZ.imm _)) λs1 k5 h=>aF 11 (lS 1110122102101 (λb=>sf [] [(5,iG b)]) (λa=>sf [] [(5,iG a.1),(6,iG a.2)]) (fx rZ s1.1) (λb=>iZ (dg 41 rZ) λd=>cj k5 (fx rZ d)) λa e f=>dV 18 nH.ixZ 19 (nH.p1Y Vs) λi=>aF 21 (dV 29 nH.ixZ 30 (nH.p1Y Vs) λj=>dV 32 rZ.ixZ 33 (rZ.p1Y tZ) λk=>dV 34 (rZ.ixrZ 1) 35 (rZ.p10Y tZ) λl=>cj e (fx rZ s1.1))<|aA c1 f (fx rZ s1.1))<|aA c1 h (fx rZ s1.1)
def vI(g:D12G)(l:List Int)(i:Int)(k:Int):Option Bool:=
 (aS l i).bind λd=>(aS l k).bind λe=>bif decide (d≠e) then((aS l i).bind λf=>(aS l k).bind λh=>some (decide (f<h))) else((aS g.IDs i).bind λa=>(aS g.IDs k).bind λb=>(oU a b).bind λc=>some c)
theorem G6{g l i k}:eP prog gl (vI g l i k) 184 [.agg (aI g),aE cZ l,iG i,iG k] bG:=
 cy func184 λK=>dV 11 rZ.ixZ 12 (rZ.p1Y tZ) λd=>dV 15 rZ.ixZ 16 (rZ.p1Y tZ) λe=>aF 17 (dV 20 rZ.ixZ 21 (rZ.p1Y tZ) λf=>dV 24 rZ.ixZ 25 (rZ.p1Y tZ) λh=>rv K)<|dV 30 ac.ixZ 31 (ac.ptZ aW) λa=>dV 35 ac.ixZ 36 (ac.ptZ aW) λb=>dI 37 (oV gl) λc=>rv K
def qS(g:D12G)(e:List Int)(a:List DIdent×Int):Option ((List DIdent×Int)⊕(List DIdent)):=
 bif decide (a.2<ah e) then((aS e a.2).bind λb=>(aS g.IDs b).bind λc=>(aT 24 a.1 [c]).bind λd=>some (.inl (d,wI (a.2+1)))) else(some (.inr a.1))
def qT(g:D12G)(f:List Int)(s3:List Int×Int)(b:Int)(a:Int):Option ((Int)⊕(Int)):=
 (bif decide (a<ah s3.1) then((aS s3.1 a).bind λc=>(vI g f c b).bind λd=>some d) else(some false)).bind λe=>bif e then(some (.inl (wI (a+1)))) else(some (.inr a))
def qU(g:D12G)(ids:List DIdent)(j:List Int)(s3:List Int×Int):Option ((List Int×Int)⊕(List Int)):=
 bif decide (s3.2<ah ids) then((aS ids s3.2).bind λc=>(qR g c).bind λa=>bif decide (a<0) then(some (.inl (s3.1,wI (s3.2+1)))) else((bo (qT g j s3 a) 0).bind λb=>(tq s3.1 b).bind λd=>(aT 8 ([]:List Int) d).bind λe=>(aT 8 e ([a]:List Int)).bind λf=>(mc s3.1 b).bind λh=>(aT 8 f h).bind λi=>some (.inl (i,wI (s3.2+1))))) else(some (.inr s3.1))
def n8(g:D12G)(ids:List DIdent):Option (List DIdent):=
 (nZ g).bind λb=>(bo (qU g ids b) ([],0)).bind λc=>(bo (qS g c) ([],0)).bind λa=>some a
theorem G7{g ids}:rX prog gl (n8 g ids) 108 [.agg (aI g),aE aj ids] 36 aj:=
 gc func108 λK=>mH 14 rZ (Fh gl) λp=>lS 111101 (λn=>sp [] [(2,.ref 0 0),(6,aE cZ n)] [ob 0 30 (aI g)] 1) (λs3=>so [0] [(2,.ref 0 0),(5,aE cZ p),(6,aE cZ s3.1),(7,iG s3.2)] [ob 0 30 (aI g)] 1) [] (λn=>lS 11111101 (λb=>sp [] [(11,.rsl 0 0 b.length)] [ob 0 36 (b.flatMap aj)] 1) (λa=>so [] [(11,.rsl 1 0 a.1.length),(12,iG a.2)] [ob 1 36 (a.1.flatMap aj)] 2) [hc (ac.imm [])] (λb=>mr c0 K (ac.imm _)) λa h i=>aF 62 (dV 70 rZ.ixZ 71 (rZ.p1Y tZ) λq=>dV 72 ac.ixZ 73 (ac.ptZ aW) λr=>iZ (dg 75 ac) λj=>cj h (fx ac j))<|aA c1 i (fx ac a.1)) λs3 o k6=>aF 18 (dV 24 ac.ixZ 25 (ac.ptZ aW) λs=>dI 26 (yG gl) λc=>aF 28 (rb o)<|lS 111101221021110 (λd=>sf [] [(8,iG c),(9,iG d)]) (λe=>sf [] [(8,iG c),(9,iG e)]) [] (λd=>rdv 48 rZ.preZI λt=>iZ (wX 49 rZ) λu=>iZ (dg 53 rZ) λv=>rdv 57 rZ.sufZI λw=>iZ (eu 58 rZ) λk=>cj o [hc (rZ.al k)]) λe l m=>tl 1111012210211102200 (sf [] []) [] 42 (rb l) (aA c1 m []) λf=>aF 32 (dV 38 rZ.ixZ 39 (rZ.p1Y tZ) λx=>dI 41 (G6 gl) λy=>rx f)<|rx f)<|aA c1 k6 []
def LJ(o:DOp):Option Int:=
 bif decide (o.Kind=1) then(some o.By) else((bif decide (o.Kind=2) then(some true) else(some (decide (o.Kind=13)))).bind λa=>bif a then(some o.Device) else(some 0))
theorem Pk{o}:eP prog gl (LJ o) 109 [.agg (aJ o)] iG:=
 cy func109 λK=>aF 5 (rv K)<|tl 11100 (sp [] [(1,.ref 0 0)] [ob 0 44 (aJ o)] 1) [] 15 (rv K) (rv K) λk5=>aF 10 (rx k5)<|rx k5
end
section
set_option maxHeartbeats 2000000
attribute [local irreducible] Tr dz Gp
def nk(g:D12G)(i:List DIdent)(s3:List Int×Int):Option ((List Int×Int)⊕(List Int)):=
 bif decide (s3.2<ah i) then((aS i s3.2).bind λb=>(qR g b).bind λc=>(aS g.L c).bind λd=>(LJ d).bind λa=>(bif decide (0<a) then((fb s3.1 a).bind λe=>some (!e)) else(some false)).bind λf=>bif f then((aT 8 s3.1 ([a]:List Int)).bind λh=>some (.inl (h,wI (s3.2+1)))) else(some (.inl (s3.1,wI (s3.2+1))))) else(some (.inr s3.1))
def jn(g:D12G)(ids:List DIdent):Option (List Int):=
 (n8 g ids).bind λa=>(bo (nk g a) ([],0)).bind λb=>some b
theorem Di{g ids}:rX prog gl (jn g ids) 43 [.agg (aI g),aE aj ids] 3 cZ:=
 gc func43 λK=>mH 11 ac (G7 gl) λh=>lS 111101 (λc=>sp [] [(6,.rsl 0 0 c.length)] [ob 0 3 (c.flatMap cZ)] 1) (λs3=>sp [] [(2,.ref 0 0),(5,aE aj h),(6,.rsl 1 0 s3.1.length),(7,iG s3.2)] [ob 0 30 (aI g),ob 1 3 (s3.1.flatMap cZ)] 2) [hc (rZ.imm [])] (λc=>mr c0 K (rZ.imm _)) λs3 f k6=>aF 15 (dV 23 ac.ixZ 24 (ac.ptZ aW) λi=>dI 25 (yG gl) λj=>dV 26 eJ.ixZ 27 (eJ.ptZ GN) λk=>dI 28 (Pk gl) λa=>tl 1111012210210 (sf [] [(8,iG a)]) (fx rZ s3.1) 36 (iZ (dg 40 rZ) λd=>cj f (fx rZ d)) (cj f (fx rZ s3.1)) λb=>aF 30 (ak λl e=>aw [hq 34 [aE cZ s3.1,iG a] [hc (rZ.al s3.1)] (fq gl e)]<|aA c0 b (fx rZ s3.1))<|aA c0 b (fx rZ s3.1))<|aA c1 k6 (fx rZ s3.1)
def un(ids:List DIdent)(s1:List DIdent×Int):Option ((List DIdent×Int)⊕(List DIdent)):=
 bif decide (s1.2<ah ids) then((aS ids s1.2).bind λb=>(qN ids b.By).bind λa=>(bif decide (0<a) then((aS ids s1.2).bind λc=>some (decide (a<=c.Seq))) else(some false)).bind λd=>bif d then((aS ids s1.2).bind λe=>(aT 24 s1.1 [e]).bind λf=>some (.inl (f,wI (s1.2+1)))) else(some (.inl (s1.1,wI (s1.2+1))))) else(some (.inr s1.1))
def vJ(ids:List DIdent):Option (List DIdent):=
 (bo (un ids) ([],0)).bind λb=>(iu b).bind λa=>some a
theorem JC{ids}:rX prog gl (vJ ids) 250 [aE aj ids] 36 aj:=
 gc func250 λK=>lS 11101 (λc=>sg [] [(3,aE aj c)]) (λs1=>so [] [(3,.rsl 0 0 s1.1.length),(4,iG s1.2)] [ob 0 36 (s1.1.flatMap aj)] 1) [hc (ac.imm [])] (λc=>ak λd e=>aw [ho 38 [aE aj c] [] (iO gl e) (kF d)]<|mr c0 K (ac.imm _)) λs1 k5 h=>aF 9 (dV 15 ac.ixZ 17 (ac.fdY tZ 0) λi=>dI 18 (yF gl) λf=>cN 111012210210 (sf [] [(5,iG f)]) (fx ac s1.1)<|cC 111012210210 (λa=>sf [5] [(29,bG a)]) (λa=>eH [29] (dV 33 ac.ixZ 34 (ac.ptZ aW) λj=>iZ (dg 36 ac) λg=>cj k5 (fx ac g))<|cj k5 (fx ac s1.1)) λa b=>aF 20 (dV 24 ac.ixZ 26 (ac.fdY tZ 1) λk=>aA c0 b (fx ac s1.1))<|aA c0 b (fx ac s1.1))<|aA c1 h [hc (ac.al s1.1)]
def uo(g:D12G)(b:List DIdent)(a:List Bool×List Bool×Int):Option ((List Bool×List Bool×Int)⊕(List Bool×List Bool)):=
 bif decide (a.2.2<ah b) then((aS b a.2.2).bind λd=>(fC g d).bind λc=>(ji a.1 c true).bind λe=>(ji a.2.1 c true).bind λf=>some (.inl (e,f,wI (a.2.2+1)))) else(some (.inr (a.1,a.2.1)))
def uq(g:D12G)(e:List DIdent)(a:List Int×Int):Option ((List Int×Int)⊕(List Int)):=
 bif decide (a.2<ah e) then((aS e a.2).bind λb=>(fC g b).bind λc=>(aT 8 a.1 ([c]:List Int)).bind λd=>some (.inl (d,wI (a.2+1)))) else(some (.inr a.1))
def Aa(g:D12G)(ids:List DIdent):Option D16L:=
 (n8 g ids).bind λd=>(rP 1 (false:Bool) (ah g.L)).bind λe=>(rP 1 (false:Bool) (ah g.L)).bind λf=>(rP 1 (false:Bool) (ah g.L)).bind λh=>(bo (uq g d) ([],0)).bind λb=>(vJ ids).bind λc=>(bo (uo g c) (e,f,0)).bind λa=>some ⟨b,a.1,a.2,h⟩
theorem JE{g ids r}(h:Aa g ids=some r):OU prog gl 166 [.agg (aI g),aE aj ids] [] 0 0 (.agg [.rsl 0 0 r.Row.length,.rsl 1 0 r.Void.length,.rsl 2 0 r.Fork.length,.rsl 3 0 r.Decided.length]) [ob 0 3 (r.Row.flatMap cZ),ob 1 4 (r.Void.flatMap cO),ob 2 4 (r.Fork.flatMap cO),ob 3 4 (r.Decided.flatMap cO)]:=
 Yx (λr:D16L=> .agg [.rsl 0 0 r.Row.length,.rsl 1 0 r.Void.length,.rsl 2 0 r.Fork.length,.rsl 3 0 r.Decided.length]) (λr:D16L=>[ob 0 3 (r.Row.flatMap cZ),ob 1 4 (r.Void.flatMap cO),ob 2 4 (r.Fork.flatMap cO),ob 3 4 (r.Decided.flatMap cO)]) func166 h (λi hi=>absurd hi (Nat.not_lt_zero i)) λK=>mH 13 ac (G7 gl) λt=>iZ (hmk 17 rO) λe=>iZ (hmk 22 rO) λf=>iZ (hmk 27 rO) λb=>lS 111111101 (λa=>so [0] [(2,.ref 0 0),(4,.ref 1 0),(5,.ref 2 0)] [ob 0 30 (aI g),ob 1 166 (bF [0,1,2,3] (fU AC)),ob 2 166 [.rsl 3 0 a.length,.rsl 4 0 e.length,.rsl 5 0 f.length,.rsl 6 0 b.length],ob 3 3 (a.flatMap cZ),ob 4 4 (e.flatMap cO),ob 5 4 (f.flatMap cO),ob 6 4 (b.flatMap cO)] 7) (λl=>so [0] [(2,.ref 0 0),(4,.ref 1 0),(5,.ref 2 0),(6,aE aj t),(7,iG l.2)] [ob 0 30 (aI g),ob 1 166 (bF [0,1,2,3] (fU AC)),ob 2 166 [.rsl 3 0 l.1.length,.rsl 4 0 e.length,.rsl 5 0 f.length,.rsl 6 0 b.length],ob 3 3 (l.1.flatMap cZ),ob 4 4 (e.flatMap cO),ob 5 4 (f.flatMap cO),ob 6 4 (b.flatMap cO)] 7) [hc (el e),hc (el f),hc (el b),hc (rZ.imm []),hc (rO.imm e),hc (rO.imm f),hc (rO.imm b)] (λa=>mH 47 ac (JC gl) λp=>lS 11111111101 (λd=>sk [] [(4,.ref 0 0),(5,.ref 1 0)] [ob 0 166 (bF [0,1,2,3] (fU AC)),ob 1 166 [.rsl 2 0 a.length,.rsl 3 0 d.1.length,.rsl 4 0 d.2.length,.rsl 5 0 b.length],ob 2 3 (a.flatMap cZ),ob 3 4 (d.1.flatMap cO),ob 4 4 (d.2.flatMap cO),ob 5 4 (b.flatMap cO)] 6) (λc=>so [1] [(8,aE aj p),(9,iG c.2.2)] [ob 2 166 [.rsl 3 0 a.length,.rsl 4 0 c.1.length,.rsl 5 0 c.2.1.length,.rsl 6 0 b.length],ob 4 4 (c.1.flatMap cO),ob 5 4 (c.2.1.flatMap cO)] 7) [hc (el a),hc (el e),hc (el f),hc (el b),hc (rZ.imm a),hc (rO.imm e),hc (rO.imm f),hc (rO.imm b)] (λd=>rdU c0 K [hc (el a),hc (el d.1),hc (el d.2),hc (el b),hc (rZ.imm a),hc (rO.imm d.1),hc (rO.imm d.2),hc (rO.imm b)] [(0,2),(1,3),(2,4),(3,5)] [(0,.row),(1,.row),(2,.row),(3,.row)]) λc q s=>aF 51 (dV 57 ac.ixZ 58 (ac.ptZ aW) λu=>dI 59 (dX gl) λv=>ak λm j=>ak λn k=>aw [bR 63 (rO.ixsZ 4 j),hw 63 (m.flatMap cO) (rO.putZ j),bR 67 (rO.ixsZ 5 k),hw 67 (n.flatMap cO) (rO.putZ k)]<|cj q [hc (el a),hc (hZ j),hc (hZ k),hc (el b),hc (rZ.imm a),hc (rO.imm m),hc (rO.imm n),hc (rO.imm b)])<|aA c1 s [hc (el a),hc (el c.1),hc (el c.2.1),hc (el b),hc (rZ.imm a),hc (rO.imm c.1),hc (rO.imm c.2.1),hc (rO.imm b)]) λl k13 k12=>aF 32 (dV 40 ac.ixZ 41 (ac.ptZ aW) λw=>dI 42 (dX gl) λx=>iZ (dg 44 rZ) λo=>cj k13 [hc (el o),hc (el e),hc (el f),hc (el b),hc (rZ.imm o),hc (rO.imm e),hc (rO.imm f),hc (rO.imm b)])<|aA c1 k12 [hc (el l.1),hc (el e),hc (el f),hc (el b),hc (rZ.imm l.1),hc (rO.imm e),hc (rO.imm f),hc (rO.imm b)]
def tx(g:D12G)(l:D16L)(at_:Int):Option Bool:=
 (aS g.L at_).bind λa=>((aS l.Void at_).bind λc=>bif(!c) then((aS l.Decided at_).bind λb=>bif(!b) then(bif decide (a.Kind=3) then(some true) else(bif decide (a.Kind=13) then(some true) else(some (decide (a.Kind=12))))) else(some false)) else(some false)).bind λd=>some d
theorem lC{g l at_}:eP prog gl (tx g l at_) 169 [.agg (aI g),.agg (fU l),iG at_] bG:=
 cy func169 λK=>dV 11 eJ.ixZ 13 (eJ.fdY tZ 2) λc=>cN 1110 (sp [2] [(4,.ref 0 0),(7,iG c.Kind)] [ob 0 166 (fU l)] 1) []<|cC 1110 (λb=>sk [] [(6,bG b)] [] 0) (λb=>rv K) λb a=>dV 17 rO.ixZ 18 (rO.p1Y tO) λe=>aF 19 (dV 24 rO.ixZ 25 (rO.p1Y tO) λd=>aF 27 (aF 30 (rx a)<|aF 34 (rx a)<|rx a)<|rx a)<|rx a
def n9(g:D12G)(c:Int)(y:Int):Option Bool:=
 (aS g.L c).bind λa=>(aS g.L y).bind λb=>(bif decide (c=y) then(some true) else((aS g.In c).bind λd=>(aS d y).bind λe=>bif e then(some true) else((aS g.In y).bind λf=>(aS f c).bind λh=>some h))).bind λl=>bif l then(some false) else((bif decide (a.Kind=3) then(some (decide (a.Device≠0))) else(some false)).bind λm=>bif m then(some (decide (b.By=a.Device))) else(bif decide (a.Kind=3) then((nT g b.By).bind λi=>some (decide (i=a.Member))) else(bif decide (a.Kind=13) then((bif decide (b.By=a.Old) then(bif decide (b.Kind≠12) then(some true) else(some (!decide (b.Of=a.Of)))) else(some false)).bind λj=>some j) else((bif decide (a.Kind=12) then(bif decide (b.Kind=13) then(bif decide (a.Of=b.Of) then(some (decide (a.At<=b.At))) else(some false)) else(some false)) else(some false)).bind λk=>some k))))
theorem mC{g x_ y}:eP prog gl (n9 g x_ y) 168 [.agg (aI g),iG x_,iG y] bG:=
 cy func168 λK=>dV 12 eJ.ixZ 13 (eJ.ptZ GN) λf=>dV 17 eJ.ixZ 18 (eJ.ptZ GN) λh=>cN 111100 (so [0] [(3,.ref 0 0),(7,.ref 1 0),(8,.ref 2 0)] [ob 0 30 (aI g),ob 1 44 (aJ f),ob 2 44 (aJ h)] 3) []<|cC 111100 (λj=>sf [1,2] [(41,bG j)]) (λj=>eH [41] (rv K)<|tl 1111100 (sf [41] []) [] 49 (rv K) (aF 57 (dI 61 (vE gl) λk=>rv K)<|aF 67 (cN 11111110130 (sk [] [(7,.ref 0 0),(8,.ref 1 0)] [ob 0 44 (aJ f),ob 1 44 (aJ h)] 2) []<|cC 11111110130 (λb=>sk [] [(6,bG b)] [] 0) (λb=>rv K) λb c=>aF 72 (aF 76 (rx c)<|aw [hV 82 (dy h.Of f.Of rfl)]<|rx c)<|rx c)<|cN 111111110 (sk [] [(7,.ref 0 0),(8,.ref 1 0)] [ob 0 44 (aJ f),ob 1 44 (aJ h)] 2) []<|cC 111111110 (λd=>sk [] [(6,bG d)] [] 0) (λd=>rv K) λd a=>aF 87 (aF 92 (aw [hV 98 (dU f.Of h.Of rfl)]<|aF 99 (rx a)<|rx a)<|rx a)<|rx a) λi=>aF 44 (rx i)<|rx i) λj e=>aF 21 (rx e)<|dV 26 zV.ixZ 27 (zV.p1Y Vt) λl=>dV 29 rO.ixZ 30 (rO.p1Y tO) λm=>aF 31 (rx e)<|dV 36 zV.ixZ 37 (zV.p1Y Vt) λn=>dV 39 rO.ixZ 40 (rO.p1Y tO) λo=>rx e
def qV(g:D12G)(l:D16L)(h:Int)(y:Int)(s2:Int):Option ((Int)⊕(Unit⊕Bool)):=
 bif decide (s2<ah l.Row) then((aS l.Row s2).bind λa=>(bif decide (a=h) then((n9 g y a).bind λb=>some b) else((aS g.In h).bind λc=>(aS c a).bind λd=>bif d then((n9 g y a).bind λe=>some e) else(some false))).bind λf=>bif f then(some (.inr (.inr true))) else(some (.inl (wI (s2+1))))) else(some (.inr (.inl ())))
def qW(g:D12G)(l:D16L)(a:Int)(y:Int):Option Bool:=
 bif decide (a=y) then(some false) else((bo (qV g l a y) 0).bind λb=>ma b (λc=>some false) (λq=>some q))
theorem yI{g l x_ y}:eP prog gl (qW g l x_ y) 170 [.agg (aI g),.agg (fU l),iG x_,iG y] bG:=
 cy func170 λK=>aF 13 (rv K)<|uy 11101 (λc=>sg [] []) (λs2=>so [0,1] [(4,.ref 0 0),(5,.ref 1 0),(9,iG s2)] [ob 0 30 (aI g),ob 1 166 (fU l)] 2) [] K (λc=>rv K) λs2 k6 k5 e=>aF 18 (dV 24 rZ.ixZ 25 (rZ.p1Y tZ) λd=>cN 111012210210 (sf [] [(10,iG d)]) []<|cC 111012210210 (λa=>sf [10] [(44,bG a)]) (λa=>eH [44] (aP c3 e [])<|rb k6) λa b=>aF 28 (dI 43 (mC gl) λf=>rx b)<|dV 33 zV.ixZ 34 (zV.p1Y Vt) λh=>dV 36 rO.ixZ 37 (rO.p1Y tO) λi=>aF 38 (dI 43 (mC gl) λj=>rx b)<|rx b)<|aA c2 k5 []
def ph(a:List Int)(device:Int)(s1:Int):Option ((Int)⊕(Unit⊕Int)):=
 bif decide (s1<ah a) then((aS a s1).bind λb=>bif decide (b=device) then(some (.inr (.inr s1))) else(some (.inl (wI (s1+1))))) else(some (.inr (.inl ())))
def oa(a:List Int)(device:Int):Option Int:=
 (bo (ph a device) 0).bind λb=>ma b (λc=>some (ah a)) (λq=>some q)
theorem vK{a device}:eP prog gl (oa a device) 251 [aE cZ a,iG device] iG:=
 cy func251 λK=>uy 1101 (λb=>sf [1] []) (λs1=>sf [] [(5,iG s1)]) [] K (λb=>rv K) λs1 k5 c k6=>aF 9 (dV 14 rZ.ixZ 15 (rZ.p1Y tZ) λd=>aF 17 (aP c3 k6 [])<|rb k5)<|aA c2 c []
def ut(g:D12G)(l:D16L)(b:Int)(a:Bool×Int):Option ((Bool×Int)⊕(Bool)):=
 bif decide (a.2<ah l.Row) then(((aS l.Row a.2).bind λc=>(tx g l c).bind λd=>bif d then((aS l.Row a.2).bind λe=>(qW g l b e).bind λf=>some f) else(some false)).bind λh=>bif h then(some (.inl (false,wI (a.2+1)))) else(some (.inl (a.1,wI (a.2+1))))) else(some (.inr a.1))
def uu(g:D12G)(l:D16L)(a:List Int)(s1:Int×Int):Option ((Int×Int)⊕(Int⊕Int)):=
 bif decide (s1.2<ah l.Row) then((aS l.Row s1.2).bind λb=>(tx g l b).bind λc=>bif(!c) then(some (.inl (s1.1,wI (s1.2+1)))) else((bo (ut g l b) (true,0)).bind λd=>bif d then(some (.inr (.inr b))) else((bif decide (s1.1<0) then(some true) else((aS g.L b).bind λe=>(oa a e.By).bind λf=>(aS g.L (hE s1.1 0)).bind λh=>(oa a h.By).bind λi=>some (decide (f<i)))).bind λj=>bif j then(some (.inl (b,wI (s1.2+1)))) else(some (.inl (s1.1,wI (s1.2+1))))))) else(some (.inr (.inl s1.1)))
def vL(g:D12G)(l:D16L)(a:List Int):Option Int:=
 (bo (uu g l a) ((-1),0)).bind λc=>ma c (λb=>some b) (λq=>some q)
theorem AZ{g l a}:eP prog gl (vL g l a) 167 [.agg (aI g),.agg (fU l),aE cZ a] iG:=
 cy func167 λK=>uy 11101 (λd=>sg [] [(7,iG d)]) (λs1=>sp [2] [(3,.ref 0 0),(4,.ref 1 0),(7,iG s1.1),(8,iG s1.2)] [ob 0 30 (aI g),ob 1 166 (fU l)] 2) [] K (λd=>rv K) λs1 k5 n k6=>aF 16 (dV 22 rZ.ixZ 23 (rZ.p1Y tZ) λe=>dI 27 (lC gl) λo=>aF 28 (rb k5)<|lS 111012210211101 (λf=>sf [] [(9,iG e),(10,bG f)]) (λb=>sf [] [(9,iG e),(10,bG b.1),(11,iG b.2)]) [] (λf=>aF 55 (aP c3 k6 [])<|tl 1110122102111110 (sf [10] []) [] 78 (rb k5) (rb k5) λh=>aF 58 (rx h)<|dV 64 eJ.ixZ 66 (eJ.fdY tZ 0) λp=>dI 67 (vK gl) λq=>dV 73 eJ.ixZ 75 (eJ.fdY tZ 0) λr=>dI 76 (vK gl) λs=>rx h) λb i m=>aF 33 (tl 111012210211101221020 (sf [] []) [] 54 (rb i) (rb i) λj=>dV 41 rZ.ixZ 42 (rZ.p1Y tZ) λt=>ak λu k=>kV (λc=>dV 51 rZ.ixZ 52 (rZ.p1Y tZ) λv=>dI 53 (yI gl) λw=>aw [hf 43 (cF (lC gl k) c)]<|rx j) λc=>aw [hf 43 (cF (lC gl k) c)]<|rx j)<|aA c1 m [])<|aA c2 n []
end
section
set_option maxHeartbeats 2000000
attribute [local irreducible] Tr dz Gp
def ng(b:List Int)(a:List Bool×Int):Option ((List Bool×Int)⊕(List Bool)):=
 bif decide (a.2<ah b) then((aS b a.2).bind λc=>(ji a.1 c true).bind λd=>some (.inl (d,wI (a.2+1)))) else(some (.inr a.1))
def nh(g:D12G)(d:D16L)(c:List Bool×List Bool×Int)(a:List Int×Int):Option ((List Int×Int)⊕(List Int)):=
 bif decide (a.2<ah d.Row) then((aS d.Row a.2).bind λb=>((n9 g c.2.2 b).bind λe=>bif e then(some true) else((tx g ({d with Void:=c.1,Decided:=c.2.1}) b).bind λf=>bif f then((qW g ({d with Void:=c.1,Decided:=c.2.1}) c.2.2 b).bind λh=>some h) else(some false)):Option Bool).bind λi=>bif i then((aT 8 a.1 ([b]:List Int)).bind λj=>some (.inl (j,wI (a.2+1)))) else(some (.inl (a.1,wI (a.2+1))))) else(some (.inr a.1))
def tw(g:D12G)(d:D16L)(k:List Int)(a:List Bool×List Bool×Int):Option ((List Bool×List Bool×Int)⊕(List Bool×List Bool)):=
 bif decide (0<=a.2.2) then((zK g ({d with Void:=a.1,Decided:=a.2.1})).bind λe=>(fb e a.2.2).bind λf=>(bo (nh g d a) ([],0)).bind λh=>(bif(!f) then(some ([a.2.2]:List Int)) else(some h)).bind λi=>(ji a.2.1 a.2.2 true).bind λb=>(bo (ng i) (a.1,0)).bind λc=>(vL g ({d with Void:=c,Decided:=b}) k).bind λj=>some (.inl (c,b,j))) else(some (.inr (a.1,a.2.1)))
def oR(g:D12G)(ids:List DIdent):Option D16L:=
 (Aa g ids).bind λa=>(jn g ids).bind λb=>(vL g a b).bind λd=>(bo (tw g a b) (a.Void,a.Decided,d)).bind λc=>some ({a with Void:=c.1,Decided:=c.2})
theorem Db{g ids}:eP prog gl (oR g ids) 92 [.agg (aI g),aE aj ids] (λr=> .agg (fU r)):=
 cy func92 λK=>ak λe e2=>mH 18 rZ (Di gl) λz=>ak λQ e6=>aw [hz 15 [] (Ts (c:=2) aH (JE gl e2) (eB aH) rn4 (rZ.imm e.Row) (rO.imm e.Void) (rO.imm e.Fork) (rO.imm e.Decided)),hq 22 [.agg (aI g),.agg (fU e),aE cZ z] [hc (rZ.al e.Row),hc (rO.al e.Void),hc (rO.al e.Fork),hc (rO.al e.Decided)] (AZ gl e6)]<|lS 111110 (λA=>sp [] [(4,.ref 0 0),(5,.ref 1 0)] [ob 0 166 (bF [0,1,2,3] (fU AC)),ob 1 166 (fU ({e with Void:=A.1,Decided:=A.2}))] 2) (λa=>sp [] [(2,.ref 0 0),(4,.ref 1 0),(5,.ref 2 0),(6,aE cZ z),(7,iG a.2.2)] [ob 0 30 (aI g),ob 1 166 (bF [0,1,2,3] (fU AC)),ob 2 166 [aE cZ e.Row,.rsl 3 0 a.1.length,aE cO e.Fork,.rsl 4 0 a.2.1.length],ob 3 4 (a.1.flatMap cO),ob 4 4 (a.2.1.flatMap cO)] 5) [hc (rZ.al e.Row),hc (el e.Void),hc (rO.al e.Fork),hc (el e.Decided),hc (rO.imm e.Void),hc (rO.imm e.Decided)] (λA=>rv K) λa k11 B=>aF 24 (ak λj C=>ak λk D=>aw [ho 27 [.agg (aI g),.agg (fU ({e with Void:=a.1,Decided:=a.2.1}))] [hc (rO.al a.1),hc (rO.al a.2.1)] (AY gl C) (lZ j),hq 29 [aE cZ j,iG a.2.2] [hc (rZ.al j)] (fq gl D)]<|lS 11111022121101 (λs=>sf [] [(8,bG k),(9,aE cZ s)]) (λb=>so [] [(8,bG k),(9,.rsl 5 0 b.1.length),(10,iG b.2)] [ob 5 3 (b.1.flatMap cZ)] 6) [hc (el a.1),hc (el a.2.1),hc (rO.imm a.1),hc (rO.imm a.2.1),hc (rZ.imm [])] (λs=>cN 111110221211101 (sf [8] [(64,bG (!k))]) [hc (el a.1),hc (el a.2.1),hc (rO.imm a.1),hc (rO.imm a.2.1)]<|cC 111110221211101 (λl=>sf [64] [(9,aE cZ l)]) (λl=>ak λd m=>aw [bR 70 (rO.ixsZ 4 m),hw 70 (d.flatMap cO) (rO.putZ m)]<|lS 11111022121111101 (λf=>so [7,9] [] [ob 2 166 [aE cZ e.Row,.rsl 3 0 f.length,aE cO e.Fork,.rsl 4 0 d.length],ob 3 4 (f.flatMap cO),ob 4 4 (d.flatMap cO)] 5) (λh=>so [7] [(12,iG h.2)] [ob 2 166 [aE cZ e.Row,.rsl 3 0 h.1.length,aE cO e.Fork,.rsl 4 0 d.length],ob 3 4 (h.1.flatMap cO),ob 4 4 (d.flatMap cO)] 5) [hc (el a.1),hc (hZ m),hc (rO.imm a.1),hc (rO.imm d)] (λf=>ak λL E=>aw [hq 87 [.agg (aI g),.agg (fU ({e with Void:=f,Decided:=d})),aE cZ z] [hc (rO.al f),hc (rO.al d)] (AZ gl E)]<|cj k11 [hc (el f),hc (el d),hc (rO.imm f),hc (rO.imm d)]) λh F H=>aF 74 (dV 81 rZ.ixZ 82 (rZ.p1Y tZ) λM=>ak λt n=>aw [bR 83 (rO.ixsZ 3 n),hw 83 (t.flatMap cO) (rO.putZ n)]<|cj F [hc (hZ n),hc (el d),hc (rO.imm t),hc (rO.imm d)])<|aA c1 H [hc (el h.1),hc (el d),hc (rO.imm h.1),hc (rO.imm d)]) λl u=>eH [64] (aA c0 u [hc (rZ.al ([a.2.2]:List Int)),hc (el a.1),hc (el a.2.1),hc (rO.imm a.1),hc (rO.imm a.2.1)])<|aA c0 u [hc (el a.1),hc (el a.2.1),hc (rO.imm a.1),hc (rO.imm a.2.1)]) λb v I=>aF 34 (dV 40 rZ.ixZ 41 (rZ.p1Y tZ) λi=>tl 111110221211012210210 (sf [] [(11,iG i)]) [hc (el b.1),hc (el a.1),hc (el a.2.1),hc (rO.imm a.1),hc (rO.imm a.2.1),hc (rZ.imm b.1)] 58 (iZ (dg 62 rZ) λw=>cj v [hc (el w),hc (el a.1),hc (el a.2.1),hc (rO.imm a.1),hc (rO.imm a.2.1),hc (rZ.imm w)]) (cj v [hc (el b.1),hc (el a.1),hc (el a.2.1),hc (rO.imm a.1),hc (rO.imm a.2.1),hc (rZ.imm b.1)]) λo=>ak λN x=>kV (λp=>aw [hf 45 (cF (mC gl x) p)]<|aA c0 o [hc (el b.1),hc (el a.1),hc (el a.2.1),hc (rO.imm a.1),hc (rO.imm a.2.1),hc (rZ.imm b.1)]) λp=>ak λO y=>aw [hf 45 (cF (mC gl x) p)]<|kV (λq=>ak λP J=>aw [hq 50 [.agg (aI g),.agg (fU ({e with Void:=a.1,Decided:=a.2.1})),iG i] [hc (rO.al a.1),hc (rO.al a.2.1)] (cF (lC gl y) q),hq 56 [.agg (aI g),.agg (fU ({e with Void:=a.1,Decided:=a.2.1})),iG a.2.2,iG i] [hc (rO.al a.1),hc (rO.al a.2.1)] (yI gl J)]<|aA c0 o [hc (el b.1),hc (el a.1),hc (el a.2.1),hc (rO.imm a.1),hc (rO.imm a.2.1),hc (rZ.imm b.1)]) λq=>aw [hq 50 [.agg (aI g),.agg (fU ({e with Void:=a.1,Decided:=a.2.1})),iG i] [hc (rO.al a.1),hc (rO.al a.2.1)] (cF (lC gl y) q)]<|aA c0 o [hc (el b.1),hc (el a.1),hc (el a.2.1),hc (rO.imm a.1),hc (rO.imm a.2.1),hc (rZ.imm b.1)])<|aA c1 I [hc (rZ.al b.1),hc (el a.1),hc (el a.2.1),hc (rO.imm a.1),hc (rO.imm a.2.1)])<|aA c1 B [hc (rO.al a.1),hc (rO.al a.2.1)]
def tQ(g:D12G)(b:List Int)(a:D15R×Int):Option ((D15R×Int)⊕(D15R)):=
 bif decide (a.2<ah b) then((aS b a.2).bind λc=>(aS g.L c).bind λd=>(aS b a.2).bind λe=>(aS g.IDs e).bind λf=>(DM a.1 d f).bind λh=>some (.inl (h,wI (a.2+1)))) else(some (.inr a.1))
def zY(g:D12G)(ids:List DIdent):Option D15R:=
 (AV g.Cards).bind λa=>(oR g ids).bind λb=>(zK g b).bind λc=>(bo (tQ g c) (a,0)).bind λd=>some d
theorem Jh{g ids}:eP prog gl (zY g ids) 38 [.agg (aI g),aE aj ids] (λr=> .agg (aU r)):=
 cy func38 λK=>dI 10 (DN gl) λk=>dI 14 (Db gl) λl=>mH 15 rZ (AY gl) λd=>lS 111101 (λc=>sp [] [(4,.ref 0 0),(5,.ref 1 0)] [ob 0 86 (bF [0,1,2,3,5] (aU eY)),ob 1 86 (aU c)] 2) (λa=>sp [] [(2,.ref 0 0),(4,.ref 1 0),(5,.ref 2 0),(6,aE cZ d),(7,iG a.2)] [ob 0 30 (aI g),ob 1 86 (bF [0,1,2,3,5] (aU eY)),ob 2 86 (aU a.1)] 3) [] (λc=>rv K) λa k11 b=>aF 19 (dV 27 rZ.ixZ 28 (rZ.p1Y tZ) λe=>dV 29 eJ.ixZ 30 (eJ.ptZ GN) λf=>dV 35 rZ.ixZ 36 (rZ.p1Y tZ) λh=>dV 37 ac.ixZ 38 (ac.ptZ aW) λi=>dI 39 (AU gl) λj=>rb k11)<|aA c1 b []
def lu(b:D15R):Option (List Int):=
 (lg b.In).bind λa=>some a
theorem Dc{r_}:rX prog gl (lu r_) 41 [.agg (aU r_)] 3 cZ:=
 gc func41 λK=>ak λa e2=>aw [ho 5 [aE cZ r_.In] [] (vH gl e2) (lZ a)]<|mr c0 K (rZ.imm _)
def qm(b:List Int)(c:List Int)(a:List Int×Int):Option ((List Int×Int)⊕(List Int)):=
 bif decide (a.2<ah b) then((aS b a.2).bind λd=>(fb c d).bind λe=>bif(!e) then((aS b a.2).bind λf=>(aT 8 a.1 ([f]:List Int)).bind λg=>some (.inl (g,wI (a.2+1)))) else(some (.inl (a.1,wI (a.2+1))))) else(some (.inr a.1))
def qn(c:List Int)(b:List Int)(a:List Int×Int):Option ((List Int×Int)⊕(List Int)):=
 bif decide (a.2<ah b) then((aS b a.2).bind λd=>(fb c d).bind λe=>bif e then((aS b a.2).bind λf=>(aT 8 a.1 ([f]:List Int)).bind λg=>some (.inl (g,wI (a.2+1)))) else(some (.inl (a.1,wI (a.2+1))))) else(some (.inr a.1))
def qo(g:D12G)(o:DOp):Option (List Int):=
 (tv g o.Past).bind λd=>(qN d o.By).bind λj=>(bif decide (0<j) then(some (decide (j<=o.Seq))) else(some false)).bind λl=>bif l then(some []) else((zY g d).bind λk=>(pV o).bind λa=>(AX k o a).bind λe=>bif decide (e≠0) then(some []) else((DM k o a).bind λf=>(lu f).bind λb=>(jn g d).bind λc=>(bo (qn b c) ([],0)).bind λh=>(bo (qm b c) (h,0)).bind λi=>some i))
theorem GU{g o}:rX prog gl (qo g o) 8 [.agg (aI g),.agg (aJ o)] 3 cZ:=
 gc func8 λK=>mH 17 ac (ua gl) λs=>dI 21 (yF gl) λt=>cN 111100 (sp [] [(2,.ref 0 0),(3,.ref 1 0),(5,aE aj s),(6,iG t)] [ob 0 30 (aI g),ob 1 44 (aJ o)] 2) []<|cC 111100 (λm=>sf [6] [(29,bG m)]) (λm=>eH [29] (mr c0 K (rZ.imm _))<|dI 32 (Jh gl) λD=>dI 34 (AI gl) λu=>dI 38 (DO gl) λv=>aF 39 (mr c0 K (rZ.imm _))<|dI 43 (AU gl) λw=>mH 44 rZ (Dc gl) λf=>mH 47 rZ (Di gl) λh=>lS 1111111111101 (λc=>sk [] [(9,aE cZ f),(10,aE cZ h),(11,.rsl 0 0 c.length)] [ob 0 3 (c.flatMap cZ)] 1) (λa=>sk [] [(9,aE cZ f),(10,aE cZ h),(11,.rsl 0 0 a.1.length),(12,iG a.2)] [ob 0 3 (a.1.flatMap cZ)] 1) [hc (rZ.imm [])] (λc=>lS 11111111111101 (λd=>sp [] [(11,.rsl 0 0 d.length)] [ob 0 3 (d.flatMap cZ)] 1) (λb=>so [] [(11,.rsl 0 0 b.1.length),(13,iG b.2)] [ob 0 3 (b.1.flatMap cZ)] 1) (fx rZ c) (λd=>mr c0 K (rZ.imm _)) λb i n=>aF 70 (dV 76 rZ.ixZ 77 (rZ.p1Y tZ) λx=>dI 78 (fq gl) λy=>aF 79 (dV 83 rZ.ixZ 84 (rZ.p1Y tZ) λz=>iZ (dg 86 rZ) λp=>cj i (fx rZ p))<|cj i (fx rZ b.1))<|aA c1 n (fx rZ b.1)) λa j q=>aF 51 (dV 57 rZ.ixZ 58 (rZ.p1Y tZ) λA=>ak λB k=>kV (λe=>dV 63 rZ.ixZ 64 (rZ.p1Y tZ) λC=>iZ (dg 66 rZ) λr=>aw [hf 59 (cF (fq gl k) e)]<|cj j (fx rZ r)) λe=>aw [hf 59 (cF (fq gl k) e)]<|cj j (fx rZ a.1))<|aA c1 q (fx rZ a.1)) λm l=>aF 23 (rx l)<|rx l
def AE(n:Int)(s1:Int):Option ((Int)⊕(Int)):=
 bif decide (wI (2*s1)<n) then(some (.inl (wI (2*s1)))) else(some (.inr s1))
def zZ(n:Int):Option Int:=
 (bo (AE n) 1).bind λa=>some a
theorem Ji{n}:eP prog gl (zZ n) 266 [iG n] iG:=
 cy func266 λK=>lS 1110 (λa=>sg [] [(3,iG a)]) (λs1=>sf [] [(3,iG s1)]) [] (λa=>rv K) λs1 k5 b=>aF 7 (rb k5)<|aA c1 b []
def su:Nat->(List Int)->Option (List (List Int))
 |0,_=>none
 |nn+1,leaves=>
 bif decide (ah leaves=0) then(some []) else(bif decide (ah leaves=1) then(some [leaves]) else((zZ (ah leaves)).bind λd=>(tq leaves d).bind λe=>(su nn e).bind λf=>(aT 24 [leaves] f).bind λg=>(mc leaves d).bind λa=>(su nn a).bind λb=>(aT 24 g b).bind λc=>some c))
theorem qp:∀(nn:Nat) {leaves:List Int},rX prog gl (su nn leaves) 208 [aE cZ leaves] 22 Jc
 |0,_=>λ_ h=>by cases h
 |nn+1,leaves=>gc func208 λK=>aF 7 (mr c0 K (nH.imm _))<|aF 12 (mr c0 K (nH.imm _))<|ak λf e4=>ak λg e6=>ak λi e8=>ak λj e10=>ak λc a=>ak λd b=>ak λe e16=>aw [hf 16 (Ji gl e4),bR 20 (rZ.preZI e6),hf 21 ((qp nn e8).fn nH.sz (nH.len _) (nH.imm _)),eu 22 nH e10,bR 26 (rZ.sufZI a),hf 27 ((qp nn b).fn nH.sz (nH.len _) (nH.imm _)),eu 28 nH e16]<|mr c0 K (nH.imm _)
def z0(a:List Int):Option (List (List Int)):=su (a.length+1) a
theorem Jj{leaves}:rX prog gl (z0 leaves) 208 [aE cZ leaves] 22 Jc:=qp gl _
def AF(device:Int)(e:List (List Int))(s3:List (List Int)×Int):Option ((List (List Int)×Int)⊕(List (List Int))):=
 bif decide (0<=s3.2) then((aS e s3.2).bind λa=>(fb a device).bind λb=>bif b then((aS e s3.2).bind λc=>(aT 24 s3.1 [c]).bind λd=>some (.inl (d,wI (s3.2-1)))) else(some (.inl (s3.1,wI (s3.2-1))))) else(some (.inr s3.1))
def Dx(a:List Int)(device:Int):Option (List (List Int)):=
 (z0 a).bind λb=>(bo (AF device b) ([],wI ((ah b)-1))).bind λc=>some c
theorem Jl{leaves device}:rX prog gl (Dx leaves device) 121 [aE cZ leaves,iG device] 22 Jc:=
 gc func121 λK=>mH 9 nH (Jj gl) λe=>lS 111101 (λb=>sp [] [(6,.rsl 0 0 b.length)] [ob 0 22 (b.flatMap Jc)] 1) (λs3=>so [0] [(5,aE Jc e),(6,.rsl 0 0 s3.1.length),(7,iG s3.2)] [ob 0 22 (s3.1.flatMap Jc)] 1) [hc (nH.imm [])] (λb=>mr c0 K (nH.imm _)) λs3 d k6=>aF 14 (dV 19 nH.ixZ 20 (nH.p1Y Vs) λf=>ak λg e16=>kV (λa=>dV 26 nH.ixZ 27 (nH.p1Y Vs) λh=>iZ (dg 29 nH) λc=>aw [hf 22 (cF (fq gl e16) a)]<|cj d (fx nH c)) λa=>aw [hf 22 (cF (fq gl e16) a)]<|cj d (fx nH s3.1))<|aA c1 k6 (fx nH s3.1)
def jm(g:D12G)(o:DOp):Option (List (List Int)):=
 (iE o.Kind).bind λb=>bif(!b) then(some []) else((qo g o).bind λa=>(fb a o.By).bind λc=>bif(!c) then(some []) else((Dx a o.By).bind λd=>some d))
theorem E6{g o}:rX prog gl (jm g o) 54 [.agg (aI g),.agg (aJ o)] 22 Jc:=
 gc func54 λK=>dI 9 (tu gl) λb=>aF 11 (mr c0 K (nH.imm _))<|mH 14 rZ (GU gl) λd=>dI 18 (fq gl) λe=>aF 19 (mr c0 K (nH.imm _))<|ak λa e10=>aw [hz 23 [] (DE (c:=2) aH (Jl gl e10) (eB aH) (nH.imm a))]<|mr c0 K (nH.imm _)
def lw(g:D12G×Int)(b:Int)(c:Bool)(a:List DNode×Int):Option ((List DNode×Int)⊕(List DNode)):=
 (bif decide (a.2<b) then(bif c then(some (decide (a.2<5))) else(some false)) else(some false)).bind λd=>bif d then(((aT 32 a.1 [(⟨wU (wI ((wI (1000+(wI (10*g.2))))+a.2)),[]⟩:DNode)]).bind λe=>some e:Option (List DNode)).bind λf=>some (.inl (f,wI (a.2+1)))) else(some (.inr a.1))
def ly(l:List Int)(most:Int)(a:D12G×Int):Option ((D12G×Int)⊕(D12G)):=
 (bif decide (a.2<most) then(bif decide (a.2<4) then(some true) else(some (decide (wI (2*a.2)<ah l)))) else(some false)).bind λf=>bif f then((bif decide (wI (2*a.2)<ah l) then((aS l (wI (2*a.2))).bind λg=>some g) else(some 0)).bind λh=>(bif decide (wI ((wI (2*a.2))+1)<ah l) then((aS l (wI ((wI (2*a.2))+1))).bind λi=>some i) else(some 0)).bind λc=>(sd a.1 h c).bind λb=>(jm a.1 ({b with Path:=[]})).bind λd=>(iq c 31).bind λj=>(bif decide (j=30) then(some (wI ((ah d)+1))) else(some (ah d))).bind λk=>(iE b.Kind).bind λm=>(bo (lw a k m) ([],0)).bind λn=>(nR ({b with Path:=n})).bind λo=>(AO a.1 o).bind λe=>bif decide (e.2=0) then(some (.inl (e.1,wI (a.2+1)))) else(some (.inl (a.1,wI (a.2+1))))) else(some (.inr a.1))
def vq(l:List Int)(most:Int):Option D12G:=
 (r8).bind λa=>(ql a).bind λb=>(Jf b).bind λc=>(bo (ly l most) (c,0)).bind λd=>some d
theorem Jm{l most}:eP prog gl (vq l most) 10 [aE cZ l,iG most] (λr=> .agg (aI r)):=
 cy func10 λK=>mH 15 rZ (E9 gl) λE=>mH 16 bT (GQ gl) λF=>dI 17 (M8 gl) λH=>lS 11101 (λz=>sp [] [(4,.ref 0 0),(5,.ref 1 0)] [ob 0 30 (bF [0,1,2,3,4] (aI xm)),ob 1 30 (aI z)] 2) (λc=>so [] [(4,.ref 0 0),(5,.ref 1 0),(6,iG c.2)] [ob 0 30 (bF [0,1,2,3,4] (aI xm)),ob 1 30 (aI c.1)] 2) [] (λz=>rv K) λc k11 q=>tl 111012200 (sf [] []) [] 31 (cN 11101221021101 (sf [31] [(7,iG 0),(8,iG 0),(38,bG (decide (wI (2*c.2)<ah l)))]) []<|cC 11101221021101 (λe=>sf [38] [(7,iG e)]) (λe=>cN 111012210211101 (sf [] [(49,bG (decide (wI ((wI (2*c.2))+1)<ah l)))]) []<|cC 111012210211101 (λf=>sf [49] [(8,iG f)]) (λf=>dI 59 (Jy gl) λa=>ak λs t=>dI 65 (iL gl) λu=>aw [hf 62 (UY [.agg (aI c.1),.agg (bF [9] (aJ ({a with Path:=[]})))] (nH.fo (E6 gl t)))]<|cN 111012210211111101 (so [7,8] [(9,.ref 2 0),(10,iG (ah s)),(66,bG (decide (u=30)))] [ob 2 44 (bF [9] (aJ ({a with Path:=[]})))] 3) []<|cC 111012210211111101 (λg=>sf [66] [(10,iG g)]) (λg=>dI 71 (tu gl) λv=>lS 11101221021111111101 (λj=>so [10] [] [ob 2 44 (aJ ({a with Path:=j}))] 3) (λb=>so [] [(11,bG v),(12,iG b.2)] [ob 2 44 [iG a.By,iG a.Seq,iG a.Kind,iG a.At,aE aj a.Past,iG a.Device,iG a.Old,iG a.Member,iG a.Role,.rsl 3 0 b.1.length,iG a.Epoch.By,iG a.Epoch.Seq,uG a.Epoch.Sum,iG a.N,aE cY a.Body,aE cW a.Refs,iG a.Of.By,iG a.Of.Seq,uG a.Of.Sum,aE cZ a.Guards,iG a.Need,iG a.Wait,aE cz a.Boxes,uG a.Pub,aE bp a.Hist,uG a.Sig.R,uG a.Sig.S],ob 3 96 (b.1.flatMap bY)] 4) [hc (bZ.imm [])] (λj=>dI 99 (E8 gl) λA=>dI 100 (M9 gl) λB=>aF 104 (rb k11)<|rb k11) λb w x=>tl 111012210211111111012200 (sf [] []) (fx bZ b.1) 81 (cN 1110122102111111110122102 (sf [81] []) (fx bZ b.1)<|cC 1110122102111111110122102 (λd=>so [] [] [ob 2 44 [iG a.By,iG a.Seq,iG a.Kind,iG a.At,aE aj a.Past,iG a.Device,iG a.Old,iG a.Member,iG a.Role,.rsl 3 0 d.length,iG a.Epoch.By,iG a.Epoch.Seq,uG a.Epoch.Sum,iG a.N,aE cY a.Body,aE cW a.Refs,iG a.Of.By,iG a.Of.Seq,uG a.Of.Sum,aE cZ a.Guards,iG a.Need,iG a.Wait,aE cz a.Boxes,uG a.Pub,aE bp a.Hist,uG a.Sig.R,uG a.Sig.S],ob 3 96 (d.flatMap bY)] 4) (λd=>cj w (fx bZ d)) λd y=>ak λk m=>aw [bR 91 (C8 (wI ((wI (1000+(wI (10*c.2))))+b.2))),Tv 94 bZ m [uG (wU (wI ((wI (1000+(wI (10*c.2))))+b.2))),Iy] rfl]<|aA c0 y [hc (el k),ZV bZ m [uG (wU (wI ((wI (1000+(wI (10*c.2))))+b.2))),Iy]] (kd:=[(3,.app (b.1.flatMap bY) [uG (wU (wI ((wI (1000+(wI (10*c.2))))+b.2))),Iy] (bY (⟨wU (wI ((wI (1000+(wI (10*c.2))))+b.2)),[]⟩:DNode)) (k.flatMap bY))])) (aA c1 x [hc (bZ.al b.1)]) λh=>aF 74 (aF 77 (aA c0 h (fx bZ b.1))<|aA c0 h (fx bZ b.1))<|aA c0 h (fx bZ b.1)) λg n=>eH [66] (rx n)<|rx n) λf o=>eH [49] (dV 54 rZ.ixZ 55 (rZ.p1Y tZ) λC=>rx o)<|rx o) λe p=>eH [38] (dV 42 rZ.ixZ 43 (rZ.p1Y tZ) λD=>rx p)<|rx p) (aA c1 q []) λi=>aF 20 (aF 23 (rx i)<|rx i)<|rx i
end
structure DHoldName where
 commit:DIdent
 n:Int
 deriving DecidableEq
structure DHoldHold where
 device:Int
 keys:FM DHoldName Nat
structure DPackOut where
 b:List UInt8
def FR(x:Option Int):Int:=x.getD 0
theorem H7(m:FM DIdent Int)(k:DIdent):∀σ,bL prog σ 191 true (FM.g ga iG m) (.agg (aj k))=some (.tup [iG (FR (m.get k)),bG (m.get k).isSome]):=FM.look (et:=3) jt aH aH m k rfl
structure A4W where
 a0:Nat
 a1:Nat
 a2:Nat
 a3:Nat
 deriving DecidableEq
def FSq(x:A4W):List G:=[uG x.a0,uG x.a1,uG x.a2,uG x.a3]
theorem aap:fg prog 198=some true:=aH
theorem aaq:bw prog 198=some 4:=aH
structure DGraphNode where
 o:DOp
 id:DIdent
 past:A4W
 level:Int
def d7(x:DGraphNode):List G:=[iG x.o.By,iG x.o.Seq,iG x.o.Kind,iG x.o.At,aE aj x.o.Past,iG x.o.Device,iG x.o.Old,iG x.o.Member,iG x.o.Role,aE bY x.o.Path,iG x.o.Epoch.By,iG x.o.Epoch.Seq,uG x.o.Epoch.Sum,iG x.o.N,aE cY x.o.Body,aE cW x.o.Refs,iG x.o.Of.By,iG x.o.Of.Seq,uG x.o.Of.Sum,aE cZ x.o.Guards,iG x.o.Need,iG x.o.Wait,aE cz x.o.Boxes,uG x.o.Pub,aE bp x.o.Hist,uG x.o.Sig.R,uG x.o.Sig.S,iG x.id.By,iG x.id.Seq,uG x.id.Sum,uG x.past.a0,uG x.past.a1,uG x.past.a2,uG x.past.a3,iG x.level]
structure DGraphGraph where
 cards:List DCard
 at_:FM DIdent Int
 nodes:List DGraphNode
def av(x:DGraphGraph):List G:=[aE bv x.cards,FM.g ga iG x.at_,aE d7 x.nodes]
theorem az:RowTy prog 192 200 35 d7:=⟨aH,aH,dL,λ_=>rfl,λ_=>rfl⟩
structure DRankRow where
 Graph:DGraphGraph
def sB(x:DRankRow):List G:=[.ptr (av x.Graph) 0]
structure DForkFork where
 Device:Int
 Seq:Int
 deriving DecidableEq
def da(x:DForkFork):List G:=[iG x.Device,iG x.Seq]
theorem ko:fg prog 68=some true:=aH
def fD(x:Option DCard):DCard:=x.getD ⟨0,0,0,0,0⟩
theorem KF(m:FM Int DCard)(k:Int):∀σ,bL prog σ 132 false (FM.g mJ (λx=> .agg (bv x)) m) (iG k)=some ((λx=> .agg (bv x)) (fD (m.get k))):=FM.look1 (et:=106) vO aH aH m k rfl
def kN(x:Option Bool):Bool:=x.getD false
theorem Ad(m:FM Int Bool)(k:Int):∀σ,bL prog σ 133 false (FM.g mJ bG m) (iG k)=some (bG (kN (m.get k))):=FM.look1 (et:=4) vO aH aH m k rfl
structure DRollVouched where
 by_:Int
 device:Int
 deriving DecidableEq
def rz(x:DRollVouched):List G:=[iG x.by_,iG x.device]
def kz(x:DRollVouched):List Value:=[.int .i64 x.by_,.int .i64 x.device]
theorem CM(d:Nat)(i j:DRollVouched):bt prog (Op.equalIn (d+3) 152 (.agg (kz i).toArray) (.agg (kz j).toArray))=some (decide (i=j)):=by obtain⟨a0,a1⟩:=i;obtain⟨b0,b1⟩:=j;unfold kz;rw[xV (fs:= #[⟨ "by",3,0,false, "", "huddle/roll",0⟩,⟨ "device",3,1,false, "", "huddle/roll",8⟩]) aH aH];simp only[Array.toList];rw[uJ (k:= .i64) (k':= .i64) (a:=a0) (b:=b0) dL aH aH aH];rw[uJ (k:= .i64) (k':= .i64) (a:=a1) (b:=b1) dL aH aH aH];simp only[DRollVouched.mk.injEq];by_cases h0:a0=b0<;>by_cases h1:a1=b1<;>simp[h0,h1,Op.eqFields,bz]
def dQ(x:DRollVouched):Value:= .agg (kz x).toArray
theorem oP:KeyTy prog 152 dQ:=Qw (d:= .struct #[⟨ "by",3,0,false, "", "huddle/roll",0⟩,⟨ "device",3,1,false, "", "huddle/roll",8⟩]) aH (λb k=>by cases b<;>(show _=_;kernel_rfl)) (λa b=>rfl) (λa b=>CM 9997 a b)
def qa(x:Option Int):Int:=x.getD 0
theorem Ag(m:FM DRollVouched Int)(k:DRollVouched):∀σ,bL prog σ 146 true (FM.g dQ iG m) (.agg (rz k))=some (.tup [iG (qa (m.get k)),bG (m.get k).isSome]):=FM.look (et:=3) oP aH aH m k rfl
structure DRollGuard where
 id:DIdent
 guards:List Int
 need:Int
 wait:Int
 vouches:FM DRollVouched Int
 objected:Bool
 last:Int
def u5(x:DRollGuard):List G:=[iG x.id.By,iG x.id.Seq,uG x.id.Sum,aE cZ x.guards,iG x.need,iG x.wait,FM.g dQ iG x.vouches,bG x.objected,iG x.last]
structure DRollMember where
 role:Int
 guard:Option DRollGuard
def gZ(x:DRollMember):List G:=[iG x.role,npG u5 x.guard]
structure DRollRoll where
 cards:FM Int DCard
 in_:FM Int Bool
 was:FM Int Bool
 members:FM Int DRollMember
 back:Int
def dY(x:DRollRoll):List G:=[FM.g mJ (λx=> .agg (bv x)) x.cards,FM.g mJ bG x.in_,FM.g mJ bG x.was,FM.g mJ (λx=> .ptr (gZ x) 0) x.members,iG x.back]
def bU(x:Option Bool):Bool:=x.getD false
theorem Aj(m:FM DIdent Bool)(k:DIdent):∀σ,bL prog σ 296 false (FM.g ga bG m) (.agg (aj k))=some (bG (bU (m.get k))):=FM.look1 (et:=4) jt aH aH m k rfl
structure DAuthList where
 g:DGraphGraph
 row:List DIdent
 void:FM DIdent Bool
 fork:FM DIdent Bool
def dF(x:DAuthList):List G:=[.ptr (av x.g) 0,aE aj x.row,FM.g ga bG x.void,FM.g ga bG x.fork]
theorem bW:RowTy prog 66 68 2 da:=⟨aH,aH,dL,λ_=>rfl,λ_=>rfl⟩
section
variable {P:Program}
inductive Rounds (P:Program) (c:Code) (e:Exit) (s:St):Nat->St->Prop
 |last {st:St} (he:e≠ .normal) (h:Tr P c st (λe' s'=>e'=e/\s'=s)):Rounds P c e s 0 st
 |more {k:Nat} {st s1 s2:St} (h:Tr P c st (λe' s'=>e'= .normal/\s'=s1)) (hl:Le P s1 s2) (hr:Rounds P c e s k s2):Rounds P c e s (k+1) st
def jg(P:Program)(gl:List (Nat×List G))(f:FuncId)(gs:List G)(σ:aQ)(c:Nat)(r:G)(σ':aQ)(c':Nat):Prop:=
 aK P f=true/\∃fn body,P.funcs[f]?=some fn/\fn.body=some body/\gs.length<=fn.ntmps/\
  Tr P body ⟨fn.ntmps,gl,bQ 0 gs,σ,c,c,false⟩ (λe s=>(e= .normal\/e= .ret)/\s.gl=gl/\(∀k o,ag σ' k=some o->ag s.σ k=some o)/\s.c=c'/\∃a,fn.results.toList.mapM (jV P s)=some a/\r=iU a)
section
variable {ops:Array Oper} {K:St->Prop} {ty:TypeId} {pos:String} {af:Array Edge} {rest:List Oper} {n:Nat} {gl:List (Nat×List G)} {fr:Fr} {σ:aQ} {c p d j:Nat} {bars:List Nat} {rr:Bool}
end
section
variable {ops:Array Oper} {K:St->Prop} {ty:TypeId} {pos:String} {af:Array Edge} {rest:List Oper} {n:Nat} {gl:List (Nat×List G)} {fr:Fr} {σ:aQ} {c p d j:Nat} {bars:List Nat} {rr:Bool}
end
end
section
variable {P:Program} {ops:Array Oper} {K:St->Prop} {op:Op} {ty:TypeId} {pos:String} {af:Array Edge} {rest:List Oper} {n:Nat} {gl:List (Nat×List G)} {fr:Fr} {σ:aQ} {c p d j:Nat} {bars:List Nat} {rr:Bool} {gq:Option (Nat×Bool)}
end
def vi(L:List Nat)(i:Nat):Option Nat:=L.findIdx? (Nat.beq · i)
def ja(L:List Nat)(c:Nat)(k:Nat):Option Nat:=match L[k]? with
 |some i=>some i
 |none=>some (c+(k-L.length))
theorem QX(h:vi L i=some k):L[k]?=some i:=by grind [vi,List.findIdx?_eq_some_iff_getElem,bc]
section
variable {P:Program}
def Xx(P:Program)(gl:List (Nat×List G))(f:FuncId)(gs:List G)(σ:aQ)(c:Nat){ι:Type}(r:ι->G)(σ':ι->aQ)(c':ι->Nat):Prop:=
 aK P f=true/\∃fn body,P.funcs[f]?=some fn/\fn.body=some body/\gs.length<=fn.ntmps/\
  Tr P body ⟨fn.ntmps,gl,bQ 0 gs,σ,c,c,false⟩ (λe s=>(e= .normal\/e= .ret)/\s.gl=gl/\∃x,(∀k o,ag (σ' x) k=some o->ag s.σ k=some o)/\s.c=c' x/\∃a,fn.results.toList.mapM (jV P s)=some a/\r x=iU a)
theorem MC{o:Oper}{st:St}{f:Operand}{xs:Array Operand}{ats:Array TypeId}{fid:FuncId}{fst cap:List G}(L:List Nat){gs0:List G}{σ0:aQ}{ι:Type}{r:ι->G}{σ1:ι->aQ}{c1:ι->Nat}(ho:o.op= .call {callee:= .value f,args:=xs,argTypes:=ats})(hd:pp o st.n)(hf:aB st f= .clo (.func fid) fst cap)
  (hM:Xx P st.gl fid gs0 σ0 L.length r σ1 c1) (hL:∀(k i:Nat),L[k]?=some i->i<st.c) (hnd:L.Nodup) (hgs:gs0=(fst++xs.toList.map (aB st)++cap).map (qg (vi L) 20))
  (hin:∀(k i:Nat),L[k]?=some i->∃o o0,ag st.σ i=some o/\ag σ0 k=some o0/\MB (vi L) o o0) (h0:∀k o,ag σ0 k=some o->k<L.length)
  (τ:ι->aQ) (y:∀x i o,ag (τ x) i=some o->(∃k p,ja L st.c k=some i/\ag (σ1 x) k=some p/\MB (ja L st.c) p o)\/(ag st.σ i=some o/\i∉L)):
  th P o st (λs'=>∃x,s'={st with σ:=τ x,c:=st.c+(c1 x-L.length)}.put o.dst (qg (ja L st.c) 20 (r x))):=by
 obtain⟨hc,fn,body,hfn,hb,hn,hT⟩:=hM
 intro cx a w K R ⟨β,h⟩ A
 obtain⟨vs,hrun,hsz,hv⟩:=lQ h ho hf hc
 refine h.loose.oper (λc hc=>by rw[ho] at hc;cases hc) ?_
 unfold Oper.wp
 rw[hrun]
 have hlive:∀i o,ag st.σ i=some o->∃x,β i=some x:=λi o ho=>by
  rcases(h.ob i o ho).at with h1|⟨b,C,_,h1,_⟩
  .exact⟨_,h1⟩
  .exact⟨_,h1⟩
 have hbound:∀i o,ag st.σ i=some o->i<st.c:=λi ob ho=>by
  rcases Nat.lt_or_ge i st.c with hlt|hge
  .exact hlt
  .obtain⟨x,hx⟩:=hlive i ob ho;rw[h.fresh i hge] at hx;cases hx
 obtain⟨d,J⟩:∃d:Bm,d=λk=>match L[k]? with|some i=>β i|none=>none:=⟨_,rfl⟩
 have b0:∀{k i:Nat},L[k]?=some i->d k=β i:=λ{k i} hk=>by rw[J];simp only[hk]
 have b0n:∀{k:Nat},L.length<=k->d k=none:=λ{k} hk=>by rw[J];simp only[List.getElem?_eq_none hk]
 have hk0:∀{k:Nat} {o0:Ob},ag σ0 k=some o0->∃i o,L[k]?=some i/\i∈L/\ag st.σ i=some o/\MB (vi L) o o0:=λ{k o0} hk=>by have hlt:=h0 k o0 hk;have hi:L[k]?=some (L[k]'hlt):=fy hlt;grind
 have hmem:∀{i:Nat},i∈L->∃k o0,L[k]?=some i/\ag σ0 k=some o0:=λ{i} hi=>by obtain⟨k,hk⟩:=List.getElem?_of_mem hi;obtain⟨o,o0,_,g2,_⟩:=hin k i hk;exact⟨k,o0,hk,g2⟩
 obtain⟨Hid,m⟩:∃Hid:Nat->Prop,Hid=λb=>cx.S0 b\/∃i ob C,ag st.σ i=some ob/\β i=some (some (b,C))/\i∉L:=⟨_,rfl⟩
 have hav0:∀b,Av Hid d σ0 b↔Av cx.S0 β st.σ b:=λb=>by
  rw[m];constructor
  .rintro((hb|⟨i,ob,C,h1,h2,_⟩)|⟨k,ob,C,h1,h2⟩)
   .exact .inl hb
   .exact .inr ⟨i,ob,C,h1,h2⟩
   .obtain⟨i,o,g1,_,g2,_⟩:=hk0 h1;rw[b0 g1] at h2;exact .inr ⟨i,o,C,g2,h2⟩
  .rintro(hb|⟨i,ob,C,h1,h2⟩)
   .exact .inl (.inl hb)
   .by_cases hi:i∈L
    .obtain⟨k,o0,g1,g2⟩:=hmem hi;exact .inr ⟨k,o0,C,g2,(b0 g1).trans h2⟩
    .exact .inl (.inr ⟨i,ob,C,h1,h2,hi⟩)
 have kin:∀i k,vi L i=some k->d k=β i:=λi k hk=>b0 (QX hk)
 have hlivS:∀b,GG d σ0 b->∃i o C,i∈L/\ag st.σ i=some o/\β i=some (some (b,C)):=λb ⟨k,ob,C,h1,h2⟩=>by grind
 have hsz0:vs.size=gs0.length:=by grind
 have hv0:∀(i:Nat) (g:G) (u:Value),gs0[i]?=some g->vs[i]?=some u->RV d (Av Hid d σ0) w g u:=λi g u hg hu=>by
  rw[hgs,List.getElem?_map] at hg;cases hx:(fst++xs.toList.map (aB st)++cap)[i]? with
  |none=>grind
  |some x=>rw[hx] at hg;simp only[Option.map_some,gL] at hg;subst hg;exact IG kin 20 x u ((hv i x u hx hu).step (λ_ _ x=>x) (λb _ hb=>(hav0 b).1 hb) (Keeps.refl _ _))
 have hfront:RelB P ⟨w,GG d σ0,Hid,d,Fence.wide,9⟩ ⟨fn.ntmps,st.gl,bQ 0 gs0,σ0,L.length,L.length,false⟩ {tmps:=vs++Array.replicate (fn.ntmps-vs.size) undef,defers:=[]} w d:={
  size:=by grind
  defers:= .nil rfl
  loose:=lP
  rnd:=λ_=>rfl
  fr:=λi=>Ca hsz0 hn hv0 i
  ob:=λk o0 hk=>by obtain⟨i,o,g1,_,g2,q⟩:=hk0 hk;exact U8 kin ((h.ob i o g2).step (λ_ _ x=>x) (λb _ hb=>(hav0 b).1 hb) (Keeps.refl _ _) (λ_ _ _=>rfl)) q (b0 g1)
  inj:=λk1 k2 p B b C D h1 h2 h3 h4=>by obtain⟨i1,q1,g1,_,g2,_⟩:=hk0 h1;obtain⟨W,X,e1,_,e2,_⟩:=hk0 h2;grind [RelB.inj,List.getElem?_inj]
  own:=λk o0 b C h1 h2=> .inl ⟨k,o0,C,h1,h2⟩
  sep:=λk o0 b C h1 h2 hx=>by
   obtain⟨i,o,g1,g0,g2,_⟩:=hk0 h1;rw[b0 g1] at h2;have hx':Hid b:=hx;rw[m] at hx';rcases hx' with hx|⟨j,ob,D,e1,e2,e3⟩
   .exact h.sep i o b C g2 h2 hx
   .have:=h.inj i j o ob b C D g2 e1 h2 e2;subst this;exact e3 g0
  fresh:=λk hk=>b0n hk
  glob:=λg l hl=>(h.glob g l hl).sub λb _ hb=>(hav0 b).1 hb
  keep:=Keeps.refl _ _
  old:=λb hb=>by
   have hx':Hid b:=hb;rw[m] at hx';rcases hx' with hb|⟨i,ob,C,h1,h2,_⟩
   .exact h.keep.lt (h.old b hb)
   .exact h.lt h1 h2
  pin:=λk x hx=>⟨(by
   rcases Nat.lt_or_ge k L.length with h'|h'
   .exact h'
   .have hx':d k=some x:=hx;rw[b0n h'] at hx';cases hx'),hx⟩}
 refine rq (cx:=⟨w,GG d σ0,Hid,d,Fence.wide,9⟩) hfn hb hT rfl rfl ⟨d,hfront⟩ ?_
 rintro e s a' w' ⟨he,hgl,t,z,hsc,U,F,H⟩ ⟨O,hr⟩
 replace y:=y t
 replace A:=λs' (hs:s'={st with σ:=τ t,c:=st.c+(c1 t-L.length)}.put o.dst (qg (ja L st.c) 20 (r t)))=>A s' ⟨t,hs⟩
 generalize r t=r at H A
 generalize σ1 t=σ1 at z y
 generalize c1 t=c1 at hsc A
 generalize τ t=τ at y A
 obtain⟨v,hres,N⟩:=mP hr F
 obtain⟨β2,M⟩:∃β2:Bm,β2=λi=>if i<st.c then β i else O (L.length+(i-st.c)):=⟨_,rfl⟩
 have b2:∀{i:Nat},i<st.c->β2 i=β i:=λ{i} hi=>by rw[M];simp only[hi,if_true]
 have key:∀k i,ja L st.c k=some i->β2 i=O k:=λk i hk=>by
  unfold ja at hk;cases hx:L[k]? with
  |some j=>grind
  |none=>grind
 have hext:∀i x,β i=some x->β2 i=some x:=λi x hx=>by
  rcases Nat.lt_or_ge i st.c with h'|h'
  .rw[b2 h'];exact hx
  .rw[h.fresh i h'] at hx;cases hx
 have hblk:∀i o b C,ag st.σ i=some o->β2 i=some (some (b,C))->β i=some (some (b,C)):=λi o b C ho hb=>by rw[b2 (hbound i o ho)] at hb;exact hb
 have hav:∀b,Av cx.S0 β2 τ b->Av Hid O s.σ b:=by rintro b (hb|⟨i,ob,C,h1,h2⟩);all_goals grind
 have hAo:∀b,b<w.heap.size->Av cx.S0 β2 τ b->Av cx.S0 β st.σ b:=by grind
 have hkp:Keeps (Av cx.S0 β st.σ) w w':=hr.keep.mono λb _ hb=>by obtain⟨i,o,E,_,q,I⟩:=hlivS b hb;exact .inr ⟨i,o,E,q,I⟩
 have hframe:∀i o b C,ag st.σ i=some o->i∉L->β i=some (some (b,C))->w'.heap[b]?=w.heap[b]? :=λi o b C ho hn hb=>hr.keep.block b (h.lt ho hb) (λhl=>by obtain⟨j,B,E,g1,q,I⟩:=hlivS b hl;have:=h.inj i j o B b C E ho q hb I;subst this;exact hn g1)
 have hback:RelB P cx {st with σ:=τ,c:=st.c+(c1-L.length)} a w' β2:={
  size:=h.size
  defers:=h.defers.keep hr.keep (λD hD hl=>by obtain⟨j,B,E,g1,q,I⟩:=hlivS D hl;exact h.not_marks q I hD)
  loose:=h.loose
  rnd:=h.rnd
  fr:=λi=>(h.fr i).step hext hAo hkp
  ob:=λi o ho=>by
   rcases y i o ho with⟨k,p,g1,g2,q⟩|⟨g1,g2⟩
   .exact U8 key ((hr.ob k p (z k p g2)).step (λ_ _ x=>x) (λb _ hb=>hav b hb) (Keeps.refl _ _) (λ_ _ _=>rfl)) q (key k i g1)
   .exact(h.ob i o g1).step hext hAo hkp (λb C hb=>hframe i o b C g1 g2 hb)
  inj:=λi j o V b C D hi hj hbi Q=>by
   rcases y i o hi with⟨k,p,g1,g2,q⟩|⟨g1,g2⟩<;>rcases y j V hj with⟨k',S,e1,e2,e3⟩|⟨e1,e2⟩
   .grind
   all_goals grind
  own:=λi o b C hi hbi=>by
   rcases y i o hi with⟨k,p,g1,g2,q⟩|⟨g1,g2⟩
   .rw[key k i g1] at hbi;rcases hr.own k p b C (z k p g2) hbi with hb|hb
    .grind [RelB.own]
    .have:=h.keep.size;have hb':w.heap.size<=b:=hb;right;omega
   grind
  sep:=λi o b C hi hbi hx=>by
   rcases y i o hi with⟨k,p,g1,g2,q⟩|⟨g1,g2⟩
   .rw[key k i g1] at hbi;exact hr.sep k p b C (z k p g2) hbi (by rw[m];exact .inl hx)
   .exact h.sep i o b C g1 (hblk i o b C g1 hbi) hx
  fresh:=λi hi=>by have hi':st.c+(c1-L.length)<=i:=hi;rw[M];simp only;rw[if_neg aa];exact hr.fresh _ (by rw[hsc];omega)
  glob:=λg l hl=>(hr.glob g l (by rw[hgl];exact hl)).sub λb _ hb=>hav b hb
  keep:=h.keep.then hr.keep (λb hb hl=>by
   obtain⟨j,B,E,_,e3,e4⟩:=hlivS b hl;rcases h.own j B b E e3 e4 with h1|h1
   .exact h1
   .omega)
  old:=h.old
  pin:=λi x hx=>⟨(h.pin i x hx).1,hext i x (h.pin i x hx).2⟩}
 have hval:RV β2 (Av cx.S0 β2 τ) w' (qg (ja L st.c) 20 r) v:=by rw[H];exact IG key 20 _ v (N.step (λ_ _ x=>x) (λb _ hb=>hav b hb) (Keeps.refl _ _))
 exact⟨he,v,hres,A _ rfl _ _ ⟨β2,hback.put o.dst hd hval⟩⟩
theorem jg.F{gl:List (Nat×List G)}{f:FuncId}{gs:List G}{σ0:aQ}{c:Nat}{r:G}{σ1:aQ}{c1:Nat}(h:jg P gl f gs σ0 c r σ1 c1):Xx P gl f gs σ0 c (ι:=Unit) (λ_=>r) (λ_=>σ1) (λ_=>c1):=by obtain⟨hc,fn,body,hfn,hb,hn,hT⟩:=h;constructor<;>grind
theorem MD{o:Oper}{st:St}{f:Operand}{xs:Array Operand}{ats:Array TypeId}{fid:FuncId}{fst cap:List G}(L:List Nat){gs0:List G}{σ0:aQ}{r:G}{σ1:aQ}{c1:Nat}(ho:o.op= .call {callee:= .value f,args:=xs,argTypes:=ats})(hd:pp o st.n)(hf:aB st f= .clo (.func fid) fst cap)
  (hM:jg P st.gl fid gs0 σ0 L.length r σ1 c1) (hL:∀(k i:Nat),L[k]?=some i->i<st.c) (hnd:L.Nodup) (hgs:gs0=(fst++xs.toList.map (aB st)++cap).map (qg (vi L) 20))
  (hin:∀(k i:Nat),L[k]?=some i->∃o o0,ag st.σ i=some o/\ag σ0 k=some o0/\MB (vi L) o o0) (h0:∀k o,ag σ0 k=some o->k<L.length)
  (τ:aQ) (e:∀i o,ag τ i=some o->(∃k b,ja L st.c k=some i/\ag σ1 k=some b/\MB (ja L st.c) b o)\/(ag st.σ i=some o/\i∉L)):
  th P o st (λs'=>s'={st with σ:=τ,c:=st.c+(c1-L.length)}.put o.dst (qg (ja L st.c) 20 r)):=by
 have:=MC (o:=o) (st:=st) (ι:=Unit) (r:=λ_=>r) (σ1:=λ_=>σ1) (c1:=λ_=>c1) L ho hd hf hM.F hL hnd hgs hin h0 (λ_=>τ) λ_=>e
 exact λcx a w K R h d=>this cx a w K R h λs' ⟨_,hs⟩=>d s' hs
end
section
variable {P:Program} [M:Mix P] {c:Code} {K:List Kf} {st:St} {Q:Exit->St->Prop}
def Ok(P:Program)(fn:Func)(gl:List (Nat×List G))(r:G)(σ1:aQ)(c1:Nat)(e:Exit)(s:St):Prop:=(e= .normal\/e= .ret)/\s.gl=gl/\(∀k o,ag σ1 k=some o->ag s.σ k=some o)/\s.c=c1/\∃a,fn.results.toList.mapM (jV P s)=some a/\r=iU a
theorem sMc{gl:List (Nat×List G)}{σ0 σ1:aQ}{c0 c1:Nat}(hf:P.funcs[f]?=some fn)(h:Tr P (ai fn) ⟨fn.ntmps,gl,bQ 0 gs,σ0,c0,c0,false⟩ (dz P [] (Ok P fn gl r σ1 c1)))(hc:aK P f=true:=by kernel_rfl)(hb:fn.body.isSome=true:=by kernel_rfl)(hn:Nat.ble gs.length fn.ntmps=true:=by kernel_rfl):jg P gl f gs σ0 c0 r σ1 c1:=by
 obtain⟨body,hb'⟩:=Option.isSome_iff_exists.1 hb;refine⟨hc,fn,body,hf,hb',gX hn,?_⟩;have e:ai fn=body:=by grind [ai]
 rw[e] at h;exact Tr.leQ h
theorem Wo{gl:List (Nat×List G)}{σ1:aQ}{c1:Nat}{S0:St}{gs:List G}(he:tc ex=true)(hr:vR P S0 fn.results.toList=some gs)(hg:S0.gl=gl)(a:S0.σ=σ1)(hc:S0.c=c1)(h:iU gs=r):Ok P fn gl r σ1 c1 ex S0:=by constructor<;>grind [eO,gh]
def w6(κ:Nat->Option Nat)(σ σ0:aQ):Nat->List Nat->Prop
 |_,[]=>True
 |k,i::L=>(match ag σ i,ag σ0 k with|some o,some o0=>MB κ o o0|_,_=>False)/\w6 κ σ σ0 (k+1) L
def EJ(κ:Nat->Option Nat)(σ1:aQ):List (Nat×Ob)->Prop
 |[]=>True
 |(k,o)::U=>(match ag σ1 k with|some a=>MB κ a o|none=>False)/\EJ κ σ1 U
theorem w6.get{κ:Nat->Option Nat}{σ σ0:aQ}:∀{L:List Nat} {a:Nat},w6 κ σ σ0 a L->∀(k i:Nat),L[k]?=some i->∃o o0,ag σ i=some o/\ag σ0 (a+k)=some o0/\MB κ o o0
 |[],_,_,_,_,h=>by cases h
 |j::L,a,h,0,i,hi=>by simp at hi;subst hi;have h1:=h.1;grind
 |j::L,a,h,k+1,i,hi=>by have:=w6.get h.2 k i (by grind);grind
theorem EJ.get{κ:Nat->Option Nat}{σ1:aQ}:∀{U:List (Nat×Ob)},EJ κ σ1 U->∀q∈U,∃a,ag σ1 q.1=some a/\MB κ a q.2
 |[],_,q,hq=>by cases hq
 |(k,o)::U,h,q,hq=>by
  rcases List.mem_cons.1 hq with rfl|hq
  .have h1:=h.1;grind
  .exact EJ.get h.2 q hq
def KQ(L:List Nat)(c:Nat)(U:List (Nat×Ob)):aQ:=U.map λq=>((ja L c q.1).getD 0,some q.2)
theorem Gl(L:List Nat)(c k:Nat):∃i,ja L c k=some i:=by unfold ja;cases L[k]? <;>grind
theorem YM{gl:List (Nat×List G)}{gs0 gs:List G}{σ0 σ1 σR:aQ}{r g:G}{c1 c c':Nat}(L:List Nat)(U:List (Nat×Ob))(hM:jg P gl fid gs0 σ0 L.length r σ1 c1)
  (hin:w6 (vi L) σR σ0 0 L) (d:EJ (ja L c) σ1 U) (hlt:L.all (λi=>Nat.blt i c)=true:=by kernel_rfl) (hnd:decide L.Nodup=true:=by kernel_rfl) (hgs:gs.map (qg (vi L) 20)=gs0:=by kernel_rfl)
  (hk0:σ0.all (λq=>Nat.blt q.1 L.length)=true:=by kernel_rfl) (hcov:(List.range L.length).all (λk=>U.any λq=>Nat.beq q.1 k)=true:=by kernel_rfl) (hg:qg (ja L c) 20 r=g:=by kernel_rfl) (hc:c+(c1-L.length)=c':=by kernel_rfl) (hR:σR.all (λq=>q.2.isSome)=true:=by kernel_rfl):oJ P gl fid gs σR c g (KQ L c U) c':=by
 intro o st y xs ats fst cap ho hd hf a hgl hq hsc
 have j:=hin.get
 have hgetR:∀i o,ag σR i=some o->ag st.σ i=some o:=λi o hh=>by
  have:∀l:aQ,(∀q∈l,q∈σR)->ag l i=some o->ag st.σ i=some o:=by
   intro l;induction l with
   |nil=>intro _ h;cases h
   |cons q t ih=>grind
  grind
 have key:=MD (o:=o) (st:=st) (f:=y) (xs:=xs) (ats:=ats) (fid:=fid) (fst:=fst) (cap:=cap) L (gs0:=gs0) (σ0:=σ0) (r:=r) (σ1:=σ1) (c1:=c1) ho hd hf (by rw[hgl];exact hM) (λk i hk=>by
   have:=List.all_eq_true.1 hlt i (bO hk);simp_all) (of_decide_eq_true hnd) (by rw[a,hgs]) (by grind) (λk o hkk=>by
   have:∀l:aQ,(∀q∈l,q∈σ0)->ag l k=some o->k<L.length:=by
    intro l;induction l with
    |nil=>intro _ h;cases h
    |cons q t ih=>
     intro hs h;rw[show(q::t:aQ)=(q.1,q.2)::t from rfl,bj] at h;split at h
     .rename_i e;subst e;exact gX (List.all_eq_true.1 hk0 q (by grind))
     grind
   grind) (KQ L c U++st.σ) (λi o hh=>by
   have:∀l:List (Nat×Ob),(∀q∈l,q∈U)->ag (KQ L c l++st.σ) i=some o->(∃q∈U,ja L c q.1=some i/\q.2=o)\/(ag st.σ i=some o/\∀q∈l,ja L c q.1≠some i):=by
    intro l;induction l with
    |nil=>intro _ h;exact .inr ⟨h,(by grind)⟩
    |cons q t ih=>intro hs h;obtain⟨m,hi'⟩:=Gl L c q.1;rw[show KQ L c (q::t)++st.σ=((ja L c q.1).getD 0,some q.2)::(KQ L c t++st.σ) from rfl,hi',Option.getD_some,bj] at h;grind
   rcases this U (λ_ h=>h) hh with⟨q,b,h1,rfl⟩|⟨h1,h2⟩
   .grind [EJ.get]
   .refine .inr ⟨h1,λhi=>?_⟩;obtain⟨k,hk⟩:=List.getElem?_of_mem hi;have hkl:=(cr hk).1;obtain⟨q,b,he⟩:=List.any_eq_true.1 (List.all_eq_true.1 hcov k (List.mem_range.2 hkl));refine h2 q b ?_;rw[bc he];unfold ja;rw[hk])
 grind [th.gs]
end
section
variable {P:Program} [M:Mix P] {c:Code} {K:List Kf} {st:St} {Q:Exit->St->Prop} {fn:Func} {Bs:List (St->Prop)} {m:Bool} {p:List Nat}
def YN:Code->Bool
 | .rangeFunc _ _ _ _=>true
 |_=>false
def rfG:Code->Operand
 | .rangeFunc g _ _ _=>g
 |_=> .tmp 0
def Dy:Code->Array Tmp
 | .rangeFunc _ ps _ _=>ps
 |_=> #[]
def Dz:Code->Code
 | .rangeFunc _ _ a _=>a
 |_=> .skip
def DA:Code->Code
 | .rangeFunc _ _ _ b=>b
 |_=> .skip
theorem sRf{fst cap:List G}(fn:Func)(hfn:P.funcs[fid]?=some fn)(hg:aB st (rfG c)= .clo (.func fid) fst cap)(h:Tr P (ai fn) ⟨fn.ntmps,st.gl,bQ 0 (fst++[G.yld st.c]++cap),(st.c,some ⟨0,[],some (.loop .ready none st.n st.fr (Dy c) (Dz c) (DA c))⟩)::st.σ,st.c+1,st.c+1,false⟩ (dz P [] (sI P st Q)))
  (hi:YN c=true:=by kernel_rfl) (hr:st.r=false:=by kernel_rfl) (hc:aK P fid=true:=by kernel_rfl) (hb:fn.body.isSome=true:=by kernel_rfl) (hn:Nat.ble (fst++[G.yld st.c]++cap).length fn.ntmps=true:=by kernel_rfl) (hres:fn.results.toList=[]:=by kernel_rfl):Tr P c st Q:=by
 obtain⟨d,hb'⟩:=Option.isSome_iff_exists.1 hb
 have e:ai fn=d:=by grind [ai]
 rw[e] at h
 cases c with
 |rangeFunc g ps a b=>exact wx hr hg hc hfn hb' (gX hn) hres (Tr.leQ h)
 |_=>cases hi
theorem QW{s:St}(he:tc ex=true)(hgl:s.gl=st.gl)(ho:ag s.σ st.c=some ⟨t,[],some (.loop .ready none n fr ps a b)⟩)(h:Q .normal {st with σ:=(st.c,none)::(st.c,some ⟨t,[],some (.loop .exhausted none n fr ps a b)⟩)::s.σ,c:=s.c}):sI P st Q ex s:=
 by constructor<;>grind [eO]
def YO:Code->Bool
 | .region _ _ false=>true
 |_=>false
def pZ:Code->List Oper
 | .region _ ops _=>ops.toList
 |_=>[]
def YP(o:Oper):Operand:=match o.op with
 | .call {callee:= .value f,.. }=>f
 |_=> .tmp 0
def Tw(o:Oper):List Operand:=match o.op with
 | .call {callee:= .value _,args:=xs,.. }=>xs.toList
 |_=>[]
def oIs(o:Oper):Bool:=match o.op with
 | .call {callee:= .value _,.. }=>true
 |_=>false
def qd(P:Program)(ops:Array Oper)(hs:List Hn)(l:List Oper)(st:St):Option (Prop×List Nat×St):=(Bt P ops hs l st).map λ(ps,u,s)=>(TE ps True,u,s)
theorem Mz{ops:Array Oper}{hs:List Hn}{C:Prop}{u:List Nat}(h:qd P ops hs l st=some (C,u,s1))(a:C):D8 P ops (λs=>s=s1) l st:=by obtain⟨⟨ps,u,s⟩,hr,e⟩:=Option.map_eq_some_iff.1 h;cases e;exact xk l st _ _ _ hr (Gr a).1 rfl
theorem As{ops:Array Oper}{a K2:St->Prop}:∀(l l2:List Oper) (st:St),D8 P ops a l st->(∀s,a s->vU P ops K2 l2 s)->vU P ops K2 (l++l2) st
 |[],l2,st,h,hk=>hk st h
 |o::r,l2,st,h,hk=>by
  rcases h with⟨hw,s1,hg,hr⟩|⟨hw,hd,hr⟩
  .exact .inl ⟨hw,hg.gsn.eqv λs hs=>⟨s,by rw[hs];exact As r l2 s1 hr hk,Eqv.refl _⟩⟩
  .exact .inr ⟨hw,hd,As r l2 _ hr hk⟩
def MA(P:Program)(st:St)(i:Nat)(S:Option Code->Xob->TypeId->St->Prop)(bd:Code)(e:Exit)(s:St):Prop:=e= .normal/\s.gl=st.gl/\∃t' a h b d f g,ag s.σ i=some ⟨t',[],some (.loop .ready a h b d f g)⟩/\Tr P bd {s with σ:=(i,some ⟨t',[],some (.loop .busy a h b d f g)⟩)::s.σ} (rE P st i S)
def qOf:Xob->Option Code
 | .loop _ q _ _ _ _ _=>q
 |_=>none
def Tx(b:aQ)(c2:Nat)(a:Xob)(t2:TypeId)(j:Option Code)(x:Xob)(t:TypeId)(s:St):Prop:=j=qOf a/\x=a/\t=t2/\s.σ=b/\s.c=c2
theorem Wp{s:St}{S:Option Code->Xob->TypeId->St->Prop}(he:ex= .normal)(hgl:s.gl=st.gl)(ho:ag s.σ i=some ⟨t,[],some (.loop .ready pe n fr ps a b)⟩)(h:Tr P bd {s with σ:=(i,some ⟨t,[],some (.loop .busy pe n fr ps a b)⟩)::s.σ} (dz P [] (rE P st i S))):MA P st i S bd ex s:=
 ⟨he,hgl,t,pe,n,fr,ps,a,b,ho,Tr.leQ h⟩
theorem jy{s:St}{σ2:aQ}{c2:Nat}{d:Xob}{ls:LoopState}(he:ex= .normal)(hgl:s.gl=st.gl)(ho:ag s.σ i=some ⟨t2,[],some (.loop ls pe n fr ps a b)⟩)(e: .loop .ready none n fr ps a b=d)(f:s.σ=σ2)(hc:s.c=c2):rE P st i (Tx σ2 c2 d t2) ex s:=
 ⟨hgl,none,t2,ls,pe,n,fr,ps,a,b,by rw[he];rfl,ho,by rw[<-e];rfl,e,rfl,f,hc⟩
theorem sYd(j i:Nat){s3:St}(k:aQ)(c2:Nat)(e:Xob)(r y u z:List HP)
  (hob:ag s1.σ i=some ⟨t,[],some (.loop .ready pe n fr ps a b)⟩)
  (h:Tr P a ⟨n,s1.gl,xU (ps.toList.zip ((Tw o).map (aB s1))) fr,s1.σ,s1.c,s1.c,true⟩ (dz P [] (MA P s1 i (Tx k c2 e t2) b)))
  (h3:dz P K Q .normal s3)
  (e1:B5 r (qd P (pZ c).toArray (bK r) ((pZ c).take j) st) s1:=by exact⟨aH,aH⟩)
  (A:(pZ c)[j]?=some o:=by kernel_rfl)
  (e2:B5 u (qd P (pZ c).toArray (bK u) ((pZ c).drop (j+1)) ({s1 with σ:=(i,some ⟨t2,[],some e⟩)::k,c:=c2}.put o.dst (.lit (.bool (qOf e).isNone)))) s3:=by exact⟨aH,aH⟩)
  (hi:YO c=true:=by kernel_rfl) (hw:ce s1 (pZ c).toArray o=some true:=by kernel_rfl) (d:oIs o=true:=by kernel_rfl) (hd:pj s1.n o.dst=true:=by kernel_rfl) (hf:aB s1 (YP o)= .yld i:=by kernel_rfl)
  (hsz:Nat.beq (Tw o).length ps.size=true:=by kernel_rfl) (g:ps.toList.all (λp=>Nat.blt p n)=true:=by kernel_rfl):Tr P c st (dz P K Q):=by
 cases c with
 |region id ops draw=>
  cases draw with
  |true=>cases hi
  |false=>
   have hl:(pZ (.region id ops false)).toArray=ops:=Array.toArray_toList
   rw[hl] at e1 e2 hw
   have hsplit:ops.toList=ops.toList.take j++(o::ops.toList.drop (j+1)):=by grind [List.drop_eq_getElem_cons,List.take_append_drop]
   have key:Tr P (.region id ops.toList.toArray false) st (dz P K Q):=by
    refine lG ?_;rw[Array.toArray_toList];rw[hsplit];refine As _ _ _ (Mz e1.2 (kA e1.1)) λs hs=>?_;rw[hs];obtain⟨l,op,ty,pos,v,gd⟩:=o;cases op with
    |call cl=>
     obtain⟨q,xs,ats⟩:=cl;cases q with
     |value f=>
      refine .inl ⟨hw,?_⟩;have hy:=Em (P:=P) (o:=⟨l,.call {callee:= .value f,args:=xs,argTypes:=ats},ty,pos,v,gd⟩) (st:=s1) (f:=f) (xs:=xs) (ats:=ats) (i:=i) (n:=n) (t:=t) (pe:=pe) (fr:=fr) (ps:=ps) (az9:=a) (bd:=b) (S:=Tx k c2 e t2) rfl (zW hd) hf hob (bc hsz) (λp hp=>gX (List.all_eq_true.1 g p hp)) (Tr.leQ h);refine hy.eqv λs hs=>⟨s,?_,Eqv.refl _⟩;obtain⟨B,x,t',s',⟨rfl,rfl,rfl,w,hc⟩,rfl⟩:=hs;rw[w,hc];have:=As (K2:=dz P K Q .normal) _ [] _ (Mz e2.2 (kA e2.1)) λs hs=>by rw[hs];exact h3
      grind
     |_=>cases d
    |_=>cases d
   grind
 |_=>cases hi
def Gm(P:Program)(hs:List Hn)(m:Code⊕Exit)(K:List Kf)(vs:List TypeId)(ρ:List (Nat×Nat))(kd:List (Nat×Rk))(J st:St):Option (Prop×List Nat×List Prop×Exit×St):=match sy P hs 1000000 1000 m K st with
 |some (C,u,.fin e s)=>match Iw P vs ρ kd J s with
  |some (L,s')=>some (C,u,L,e,s')
  |none=>none
 |_=>none
theorem C9(a:Exit)(J:St)(A O:List HP)(h:Q a J)(vs:List TypeId:=[])(ρ:List (Nat×Nat):=[])(kd:List (Nat×Rk):=[])(hk:B5 A (Gm P (bK A) (qu m p (ai fn)) (bE p (ai fn) Bs []) vs ρ kd J st) (pR O,a,J):=by exact⟨aH,aH⟩):Gp P fn Q Bs m p st:=by
 obtain⟨C,u,b,e⟩:=hk.out;unfold Gp;unfold Gm at e;split at e;rotate_left
 .cases e
 rename_i d f x s1 h1;split at e;rotate_left
 .cases e
 rename_i L s' h2;simp only[gL,Prod.mk.injEq] at e;obtain⟨rfl,rfl,rfl,rfl,rfl⟩:=e;exact oK M.mx (out:= .fin x s1) ⟨_,sR h2 (wR O),h⟩ 1000 _ _ _ _ _ h1 b
theorem pP{gl:List (Nat×List G)}{gs:List G}{σ0 σ1:aQ}{c0 c1:Nat}{r:G}(hf:P.funcs[f]?=some fn)(h:Gp P fn (Ok P fn gl r σ1 c1) [] false [] ⟨fn.ntmps,gl,bQ 0 gs,σ0,c0,c0,false⟩)(hc:aK P f=true:=by kernel_rfl)(hb:fn.body.isSome=true:=by kernel_rfl)(hn:Nat.ble gs.length fn.ntmps=true:=by kernel_rfl):jg P gl f gs σ0 c0 r σ1 c1:=sMc hf h hc hb hn
theorem mt{gl:List (Nat×List G)}{r:G}{σ1:aQ}{c1:Nat}(a:Exit)(J:St)(gs:List G)(A O:List HP)(hg:J.gl=gl:=by rfl)(b:J.σ=σ1:=by rfl)(hc:J.c=c1:=by rfl)(hr:iU gs=r:=by rfl)(vs:List TypeId:=[])(ρ:List (Nat×Nat):=[])(kd:List (Nat×Rk):=[])(he:tc a=true:=by rfl)(hx:vR P J fn.results.toList=some gs:=by kernel_rfl)(hk:B5 A (Gm P (bK A) (qu m p (ai fn)) (bE p (ai fn) Bs []) vs ρ kd J st) (pR O,a,J):=by exact⟨aH,aH⟩):Gp P fn (Ok P fn gl r σ1 c1) Bs m p st:=
 C9 a J A O (Wo he hx hg b hc hr) vs ρ kd hk
def fnB(fn:Func)(c:Code):Func:={fn with body:=some c}
theorem Xt{fst cap:List G}(a:Func)(hfn:P.funcs[fid]?=some a)(h:Gp P a (sI P st (dz P (bE p (ai fn) Bs []) Q)) [] false [] ⟨a.ntmps,st.gl,bQ 0 (fst++[G.yld st.c]++cap),(st.c,some ⟨0,[],some (.loop .ready none st.n st.fr (Dy (bq p (ai fn))) (Dz (bq p (ai fn))) (DA (bq p (ai fn))))⟩)::st.σ,st.c+1,st.c+1,false⟩)
  (hg:aB st (rfG (bq p (ai fn)))= .clo (.func fid) fst cap:=by kernel_rfl) (hi:YN (bq p (ai fn))=true:=by kernel_rfl) (hr:st.r=false:=by kernel_rfl) (hc:aK P fid=true:=by kernel_rfl) (hb:a.body.isSome=true:=by kernel_rfl) (hn:Nat.ble (fst++[G.yld st.c]++cap).length a.ntmps=true:=by kernel_rfl) (hres:a.results.toList=[]:=by kernel_rfl):Gp P fn Q Bs false p st:=sRf (c:=bq p (ai fn)) a hfn hg h hi hr hc hb hn hres
theorem Xu{s:St}(h:Gp P fn Q Bs true p {st with σ:=(st.c,none)::(st.c,some ⟨t,[],some (.loop .exhausted none n fr ps a b)⟩)::s.σ,c:=s.c})(ho:ag s.σ st.c=some ⟨t,[],some (.loop .ready none n fr ps a b)⟩)(hgl:s.gl=st.gl:=by rfl)(he:tc ex=true:=by rfl):sI P st (dz P (bE p (ai fn) Bs []) Q) ex s:=QW he hgl ho h
theorem Xv{s:St}{S:Option Code->Xob->TypeId->St->Prop}(fn:Func)(h:Gp P (fnB fn bd) (rE P st i S) [] false [] {s with σ:=(i,some ⟨t,[],some (.loop .busy pe n fr ps a b)⟩)::s.σ})(ho:ag s.σ i=some ⟨t,[],some (.loop .ready pe n fr ps a b)⟩)(hgl:s.gl=st.gl:=by rfl)(he:ex= .normal:=by rfl):MA P st i S bd ex s:=Wp he hgl ho h
def CK(c:Code)(j:Nat):Oper:=((pZ c)[j]?).getD ⟨none,.assign (.tmp 0),0, "",#[],none⟩
theorem Xw(j i:Nat){s1 s3:St}{t t2:TypeId}{pe:Option Code}{n:Nat}{fr:Fr}{ps:Array Tmp}{a b:Code}(l:aQ)(c2:Nat)(d:Xob)(e f:List HP)
  (h:Gp P (fnB fn a) (MA P s1 i (Tx l c2 d t2) b) [] false [] ⟨n,s1.gl,xU (ps.toList.zip ((Tw (CK (bq p (ai fn)) j)).map (aB s1))) fr,s1.σ,s1.c,s1.c,true⟩)
  (h3:Gp P fn Q Bs true p s3)
  (hob:ag s1.σ i=some ⟨t,[],some (.loop .ready pe n fr ps a b)⟩:=by kernel_rfl)
  (e1:B5 e (qd P (pZ (bq p (ai fn))).toArray (bK e) ((pZ (bq p (ai fn))).take j) st) s1:=by exact⟨aH,aH⟩)
  (o:(pZ (bq p (ai fn)))[j]?=some (CK (bq p (ai fn)) j):=by kernel_rfl)
  (e2:B5 f (qd P (pZ (bq p (ai fn))).toArray (bK f) ((pZ (bq p (ai fn))).drop (j+1)) ({s1 with σ:=(i,some ⟨t2,[],some d⟩)::l,c:=c2}.put (CK (bq p (ai fn)) j).dst (.lit (.bool (qOf d).isNone)))) s3:=by exact⟨aH,aH⟩)
  (hi:YO (bq p (ai fn))=true:=by kernel_rfl) (hw:ce s1 (pZ (bq p (ai fn))).toArray (CK (bq p (ai fn)) j)=some true:=by kernel_rfl) (g:oIs (CK (bq p (ai fn)) j)=true:=by kernel_rfl) (hd:pj s1.n (CK (bq p (ai fn)) j).dst=true:=by kernel_rfl) (hf:aB s1 (YP (CK (bq p (ai fn)) j))= .yld i:=by kernel_rfl)
  (hsz:Nat.beq (Tw (CK (bq p (ai fn)) j)).length ps.size=true:=by kernel_rfl) (k:ps.toList.all (λp=>Nat.blt p n)=true:=by kernel_rfl):Gp P fn Q Bs false p st:=
 sYd (c:=bq p (ai fn)) j i l c2 d e [] f [] hob h h3 e1 o e2 hi hw g hd hf hsz k
def hmc(d:Nat)(L:List Nat)(c:Nat)(σR:aQ)(gs:List G)(U:List (Nat×Ob)){gl:List (Nat×List G)}{fid:FuncId}{gs0:List G}{σ0 σ1:aQ}{r:G}{c1:Nat}(hM:jg P gl fid gs0 σ0 L.length r σ1 c1)
  (hin:w6 (vi L) σR σ0 0 L) (a:EJ (ja L c) σ1 U) (hlt:L.all (λi=>Nat.blt i c)=true:=by kernel_rfl) (hnd:decide L.Nodup=true:=by kernel_rfl) (hgs:gs.map (qg (vi L) 20)=gs0:=by kernel_rfl)
  (hk0:σ0.all (λq=>Nat.blt q.1 L.length)=true:=by kernel_rfl) (hcov:(List.range L.length).all (λk=>U.any λq=>Nat.beq q.1 k)=true:=by kernel_rfl) (hR:σR.all (λq=>q.2.isSome)=true:=by kernel_rfl):HP:=
 hz d L (P:=P) (gl:=gl) (f:=fid) (gs:=gs) (σR:=σR) (c:=c) (g:=qg (ja L c) 20 r) (U:=KQ L c U) (c':=c+(c1-L.length)) (YM L U hM hin a hlt hnd hgs hk0 hcov rfl rfl hR)
def YQ(P:Program)(hs:List Hn)(cut:Nat)(m:Code⊕Exit)(K:List Kf)(a:List Nat)(st:St):Option (Prop×List Nat×St×Code×List Kf):=match sy P hs cut 1000 m K st with
 |some (C,u,.ct c' K' s)=>some (C,u,{s with fr:=a.map λk=>(k,aD s.fr k)},c',K')
 |_=>none
theorem IB{fr:Fr}{d:Nat}:∀a:List Nat,aD (a.map λk=>(k,aD fr k)) d=aD fr d\/aD (a.map λk=>(k,aD fr k)) d= .junk
 |[]=> .inr rfl
 |k::r=>by
  rw[List.map_cons,aO];split
  .grind
  .exact IB r
theorem UZ{s:St}(b:List Nat):Le P s {s with fr:=b.map λk=>(k,aD s.fr k)}:=by rintro cx a w ⟨β,r⟩;refine⟨β,{r with fr:=λi=>?_}⟩;grind [IB,RV]
theorem YR(q:List Nat)(J:St)(A:List HP)(kk:Gp P fn Q Bs false q J)
  (hk:B5 A (YQ P (bK A) (wT (bq q (ai fn))) (qu m p (ai fn)) (bE p (ai fn) Bs []) (xb J) st) (J,bq q (ai fn),bE q (ai fn) Bs []):=by exact⟨aH,aH⟩):Gp P fn Q Bs m p st:=by
 obtain⟨C,u,a,e⟩:=hk.out
 generalize hks:xb J=ks at e
 unfold Gp
 unfold YQ at e
 split at e
 rotate_left
 .cases e
 rename_i b f c K' s1 h1
 simp only[gL,Prod.mk.injEq] at e
 obtain⟨rfl,rfl,d,rfl,rfl⟩:=e
 refine oK M.mx (out:= .ct (bq q (ai fn)) (bE q (ai fn) Bs []) s1) (Tr.le kk ?_) 1000 _ _ _ _ _ h1 a
 grind [UZ]
def Gn(P:Program)(hs:List Hn)(m:Code⊕Exit)(K:List Kf)(a:List Nat)(st:St):Option (Prop×List Nat×Exit×St):=match sy P hs 1000000 1000 m K st with
 |some (C,u,.fin e s)=>some (C,u,e,{s with fr:=a.map λk=>(k,aD s.fr k)})
 |_=>none
theorem dFf(a:Exit)(J:St)(A:List HP)(h:Q a J)
  (hk:B5 A (Gn P (bK A) (qu m p (ai fn)) (bE p (ai fn) Bs []) (xb J) st) (a,J):=by exact⟨aH,aH⟩):Gp P fn Q Bs m p st:=by
 obtain⟨C,u,b,e⟩:=hk.out
 generalize hks:xb J=ks at e
 unfold Gp
 unfold Gn at e
 split at e
 rotate_left
 .cases e
 rename_i d g x s1 h1
 simp only[gL,Prod.mk.injEq] at e
 obtain⟨rfl,rfl,rfl,f⟩:=e
 refine oK M.mx (out:= .fin x s1) ⟨J,?_,h⟩ 1000 _ _ _ _ _ h1 b
 grind [UZ]
theorem dEf{gl:List (Nat×List G)}{σ1:aQ}{c1:Nat}(a:Exit)(J:St)(gs:List G)(A:List HP)(b:∀k o,ag σ1 k=some o->ag J.σ k=some o)(hg:J.gl=gl:=by rfl)(hc:J.c=c1:=by rfl)(hr:iU gs=r:=by rfl)(he:tc a=true:=by rfl)(hx:vR P J fn.results.toList=some gs:=by kernel_rfl)
  (hk:B5 A (Gn P (bK A) (qu m p (ai fn)) (bE p (ai fn) Bs []) (xb J) st) (a,J):=by exact⟨aH,aH⟩):Gp P fn (Ok P fn gl r σ1 c1) Bs m p st:=
 dFf a J A ⟨eO he,hg,b,hc,gs,gh hx,hr.symm⟩ hk
end
section
variable {P:Program}
def oI(κ:Nat->Option Nat)(σ1:aQ):aQ->Prop
 |[]=>True
 |(k,some o)::U=>(match ag σ1 k with|some a=>MB κ a o|none=>False)/\oI κ σ1 U
 |(_,none)::U=>oI κ σ1 U
theorem oI.get{κ:Nat->Option Nat}{σ1:aQ}:∀{U:aQ},oI κ σ1 U->∀k o,(k,some o)∈U->∃a,ag σ1 k=some a/\MB κ a o
 |[],_,k,o,hq=>by cases hq
 |(k,some o)::U,h,k',o',hq=>by
  rcases List.mem_cons.1 hq with e|hq
  .cases e;have h1:=h.1;split at h1
   .rename_i a e1;exact⟨a,e1,h1⟩
   .exact h1.elim
  .exact oI.get h.2 k' o' hq
 |(_,none)::U,h,k',o',hq=>by
  rcases List.mem_cons.1 hq with e|hq
  .cases e
  .exact oI.get (U:=U) h k' o' hq
def zO(L:List Nat)(c:Nat)(U:aQ):aQ:=U.map λq=>((ja L c q.1).getD 0,q.2)
theorem YS{gl:List (Nat×List G)}{gs0 gs:List G}{σ0 σ1 σR:aQ}{r g:G}{c1 c c':Nat}(L:List Nat)(U:aQ)(hM:jg P gl fid gs0 σ0 L.length r σ1 c1)
  (hin:w6 (vi L) σR σ0 0 L) (b:oI (ja L c) σ1 U) (hlt:L.all (λi=>Nat.blt i c)=true:=by kernel_rfl) (hnd:decide L.Nodup=true:=by kernel_rfl) (hgs:gs.map (qg (vi L) 20)=gs0:=by kernel_rfl)
  (hk0:σ0.all (λq=>Nat.blt q.1 L.length)=true:=by kernel_rfl) (hcov:(List.range L.length).all (λk=>U.any λq=>Nat.beq q.1 k)=true:=by kernel_rfl) (hg:qg (ja L c) 20 r=g:=by kernel_rfl) (hc:c+(c1-L.length)=c':=by kernel_rfl) (hR:σR.all (λq=>q.2.isSome)=true:=by kernel_rfl):oJ P gl fid gs σR c g (zO L c U) c':=by
 intro o st y xs ats fst cap ho hd hf d hgl hq hsc
 have j:=hin.get
 have hgetR:∀i o,ag σR i=some o->ag st.σ i=some o:=λi o hh=>by
  have:∀l:aQ,(∀q∈l,q∈σR)->ag l i=some o->ag st.σ i=some o:=by
   intro l;induction l with
   |nil=>intro _ h;cases h
   |cons q t ih=>
    intro hs h;rw[show(q::t:aQ)=(q.1,q.2)::t from rfl,bj] at h;split at h
    .rename_i e;subst e;rw[hq q (hs q aC)];exact h
    .exact ih (λx hx=>hs x (by simp[hx])) h
  exact this σR (λ_ h=>h) hh
 have key:=MD (o:=o) (st:=st) (f:=y) (xs:=xs) (ats:=ats) (fid:=fid) (fst:=fst) (cap:=cap) L (gs0:=gs0) (σ0:=σ0) (r:=r) (σ1:=σ1) (c1:=c1) ho hd hf (by rw[hgl];exact hM) (λk i hk=>by
   have:=List.all_eq_true.1 hlt i (bO hk);rw[hsc];exact gX this) (of_decide_eq_true hnd) (by rw[d,hgs]) (λk i hk=>by
   obtain⟨o,o0,h1,h2,h3⟩:=j k i hk;rw[Nat.zero_add] at h2;exact⟨o,o0,hgetR i o h1,h2,h3⟩) (λk o hkk=>by
   have:∀l:aQ,(∀q∈l,q∈σ0)->ag l k=some o->k<L.length:=by
    intro l;induction l with
    |nil=>intro _ h;cases h
    |cons q t ih=>
     intro hs h;rw[show(q::t:aQ)=(q.1,q.2)::t from rfl,bj] at h;split at h
     .rename_i e;subst e;exact gX (List.all_eq_true.1 hk0 q (hs q aC))
     .exact ih (λx hx=>hs x (by simp[hx])) h
   exact this σ0 (λ_ h=>h) hkk) (zO L c U++st.σ) (λi o hh=>by
   have:∀l:aQ,(∀q∈l,q∈U)->ag (zO L c l++st.σ) i=some o->(∃k,(k,some o)∈U/\ja L c k=some i)\/(ag st.σ i=some o/\∀q∈l,ja L c q.1≠some i):=by
    intro l;induction l with
    |nil=>intro _ h;exact .inr ⟨h,λq hq=>by cases hq⟩
    |cons q t ih=>
     intro hs h;obtain⟨n,hi'⟩:=Gl L c q.1;rw[show zO L c (q::t)++st.σ=((ja L c q.1).getD 0,q.2)::(zO L c t++st.σ) from rfl,hi',Option.getD_some,bj] at h;split at h
     .rename_i e;subst e;exact .inl ⟨q.1,by rw[<-h];exact hs q aC,hi'⟩
     .rename_i hne;rcases ih (λx hx=>hs x (by simp[hx])) h with h|⟨h,h2⟩
      .exact .inl h
      .refine .inr ⟨h,λx hx=>?_⟩;rcases List.mem_cons.1 hx with rfl|hx
       .rw[hi'];intro e;cases e;exact hne rfl
       .exact h2 x hx
   rcases this U (λ_ h=>h) hh with⟨k,a,h1⟩|⟨h1,h2⟩
   .obtain⟨m,e1,e2⟩:=b.get k o a;exact .inl ⟨k,m,by rw[hsc];exact h1,e1,by rw[hsc];exact e2⟩
   .refine .inr ⟨h1,λhi=>?_⟩;obtain⟨k,hk⟩:=List.getElem?_of_mem hi;have hkl:=(cr hk).1;obtain⟨q,a,he⟩:=List.any_eq_true.1 (List.all_eq_true.1 hcov k (List.mem_range.2 hkl));refine h2 q a ?_;rw[bc he];unfold ja;rw[hk])
 have:=key.gs (st':={st with σ:=zO L c U++st.σ,c:=c'}.put o.dst g) λs hs=>by rw[hs,hsc,hg,hc]
 exact this
def tN(d:Nat)(L:List Nat)(c:Nat)(σR:aQ)(gs:List G)(U:aQ){gl:List (Nat×List G)}{fid:FuncId}{gs0:List G}{σ0 σ1:aQ}{r:G}{c1:Nat}(hM:jg P gl fid gs0 σ0 L.length r σ1 c1)
  (hin:w6 (vi L) σR σ0 0 L) (a:oI (ja L c) σ1 U) (hlt:L.all (λi=>Nat.blt i c)=true:=by kernel_rfl) (hnd:decide L.Nodup=true:=by kernel_rfl) (hgs:gs.map (qg (vi L) 20)=gs0:=by kernel_rfl)
  (hk0:σ0.all (λq=>Nat.blt q.1 L.length)=true:=by kernel_rfl) (hcov:(List.range L.length).all (λk=>U.any λq=>Nat.beq q.1 k)=true:=by kernel_rfl) (hR:σR.all (λq=>q.2.isSome)=true:=by kernel_rfl):HP:=
 hz d L (P:=P) (gl:=gl) (f:=fid) (gs:=gs) (σR:=σR) (c:=c) (g:=qg (ja L c) 20 r) (U:=zO L c U) (c':=c+(c1-L.length)) (YS L U hM hin a hlt hnd hgs hk0 hcov rfl rfl hR)
end
section
variable {P:Program}
structure PPost (P:Program) (w:World) (β:Bm) (S:Nat->Prop) (σ0:aQ) (p:Nat) (r:G) (σ1:aQ) (v:Value) (w':World) (β':Bm):Prop where
 pin:∀i ob,i<p->ag σ0 i=some ob->β' i=β i
 rs:RS P β' S σ1 w'
 old:∀b,GG β' σ1 b->GG β σ0 b\/w.heap.size<=b
 val:RV β' (Av S β' σ1) w' r v
 keep:Keeps (GG β σ0) w w'
def CO(P:Program)(gl:List (Nat×List G))(f:FuncId)(gs:List G)(σ0:aQ)(c0 p:Nat)(r:G)(σ1:aQ):Prop:=
 ∀(w:World) (β:Bm) (S:Nat->Prop) (vs:Array Value),(∀b,S b->b<w.heap.size)->(∀i,c0<=i->β i=none)->Gls gl (Av S β σ0) w->RS P β S σ0 w->vs.size=gs.length->(∀(i:Nat) (g:G) (u:Value),gs[i]?=some g->vs[i]?=some u->RV β (Av S β σ0) w g u)->
  Calls P f vs w λe w'=>∃v a,e= .returned v/\PPost P w β S σ0 p r σ1 v w' a
theorem PN{gl:List (Nat×List G)}{c:Code}{σ0 σ1:aQ}{c0:Nat}(hf:P.funcs[f]?=some fn)(hb:fn.body=some c)(hn:gs.length<=fn.ntmps)(h:Tr P c ⟨fn.ntmps,gl,bQ 0 gs,σ0,c0,p,false⟩ (zE P fn r σ1)):CO P gl f gs σ0 c0 p r σ1:=by
 intro w β S vs hS hβ hG hR hsz s;have hlive:∀i o,ag σ0 i=some o->∃x,β i=some x:=by grind [RS,RO.at]
 refine rq (cx:=⟨w,GG β σ0,S,λi=>if i<p then β i else none,Fence.wide,9⟩) hf hb h rfl rfl ⟨β,?_⟩ ?_
 .constructor<;>try grind [D7.nil,lP,RS.ob,RS.inj,RS.sep,Keeps.refl]
  .exact λ_=>rfl
  .exact λi=>by
    show RV _ _ w (aD (bQ 0 gs) i) _;rw[p7];simp only[Nat.zero_le,if_true,Nat.sub_zero];cases hg:gs[i]? with
    |none=>exact .junk _
    |some g=>
     have hlt:=(cr hg).1;have hu:vs[i]?=some (vs[i]'aa):=by grind
     have e:(vs++Array.replicate (fn.ntmps-vs.size) undef).getD i undef=vs[i]'aa:=by rw[Array.getD_eq_getD_getElem?,Array.getElem?_append_left aa,hu];rfl
     grind
  .exact λi o b C ho hb=> .inl ⟨i,o,C,ho,hb⟩
  .exact hG
 .rintro e st' a' w' ⟨he,t,ρ,hgs,d,hinj,hw,hst⟩ ⟨l,hr⟩;obtain⟨v,hres,hv⟩:=mP hr hgs;have hp':∀i ob,i<p->ag σ0 i=some ob->i<st'.p/\l i=β i:=by grind
  obtain⟨c',k⟩:∃c',∀q∈ρ,q.1<c':=by refine⟨(ρ.map (·.1)).foldr (λa b=>max (a+1) b) 0,λq hq=>?_⟩;clear hinj hw hst d;induction ρ<;>grind
  have hw':=RelB.weaken (st:=st') (st':=⟨st'.n,st'.gl,[],σ1,c',st'.p,st'.r⟩) ρ rfl rfl rfl d hinj k HQ hst rfl hr;have hpost:PPost P w β S σ0 p r σ1 v w' (λi=>(dq ρ i).bind l):={
   pin:=by grind
   rs:=⟨hw'.ob,hw'.inj,hw'.sep⟩
   old:=by rintro b ⟨i,ob,C,ho,hb⟩;grind
   val:=(hw _ _ _ l hr v hv).step (by grind) (λb _ hb=>by
    rcases hb with hb|⟨i,m,C,h1,h2⟩
    .exact .inl hb
    .obtain⟨j,ob,h3,h4,_⟩:=hst i m h1;grind) (Keeps.refl _ _)
   keep:=hr.keep}
  grind
def kO(σ0:aQ)(L:List Nat)(p nn c k:Nat):Option Nat:=bif Nat.blt k p then(match ag σ0 k with|some _=>L[k]? |none=>none) else bif Nat.blt k (p+nn) then some (c+(k-p)) else none
theorem abd{σ0:aQ}{ob:Ob}(h:k<p)(ho:ag σ0 k=some ob):kO σ0 L p nn c k=L[k]? :=by unfold kO;rw[show Nat.blt k p=true from Nat.ble_eq_true_of_le h,ho];rfl
theorem abX{σ0:aQ}(h:k<p)(e:kO σ0 L p nn c k=some i):L[k]?=some i/\∃ob,ag σ0 k=some ob:=by unfold kO at e;rw[show Nat.blt k p=true from Nat.ble_eq_true_of_le h,aN] at e;grind
theorem adS{σ0:aQ}(h:p<=k)(e:kO σ0 L p nn c k=some i):i=c+(k-p)/\k<p+nn:=by
 unfold kO at e;rw[show Nat.blt k p=false from by cases hb:Nat.blt k p with|false=>rfl|true=>exact absurd (gX hb) aa] at e;cases hb:Nat.blt k (p+nn) with
 |false=>grind
 |true=>simp_all
theorem abY{o:Oper}{st:St}{f:Operand}{xs:Array Operand}{ats:Array TypeId}{fid:FuncId}{fst cap:List G}(L:List Nat)(p nn:Nat){gs0:List G}{σ0:aQ}{σ1:aQ}(ho:o.op= .call {callee:= .value f,args:=xs,argTypes:=ats})(hd:pp o st.n)(hf:aB st f= .clo (.func fid) fst cap)(hc:aK P fid=true)
  (hM:CO P st.gl fid gs0 σ0 L.length p r σ1) (hL:∀(k i:Nat),L[k]?=some i->i<st.c) (hnd:L.Nodup) (hgs:gs0=(fst++xs.toList.map (aB st)++cap).map (qg (vi L) 20))
  (hin:∀k o0,ag σ0 k=some o0->∃i o,L[k]?=some i/\ag st.σ i=some o/\MB (vi L) o o0)
  (τ:aQ) (s:∀i o,ag τ i=some o->(∃k d,kO σ0 L p nn st.c k=some i/\ag σ1 k=some d/\MB (kO σ0 L p nn st.c) d o)\/(ag st.σ i=some o/\i∉L)):
  GS P o st ({st with σ:=τ,c:=st.c+nn}.put o.dst (qg (kO σ0 L p nn st.c) 20 r)):=by
 intro cx a w K R ⟨β,h⟩ z
 obtain⟨vs,hrun,hsz,hv⟩:=lQ h ho hf hc
 refine h.loose.oper (by grind) ?_
 unfold Oper.wp
 rw[hrun]
 have hlive:∀i o,ag st.σ i=some o->∃x,β i=some x:=by grind [RO.at]
 have hbound:∀i o,ag st.σ i=some o->i<st.c:=by grind
 obtain⟨m,F⟩:∃m:Bm,m=λk=>match L[k]? with|some i=>β i|none=>none:=⟨_,rfl⟩
 have b0:∀{k i:Nat},L[k]?=some i->m k=β i:=by grind
 have b0n:∀{k:Nat},L.length<=k->m k=none:=by grind
 obtain⟨Hid,y⟩:∃Hid:Nat->Prop,Hid=λb=>cx.S0 b\/∃i ob C,ag st.σ i=some ob/\β i=some (some (b,C))/\i∉L:=⟨_,rfl⟩
 have hlivS:∀b,GG m σ0 b->∃i o C,i∈L/\ag st.σ i=some o/\β i=some (some (b,C)):=λb ⟨k,ob,C,h1,h2⟩=>by grind
 have hav0:∀b,Av Hid m σ0 b->Av cx.S0 β st.σ b:=by grind
 have kin:∀i k,vi L i=some k->m k=β i:=by grind [QX]
 have hRS:RS P m Hid σ0 w:={
  ob:=λk o0 hk=>by obtain⟨i,o,g1,g2,q⟩:=hin k o0 hk;exact U8 kin ((h.ob i o g2).step (by grind) (by grind) (Keeps.refl _ _) (by grind)) q (b0 g1)
  inj:=λk1 k2 d A b C D h1 h2 h3 h4=>by obtain⟨i1,q1,g1,g2,_⟩:=hin k1 d h1;obtain⟨J,N,e1,e2,_⟩:=hin k2 A h2;grind [List.getElem?_inj]
  sep:=by grind}
 have hsz0:vs.size=gs0.length:=by grind
 refine(hM w m Hid vs (λb hb=>?_) (by grind) (λg l hl=>(by grind [IV.sub])) hRS hsz0 (λi g u hg hu=>?_)).mono ?_
 .grind [RelB.lt]
 .rw[hgs,List.getElem?_map] at hg
  cases hx:(fst++xs.toList.map (aB st)++cap)[i]? with
  |none=>grind
  |some x=>
   rw[hx] at hg
   simp only[Option.map_some,gL] at hg
   subst hg
   exact IG kin 20 x u ((hv i x u hx hu).step (by grind) (by grind) (Keeps.refl _ _))
 rintro e w' ⟨v,t,rfl,M⟩
 obtain⟨β2,H⟩:∃β2:Bm,β2=λi=>if i<st.c then β i else if i<st.c+nn then t (p+(i-st.c)) else none:=⟨_,rfl⟩
 have b2:∀{i:Nat},i<st.c->β2 i=β i:=by grind
 have key:∀k i,kO σ0 L p nn st.c k=some i->β2 i=t k:=λk i hk=>by
  rcases Nat.lt_or_ge k p with hp|hp
  .obtain⟨hk,ob,ho⟩:=abX hp hk;grind [PPost.pin]
  .obtain⟨rfl,h2⟩:=adS hp hk;grind
 have kfn:∀{k i j:Nat},kO σ0 L p nn st.c k=some i->kO σ0 L p nn st.c k=some j->i=j:=by grind
 have hext:∀i x,β i=some x->β2 i=some x:=by grind
 have hblk:∀i o b C,ag st.σ i=some o->β2 i=some (some (b,C))->β i=some (some (b,C)):=by grind
 have hav:∀b,Av cx.S0 β2 τ b->Av Hid t σ1 b:=by grind
 have hAo:∀b,b<w.heap.size->Av cx.S0 β2 τ b->Av cx.S0 β st.σ b:=by
  intro b hlt hb;rcases hav b hb with hb|hb
  .grind
  .rcases M.old b hb with hb|hb
   all_goals grind
 have hkp:Keeps (Av cx.S0 β st.σ) w w':=by grind [PPost,Keeps.mono]
 have hframe:∀i o b C,ag st.σ i=some o->i∉L->β i=some (some (b,C))->w'.heap[b]?=w.heap[b]? :=by grind [PPost,RelB.lt]
 have hback:RelB P cx {st with σ:=τ,c:=st.c+nn} a w' β2:={
  size:=h.size
  defers:=by grind [PPost,D7.keep,RelB.not_marks]
  loose:=h.loose
  rnd:=h.rnd
  fr:=by grind [RV.step]
  ob:=λi o ho=>by
   rcases s i o ho with⟨k,d,g1,g2,q⟩|⟨g1,g2⟩
   .exact U8 key ((M.rs.ob k d g2).step (by grind) (by grind) (Keeps.refl _ _) (by grind)) q (key k i g1)
   grind [RO.step]
  inj:=λi j o I b C D hi hj hbi B=>by
   rcases s i o hi with⟨k,d,g1,g2,q⟩|⟨g1,g2⟩<;>rcases s j I hj with⟨k',E,e1,e2,e3⟩|⟨e1,e2⟩
   .grind [PPost,RS.inj]
   all_goals grind [PPost,RS.sep]
  own:=λi o b C hi hbi=>by
   rcases s i o hi with⟨k,d,g1,g2,q⟩|⟨g1,g2⟩
   .rw[key k i g1] at hbi;rcases M.old b ⟨k,d,C,g2,hbi⟩ with hb|hb
    all_goals grind
   grind
  sep:=by grind [PPost,RS.sep]
  fresh:=by grind
  glob:=by grind [IV.stepC,Keeps.cells]
  keep:=by grind [PPost,Keeps.then]
  old:=h.old
  pin:=by grind}
 have hval:RV β2 (Av cx.S0 β2 τ) w' (qg (kO σ0 L p nn st.c) 20 r) v:=IG key 20 _ v (M.val.step (by grind) (by grind) (Keeps.refl _ _))
 exact z _ _ ⟨β2,hback.put o.dst hd hval⟩
def InP(κ:Nat->Option Nat)(L:List Nat)(σR σ0:aQ):Prop:=∀k o0,ag σ0 k=some o0->∃i o,L[k]?=some i/\ag σR i=some o/\MB κ o o0
def KS(κ:Nat->Option Nat)(σ1 U:aQ):Prop:=∀i o,ag U i=some o->∃k a,κ k=some i/\ag σ1 k=some a/\MB κ a o
theorem DZ{σR σ:aQ}(hq:∀q∈σR,ag σ q.1=q.2){o:Ob}(h:ag σR i=some o):ag σ i=some o:=by
 induction σR with
 |nil=>cases h
 |cons q t ih=>grind
def MZ(L:List Nat):aQ:=L.map λi=>(i,none)
theorem PO{U σ:aQ}{o:Ob}(h:ag (U++(MZ L++σ)) i=some o):ag U i=some o\/(ag σ i=some o/\i∉L):=by
 induction U with
 |nil=>right;unfold MZ at h;induction L<;>grind
 |cons q t ih=>grind
theorem ab0{gl:List (Nat×List G)}{gs0 gs:List G}{σ0 σ1 σR:aQ}{r g:G}{c c':Nat}(L:List Nat)(p nn:Nat)(U:aQ)(hM:CO P gl fid gs0 σ0 L.length p r σ1)(hc:aK P fid=true)
  (hin:InP (vi L) L σR σ0) (a:KS (kO σ0 L p nn c) σ1 U) (hlt:L.all (λi=>Nat.blt i c)=true:=by kernel_rfl) (hnd:decide L.Nodup=true:=by kernel_rfl) (hgs:gs.map (qg (vi L) 20)=gs0:=by kernel_rfl)
  (hg:qg (kO σ0 L p nn c) 20 r=g:=by kernel_rfl) (d:c+nn=c':=by kernel_rfl):oJ P gl fid gs σR c g (U++MZ L) c':=by
 intro o st y xs ats fst cap ho hd hf b hgl hq hsc
 subst hsc
 have key:=abY (o:=o) (st:=st) (f:=y) (xs:=xs) (ats:=ats) (fid:=fid) (fst:=fst) (cap:=cap) L p nn ho hd hf hc (by rw[hgl];exact hM) (λk i hk=>gX (List.all_eq_true.1 hlt i (bO hk))) (of_decide_eq_true hnd) (by rw[b,hgs]) (λk o0 hk=>by
   obtain⟨i,o,h1,h2,h3⟩:=hin k o0 hk;grind [DZ]) (U++(MZ L++st.σ)) (λi o hh=>by
   rcases PO hh with h|h
   .exact .inl (a i o h)
   .exact .inr h)
 grind
def hfm(d:Nat)(L:List Nat)(p nn c:Nat)(σR:aQ)(gs:List G)(U:aQ){gl:List (Nat×List G)}{fid:FuncId}{gs0:List G}{σ0 σ1:aQ}{r:G}(hM:CO P gl fid gs0 σ0 L.length p r σ1)
  (hin:InP (vi L) L σR σ0) (a:KS (kO σ0 L p nn c) σ1 U) (hc:aK P fid=true:=by kernel_rfl) (hlt:L.all (λi=>Nat.blt i c)=true:=by kernel_rfl) (hnd:decide L.Nodup=true:=by kernel_rfl) (hgs:gs.map (qg (vi L) 20)=gs0:=by kernel_rfl):HP:=
 hz d L (P:=P) (gl:=gl) (f:=fid) (gs:=gs) (σR:=σR) (c:=c) (g:=qg (kO σ0 L p nn c) 20 r) (U:=U++MZ L) (c':=c+nn) (by grind [ab0])
theorem JJ{gl:List (Nat×List G)}{σ0 σ1:aQ}{c0 p:Nat}{r:G}(hf:P.funcs[f]?=some fn)(h:Gp P fn (zE P fn r σ1) [] false [] ⟨fn.ntmps,gl,bQ 0 gs,σ0,c0,p,false⟩)(hb:fn.body.isSome=true:=by kernel_rfl)(hn:Nat.ble gs.length fn.ntmps=true:=by kernel_rfl):CO P gl f gs σ0 c0 p r σ1:=
 PN hf (c:=ai fn) (by unfold ai;cases hx:fn.body<;>grind) (gX hn) (Tr.leQ (by exact h))
end
section
variable {P:Program}
theorem Hd{st:St}{l:List G}{vs:List G}(ho:ag st.σ i=some ⟨t,l,some (.map es clock)⟩)(hl:vs.length=es.length)(hi:∀(j:Nat) (e:Value×G×Nat) (g:G),es[j]?=some e->vs[j]?=some g->ve P st e.2.1 g):ve P st (.mref i) (.mp (es.map (·.1)) vs (es.map (·.2.2)) clock):=λcx a w β r v hv=>by
 obtain⟨b,C,hb,rfl⟩:=hv.mref_form;rcases r.ob i _ ho with⟨_,_,h3⟩|⟨b',x,o,h1,h2,h3,h4,h5⟩|⟨b',C',cur,h1,_⟩
 .grind
 .cases h1;have c:=hb;rw[h3] at hb;cases hb;obtain⟨ents,rfl,e2,e3⟩:=h5;refine .mp _ _ _ _ _ ents (r.sep i _ _ _ ho c) (r.lt ho c) h4 aa ?_ ?_ λj g e hg he=>?_
  .apply List.ext_getElem?;grind
  .apply List.ext_getElem?;grind
  .have hlt:=(cr hg).1;obtain⟨⟨k,d,n⟩,hj⟩:∃q,es[j]?=some q:=⟨_,fy aa⟩;obtain⟨e',h6,h7,h8,h9⟩:=e3 j k d n hj;rw[he] at h6;cases h6;exact hi j _ g hj hg cx a w β r _ h9
 .cases h1
theorem tB{K V:Type}{kv:K->Value}{vg vf:V->G}{m:FM K V}(ho:ag st.σ i=some ⟨t,[],some (.map (m.es.map λe=>(kv e.1,vg e.2.1,e.2.2)) m.clk)⟩)(h:∀e∈m.es,ve P st (vg e.2.1) (vf e.2.1)):ve P st (.mref i) (m.g kv vf):=by
 have:=Hd (P:=P) (vs:=m.es.map λe=>vf e.2.1) ho aC λj e g h1 h2=>by rw[List.getElem?_map,jH] at h1 h2;obtain⟨x,hx,rfl⟩:=h1;obtain⟨y,hy,rfl⟩:=h2;rw[hx] at hy;cases hy;exact h x (bO hx)
 rw[List.map_map,List.map_map] at this;exact this
theorem vT{gl:List (Nat×List G)}{gs gs':List G}{σR:aQ}{g:G}{c:Nat}(hc:aK P fid=true)(hF:ba P gl fid gs' g)(hr:Fv g)(hl:gs'.length=gs.length)(hz:∀st:St,(∀i o,ag σR i=some o->ag st.σ i=some o)->∀(i:Nat) (x y:G),gs[i]?=some x->gs'[i]?=some y->ve P st x y):oJ P gl fid gs σR c g [] c:=λo st y xs ats fst cap ho hd hx hgs hgl b a=>by subst hgs;subst hgl;subst a;exact Ai ho hd hx hc hl (by grind [DZ]) hF hr
end
abbrev tRl:TypeId:=136
abbrev tMc:TypeId:=132
abbrev He:TypeId:=133
abbrev D4:TypeId:=134
abbrev Md:TypeId:=146
abbrev tMe:TypeId:=144
abbrev tGu:TypeId:=148
abbrev Ni:G:= .lit (.pointer none)
abbrev cdG(x:DCard):G:= .agg (bv x)
def nM(k:Int):Nat:=4+k.toNat
abbrev D5(f:Nat->Nat)(m:FM Int DRollMember):List (Value×G×Nat):=m.es.map λe=>(mJ e.1,.ref (f (nM e.1)) 0,e.2.2)
def gpG(f:Nat->Nat)(k:Nat)(x:DRollMember):G:=match x.guard with
 |none=>Ni
 |some _=> .ref (f (7+k)) 0
def YA(f:Nat->Nat)(k:Nat)(x:DRollGuard):List G:=[iG x.id.By,iG x.id.Seq,uG x.id.Sum,aE cZ x.guards,iG x.need,iG x.wait,.mref (f (10+k)),bG x.objected,iG x.last]
def JL(f:Nat->Nat)(R:DRollRoll)(k:Nat):Option Ob:=(R.members.get (k:Int)).map λx=>⟨tMe,[iG x.role,gpG f k x],none⟩
def JM(f:Nat->Nat)(R:DRollRoll)(k:Nat):Option Ob:=((R.members.get (k:Int)).bind (·.guard)).map λx=>⟨tGu,YA f k x,none⟩
def JN(R:DRollRoll)(k:Nat):Option Ob:=((R.members.get (k:Int)).bind (·.guard)).map λx=>sn Md dQ iG x.vouches
abbrev roR(f:Nat->Nat)(R:DRollRoll):Ob:=⟨tRl,[.mref (f 1),.mref (f 2),.mref (f 3),.mref (f 4),iG R.back],none⟩
abbrev za(f:Nat->Nat)(R:DRollRoll):Ob:=⟨D4,[],some (.map (D5 f R.members) R.members.clk)⟩
def dh(f:Nat->Nat)(R:DRollRoll):Nat->Option Ob
 |0=>some (roR f R)
 |1=>some (sn tMc mJ cdG R.cards)
 |2=>some (sn He mJ bG R.in_)
 |3=>some (sn He mJ bG R.was)
 |4=>some (za f R)
 |5=>JL f R 1
 |6=>JL f R 2
 |7=>JL f R 3
 |8=>JM f R 1
 |9=>JM f R 2
 |10=>JM f R 3
 |11=>JN R 1
 |12=>JN R 2
 |13=>JN R 3
 |_=>none
abbrev dT(f:Nat->Nat)(R:DRollRoll):aQ:=[(f 0,some (roR f R)),(f 1,some (sn tMc mJ cdG R.cards)),(f 2,some (sn He mJ bG R.in_)),(f 3,some (sn He mJ bG R.was)),(f 4,some (za f R)),(f 5,JL f R 1),(f 6,JL f R 2),(f 7,JL f R 3),(f 8,JM f R 1),(f 9,JM f R 2),(f 10,JM f R 3),(f 11,JN R 1),(f 12,JN R 2),(f 13,JN R 3)]
structure RlOk (R:DRollRoll):Prop where
 ci:FxK R.in_
 cw:FxK R.was
 cm:FxK R.members
 m3:∀e∈R.members.es,1<=e.1/\e.1<=3
 c3:∀d,0<=(fD (R.cards.get d)).Member/\(fD (R.cards.get d)).Member<=3
 cv:∀k x g,R.members.get k=some x->x.guard=some g->FxK g.vouches
 gm:∀k x g,R.members.get k=some x->x.guard=some g->(fD (R.cards.get g.id.By)).Member=k
 gN:∀k x g,R.members.get k=some x->x.guard=some g->1<=g.need/\g.need<=1000000
 vb:∀k x g,R.members.get k=some x->x.guard=some g->∀e∈g.vouches.es,1<=e.1.by_/\e.1.by_<=6
 i6:∀e∈R.in_.es,1<=e.1/\e.1<=6
 c6:∀d,0<(fD (R.cards.get d)).Member->1<=d/\d<=6
 gn:∀k x g,R.members.get k=some x->x.guard=some g->g.guards.length<=1000000
theorem RlOk.mem{R:DRollRoll}(h:RlOk R){e:Int×DRollMember×Nat}(he:e∈R.members.es):R.members.get e.1=some e.2.1/\(e.1=1\/e.1=2\/e.1=3):=by grind [RlOk,mF]
def Rls(f:Nat->Nat)(R:DRollRoll)(σ:aQ):Prop:=∀k ob,dh f R k=some ob->ag σ (f k)=some ob
theorem fL{f:Nat->Nat}{R:DRollRoll}{k:Nat}{ob:Ob}(h:dh f R k=some ob):k<14:=by
 rcases Nat.lt_or_ge k 14 with h1|h1
 .exact h1
 .exact absurd h (by obtain⟨j,rfl⟩:∃j,k=j+14:=⟨k-14,aa⟩;intro e;cases e)
section
variable {P:Program}
theorem sU:∀{l l':List G},l'.length=l.length->(∀p∈l.zip l',ve P st p.1 p.2)->∀(j:Nat) (g g':G),l[j]?=some g->l'[j]?=some g'->ve P st g g':=λ{l l'} _ h j g g' h1 h2=>h (g,g') (bO (i:=j) (by grind))
theorem TG{f:Nat->Nat}{R:DRollRoll}(hR:RlOk R)(h:Rls f R st.σ):ve P st (.ref (f 0) 0) (.ptr (dY R) 0):=by
 have hv:∀k:Nat,k=1\/k=2\/k=3->∀x g,R.members.get (k:Int)=some x->x.guard=some g->ve P st (.ref (f (7+k)) 0) (.ptr (u5 g) 0):=λk hk x g hx hg=>by
  have h1:ag st.σ (f (7+k))=some ⟨tGu,YA f k g,none⟩:=by refine h (7+k) _ ?_;rcases hk with rfl|rfl|rfl<;>(show(Option.bind _ _).map _=_;grind)
  have h2:ag st.σ (f (10+k))=some (sn Md dQ iG g.vouches):=by refine h (10+k) _ ?_;rcases hk with rfl|rfl|rfl<;>(show(Option.bind _ _).map _=_;grind)
  refine Mb h1 (Nat.le_refl _) (sU rfl λp hp=>?_);simp only[YA,u5,List.zip_cons_cons,List.zip_nil_right,List.mem_cons,List.not_mem_nil,or_false] at hp;rcases hp with rfl|rfl|rfl|rfl|rfl|rfl|rfl|rfl|rfl
  .exact jB (mN _)
  .exact jB (mN _)
  .exact jB (mN _)
  .exact jB (FC _ _)
  .exact jB (mN _)
  .exact jB (mN _)
  .exact tB h2 λe _=>jB (mN _)
  all_goals grind [jB,mN]
 refine Mb (h 0 _ rfl) (Nat.le_refl _) (sU rfl λp hp=>?_);simp only[dY,List.zip_cons_cons,List.zip_nil_right,List.mem_cons,List.not_mem_nil,or_false] at hp;rcases hp with rfl|rfl|rfl|rfl|rfl
 .exact tB (h 1 _ rfl) λe _=>jB (L6 λg hg=>by simp only[bv,List.mem_cons,List.not_mem_nil,or_false] at hg;rcases hg with rfl|rfl|rfl|rfl|rfl<;>exact mN _)
 .exact tB (h 2 _ rfl) λe _=>jB (mN _)
 .exact tB (h 3 _ rfl) λe _=>jB (mN _)
 .have h4:=h 4 _ rfl;have:=Hd (P:=P) (st:=st) (vs:=R.members.es.map λe=> .ptr (gZ e.2.1) 0) h4 aC λj e g h1 h2=>by
   rw[List.getElem?_map,jH] at h1 h2;obtain⟨x,hx,rfl⟩:=h1;obtain⟨y,hy,rfl⟩:=h2;rw[hx] at hy;cases hy;obtain⟨m1,m2⟩:=hR.mem (bO hx);obtain⟨k,hk,a⟩:∃k:Nat,x.1=(k:Int)/\(k=1\/k=2\/k=3):=by grind
   rw[hk] at m1;have hn:nM x.1=4+k:=by unfold nM;omega
   have h5:ag st.σ (f (4+k))=some ⟨tMe,[iG x.2.1.role,gpG f k x.2.1],none⟩:=by refine h (4+k) _ ?_;rcases a with rfl|rfl|rfl<;>(show Option.map _ _=_;rw[m1];rfl)
   show ve P st (.ref (f (nM x.1)) 0) _;rw[hn];refine Mb h5 (Nat.le_refl _) (sU rfl λp hp=>?_);grind [gZ,List.zip_cons_cons,List.zip_nil_right,jB,mN,gpG,npG]
  unfold FM.g;rw[List.map_map,List.map_map] at this;exact this
 .exact jB (mN _)
theorem vV{κ:Nat->Option Nat}{f f':Nat->Nat}{R:DRollRoll}(hκ:∀k,(∃ob,dh f R k=some ob)->κ (f k)=some (f' k))(hR:RlOk R)(k:Nat):Ge κ (dh f R k) (dh f' R k):=λa h=>by
 have hk:=fL h;have hr:∀k,(∃ob,dh f R k=some ob)->qg κ 20 (.ref (f k) 0)= .ref (f' k) 0:=λk hk=>by simp only[qg,hκ k hk]
 have hm:∀k,(∃ob,dh f R k=some ob)->qg κ 20 (.mref (f k))= .mref (f' k):=λk hk=>by simp only[qg,hκ k hk]
 have pm:∀(k:Nat) x,k=1\/k=2\/k=3->R.members.get (k:Int)=some x->∃ob,dh f R (4+k)=some ob:=λk x hk hx=>by rcases hk with rfl|rfl|rfl<;>exact⟨_,(by show Option.map _ _=_;rw[hx];rfl)⟩
 have pg:∀(k:Nat) x,k=1\/k=2\/k=3->(R.members.get (k:Int)).bind (·.guard)=some x->(∃ob,dh f R (7+k)=some ob)/\∃ob,dh f R (10+k)=some ob:=λk x hk hx=>by rcases hk with rfl|rfl|rfl<;>exact⟨⟨_,(by show Option.map _ _=_;rw[hx];rfl)⟩,⟨_,(by show Option.map _ _=_;rw[hx];rfl)⟩⟩
 have hmem:∀k,k=1\/k=2\/k=3->Ge κ (JL f R k) (JL f' R k):=λk hk a h=>by
  unfold JL at h⊢;rw[jH] at h;obtain⟨x,hx,rfl⟩:=h;rw[hx];refine⟨_,rfl,rfl,.inl ?_⟩;show[iG x.role,gpG f' k x]=[iG x.role,qg κ 20 (gpG f k x)];unfold gpG;cases hg:x.guard with
  |none=>rfl
  |some g=>grind
 have hgu:∀k,k=1\/k=2\/k=3->Ge κ (JM f R k) (JM f' R k):=λk hk a h=>by unfold JM at h⊢;rw[jH] at h;obtain⟨x,hx,rfl⟩:=h;rw[hx];refine⟨_,rfl,rfl,.inl ?_⟩;show YA f' k x=(YA f k x).map (qg κ 20);unfold YA;simp only[List.map_cons,List.map_nil,hm (10+k) (pg k x hk hx).2];rfl
 have hvo:∀k,Ge κ (JN R k) (JN R k):=λk a h=>by refine⟨a,h,rfl,?_⟩;unfold JN at h;rw[jH] at h;obtain⟨x,hx,rfl⟩:=h;exact⟨rfl,rfl,rfl,.inr ⟨rfl,xD λv=>mN _⟩⟩
 match k,hk with
 |0,_=>cases h;refine⟨_,rfl,rfl,.inl ?_⟩;simp only[List.map_cons,List.map_nil,hm 1 ⟨_,rfl⟩,hm 2 ⟨_,rfl⟩,hm 3 ⟨_,rfl⟩,hm 4 ⟨_,rfl⟩];rfl
 |1,_=>cases h;exact⟨_,rfl,rfl,rfl,rfl,rfl,.inr (by grind [L6,bv,mN])⟩
 |2,_=>cases h;exact⟨_,rfl,rfl,rfl,rfl,rfl,.inr ⟨rfl,xD λv=>mN _⟩⟩
 |3,_=>cases h;exact⟨_,rfl,rfl,rfl,rfl,rfl,.inr ⟨rfl,xD λv=>mN _⟩⟩
 |4,_=>cases h;refine⟨_,rfl,rfl,rfl,rfl,rfl,.inl ?_⟩;rw[List.map_map];refine List.map_congr_left λe he=>?_;obtain⟨h1,h2⟩:=hR.mem he;show _=(_,qg κ 20 (.ref (f (nM e.1)) 0),_);rw[hr (nM e.1) (by rcases h2 with h2|h2|h2<;>rw[h2] at h1⊢<;>exact pm _ _ aC h1)]
 |5,_=>exact hmem 1 aa a h
 |6,_=>exact hmem 2 aa a h
 |7,_=>exact hmem 3 aa a h
 |8,_=>exact hgu 1 aa a h
 |9,_=>exact hgu 2 aa a h
 |10,_=>exact hgu 3 aa a h
 |11,_=>exact hvo 1 a h
 |12,_=>exact hvo 2 a h
 |13,_=>exact hvo 3 a h
theorem pA{f:Nat->Nat}{g:Nat->Option Ob}:∀{l:List Nat} {k:Nat},(∀a∈l,∀b∈l,f a=f b->a=b)->k∈l->ag (l.map λk=>(f k,g k)) (f k)=g k
 |[],k,_,h=>by cases h
 |x::r,k,hi,h=>by
  rw[List.map_cons,bj];split
  .grind
  .rename_i hne;rcases List.mem_cons.1 h with rfl|h
   .exact absurd rfl hne
   .exact pA (by grind) h
theorem pU{f:Nat->Nat}{g:Nat->Option Ob}{i:Nat}{o:Ob}:∀{l:List Nat},ag (l.map λk=>(f k,g k)) i=some o->∃k∈l,f k=i/\g k=some o
 |[],h=>by cases h
 |x::r,h=>by
  rw[List.map_cons,bj] at h;split at h
  .grind
  .obtain⟨k,h1,h2⟩:=pU h;grind
abbrev L0:List Nat:=[0,1,2,3,4,5,6,7,8,9,10,11,12,13]
abbrev Fq(f:Nat->Nat):List Nat:=L0.map f
abbrev f0:Nat->Nat:=λk=>k
theorem kD(f:Nat->Nat)(R:DRollRoll):dT f R=(List.range 14).map λk=>(f k,dh f R k):=rfl
theorem nt{R:DRollRoll}{o:Ob}:ag (dT f0 R) k=some o↔dh f0 R k=some o:=by
 constructor
 .intro h;rw[kD] at h;obtain⟨k',_,e,h⟩:=pU h;grind
 .intro h;rw[kD];have:=pA (f:=f0) (g:=dh f0 R) (l:=List.range 14) (k:=k) (λa _ b _ e=>e) (List.mem_range.2 (fL h));exact this.trans h
theorem Lo{f:Nat->Nat}(h:k<14):(Fq f)[k]?=some (f k):=by
 rw[List.getElem?_map,show L0[k]?=some k from by have:=List.getElem?_range (n:=14) h;exact this];rfl
theorem Nj{f:Nat->Nat}(hd:(Fq f).Nodup){a b:Nat}(ha:a<14)(hb:b<14)(e:f a=f b):a=b:=(List.getElem?_inj ha hd).1 (by grind [Lo])
theorem acf(hd:L.Nodup){k i:Nat}(h:L[k]?=some i):vi L i=some k:=by unfold vi;rw[List.findIdx?_eq_some_iff_getElem];obtain⟨hk,e⟩:=cr h;refine⟨hk,by rw[e];exact Nat.beq_refl i,λj hj hb=>?_⟩;have a:=(List.getElem?_inj aa hd).1 ((fy (l:=L) (i:=j) aa).trans ((congrArg some (bc hb)).trans h.symm));omega
theorem abp{f:Nat->Nat}(hd:(Fq f).Nodup){R:DRollRoll}(hR:RlOk R):InP (vi (Fq f)) (Fq f) (dT f R) (dT f0 R):=λk o0 h=>by rw[nt] at h;have hk:=fL h;obtain⟨o,h1,h2⟩:=vV (κ:=vi (Fq f)) (f:=f) (f':=f0) (by grind [acf,Lo,fL]) hR k o0 h;refine⟨_,o,Lo hk,?_,h2⟩;rw[kD,pA (by grind [Nj]) (List.mem_range.2 hk)];exact h1
theorem acg{f:Nat->Nat}{R:DRollRoll}(hR:RlOk R)(c:Nat):KS (kO (dT f0 R) (Fq f) 14 0 c) (dT f0 R) (dT f R):=λi o h0=>by
 rw[kD] at h0;obtain⟨k,hk,e,h⟩:=pU h0;subst e;have hκ:∀k,(∃ob,dh f0 R k=some ob)->kO (dT f0 R) (Fq f) 14 0 c (f0 k)=some (f k):=by grind [abd,fL,nt,Lo]
 obtain⟨a,h1,h2⟩:=vV hκ hR k o h;grind [nt]
def fW(f:Nat->Nat)(c k:Nat):Nat:=bif Nat.blt k 5 then f k else c+(k-5)
theorem YB{f:Nat->Nat}{R R':DRollRoll}(hR:RlOk R')(c:Nat):KS (kO (dT f0 R) (Fq f) 5 9 c) (dT f0 R') (dT (fW f c) R'):=λi o h0=>by
 rw[kD] at h0;obtain⟨k,hk,e,h⟩:=pU h0;subst e;have hκ:∀k,(∃ob,dh f0 R' k=some ob)->kO (dT f0 R) (Fq f) 5 9 c (f0 k)=some (fW f c k):=λk ⟨ob,h⟩=>by
  have hk:=fL h;unfold fW;rcases Nat.lt_or_ge k 5 with h5|h5
  .rw[show Nat.blt k 5=true from Nat.ble_eq_true_of_le h5,aN];have:∃ob,dh f0 R k=some ob:=by
    match k,h5 with
    |0,_=>exact⟨_,rfl⟩
    |1,_=>exact⟨_,rfl⟩
    |2,_=>exact⟨_,rfl⟩
    |3,_=>exact⟨_,rfl⟩
    |4,_=>exact⟨_,rfl⟩
   grind [abd,nt,Lo]
  .have e:Nat.blt k 5=false:=by
    cases hb:Nat.blt k 5 with
    |false=>rfl
    |true=>exact absurd (gX hb) aa
   rw[e,cG];unfold kO;rw[show Nat.blt (f0 k) 5=false from e,show Nat.blt (f0 k) (5+9)=true from Nat.ble_eq_true_of_le hk];rfl
 obtain⟨a,h1,h2⟩:=vV hκ hR k o h;grind [nt]
def hrr(d:Nat)(f:Nat->Nat)(c:Nat)(args:List G){gl:List (Nat×List G)}{fid:FuncId}{args0:List G}{R:DRollRoll}{r:G}(hR:RlOk R)(hM:CO P gl fid (.ref 0 0::args0) (dT f0 R) 14 14 r (dT f0 R))(hc:aK P fid=true:=by kernel_rfl)(hlt:(Fq f).all (λi=>Nat.blt i c)=true:=by kernel_rfl)(hnd:decide (Fq f).Nodup=true:=by kernel_rfl)(hgs:(G.ref (f 0) 0::args).map (qg (vi (Fq f)) 20)= .ref 0 0::args0:=by kernel_rfl):HP:=
 hfm d (Fq f) 14 0 c (dT f R) (.ref (f 0) 0::args) (dT f R) hM (abp (of_decide_eq_true hnd) hR) (acg hR c) hc hlt hnd hgs
def It(d:Nat)(f:Nat->Nat)(c:Nat)(args:List G){gl:List (Nat×List G)}{fid:FuncId}{args0:List G}{R R':DRollRoll}{r:G}(hR:RlOk R)(a:RlOk R')(hM:CO P gl fid (.ref 0 0::args0) (dT f0 R) 14 5 r (dT f0 R'))(hc:aK P fid=true:=by kernel_rfl)(hlt:(Fq f).all (λi=>Nat.blt i c)=true:=by kernel_rfl)(hnd:decide (Fq f).Nodup=true:=by kernel_rfl)(hgs:(G.ref (f 0) 0::args).map (qg (vi (Fq f)) 20)= .ref 0 0::args0:=by kernel_rfl):HP:=
 hfm d (Fq f) 5 9 c (dT f R) (.ref (f 0) 0::args) (dT (fW f c) R') hM (abp (of_decide_eq_true hnd) hR) (YB a c) hc hlt hnd hgs
def hrl(d:Nat)(f:Nat->Nat)(c:Nat){args:List G}{gl:List (Nat×List G)}{fid:FuncId}{R:DRollRoll}{g:G}(hR:RlOk R)(hF:ba P gl fid (.ptr (dY R) 0::args) g)(ha:∀x∈args,bB x)(hg:Fv g)(hnd:decide (Fq f).Nodup=true:=by kernel_rfl)(hc:aK P fid=true:=by kernel_rfl):HP:=
 hz d (Fq f) (P:=P) (gl:=gl) (f:=fid) (gs:= .ref (f 0) 0::args) (σR:=dT f R) (c:=c) (g:=g) (U:=[]) (c':=c) (vT hc hF hg rfl λst h i x y h1 h2=>by
  have hs:Rls f R st.σ:=λk ob ho=>h _ _ (by rw[kD,pA (by grind [Nj]) (List.mem_range.2 (fL ho))];exact ho)
  cases i<;>grind [TG,jB])
end
section
set_option maxHeartbeats 2000000
attribute [local irreducible] Tr dz Gp
def fm(a:List Int)(s1:Int):Option ((Int)⊕(Unit⊕Int)):=
 bif decide (s1<ah a) then((aS a s1).bind λb=>bif decide (b≠0) then(some (.inr (.inr b))) else(some (.inl (wI (s1+1))))) else(some (.inr (.inl ())))
def iy(a:List Int):Option Int:=
 (bo (fm a) 0).bind λb=>ma b (λc=>some 0) (λq=>some q)
theorem FT{vals}:eP prog gl (iy vals) 262 [aE cZ vals] iG:=
 cy func262 λK=>uy 11101 (λa=>sg [] [(3,iG 0)]) (λs1=>sg [] [(3,iG 0),(6,aE cZ vals),(7,iG (ah vals)),(8,iG s1)]) [] K (λa=>rv K) λs1 k5 b k6=>aF 9 (dV 10 rZ.ixZ 11 (rZ.p1Y tZ) λc=>aF 14 (aP c3 k6 [])<|rb k5)<|aA c2 b []
def g7(a:Int):Option Bool:=
 some (decide (a≠a))
theorem dw{x_}:eP prog gl (g7 x_) 139 [iG x_] bG:=
 cy func139 λK=>rv K
def f8(a:Int)(y:Int):Option Int:=
 (g7 a).bind λc=>(g7 y).bind λb=>bif c then(bif b then(some 0) else(some (-1))) else(bif b then(some 1) else(bif decide (a<y) then(some (-1)) else(bif decide (y<a) then(some 1) else(some 0))))
theorem mQ{x_ y}:eP prog gl (f8 x_ y) 69 [iG x_,iG y] iG:=
 cy func69 λK=>ak λc e2=>ak λd e4=>aw [hf 10 (dw gl e4)]<|kV (λb5=>aw [hf 8 (cF (dw gl e2) b5)]<|kV (λa=>aw [hf 10 (cF (dw gl e4) a)]<|rv K) λa=>aw [hf 10 (cF (dw gl e4) a)]<|rv K) λb5=>aw [hf 8 (cF (dw gl e2) b5)]<|kV (λb=>aw [hf 10 (cF (dw gl e4) b)]<|rv K) λb=>aw [hf 10 (cF (dw gl e4) b)]<|aF 16 (rv K)<|aF 19 (rv K)<|rv K
def g9(a:Nat):Option Bool:=
 some (decide ((a:Int)≠(a:Int)))
theorem cH{x_}:eP prog gl (g9 x_) 329 [uG x_] bG:=
 cy func329 λK=>rv K
def fQ(a:Nat)(y:Nat):Option Int:=
 (g9 a).bind λc=>(g9 y).bind λb=>bif c then(bif b then(some 0) else(some (-1))) else(bif b then(some 1) else(bif decide ((a:Int)<(y:Int)) then(some (-1)) else(bif decide ((y:Int)<(a:Int)) then(some 1) else(some 0))))
theorem rG{x_ y}:eP prog gl (fQ x_ y) 263 [uG x_,uG y] iG:=
 cy func263 λK=>ak λc e2=>ak λd e4=>aw [hf 10 (cH gl e4)]<|kV (λb5=>aw [hf 8 (cF (cH gl e2) b5)]<|kV (λa=>aw [hf 10 (cF (cH gl e4) a)]<|rv K) λa=>aw [hf 10 (cF (cH gl e4) a)]<|rv K) λb5=>aw [hf 8 (cF (cH gl e2) b5)]<|kV (λb=>aw [hf 10 (cF (cH gl e4) b)]<|rv K) λb=>aw [hf 10 (cF (cH gl e4) b)]<|aF 16 (rv K)<|aF 19 (rv K)<|rv K
def pE(a:DIdent)(b:DIdent):Option Bool:=
 (f8 a.By b.By).bind λc=>(f8 a.Seq b.Seq).bind λd=>(fQ a.Sum b.Sum).bind λe=>(iy ([c,d,e]:List Int)).bind λf=>some (decide (f<0))
theorem sF{a b}:eP prog gl (pE a b) 205 [.agg (aj a),.agg (aj b)] bG:=
 cy func205 λK=>dI 9 (mQ gl) λc=>dI 14 (mQ gl) λd=>dI 19 (rG gl) λe=>ak λf e8=>aw [hq 21 [aE cZ ([c,d,e]:List Int)] [hc (rZ.al ([c,d,e]:List Int))] (FT gl e8)]<|rv K
def wz(a:DHoldName)(b:DHoldName):Option Int:=
 (pE a.commit b.commit).bind λc=>bif c then(some (-1)) else((pE b.commit a.commit).bind λd=>bif d then(some 1) else(some (wI (a.n-b.n))))
def gG(g:DGraphGraph)(a:DIdent):Option Int:=
 bif(g.at_.get a).isSome then((aS g.nodes (FR (g.at_.get a))).bind λb=>some b.level) else(some 0)
theorem kR{g id_}:eP prog gl (gG g id_) 64 [.ptr (av g) 0,.agg (aj id_)] iG:=
 cy func64 λK=>aw [hm 13 (H7 g.at_ id_)]<|aF 15 (dV 22 az.ixZ 24 (az.fdY tZ 34) λa=>rv K)<|rv K
def iX(s:A4W)(n:Int):Option Bool:=
 (aS ([s.a0,s.a1,s.a2,s.a3]:List Nat) (wI (Int.tdiv n 64))).bind λa=>(wJ (Int.tmod n 64)).bind λb=>some (decide (((bD (fv a b) 1:Nat):Int)=((1:Nat):Int)))
def nO{α:Type}(s:List α)(f:α->Option Bool)(s1:Int):Option ((Int)⊕(Unit⊕Int)):=
 bif decide (s1<ah s) then((aS s s1).bind λa=>(f a).bind λb=>bif b then(some (.inr (.inr s1))) else(some (.inl (wI (s1+1))))) else(some (.inr (.inl ())))
def yj{α:Type}(s:List α)(f:α->Option Bool):Option Int:=
 (bo (nO s f) 0).bind λa=>ma a (λb=>some (-1)) (λq=>some q)
theorem pF{s:List Int}{f:Int->Option Bool}(a:FnV prog gl fi_f fa_f fc_f (λx:Int=>[iG x]) (λx:Bool=>bG x) f):eP prog gl (yj s f) 320 [aE cZ s,.clo (.func fi_f) fa_f fc_f] iG:=
 cy func320 λK=>uy 1101 (λg=>sg [] []) (λs1=>sf [] [(7,iG (ah s)),(8,iG s1)]) [hc (a.im)] K (λg=>rv K) λs1 k5 h k6=>aF 9 (dV 14 rZ.ixZ 15 (rZ.p1Y tZ) λd=>ak λi e=>kV (λb=>aw [hz 16 [] (cS (a.cs (c:=0) e (aY (aG 20 (iG d) aH) (bf))) b)]<|aP c3 k6 []) λb=>aw [hz 16 [] (cS (a.cs (c:=0) e (aY (aG 20 (iG d) aH) (bf))) b)]<|cj k5 [hc (a.im)])<|aA c2 h []
def Az{α:Type}(s:List α)(f:α->Option Bool):Option Bool:=
 (yj s f).bind λa=>some (decide (0<=a))
theorem ml{s:List Int}{f:Int->Option Bool}(a:FnV prog gl fi_f fa_f fc_f (λx:Int=>[iG x]) (λx:Bool=>bG x) f):eP prog gl (Az s f) 259 [aE cZ s,.clo (.func fi_f) fa_f fc_f] bG:=
 cy func259 λK=>ak λb e2=>aw [hz 7 [] (jf (c:=0) aH (pF gl (a) e2) (aY (aG 20 (aE cZ s) aH) (aY (a.im) (bf))))]<|rv K
def cU(s:List DIdent):Option (List DIdent):=aT 24 [] s
theorem jY{s:List DIdent}:rX prog gl (cU s) 213 [aE aj s] 36 aj:=λr h=>by
 unfold cU at h;refine OW func213 ?_;refine pO 1100 (s0 8 gl [(0,aE aj s)] [] 0 0) [] [] ?_;refine IA 0 3 4 26 36 rfl (gX aH) (gX aH) λb hb=>?_;cases b
 .exact EI [eu 7 ac h] (ac.imm _)
 .obtain rfl:=ac.isNil (hb rfl);obtain rfl:=mV h;exact EI [] (ac.imm [])
def gI(s:List UInt8):Option (List UInt8):=aT 1 [] s
theorem tj{s:List UInt8}:rX prog gl (gI s) 214 [aE cY s] 5 cY:=λr h=>by
 unfold gI at h;refine OW func214 ?_;refine pO 1100 (s0 8 gl [(0,aE cY s)] [] 0 0) [] [] ?_;refine IA 0 3 4 37 5 rfl (gX aH) (gX aH) λb hb=>?_;cases b
 .exact EI [eu 7 rY h] (rY.imm _)
 .obtain rfl:=rY.isNil (hb rfl);obtain rfl:=mV h;exact EI [] (rY.imm [])
def dK(s:List Nat):Option (List Nat):=aT 8 [] s
theorem p9{s:List Nat}:rX prog gl (dK s) 215 [aE cW s] 34 cW:=λr h=>by
 unfold dK at h;refine OW func215 ?_;refine pO 1100 (s0 8 gl [(0,aE cW s)] [] 0 0) [] [] ?_;refine IA 0 3 4 38 34 rfl (gX aH) (gX aH) λb hb=>?_;cases b
 .exact EI [eu 7 rW h] (rW.imm _)
 .obtain rfl:=rW.isNil (hb rfl);obtain rfl:=mV h;exact EI [] (rW.imm [])
def fF(s:List Int):Option (List Int):=aT 8 [] s
theorem uK{s:List Int}:rX prog gl (fF s) 81 [aE cZ s] 3 cZ:=λr h=>by
 unfold fF at h;refine OW func81 ?_;refine pO 1100 (s0 8 gl [(0,aE cZ s)] [] 0 0) [] [] ?_;refine IA 0 3 4 22 3 rfl (gX aH) (gX aH) λb hb=>?_;cases b
 .exact EI [eu 7 rZ h] (rZ.imm _)
 .obtain rfl:=rZ.isNil (hb rfl);obtain rfl:=mV h;exact EI [] (rZ.imm [])
def dx(s:List DBox):Option (List DBox):=aT 32 [] s
theorem uM:rX prog gl (dx s) 216 [aE cz s] 209 cz:=λr h=>by
 unfold dx at h;refine OW func216 ?_;refine pO 1100 (s0 8 gl [(0,aE cz s)] [] 0 0) [] [] ?_;refine IA 0 3 4 39 209 rfl (gX aH) (gX aH) λb hb=>?_;cases b
 .exact EI [eu 7 f9 h] (f9.imm _)
 .obtain rfl:=f9.isNil (hb rfl);obtain rfl:=mV h;exact EI [] (f9.imm [])
def gt(s:List DNode):Option (List DNode):=aT 32 [] s
theorem tk{s:List DNode}:rX prog gl (gt s) 217 [aE bY s] 96 bY:=λr h=>by
 unfold gt at h;refine OW func217 ?_;refine pO 1100 (s0 8 gl [(0,aE bY s)] [] 0 0) [] [] ?_;refine IA 0 3 4 33 96 rfl (gX aH) (gX aH) λb hb=>?_;cases b
 .exact EI [eu 7 bZ h] (bZ.imm _)
 .obtain rfl:=bZ.isNil (hb rfl);obtain rfl:=mV h;exact EI [] (bZ.imm [])
def fu(s:List DSealed):Option (List DSealed):=aT 48 [] s
theorem qb{s:List DSealed}:rX prog gl (fu s) 218 [aE bp s] 238 bp:=λr h=>by
 unfold fu at h;refine OW func218 ?_;refine pO 1100 (s0 8 gl [(0,aE bp s)] [] 0 0) [] [] ?_;refine IA 0 3 4 40 238 rfl (gX aH) (gX aH) λb hb=>?_;cases b
 .exact EI [eu 7 bH h] (bH.imm _)
 .obtain rfl:=bH.isNil (hb rfl);obtain rfl:=mV h;exact EI [] (bH.imm [])
def jC(b:List DSealed)(a:List DSealed×Int):Option ((List DSealed×Int)⊕(List DSealed)):=
 bif decide (a.2<ah b) then((aS a.1 a.2).bind λc=>(gI c.Body).bind λd=>(aS a.1 a.2).bind λe=>(ji a.1 a.2 ({e with Body:=d})).bind λf=>some (.inl (f,wI (a.2+1)))) else(some (.inr a.1))
def jD(b:List DNode)(a:List DNode×Int):Option ((List DNode×Int)⊕(List DNode)):=
 bif decide (a.2<ah b) then((aS a.1 a.2).bind λc=>(dx c.Boxes).bind λd=>(aS a.1 a.2).bind λe=>(ji a.1 a.2 ({e with Boxes:=d})).bind λf=>some (.inl (f,wI (a.2+1)))) else(some (.inr a.1))
def pG(o:DOp):Option DOp:=
 (cU o.Past).bind λe=>(gI o.Body).bind λf=>(dK o.Refs).bind λg=>(fF o.Guards).bind λh=>(dx o.Boxes).bind λi=>(gt o.Path).bind λa=>(fu o.Hist).bind λb=>(bo (jD a) (a,0)).bind λc=>(bo (jC b) (b,0)).bind λd=>some ({o with Past:=e,Path:=c,Body:=f,Refs:=g,Guards:=h,Boxes:=i,Hist:=d})
theorem Ds{o}:eP prog gl (pG o) 126 [.agg (aJ o)] (λr=> .agg (aJ r)):=
 cy func126 λK=>mH 7 ac (jY gl) λl=>mH 10 rY (tj gl) λm=>mH 13 rW (p9 gl) λn=>mH 16 rZ (uK gl) λp=>mH 19 f9 (uM gl) λq=>ak λe s=>ak λa t=>aw [hz 27 [] (DE (c:=2) aH (tk gl s) (eB aH) (bZ.imm e)),hz 30 [] (DE (c:=3) aH (qb gl t) (eB aH) (bH.imm a))]<|lS 111101 (λf=>sp [] [(1,.ref 0 0),(2,.ref 2 0)] [ob 0 44 [iG o.By,iG o.Seq,iG o.Kind,iG o.At,aE aj l,iG o.Device,iG o.Old,iG o.Member,iG o.Role,aE bY f,iG o.Epoch.By,iG o.Epoch.Seq,uG o.Epoch.Sum,iG o.N,aE cY m,aE cW n,iG o.Of.By,iG o.Of.Seq,uG o.Of.Sum,aE cZ p,iG o.Need,iG o.Wait,aE cz q,uG o.Pub,.rsl 1 0 a.length,uG o.Sig.R,uG o.Sig.S],ob 1 238 (a.flatMap bp),ob 2 44 (bF [4,9,14,15,19,22,24] (aJ ip))] 3) (λb=>sp [] [(1,.ref 0 0),(2,.ref 3 0),(35,iG (ah e)),(36,iG b.2)] [ob 0 44 [iG o.By,iG o.Seq,iG o.Kind,iG o.At,aE aj l,iG o.Device,iG o.Old,iG o.Member,iG o.Role,.rsl 1 0 b.1.length,iG o.Epoch.By,iG o.Epoch.Seq,uG o.Epoch.Sum,iG o.N,aE cY m,aE cW n,iG o.Of.By,iG o.Of.Seq,uG o.Of.Sum,aE cZ p,iG o.Need,iG o.Wait,aE cz q,uG o.Pub,.rsl 2 0 a.length,uG o.Sig.R,uG o.Sig.S],ob 1 96 (b.1.flatMap bY),ob 2 238 (a.flatMap bp),ob 3 44 (bF [4,9,14,15,19,22,24] (aJ ip))] 4) [hc (el e),hc (el a),hc (bZ.imm e),hc (bH.imm a)] (λf=>lS 1111101 (λi=>sx [] [(2,.ref 1 0)] [ob 0 44 (aJ ({o with Past:=l,Path:=f,Body:=m,Refs:=n,Guards:=p,Boxes:=q,Hist:=i})),ob 1 44 (bF [4,9,14,15,19,22,24] (aJ ip))] 2) (λd=>so [] [(54,iG (ah a)),(55,iG d.2)] [ob 0 44 [iG o.By,iG o.Seq,iG o.Kind,iG o.At,aE aj l,iG o.Device,iG o.Old,iG o.Member,iG o.Role,aE bY f,iG o.Epoch.By,iG o.Epoch.Seq,uG o.Epoch.Sum,iG o.N,aE cY m,aE cW n,iG o.Of.By,iG o.Of.Seq,uG o.Of.Sum,aE cZ p,iG o.Need,iG o.Wait,aE cz q,uG o.Pub,.rsl 1 0 d.1.length,uG o.Sig.R,uG o.Sig.S],ob 1 238 (d.1.flatMap bp)] 3) (fx bH a) (λi=>rv K) λd u v=>aF 56 (dV 64 (bH.ixrZ 1) 66 (bH.fd0Y tLY 3) λC=>mH 67 rY (tj gl) λw=>ak λD x=>ak λj g=>aw [hw 69 (j.flatMap bp) (bH.putF g x 3 1 (gs:=[aE cY w]) rfl dL rfl),bR 68 (bH.ixsZ 1 g)]<|cj u [hc (hZ g),hc (bH.imm j)])<|aA c1 v [hc (bH.al d.1)]) λb y z=>aF 37 (dV 45 (bZ.ixrZ 1) 47 (bZ.fd0Y E3 1) λE=>mH 48 f9 (uM gl) λA=>ak λF B=>ak λk h=>aw [hw 50 (k.flatMap bY) (bZ.putF h B 1 1 (gs:=[aE cz A]) rfl dL rfl),bR 49 (bZ.ixsZ 1 h)]<|cj y [hc (hZ h),hc (el a),hc (bZ.imm k),hc (bH.imm a)])<|aA c1 z [hc (bZ.al b.1),hc (el a),hc (bH.imm a)]
def gK(s:List DCard):Option (List DCard):=aT 40 [] s
theorem tn{s:List DCard}:rX prog gl (gK s) 122 [aE bv s] 106 bv:=λr h=>by
 unfold gK at h;refine OW func122 ?_;refine pO 1100 (s0 8 gl [(0,aE bv s)] [] 0 0) [] [] ?_;refine IA 0 3 4 24 106 rfl (gX aH) (gX aH) λb hb=>?_;cases b
 .exact EI [eu 7 bT h] (bT.imm _)
 .obtain rfl:=bT.isNil (hb rfl);obtain rfl:=mV h;exact EI [] (bT.imm [])
def oW(f:DRankRow)(a:DIdent)(b:DIdent):Option Int:=
 (pE a b).bind λg=>(bif g then(some (-1)) else((pE b a).bind λc=>(bif c then(some 1) else(some 0)).bind λd=>some d)).bind λh=>(gG f.Graph a).bind λi=>(gG f.Graph b).bind λj=>(f8 i j).bind λk=>(iy ([k,h]:List Int)).bind λe=>some e
theorem yL{r_ a b}:eP prog gl (oW r_ a b) 247 [.agg (sB r_),.agg (aj a),.agg (aj b)] iG:=
 cy func247 λK=>dI 11 (sF gl) λj=>cN 111021 (sp [] [(3,.ref 0 0),(4,.ref 1 0),(5,.ref 2 0),(7,iG 0),(8,bG j)] [ob 0 313 (sB r_),ob 1 36 (aj a),ob 2 36 (aj b)] 3) []<|cC 111021 (λe=>sf [8] [(7,iG e)]) (λe=>dI 19 (kR gl) λm=>dI 23 (kR gl) λn=>dI 24 (mQ gl) λi=>ak λk h=>aw [hq 27 [aE cZ ([i,e]:List Int)] [hc (rZ.al ([i,e]:List Int))] (FT gl h)]<|rv K) λe k13=>eH [8] (rx k13)<|ak λl f=>cC 11102141 (λc=>sf [8] [(7,iG c)]) (λc=>rx k13) λc g=>kV (λd=>aw [hf 15 (cF (sF gl f) d)]<|rx g) λd=>aw [hf 15 (cF (sF gl f) d)]<|rx g
def BU(a:DForkFork)(b:DForkFork):Option Int:=
 (f8 a.Device b.Device).bind λc=>some c
theorem DT{a b}:eP prog gl (BU a b) 68 [.agg (da a),.agg (da b)] iG:=
 cy func68 λK=>dI 9 (mQ gl) λc=>rv K
end
section
set_option maxHeartbeats 2000000
attribute [local irreducible] Tr dz Gp
theorem gS{s:List DIdent}{f:DIdent->Option Bool}(a:FnV prog gl fi_f fa_f fc_f (λx:DIdent=>[.agg (aj x)]) (λx:Bool=>bG x) f):eP prog gl (yj s f) 258 [aE aj s,.clo (.func fi_f) fa_f fc_f] iG:=
 cy func258 λK=>uy 1101 (λg=>sg [] []) (λs1=>sf [] [(7,iG (ah s)),(8,iG s1)]) [hc (a.im)] K (λg=>rv K) λs1 k5 h k6=>aF 9 (dV 14 ac.ixZ 15 (ac.ptZ aW) λd=>ak λi e=>kV (λb=>aw [hz 16 [] (cS (a.cs (c:=0) e (aY (aG 20 (.agg (aj d)) aH) (bf))) b)]<|aP c3 k6 []) λb=>aw [hz 16 [] (cS (a.cs (c:=0) e (aY (aG 20 (.agg (aj d)) aH) (bf))) b)]<|cj k5 [hc (a.im)])<|aA c2 h []
def BW(a:DRollRoll)(device:Int):Option Int:=
 some ((fD (a.cards.get device)).Member)
theorem vn{r_ device}:eP prog gl (BW r_ device) 77 [.ptr (dY r_) 0,iG device] iG:=
 cy func77 λK=>aw [hm 10 (KF r_.cards device)]<|rv K
def BX(b:Int)(y:Int):Option Bool:=
 ((g7 b).bind λc=>bif c then((g7 y).bind λa=>bif(!a) then(some true) else(some (decide (b<y)))) else(some (decide (b<y)))).bind λd=>some d
theorem DV{x_ y}:eP prog gl (BX x_ y) 312 [iG x_,iG y] bG:=
 cy func312 λK=>cN [1,0] (sf [] []) []<|cC [1,0] (λa=>sg [] [(4,bG a)]) (λa=>rv K) λa k5=>ak λd e8=>kV (λb=>dI 9 (dw gl) λc=>aw [hf 6 (cF (dw gl e8) b)]<|aF 11 (rx k5)<|rx k5) λb=>aw [hf 6 (cF (dw gl e8) b)]<|rx k5
def vr(a:DRollRoll)(device:Int):Option Bool:=
 ((BW a device).bind λb=>bif decide (0<b) then(some (!(kN (a.was.get device)))) else(some false)).bind λc=>some c
theorem AA{r_ device}:eP prog gl (vr r_ device) 78 [.ptr (dY r_) 0,iG device] bG:=
 cy func78 λK=>cN [1,0] (sf [] []) []<|cC [1,0] (λa=>sg [] [(4,bG a)]) (λa=>rv K) λa k5=>dI 7 (vn gl) λb=>aF 8 (aw [hm 15 (Ad r_.was device)]<|rx k5)<|rx k5
def HA{α:Type}[DecidableEq α](s:List α)(v:α)(s1:Int):Option ((Int)⊕(Unit⊕Int)):=
 bif decide (s1<ah s) then((aS s s1).bind λa=>bif decide (v=a) then(some (.inr (.inr s1))) else(some (.inl (wI (s1+1))))) else(some (.inr (.inl ())))
def ixT{α:Type}[DecidableEq α](s:List α)(v:α):Option Int:=
 (bo (HA s v) 0).bind λa=>ma a (λb=>some (-1)) (λq=>some q)
theorem yQ{s v}:eP prog gl (ixT s v) 88 [aE cZ s,iG v] iG:=
 cy func88 λK=>uy 1101 (λa=>sg [] []) (λs1=>sf [] [(7,iG (ah s)),(8,iG s1)]) [] K (λa=>rv K) λs1 k5 b k6=>aF 9 (dV 14 rZ.ixZ 15 (rZ.p1Y tZ) λc=>aF 16 (aP c3 k6 [])<|rb k5)<|aA c2 b []
def Su{α:Type}[DecidableEq α](s:List α)(v:α):Option Bool:=
 (ixT s v).bind λa=>some (decide (0<=a))
theorem fG{s v}:eP prog gl (Su s v) 35 [aE cZ s,iG v] bG:=
 cy func35 λK=>dI 7 (yQ gl) λa=>rv K
def DW(kind:Int):Option Bool:=
 (bif decide (kind=3) then(some true) else(bif decide (kind=13) then(some true) else(some (decide (kind=12))))).bind λa=>some a
theorem FI{kind}:eP prog gl (DW kind) 234 [iG kind] bG:=
 cy func234 λK=>cN [1,0] (sf [] []) []<|cC [1,0] (λa=>sg [] [(2,bG a)]) (λa=>rv K) λa k3=>aF 4 (rx k3)<|aF 8 (rx k3)<|rx k3
def AB(a:DIdent)(a1:DAuthList):Option Bool:=
 some (bU (a1.void.get a))
theorem vM{id_ a1}:eP prog gl (AB id_ a1) 235 [.agg (aj id_),.ptr [.ptr (dF a1) 0] 0] bG:=
 cy func235 λK=>aw [hm 9 (Aj a1.void id_)]<|rv K
theorem vN{s v}:eP prog gl (ixT s v) 136 [aE aj s,.agg (aj v)] iG:=
 cy func136 λK=>uy 1101 (λc=>sg [] []) (λs1=>so [1] [(3,.ref 0 0),(7,iG (ah s)),(8,iG s1)] [ob 0 36 (aj v)] 1) [] K (λc=>rv K) λs1 k5 d k6=>aF 9 (dV 14 ac.ixZ 15 (ac.ptZ aW) λb=>kV (λa=>aw [hV 16 (cV (dU v b rfl) a)]<|aP c3 k6 []) λa=>aw [hV 16 (cV (dU v b rfl) a)]<|rb k5)<|aA c2 d []
theorem mj{s v}:eP prog gl (Su s v) 65 [aE aj s,.agg (aj v)] bG:=
 cy func65 λK=>dI 7 (vN gl) λa=>rv K
def ij(g:DGraphGraph)(device:Int)(s1:DCard×Int):Option ((DCard×Int)⊕(DCard⊕(DCard×Bool))):=
 bif decide (s1.2<ah g.cards) then((aS g.cards s1.2).bind λa=>bif decide (a.Device=device) then(some (.inr (.inr (a,true)))) else(some (.inl (s1.1,wI (s1.2+1))))) else(some (.inr (.inl s1.1)))
def hY(g:DGraphGraph)(device:Int):Option (DCard×Bool):=
 (bo (ij g device) (⟨0,0,0,0,0⟩,0)).bind λa=>ma a (λb=>some (⟨0,0,0,0,0⟩,false)) (λq=>some q)
theorem uN{g device}:eP prog gl (hY g device) 127 [.ptr (av g) 0,iG device] (λr=> .tup [.agg (bv r.1),bG r.2]):=
 cy func127 λK=>uy 1101 (λa=>sp [] [(4,.ref 0 0)] [ob 0 106 (bv a)] 1) (λs1=>so [0] [(4,.ref 0 0),(11,aE bv g.cards),(12,iG (ah g.cards)),(13,iG s1.2)] [ob 0 106 (bv s1.1)] 1) [] K (λa=>rv K) λs1 k5 b k6=>aF 14 (dV 15 bT.ixZ 16 (bT.ptZ E2) λc=>aF 20 (aP c3 k6 [])<|rb k5)<|aA c2 b []
theorem kP{s:List DIdent}{f:DIdent->Option Bool}(a:FnV prog gl fi_f fa_f fc_f (λx:DIdent=>[.agg (aj x)]) (λx:Bool=>bG x) f):eP prog gl (Az s f) 196 [aE aj s,.clo (.func fi_f) fa_f fc_f] bG:=
 cy func196 λK=>ak λb e2=>aw [hz 7 [] (jf (c:=0) aH (gS gl (a) e2) (aY (aG 20 (aE aj s) aH) (aY (a.im) (bf))))]<|rv K
def Kp(a:DCard)(b:DCard):Option Int:=
 some (wI (a.Device-b.Device))
theorem Dt{a b}:eP prog gl (Kp a b) 124 [.agg (bv a),.agg (bv b)] iG:=
 cy func124 λK=>rv K
def FV(n:Int)(low:Int)(a:Int):Option Bool:=
 (bif decide (low<=n) then(some (decide (n<=a))) else(some false)).bind λb=>some b
theorem eE{n low a}:eP prog gl (FV n low a) 275 [iG n,iG low,iG a] bG:=
 cy func275 λK=>cN [1,0] (sf [] []) []<|cC [1,0] (λb=>sg [] [(6,bG b)]) (λb=>rv K) λb k3=>aF 9 (rx k3)<|rx k3
def Kq(n:Nat):Option Bool:=
 some (decide ((n:Int)<((2305843009213693951:Nat):Int)))
theorem Ak{n}:eP prog gl (Kq n) 285 [uG n] bG:=
 cy func285 λK=>rv K
def Al(a:DIdent):Option Bool:=
 ((FV a.By 1 12).bind λd=>bif d then((FV a.Seq 1 2147483647).bind λb=>bif b then((Kq a.Sum).bind λc=>some c) else(some false)) else(some false)).bind λe=>some e
theorem pH{id_}:eP prog gl (Al id_) 276 [.agg (aj id_)] bG:=
 cy func276 λK=>cN [1,0] (sp [] [(1,.ref 0 0)] [ob 0 36 (aj id_)] 1) []<|cC [1,0] (λa=>sk [] [(2,bG a)] [] 0) (λa=>rv K) λa k5=>ak λe e8=>kV (λb=>dI 9 (eE gl) λc=>aw [hf 5 (cF (eE gl e8) b)]<|aF 10 (dI 14 (Ak gl) λd=>rx k5)<|rx k5) λb=>aw [hf 5 (cF (eE gl e8) b)]<|rx k5
def rJ(n:Nat):Option Bool:=
 (bif decide (((1:Nat):Int)<=(n:Int)) then(some (decide ((n:Int)<((2305843009213693951:Nat):Int)))) else(some false)).bind λa=>some a
theorem iz{n}:eP prog gl (rJ n) 277 [uG n] bG:=
 cy func277 λK=>cN [1,0] (sf [] []) []<|cC [1,0] (λa=>sg [] [(2,bG a)]) (λa=>rv K) λa k3=>aF 4 (rx k3)<|rx k3
theorem pI{f:DBox->Option Bool}(a:FnV prog gl fi_f fa_f fc_f (λx:DBox=>[.agg (cz x)]) (λx:Bool=>bG x) f):eP prog gl (yj s f) 358 [aE cz s,.clo (.func fi_f) fa_f fc_f] iG:=
 cy func358 λK=>uy 1101 (λg=>sg [] []) (λs1=>sf [] [(7,iG (ah s)),(8,iG s1)]) [hc (a.im)] K (λg=>rv K) λs1 k5 h k6=>aF 9 (dV 14 f9.ixZ 15 (f9.ptZ UL) λd=>ak λi e=>kV (λb=>aw [hz 16 [] (cS (a.cs (c:=0) e (aY (aG 20 (.agg (cz d)) aH) (bf))) b)]<|aP c3 k6 []) λb=>aw [hz 16 [] (cS (a.cs (c:=0) e (aY (aG 20 (.agg (cz d)) aH) (bf))) b)]<|cj k5 [hc (a.im)])<|aA c2 h []
theorem q9{f:DBox->Option Bool}(a:FnV prog gl fi_f fa_f fc_f (λx:DBox=>[.agg (cz x)]) (λx:Bool=>bG x) f):eP prog gl (Az s f) 336 [aE cz s,.clo (.func fi_f) fa_f fc_f] bG:=
 cy func336 λK=>ak λb e2=>aw [hz 7 [] (jf (c:=0) aH (pI gl (a) e2) (aY (aG 20 (aE cz s) aH) (aY (a.im) (bf))))]<|rv K
end
section
variable {P:Program} {l:List Oper} {cx:Cx} {Q:Exit->Act->World->Prop}
theorem R7{L:Array Bool}(hi:i<L.size):(L.setIfInBounds i true).getD j false=if i=j then true else L.getD j false:=by simp only[Array.getD_eq_getD_getElem?,Array.getElem?_setIfInBounds];grind
abbrev Dn:=Nat->Bool
def dn(L:Array Bool):Dn:=λi=>L.getD i false
def Dn.add(D:Dn)(j:Nat):Dn:=λi=>if j=i then true else D i
theorem PS{I:Dn->St->Prop}(hg:∀(j:Nat) (o:Oper),l[j]?=some o->o.guard=none)
  (c:∀(j:Nat) (o:Oper),l[j]?=some o->∀e∈o.after,Region.binds .any e=true->e.on<j)
  (hs:∀(D:Dn) (s:St) (j:Nat) (o:Oper),I D s->l[j]?=some o->D j=false->(∀e∈o.after,Region.binds .any e=true->D e.on=true)->th P o s (λs'=>I (D.add j) s'))
  (hq:∀D s a w,I D s->(∀j,j<l.length->D j=true)->mh P cx s a w->Q .normal a w):
  ∀(fuel:Nat) (L:Array Bool) (a:Act) (w:World) (s:St),L.toList.count false<=fuel->L.size=l.length->I (dn L) s->mh P cx s a w->wpAnyIn cx.F cx.nn P .any l.toArray Q fuel L a w:=by
 have empty:∀(L:Array Bool),L.size=l.length->Region.ready .any l.toArray L=[]->∀j,j<l.length->L.getD j false=true:=by
  intro L hsz hr j;induction j using Nat.strongRecOn with
  |_ j ih=>
   intro hj;cases h:L.getD j false with
   |true=>rfl
   |false=>
    have:j∈Region.ready .any l.toArray L:=by rw[mem_ready];have ho:l[j]?=some (l[j]'hj):=fy hj;grind
    grind
 intro fuel
 induction fuel with
 |zero=>
  intro L a w s hc hsz hI R
  have hall:∀j,j<l.length->L.getD j false=true:=by
   intro j hj;have hs:j<L.size:=by grind
   have h0:L.toList.count false=0:=aa;rw[List.count_eq_zero] at h0;cases h:L.getD j false with
   |true=>rfl
   |false=>simp[hs] at h;grind
  refine⟨?_,hq _ s a w hI hall R⟩
  cases hr:Region.ready .any l.toArray L with
  |nil=>rfl
  |cons x xs=>
   have hx:x∈Region.ready .any l.toArray L:=by rw[hr];simp
   grind [mem_ready]
 |succ fuel ih=>
  intro L a w s hc hsz hI R
  refine⟨λhr=>hq _ s a w hI (empty L hsz hr) R,λj hj=>?_⟩
  obtain⟨h1,o,ho',hr⟩:=mem_ready.1 hj
  have ho:l[j]?=some o:=by grind
  have hjl:=(cr ho).1
  have hs':j<L.size:=by grind
  have hL:L.getD j false=false:=by grind
  have hcnt:(L.setIfInBounds j true).toList.count false<=fuel:=by have:=G8 L.toList j (by simp_all);grind
  have hD:dn (L.setIfInBounds j true)=(dn L).add j:=by funext i;exact R7 hs'
  unfold wpOpIn
  simp only[ho']
  obtain⟨β,rb⟩:=R
  have hw:ce s l.toArray o=some true:=by grind [ce]
  rw[if_pos (cT rb hw)]
  refine hs (dn L) s j o hI ho hL hr cx a w _ Q ⟨β,rb⟩ λs' b a' w' r'=>?_
  exact ih _ a' w' s' hcnt (by simp[hsz]) (by rw[hD];exact b) r'
theorem Fu{id:Nat}{Q:Exit->St->Prop}(hm:P.follows .mixedOrders=true)(I:Dn->St->Prop)(hg:∀(j:Nat) (o:Oper),l[j]?=some o->o.guard=none)
  (b:∀(j:Nat) (o:Oper),l[j]?=some o->∀e∈o.after,Region.binds .any e=true->e.on<j) (h0:I (λ_=>false) st)
  (hs:∀(D:Dn) (s:St) (j:Nat) (o:Oper),I D s->l[j]?=some o->D j=false->(∀e∈o.after,Region.binds .any e=true->D e.on=true)->th P o s (λs'=>I (D.add j) s'))
  (hq:∀D s,I D s->(∀j,j<l.length->D j=true)->Q .normal s):Tr P (.region id l.toArray true) st Q:=λcx a w R ⟨β,r⟩ k=>by
 refine wpIn_region_any hm ?_
 have hr:RelB P cx st a {w with drawn:=w.drawn+1} β:=by grind [RelB.world,Keeps]
 have hno:dn (Array.replicate l.toArray.size false)=λ_=>false:=by funext i;show(Array.replicate l.toArray.size false).getD i false=false;rw[Array.getD_eq_getD_getElem?];grind
 refine PS (cx:=cx) (I:=I) hg b hs (by grind) _ _ _ _ st ?_ aC (by grind) ⟨β,hr⟩
 simp
end
section
variable {P:Program}
def rk(o:Oper)(t:Tmp):Bool:=match o.dst with
 |some d=>Nat.beq d t
 |none=>false
theorem xJ{t:Tmp}:rk o t=true↔o.dst=some t:=by grind [rk,bc,Nat.beq_refl]
def PT(l:List Oper)(i:Nat)(t:Tmp):Bool:=match l[i]? with
 |some o=>rk o t
 |none=>false
theorem JY{t:Tmp}(h:PT l i t=true):bX l i=some t:=by grind [PT,bX,xJ]
def rl(o:Oper):Option Value:=match o.op with
 | .insert _ _ (.const k) _=>some k
 |_=>none
def Fx(d:TypeDesc)(a b:Value):Bool:=match Instr.sameNow d a b with
 |some false=>true
 |_=>false
theorem yN{d:TypeDesc}{a b:Value}(h:Fx d a b=true):Instr.sameNow d a b=some false:=by grind [Fx]
def LY(d:TypeDesc)(o a:Oper):Bool:=match rl o,rl a with
 |some k,some k'=>Fx d k k'&&Fx d k' k
 |_,_=>true
def rn(d:TypeDesc):List Oper->Bool
 |[]=>true
 |o::r=>r.all (LY d o)&&rn d r
theorem tD{d:TypeDesc}:∀{l:List Oper},rn d l=true->∀(i j:Nat) (o a:Oper) (k k':Value),i≠j->l[i]?=some o->l[j]?=some a->rl o=some k->rl a=some k'->Instr.sameNow d k k'=some false
 |[],_,i,j,o,a,k,k',_,h,_,_,_=>by cases h
 |x::r,h,i,j,o,a,k,k',hne,hi,hj,hk,hk'=>by
  simp only[rn,bA] at h;have key:∀(i:Nat) (a:Oper) (k k':Value),r[i]?=some a->rl x=some k->rl a=some k'->Instr.sameNow d k k'=some false/\Instr.sameNow d k' k=some false:=by intro i a k k' hi hk hk';have:=List.all_eq_true.1 h.1 a (bO hi);grind [LY,yN]
  cases i with
  |zero=>grind
  |succ i=>
   cases j with
   |zero=>grind
   |succ j=>exact tD h.2 i j o a k k' aa (by grind) (by grind) hk hk'
def BD:List Oper->Bool
 |[]=>true
 |o::r=>(match o.dst with
  |some d=>r.all λa=> !rk a d
  |none=>true)&&BD r
def PU(l:List Oper)(o:Oper):Operand->Bool
 | .tmp t=>(o.after.toList.any λe=>Region.binds .any e&&PT l e.on t)||l.all λa=> !rk a t
 |_=>true
theorem fJ(h:p8 o i=true):∃e∈o.after,Region.binds .any e=true/\e.on=i:=by obtain⟨e,he,hb⟩:=List.any_eq_true.1 h;simp only[bA] at hb;exact⟨e,by simpa using he,hb.1,bc hb.2⟩
def wh(o:Oper):Nat->Bool
 |0=>true
 |n+1=>p8 o n&&wh o n
theorem tE{o:Oper}:∀{n:Nat},wh o n=true->∀i,i<n->p8 o i=true
 |n+1,h,i,hi=>by
  simp only[wh,bA] at h;rcases Nat.lt_or_ge i n with h1|h1
  .exact tE h.2 i h1
  grind
def VD(P:Program)(n:Nat)(T kt:TypeId)(l:List Oper)(N1:Nat)(j:Nat)(o:Oper):Bool:=
 o.guard.isNone&&(o.after.toList.all λe=> !Region.binds .any e||Nat.blt e.on j)&&pj n o.dst&&(o.op.operands.toList.all (PU l o))&&(match o.op with
 | .makeMap t none=>Nat.beq j 0&&Nat.beq t T&&o.dst.isSome
 | .insert t _ (.const k) _=>Nat.beq t T&&o.dst.isNone&&p8 o 0&&rB P false kt k&&(match k with
  | .int .. =>true
  |_=>false)
 | .range t _=>Nat.beq j N1&&Nat.beq t T&&o.dst.isSome&&p8 o (N1-1)
 | .makeMap .. | .insert .. =>false
 |_=>o.dst.isSome)
def LZ(P:Program)(n:Nat)(T kt:TypeId)(l:List Oper)(N1:Nat):Nat->List Oper->Bool
 |_,[]=>true
 |j,o::r=>VD P n T kt l N1 j o&&LZ P n T kt l N1 (j+1) r
theorem BE{n:Nat}{T kt:TypeId}{l:List Oper}{N1:Nat}:∀{m:List Oper} {j:Nat},LZ P n T kt l N1 j m=true->∀(i:Nat) (o:Oper),m[i]?=some o->VD P n T kt l N1 (j+i) o=true
 |[],j,_,i,o,h=>by cases h
 |x::r,j,h,i,o,hi=>by
  simp only[LZ,bA] at h;cases i with
  |zero=>grind
  |succ i=>have:=BE h.2 i o (by grind);grind
def wi(o:Oper):Bool:=match o.op with
 | .makeMap _ none=>true
 |_=>false
def HF(o:Oper):Bool:=match o.op with
 | .range .. =>true
 |_=>false
def JZ(P:Program)(n:Nat)(T kt et:TypeId)(l:List Oper)(N1:Nat):Bool:=
 (match pB P T with
 |some (k,e)=>Nat.beq k kt&&Nat.beq e et
 |none=>false)&&(match P.underlying kt with
 |some d=>rn d l
 |none=>false)&&BD l&&LZ P n T kt l N1 0 l&&Nat.beq l.length (N1+1)&&Nat.blt 0 N1&&(match l[0]?,l[N1]? with
 |some o,some o'=>wi o&&HF o'
 |_,_=>false)&&(match l[N1-1]? with
 |some o=>wh o (N1-1)
 |none=>false)
def VE(P:Program)(a:St)(mi:Nat)(o:Oper):Prop:=∃d,o.dst=some d/\∀s:St,s.n=a.n->s.gl=a.gl->s.pr=a.pr->(∀x∈o.op.operands,aB s x=aB a x)->(∀i,i≠mi->i≠mi+1->ag s.σ i=ag a.σ i)->GS P o s (s.put (some d) (aD a.fr d))
def lN(P:Program)(a:St)(mi:Nat)(o:Oper):Prop:=match o.op with
 | .makeMap .. =>(match o.dst with
  |some d=>iF 16 (aD a.fr d) (.mref mi)
  |none=>false)=true
 | .insert _ x _ _=>iF 16 (aB a x) (.mref mi)=true
 | .range _ x=>(iF 16 (aB a x) (.mref mi)&&(match o.dst with
  |some d=>iF 16 (aD a.fr d) (.ref (mi+1) 0)
  |none=>false))=true
 |_=>VE P a mi o
def mM(a:St)(o:Oper):Option (Value×G):=match o.op with
 | .insert _ _ (.const k) y=>some (k,aB a y)
 |_=>none
structure MapOf (ents:List (Value×G)) (es:List (Value×G×Nat)) (clock:Nat):Prop where
 sub:∀e∈es,(e.1,e.2.1)∈ents
 sup:∀q∈ents,∃n,(q.1,q.2,n)∈es
 lt:∀e∈es,e.2.2<clock
 nd:(es.map (·.2.2)).Nodup
section lit
variable {l:List Oper} {st:St} {T kt et:TypeId} {N1:Nat} {vals:Fr}
abbrev iH(st:St)(vals:Fr):St:={st with fr:=vals++st.fr}
structure MInv (st:St) (T:TypeId) (l:List Oper) (N1:Nat) (vals:Fr) (D:Dn) (s:St):Prop where
 n:s.n=st.n
 gl:s.gl=st.gl
 pr:s.pr=st.pr
 f1:∀j t,D j=true->bX l j=some t->aD s.fr t=aD (iH st vals).fr t
 f2:∀t,(∀j,D j=true->bX l j≠some t)->aD s.fr t=aD st.fr t
 σ:∀i,i≠st.c->i≠st.c+1->ag s.σ i=ag st.σ i
 c:s.c=if D N1 then st.c+2 else if D 0 then st.c+1 else st.c
 ins:∀j o q,D j=true->l[j]?=some o->mM (iH st vals) o=some q->D 0=true
 last:D N1=true->∀j,j<N1->D j=true
 pen:D (N1-1)=true->∀j,j<N1-1->D j=true
 m:D 0=true->∃es clock,ag s.σ st.c=some ⟨T,[],some (.map es clock)⟩/\(∀e∈es,∃j o,D j=true/\l[j]?=some o/\mM (iH st vals) o=some (e.1,e.2.1))/\(∀j o q,D j=true->l[j]?=some o->mM (iH st vals) o=some q->∃n,(q.1,q.2,n)∈es)/\(∀e∈es,e.2.2<clock)/\(es.map (·.2.2)).Nodup/\
  (D N1=true->ag s.σ (st.c+1)=some ⟨T,[],some (.iter (some st.c) clock [] clock)⟩)
theorem BF(s:St)(d:Option Tmp)(g:G):(s.put d g).σ=s.σ/\(s.put d g).c=s.c/\(s.put d g).n=s.n/\(s.put d g).gl=s.gl/\(s.put d g).pr=s.pr:=by cases d<;>exact⟨rfl,rfl,rfl,rfl,rfl⟩
theorem HG(s:St)(d:Option Tmp)(g:G)(t:Tmp):aD (s.put d g).fr t=if d=some t then g else aD s.fr t:=by cases d<;>grind [St.put]
theorem L1{d:TypeDesc}{k:Value}:∀{ks:List Value} {n:Nat},(∀u∈ks,Instr.sameNow d k u=some false)->B6 d k ks n=some none
 |[],n,h=>rfl
 |u::r,n,h=>by unfold B6;rw[h u aC];exact L1 (by grind)
theorem tF{D:Dn}(h:D i=true):D.add j i=true:=by grind [Dn.add]
theorem HH{D:Dn}:D.add j j=true:=by simp[Dn.add]
theorem N9{D:Dn}(h:D.add j i=true):i=j\/D i=true:=by grind [Dn.add]
theorem ro{D:Dn}(h:i≠j):D.add j i=D i:=by grind [Dn.add]
theorem MInv.frames{D:Dn}{s:St}(h:MInv st T l N1 vals D s)(hp:BD l=true){j:Nat}{o:Oper}(ho:l[j]?=some o){g:G}(hg:∀t,o.dst=some t->g=aD (iH st vals).fr t)(s':St)(hs:s'.fr=s.fr):
  (∀i t,D.add j i=true->bX l i=some t->aD (s'.put o.dst g).fr t=aD (iH st vals).fr t)/\∀t,(∀i,D.add j i=true->bX l i≠some t)->aD (s'.put o.dst g).fr t=aD st.fr t:=by
 refine⟨λi t hi ht=>?_,λt ht=>?_⟩
 .grind [HG,N9,bX,f1]
 .rw[HG,hs,if_neg (λe=>ht j HH (by simp[bX,ho,e]))]
  grind [f2,tF]
theorem SR{D:Dn}{s:St}(h:MInv st T l N1 vals D s)(hv:∀q∈vals,∃o∈l,rk o q.1=true)(hr:∀e∈o.after,Region.binds .any e=true->D e.on=true){x:Operand}(hx:PU l o x=true):aB s x=aB (iH st vals) x:=by
 cases x with
 |const v=>rfl
 |global g=>simp only[aB,h.gl]
 |func f=>rfl
 |tmp t=>
  show aD s.fr t=aD (vals++st.fr) t;simp only[PU,Bool.or_eq_true,List.any_eq_true,bA,List.all_eq_true,Bool.not_eq_true'] at hx;rcases hx with⟨e,he,hb,hd⟩|hx
  .exact h.f1 e.on t (by grind) (JY hd)
  .have hn:∀j,bX l j≠some t:=λj hj=>by have hj:(l[j]?).bind (·.dst)=some t:=hj;rw[Option.bind_eq_some_iff] at hj;obtain⟨a,ho',hd'⟩:=hj;have:=hx a (bO ho');grind [xJ]
   rw[h.f2 t (by grind)];have:∀(V:Fr),(∀q∈V,∃o∈l,rk o q.1=true)->aD (V++st.fr) t=aD st.fr t:=by
    intro V;induction V with
    |nil=>intro _;rfl
    |cons q r ih=>
     intro hV;rw[List.cons_append,aO,if_neg (λe=>by obtain⟨a,ho',hd'⟩:=hV q aC;grind)]
     grind
   grind
theorem PV{t:Tmp}(hv:∀q∈vals,∃o∈l,rk o q.1=true)(hn:∀j,bX l j≠some t):aD (vals++st.fr) t=aD st.fr t:=by
 have:∀(V:Fr),(∀q∈V,∃o∈l,rk o q.1=true)->aD (V++st.fr) t=aD st.fr t:=by
  intro V;induction V with
  |nil=>intro _;rfl
  |cons q r ih=>
   intro hV;rw[List.cons_append,aO,if_neg (λe=>by obtain⟨a,ho',hd'⟩:=hV q aC;rw[e] at hd';obtain⟨j,hj⟩:=List.mem_iff_getElem?.1 ho';exact hn j (by grind [bX,xJ]))]
   grind
 grind
theorem L3{σ:aQ}{T:TypeId}(h:ag σ i=some ⟨T,[],some (.map es clock)⟩):pk σ (.mref i)=some (i,T,es,clock):=by grind [pk]
theorem NA{sA:St}{q:Value×G}(h:mM sA o=some q):rl o=some q.1:=by grind [mM,rl]
theorem J0(hm:P.follows .mixedOrders=true){id:Nat}(hs:JZ P st.n T kt et l N1=true)(hv0:(vals.all λq=>l.any λo=>rk o q.1)=true)(hd:∀o∈l,lN P (iH st vals) st.c o){Q:Exit->St->Prop}
  (hQ:∀es clock,MapOf (l.filterMap (mM (iH st vals))) es clock->Q .normal {st with fr:=vals++st.fr,σ:=(st.c+1,some ⟨T,[],some (.iter (some st.c) clock [] clock)⟩)::(st.c,some ⟨T,[],some (.map es clock)⟩)::st.σ,c:=st.c+2}):Tr P (.region id l.toArray true) st Q:=by
 unfold JZ at hs
 simp only[bA] at hs
 obtain⟨⟨⟨⟨⟨⟨⟨h1,h2⟩,h3⟩,h4⟩,h5⟩,h6⟩,h7⟩,h8⟩:=hs
 have hN0:=bc h5
 have hNp:0<N1:=gX h6
 have hT:pB P T=some (kt,et):=by grind [bc]
 obtain⟨d,S,hkp⟩:∃d,P.underlying kt=some d/\rn d l=true:=by grind
 obtain⟨o0,oN,U,V,hk0,W⟩:∃o0 oN,l[0]?=some o0/\l[N1]?=some oN/\wi o0=true/\HF oN=true:=by grind
 have C:=λj o (ho:l[j]?=some o)=>by have:=BE h4 j o ho;rw[Nat.zero_add] at this;unfold VD at this;simp only[bA] at this;exact this
 have hv:=hv0
 simp only[List.all_eq_true,List.any_eq_true] at hv
 have hval:∀j o,l[j]?=some o->lN P (iH st vals) st.c o:=λj o ho=>hd o (bO ho)
 refine Tr.eqv (Fu hm (MInv st T l N1 vals) (λj o ho=>?_) (λj o ho e he hb=>?_) ?_ (λD s j o I ho hD hre=>?_) (λD s I hall=>?_))
 .have:=(C j o ho).1.1.1.1
  simp_all
 .have:=List.all_eq_true.1 (C j o ho).1.1.1.2 e (by simpa using he)
  simp_all
 .constructor<;>try grind [MInv.m]
 .obtain⟨⟨⟨⟨-,-⟩,X⟩,L⟩,f⟩:=C j o ho
  have hdk':∀d,o.dst=some d->d<s.n:=by rw[I.n];exact zW X
  have hx:∀x∈o.op.operands,aB s x=aB (iH st vals) x:=λx hx=>SR I hv hre (List.all_eq_true.1 L x (by simpa using hx))
  have hjl:j<N1+1:=by grind
  have v:=hval j o ho
  have h0:wi o=false->j≠0:=λh e=>by subst e;rw[U] at ho;cases ho;rw[hk0] at h;cases h
  have hN:HF o=false->j≠N1:=λh e=>by subst e;rw[V] at ho;cases ho;rw[W] at h;cases h
  have hDN:D N1=false:=by grind [MInv]
  have hpen:D.add j (N1-1)=true->∀i,i<N1-1->D.add j i=true:=λh i hi=>by
   rcases N9 h with e|h
   .rw[e,ho] at h8;obtain⟨e',he,hb,z⟩:=fJ (tE h8 i aa);grind [tF]
   grind [tF,MInv.pen]
  obtain⟨w,op,ty,pos,K,gd⟩:=o
  have entj:∀{i:Nat} {p:Oper} {q:Value×G},mM (iH st vals) ⟨w,op,ty,pos,K,gd⟩=none->l[i]?=some p->mM (iH st vals) p=some q->D.add j i=true->D i=true:=λhno ho' hq hi=>by
   rcases N9 hi with rfl|hi
   .rw[ho] at ho';cases ho';rw[hno] at hq;cases hq
   .exact hi
  have value:wi ⟨w,op,ty,pos,K,gd⟩=false->HF ⟨w,op,ty,pos,K,gd⟩=false->mM (iH st vals) ⟨w,op,ty,pos,K,gd⟩=none->VE P (iH st vals) st.c ⟨w,op,ty,pos,K,gd⟩->th P ⟨w,op,ty,pos,K,gd⟩ s (λs'=>MInv st T l N1 vals (D.add j) s'):=by
   intro hk hg hno hvv;obtain⟨d,Y,M⟩:=hvv;obtain rfl:w=some d:=Y;focus
    generalize hgd:aD (iH st vals).fr d=g at M
    refine(M s I.n I.gl I.pr hx I.σ).gsn.eqv λs' hs'=>⟨s',?_,Eqv.refl _⟩
    subst hs'
    obtain⟨f1,f2⟩:=I.frames h3 ho (g:=g) (λt e=>by cases e;exact hgd.symm) s rfl
    have E:=h0 hk
    have A:=hN hg
    obtain⟨F,Z,N,O,R⟩:=BF s (some d) g
    refine{n:=N.trans I.n,gl:=O.trans I.gl,pr:=R.trans I.pr,f1:=f1,f2:=f2,σ:=λi h1 h2=>by rw[F];exact I.σ i h1 h2,c:=by grind [ro,MInv.c],ins:=λi p q hi ho' hq=>tF (I.ins i p q (entj hno ho' hq hi) ho' hq),last:=(λh=>by rw[ro (Ne.symm A),hDN] at h;cases h),pen:=hpen,m:=λh=>?_}
    rw[ro (Ne.symm E)] at h
    obtain⟨es,clock,m1,m2,m3,B,H,m6⟩:=I.m h
    refine⟨es,clock,by grind,λe he=>?_,λi p q hi ho' hq=>m3 i p q (entj hno ho' hq hi) ho' hq,B,H,(λh=>by rw[ro (Ne.symm A),hDN] at h;cases h)⟩
    obtain⟨i,p,hi,ho',hq⟩:=m2 e he
    grind [tF]
  dsimp only at f
  split at f
  ·
   rename_i t
   simp only[bA] at f
   obtain rfl:=bc f.1.1
   obtain rfl:=bc f.1.2
   obtain⟨d,rfl⟩:=Option.isSome_iff_exists.1 f.2
   have hsc:s.c=st.c:=by grind [MInv.c]
   refine(B8 (t:=t) (r:=none) rfl hdk' rfl).gsn.eqv λs' hs'=>⟨s',?_,Eqv.refl _⟩
   subst hs'
   rw[hsc]
   obtain⟨f1,f2⟩:=I.frames h3 ho (g:= .mref st.c) (λt e=>by cases e;unfold lN at v;exact(iR 16 _ _ v).symm) {s with σ:=(st.c,some ⟨t,[],some (.map [] 0)⟩)::s.σ,c:=st.c+1} rfl
   obtain⟨F,Z,N,O,R⟩:=BF {s with σ:=(st.c,some ⟨t,[],some (.map [] 0)⟩)::s.σ,c:=st.c+1} (some d) (.mref st.c)
   have hadd:D.add 0 N1=false:=by grind [ro]
   refine{n:=N.trans I.n,gl:=O.trans I.gl,pr:=R.trans I.pr,f1:=f1,f2:=f2,σ:=λi h1 h2=>?_,c:=by grind [HH],ins:=λi p q hi ho' hq=>HH,last:=(λh=>by rw[hadd] at h;cases h),pen:=hpen,m:=λ_=>?_}
   .grind [MInv.σ]
   .refine⟨[],0,by rw[F,bj,if_pos rfl],(λe he=>by cases he),λi p q hi ho' hq=>?_,(λe he=>by cases he),aC,(λh=>by rw[hadd] at h;cases h)⟩
    have:=I.ins i p q (entj rfl ho' hq hi) ho' hq
    grind
  ·
   rename_i t x k y
   simp only[bA] at f
   obtain⟨⟨⟨⟨k1,k2⟩,k3⟩,k4⟩,k5⟩:=f
   obtain rfl:=bc k1
   obtain rfl:w=none:=by simp_all
   have E:=h0 rfl
   have A:=hN rfl
   have hD0:D 0=true:=by obtain⟨e,he,hb,z⟩:=fJ k3;rw[<-z];exact hre e he hb
   obtain⟨es,clock,m1,m2,m3,B,H,m6⟩:=I.m hD0
   have hxm:aB s x= .mref st.c:=(hx x fK).trans (iR 16 _ _ v)
   have hy:aB s y=aB (iH st vals) y:=hx y fK
   have hgk:cD (aB s (.const k))=some k:=by
    split at k5
    .rfl
    .cases k5
   have hent:mM (iH st vals) ⟨none,.insert t x (.const k) y,ty,pos,K,gd⟩=some (k,aB (iH st vals) y):=rfl
   have hkey:B7 P kt k (es.map (·.1))=some none:=by unfold B7;rw[S];simp only;rw[L1 λu hu=>?_];obtain⟨e,he,rfl⟩:=List.mem_map.1 hu;obtain⟨i,p,hi,ho',hq⟩:=m2 e he;exact tD hkp j i _ p k e.1 (λe=>by subst e;rw[hD] at hi;cases hi) ho ho' rfl (NA hq)
   have hput:dZ P s.σ t (aB s x) (aB s (.const k)) (aB s y)=some (st.c,⟨t,[],some (.map (es++[(k,aB (iH st vals) y,clock)]) (clock+1))⟩):=by unfold dZ;rw[hT,hgk,hxm,L3 m1];simp only[k4,aN,hkey,hy]
   refine(iW (.inr rfl) hdk' hput).gsn.eqv λs' hs'=>⟨s',?_,Eqv.refl _⟩
   subst hs'
   obtain⟨f1,f2⟩:=I.frames h3 ho (g:= .lit undef) (λt e=>by cases e) {s with σ:=(st.c,some ⟨t,[],some (.map (es++[(k,aB (iH st vals) y,clock)]) (clock+1))⟩)::s.σ} rfl
   have hadd:D.add j N1=false:=by rw[ro (Ne.symm A)];exact hDN
   refine{n:=I.n,gl:=I.gl,pr:=I.pr,f1:=f1,f2:=f2,σ:=λi h1 h2=>?_,c:=(by show s.c=_;rw[hadd,ro (Ne.symm E)];have:=I.c;rw[hDN] at this;exact this),ins:=λi p q hi ho' hq=>tF hD0,last:=(λh=>by rw[hadd] at h;cases h),pen:=hpen,m:=λ_=>?_}
   .show ag ((st.c,_)::s.σ) i=_
    rw[bj,if_neg (λe=>h1 e.symm)]
    exact I.σ i h1 h2
   .refine⟨es++[(k,aB (iH st vals) y,clock)],clock+1,?_,λe he=>?_,λi p q hi ho' hq=>?_,λe he=>?_,?_,(λh=>by rw[hadd] at h;cases h)⟩
    .show ag ((st.c,_)::s.σ) st.c=_
     rw[bj,if_pos rfl]
    .rcases List.mem_append.1 he with he|he
     .obtain⟨i,p,hi,ho',hq⟩:=m2 e he
      exact⟨i,p,tF hi,ho',hq⟩
     .obtain rfl:=List.mem_singleton.1 he
      exact⟨j,_,HH,ho,hent⟩
    .rcases N9 hi with rfl|hi
     .rw[ho] at ho'
      cases ho'
      rw[hent] at hq
      cases hq
      exact⟨clock,aC⟩
     .obtain⟨n,hn⟩:=m3 i p q hi ho' hq
      exact⟨n,List.mem_append_left _ hn⟩
    .rcases List.mem_append.1 he with he|he
     .have:=B e he;omega
     .obtain rfl:=List.mem_singleton.1 he
      exact Nat.lt_succ_self _
    .rw[List.map_append,List.nodup_append]
     refine⟨H,aC,λa ha b hb e=>?_⟩
     simp only[List.map_cons,List.map_nil,List.mem_singleton] at hb
     obtain⟨e',he',rfl⟩:=List.mem_map.1 ha
     have:=B e' he'
     omega
  ·
   rename_i t x
   simp only[bA] at f
   obtain⟨⟨⟨k1,k2⟩,k3⟩,k4⟩:=f
   obtain rfl:=bc k1
   obtain rfl:=bc k2
   obtain⟨d,rfl⟩:=Option.isSome_iff_exists.1 k3
   have hp1:D (j-1)=true:=by obtain⟨e,he,hb,z⟩:=fJ k4;rw[<-z];exact hre e he hb
   have hall:∀i,i<j->D i=true:=λi hi=>by
    rcases Nat.lt_or_ge i (j-1) with h|h
    .exact I.pen hp1 i h
    .obtain rfl:i=j-1:=aa;exact hp1
   have hD0:=hall 0 hNp
   obtain⟨es,clock,m1,m2,m3,B,H,m6⟩:=I.m hD0
   have hva':iF 16 (aB (iH st vals) x) (.mref st.c)=true/\iF 16 (aD (iH st vals).fr d) (.ref (st.c+1) 0)=true:=by unfold lN at v;simpa only[bA] using v
   have hxm:aB s x= .mref st.c:=(hx x fK).trans (iR 16 _ _ hva'.1)
   have hsc:s.c=st.c+1:=by rw[I.c,hDN,hD0];rfl
   have hrg:B9 P s.σ t (aB s x)=some (.iter (some st.c) clock [] clock):=by unfold B9;rw[hT,hxm];simp only[L3 m1]
   refine(H2 rfl hdk' hrg).gsn.eqv λs' hs'=>⟨s',?_,Eqv.refl _⟩
   subst hs'
   rw[hsc]
   obtain⟨f1,f2⟩:=I.frames h3 ho (g:= .ref (st.c+1) 0) (λt e=>by cases e;exact(iR 16 _ _ hva'.2).symm) {s with σ:=(st.c+1,some ⟨t,[],some (.iter (some st.c) clock [] clock)⟩)::s.σ,c:=st.c+1+1} rfl
   obtain⟨F,Z,N,O,R⟩:=BF {s with σ:=(st.c+1,some ⟨t,[],some (.iter (some st.c) clock [] clock)⟩)::s.σ,c:=st.c+1+1} (some d) (.ref (st.c+1) 0)
   refine{n:=N.trans I.n,gl:=O.trans I.gl,pr:=R.trans I.pr,f1:=f1,f2:=f2,σ:=λi h1 h2=>?_,c:=by rw[Z,HH];rfl,ins:=λi p q hi ho' hq=>tF hD0,last:=λ_ i hi=>tF (hall i hi),pen:=hpen,m:=λ_=>?_}
   .rw[F,bj,if_neg (λe=>h2 e.symm)]
    exact I.σ i h1 h2
   .refine⟨es,clock,?_,λe he=>?_,λi p q hi ho' hq=>m3 i p q (entj rfl ho' hq hi) ho' hq,B,H,λ_=>?_⟩
    .rw[F,bj,if_neg aa];exact m1
    .obtain⟨i,p,hi,ho',hq⟩:=m2 e he
     exact⟨i,p,tF hi,ho',hq⟩
    .rw[F,bj,if_pos rfl]
  .cases f
  .cases f
  .rename_i c1 c2 c3 c4 c5
   refine value ?_ ?_ ?_ ?_
   .unfold wi
    dsimp only
    split
    .rename_i a;exact absurd rfl (c1 a)
    .rfl
   .unfold HF
    dsimp only
    split
    .rename_i a b;exact absurd rfl (c3 a b)
    .rfl
   .unfold mM
    dsimp only
    split
    .rename_i a b c d;exact absurd rfl (c2 a b c d)
    .rfl
   .unfold lN at v
    dsimp only at v
    split at v
    .rename_i a b;exact absurd rfl (c4 a b)
    .rename_i a b c d;exact absurd rfl (c5 a b c d)
    .rename_i a b;exact absurd rfl (c3 a b)
    .exact v
 .have hD0:D 0=true:=hall 0 aa
  have hDN:D N1=true:=hall N1 aa
  obtain⟨es,clock,m1,m2,m3,B,H,m6⟩:=I.m hD0
  refine⟨_,?_,hQ es clock {sub:=λe he=>?_,sup:=λq hq=>?_,lt:=B,nd:=H}⟩
  .have J:=I.pr
   simp only[St.pr,Prod.mk.injEq] at J
   refine⟨I.n.symm,I.gl.symm,λi=>?_,λi=>?_,?_,J.1.symm,J.2.symm⟩
   .by_cases hx:∃j,bX l j=some i
    .grind [bX,MInv.f1]
    .rw[I.f2 i λj _ hj=>hx ⟨j,hj⟩]
     exact PV hv λj hj=>hx ⟨j,hj⟩
   all_goals grind [MInv.σ,MInv.c]
  .grind
  .obtain⟨p,ho',hq'⟩:=List.mem_filterMap.1 hq
   grind [List.mem_iff_getElem?]
end lit
end
abbrev oE:=List (Value×G×Nat)
def Wa(k:Value):Nat:=match k with
 | .int _ (.ofNat n)=>n
 |_=>0
def Yq(g:G):Bool:=match g with
 | .lit (.bool true)=>true
 |_=>false
def If(k:Value)(g:G):Nat:=bif Yq g then Wa k else 0
def iC(seen:List Nat):oE->Nat
 |[]=>0
 |e::r=>(bif seen.contains e.2.2 then If e.1 e.2.1 else 0)|||iC seen r
def Ck:oE->Nat
 |[]=>0
 |e::r=>If e.1 e.2.1|||Ck r
theorem jd{m:Nat}:(seen++[n]).contains m=(seen.contains m||(m==n)):=by rw[Bool.eq_iff_iff];simp
theorem Eu{seen:List Nat}{n:Nat}:∀{es:oE},n∉es.map (·.2.2)->iC (seen++[n]) es=iC seen es
 |[],_=>rfl
 |e::r,h=>by
  simp only[List.map_cons,List.mem_cons,not_or] at h;unfold iC;rw[Eu h.2,jd];have:(e.2.2==n)=false:=by rw[beq_eq_false_iff_ne];exact λx=>h.1 x.symm
  rw[this,Bool.or_false]
theorem Ev{seen:List Nat}{k:Value}{g:G}{n:Nat}(hn:n∉seen):∀{es:oE},(k,g,n)∈es->(es.map (·.2.2)).Nodup->iC (seen++[n]) es=iC seen es|||If k g
 |e::r,h,hd=>by
  simp only[List.map_cons,List.nodup_cons] at hd;unfold iC;have hs:seen.contains n=false:=by
   cases hc:seen.contains n with
   |false=>rfl
   |true=>exact absurd (by simpa using hc) hn
  rcases List.mem_cons.1 h with rfl|h
  .rw[Eu hd.1,jd];simp only[hs,Bool.false_or,BEq.rfl,aN,cG,Nat.zero_or];rw[Nat.or_comm]
  .have hne:e.2.2≠n:=λx=>hd.1 (by rw[x];exact List.mem_map.2 ⟨_,h,rfl⟩);rw[Ev hn h hd.2,jd];have:(e.2.2==n)=false:=by rw[beq_eq_false_iff_ne];exact hne
   rw[this,Bool.or_false,Nat.or_assoc]
theorem Ew{seen:List Nat}:∀{es:oE},(∀e∈es,e.2.2∈seen)->iC seen es=Ck es
 |[],_=>rfl
 |e::r,h=>by
  unfold iC Ck;rw[Ew λe he=>h e (by simp[he])];have:seen.contains e.2.2=true:=by simpa using h e aC
  rw[this];rfl
theorem Ex:∀{es:oE},iC [] es=0
 |[]=>rfl
 |e::r=>by unfold iC;rw[Ex];simp
theorem Ig{seen:List Nat}{b:Nat}:∀{es:oE},(∀e∈es,Wa e.1<2^b)->iC seen es<2^b
 |[],_=>Nat.two_pow_pos b
 |e::r,h=>by
  unfold iC;refine Nat.or_lt_two_pow ?_ (Ig λe he=>h e (by simp[he]));have:=h e aC;cases seen.contains e.2.2 with
  |false=>exact Nat.two_pow_pos b
  |true=>
   show If e.1 e.2.1<2^b;unfold If;cases Yq e.2.1 with
   |false=>exact Nat.two_pow_pos b
   |true=>exact this
theorem Ih{es:oE}(hb:∀e∈es,e.2.2<since)(h:none∈rD es since seen):∀e∈es,e.2.2∈seen:=by
 intro e he;unfold rD at h;simp only[List.mem_append,List.mem_map] at h;rcases h with h|⟨x,_,hx⟩
 .split at h
  .rename_i hemp;rw[List.isEmpty_iff,List.filter_eq_nil_iff] at hemp;by_cases hs:e.2.2∈seen
   .exact hs
   .exfalso;refine hemp e (List.mem_filter.2 ⟨he,by simpa using hs⟩) (by simpa using hb e he)
  .cases h
 .cases hx
theorem Ii{es:oE}{k:Value}{g:G}(h:some (k,g,n)∈rD es since seen):(k,g,n)∈es/\n∉seen:=by
 unfold rD at h;simp only[List.mem_append,List.mem_map] at h;rcases h with h|⟨x,hx,a⟩
 .split at h
  .simp at h
  .cases h
 .cases a;have hm:(k,g,n)∈es.filter λe=> !seen.contains e.2.2:=by
   rcases hx with hx|hx
   .exact(List.mem_filter.1 hx).1
   .exact(List.mem_filter.1 hx).1
  obtain⟨h1,h2⟩:=List.mem_filter.1 hm;refine⟨h1,λhs=>?_⟩;simp[hs] at h2
end Go.Proofs.YtaiecngnppbhlaaGreatDoor
