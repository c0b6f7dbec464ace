/- Texts. -/
import Derived.Test.YtjbfcillbjiajaaGreatDoorSG
namespace Go.Proofs.YtjbfcillbjiajaaGreatDoor
set_option linter.unusedSectionVars false
set_option linter.unusedVariables false
set_option linter.unusedSimpArgs false
open Go.RowKit Tryz
attribute [local irreducible] Tr dz Gp
variable (gl:CC)
section
set_option maxHeartbeats 2000000
def sd(g:Bc)(n:Int)(m:Int):Option Bo:=
 (iq n 1000000).bind λv1=>(iq m 1000000).bind λv3=>(z7 v3).bind λv5=>bif ah g.L=0 then(some ⟨1,1,1,0,[],0,0,0,0,[],⟨0,0,0⟩,0,[],[],⟨0,0,0⟩,[],Int.tmod v1 4,0,[],0,[],⟨0,0⟩⟩)else((bif ah g.L<4 then(some ⟨1,0,2,0,[],wI ((ah g.L)+1),0,0,wI (3-(wI (Int.tdiv (Int.tmod v1 5) 4))),[],⟨0,0,0⟩,0,[],[],⟨0,0,0⟩,[],0,0,[],0,[],⟨0,0⟩⟩)else(some ⟨wI (1+(Int.tmod v1 5)),0,v5,0,[],0,0,0,0,[],⟨0,0,0⟩,0,[],[],⟨0,0,0⟩,[],0,0,[],0,[],⟨0,0⟩⟩):Option Bo).bind λa=>(SC g a.By (wI (Int.tdiv v1 5))).bind λx=>(bif ah g.L<4 then((xt g).bind λi=>some i)else(some x)).bind λj12=>(nS g j12 6).bind λe=>(bif e.1=(⟨0,0,0⟩:Ab)then((aS g.IDs 0).bind λd=>some (d.By,d.Seq,d.Sum))else(some (e.1.By,e.1.Seq,e.1.Sum)):Option (Int×Int×Nat)).bind λb=>(bif a.Kind=2 then((bif 4<=ah g.L then(some (wI (4+(Int.tmod (wI (Int.tdiv v3 20)) 3)),wI (1+(Int.tmod (wI (Int.tdiv (wI (Int.tdiv v3 20)) 3)) 3))))else(some (a.Device,a.Role))).bind λj=>some ({a with Past:=[],Device:=j.1,Role:=j.2,Path:=[],Body:=[],Refs:=[],Guards:=[],Boxes:=[],Hist:=[]},j12))else((bif a.Kind=3 then((bif Int.tmod (wI (Int.tdiv v3 20)) 5=1 then(some (0,wI (1+(Int.tmod (wI (Int.tdiv (wI (Int.tdiv v3 20)) 5)) 3))))else(some (wI (1+(Int.tmod (wI (Int.tdiv v3 20)) 6)),a.Member))).bind λk=>some ({a with Past:=[],Device:=k.1,Member:=k.2,Path:=[],Body:=[],Refs:=[],Guards:=[],Boxes:=[],Hist:=[]},j12))else((bif a.Kind=5 then(some ({a with Past:=[],Member:=wI (1+(Int.tmod (wI (Int.tdiv v3 20)) 3)),Role:=wI (1+(Int.tmod (wI (Int.tdiv (wI (Int.tdiv v3 20)) 3)) 3)),Path:=[],Body:=[],Refs:=[],Guards:=[],Boxes:=[],Hist:=[]},j12))else((bif a.Kind=6 then((u9 (wI (Int.tdiv v3 20)) (iI (ah g.IDs) 4)).bind λy=>(aS g.IDs y).bind λz=>(bif Int.tmod (wI (Int.tdiv v3 20)) 3=1 then(some ([wU (Int.tmod (wI (Int.tdiv (wI (Int.tdiv v3 20)) 3)) 5),wU (Int.tmod (wI (Int.tdiv (wI (Int.tdiv v3 20)) 15)) 5)]:Br))else(some [])).bind λA=>some ({a with Past:=[],Path:=[],Epoch:=z,N:=Int.tmod (wI (Int.tdiv (wI (Int.tdiv v3 20)) 4)) 2,Body:=([wY (wI (Int.tdiv v3 20)),1,2,3,4,5,6,7,8]:CY),Refs:=A,Guards:=[],Boxes:=[],Hist:=[]},j12))else((bif a.Kind=7 then(some ({a with Past:=[],Path:=[],Body:=([wY (wI (97+(Int.tmod (wI (Int.tdiv v3 20)) 3)))]:CY),Refs:=[],Of:=⟨b.1,b.2.1,b.2.2⟩,Guards:=[],Boxes:=[],Hist:=[]},j12))else((bif a.Kind=8 then(some ({a with Past:=[],Path:=[],Body:=[],Refs:=[],Of:=⟨b.1,b.2.1,b.2.2⟩,Guards:=[],Boxes:=[],Hist:=[]},j12))else((bif a.Kind=9 then(some true)else((bif a.Kind=11 then(some true)else((bif a.Kind=13 then(some true)else((bif a.Kind=12 then(some true)else(some (decide (a.Kind=10)))).bind λl=>some l)).bind λo=>some o)).bind λp=>some p)).bind λB=>(bif B then((sc g j12 ({a with Past:=[],Path:=[],Body:=[],Refs:=[],Guards:=[],Boxes:=[],Hist:=[]}) (wI (Int.tdiv v3 20))).bind λf=>(bif f.By≠a.By then((SC g f.By (wI (Int.tdiv v1 5))).bind λq=>some q)else(some j12)).bind λC=>some ({f with Path:=[]},C))else(some ({a with Past:=[],Path:=[],Body:=[],Refs:=[],Guards:=[],Boxes:=[],Hist:=[]},j12)):Option (Bo×Ba)).bind λr=>some ({r.1 with Path:=[]},r.2)):Option (Bo×Ba)).bind λs=>some ({s.1 with Path:=[]},s.2)):Option (Bo×Ba)).bind λt=>some ({t.1 with Path:=[]},t.2)):Option (Bo×Ba)).bind λu=>some ({u.1 with Path:=[]},u.2)):Option (Bo×Ba)).bind λv=>some ({v.1 with Path:=[]},v.2)):Option (Bo×Ba)).bind λw=>some ({w.1 with Path:=[]},w.2)):Option (Bo×Ba)).bind λc=>(bif(!decide (c.1.Of=(⟨0,0,0⟩:Ab)))then((jL c.2 c.1.Of).bind λD=>some (!D))else(some false):Fo).bind λE=>(bif E then((xt g).bind λF=>some F)else(some c.2)).bind λh=>(qL g h).bind λH=>(Fc g h c.1.By).bind λI=>(z8 g h).bind λJ=>some ({c.1 with Seq:=I,At:=wI (J+(Int.tmod (wI (Int.tdiv v1 5)) 2)),Past:=H,Path:=[]}))
theorem Jy{g n m}:DL prog gl (sd g n m) 50 [.agg (aI g),iG n,iG m] (λr=> .agg (bF [9] (aJ ({r with Path:=[]})))):=
 cy func50 λK=>BG 15 (iL gl) λv1=>BG 17 (iL gl) λv3=>BG 22 (Js gl) λv5=>aF 28 (rv K)<|cN 111111101 (sp [] [(1,iG v1),(2,iG v3),(3,.ref 0 0),(6,.ref 1 0),(7,.ref 2 0),(8,iG (ah g.L)),(33,bG (decide (ah g.L<4)))] [ob 0 30 (aI g),ob 1 70 (bF [4,9,14,15,19,22,24] (aJ ip)),ob 2 70 (bF [4,9,14,15,19,22,24] (aJ (⟨wI (1+(Int.tmod v1 5)),0,v5,0,[],0,0,0,0,[],⟨0,0,0⟩,0,[],[],⟨0,0,0⟩,[],0,0,[],0,[],⟨0,0⟩⟩:Bo)))] 3) []<|cC 111111101 (λb=>so [33] [] [ob 2 70 (bF [4,9,14,15,19,22,24] (aJ ({b with Past:=[],Path:=[],Body:=[],Refs:=[],Guards:=[],Boxes:=[],Hist:=[]})))] 3) (λb=>JI 46 ac (Jv gl) λZ=>cN 11111111101 (sf [] [(9,aE aj Z),(48,bG (decide (ah g.L<4)))]) []<|cC 11111111101 (λj12=>sf [48] [(9,aE aj j12)]) (λj12=>BG 54 (vD gl) λz=>aw [hV 59 (dU z.1 (⟨0,0,0⟩:Ab) rfl)]<|cN 1111111111101 (so [] [(10,.ref 3 0),(59,bG (decide (z.1=(⟨0,0,0⟩:Ab))))] [ob 3 41 (aj z.1)] 4) []<|cC 1111111111101 (λc=>so [59] [] [ob 3 41 (aj (⟨c.1,c.2.1,c.2.2⟩:Ab))] 4) (λc=>cN 11111111111110121 (sf [2] [(12,iG (wI (Int.tdiv v3 20))),(67,iG b.Kind),(68,bG (decide (b.Kind=2)))]) []<|cC 11111111111110121 (λa=>sk [1,3,6,7] [(9,aE aj a.2)] [ob 0 30 (aI g),ob 1 70 (bF [4,9,14,15,19,22,24] (aJ ip)),ob 2 70 (bF [9] (aJ ({a.1 with Path:=[]})))] 3) (λa=>cN 1111111111111100 (sf [] []) []<|cC 1111111111111100 (λA=>sf [] [(188,bG A)]) (λA=>cC 1111111111111101 (λB=>sf [188] [(9,aE aj B)]) (λB=>JI 193 ac (G3 gl) λv24=>BG 199 (Na gl) λv26=>BG 203 (Jx gl) λv28=>rv K) λB H=>eH [188] (JI 190 ac (DK gl) λv33=>rx H)<|rx H) λA I=>kV (λC=>BG 186 (jM gl) λv38=>aw [hV 181 (cV (dy a.1.Of (⟨0,0,0⟩:Ab) rfl) C)]<|rx I) λC=>aw [hV 181 (cV (dy a.1.Of (⟨0,0,0⟩:Ab) rfl) C)]<|rx I) λa J=>eH [68] (cC 1111111111111012131 (λh=>sx [8,10,12,67,68] [] [ob 0 30 (aI g),ob 1 70 (bF [4,9,14,15,19,22,24] (aJ ip)),ob 2 70 (bF [4,9,14,15,19,22,24] (aJ ({b with Past:=[],Device:=h.1,Role:=h.2,Path:=[],Body:=[],Refs:=[],Guards:=[],Boxes:=[],Hist:=[]})))] 3) (λh=>rx J) λh M=>aF 71 (rx M)<|rx M)<|cC 1111111111111012141 (λi=>sk [1,3,6,7] [(9,aE aj i.2)] [ob 0 30 (aI g),ob 1 70 (bF [4,9,14,15,19,22,24] (aJ ip)),ob 2 70 (bF [9] (aJ ({i.1 with Path:=[]})))] 3) (λi=>rx J) λi O=>aF 82 (cC 1111111111111012141311 (λj=>sx [8,10,12,67,68] [] [ob 0 30 (aI g),ob 1 70 (bF [4,9,14,15,19,22,24] (aJ ip)),ob 2 70 (bF [4,9,14,15,19,22,24] (aJ ({b with Past:=[],Device:=j.1,Member:=j.2,Path:=[],Body:=[],Refs:=[],Guards:=[],Boxes:=[],Hist:=[]})))] 3) (λj=>rx O) λj P=>aF 89 (rx P)<|rx P)<|cC 111111111111101214141 (λk=>sk [1,3,6,7] [(9,aE aj k.2)] [ob 0 30 (aI g),ob 1 70 (bF [4,9,14,15,19,22,24] (aJ ip)),ob 2 70 (bF [9] (aJ ({k.1 with Path:=[]})))] 3) (λk=>rx O) λk Q=>aF 97 (rx Q)<|cC 11111111111110121414141 (λl=>sk [1,3,6,7] [(9,aE aj l.2)] [ob 0 30 (aI g),ob 1 70 (bF [4,9,14,15,19,22,24] (aJ ip)),ob 2 70 (bF [9] (aJ ({l.1 with Path:=[]})))] 3) (λl=>rx Q) λl R=>aF 108 (ak λq68 e69=>ak λy70 S=>cC 1111111111111012141414131111 (λD=>sx [8,10,12,67,68] [] [ob 0 30 (aI g),ob 1 70 (bF [4,9,14,15,19,22,24] (aJ ip)),ob 2 70 (bF [4,9,19,22,24] (aJ ({b with Past:=[],Path:=[],Epoch:=y70,N:=Int.tmod (wI (Int.tdiv (wI (Int.tdiv v3 20)) 4)) 2,Body:=([wY (wI (Int.tdiv v3 20)),1,2,3,4,5,6,7,8]:CY),Refs:=D,Guards:=[],Boxes:=[],Hist:=[]})))] 3) (λD=>rx R) λD U=>aw [hbb 116 (KO e69),AB 117 (ac.ixZ S),AB 118 (ac.ptZ aW S),AB 125 (Iz (wI (Int.tdiv v3 20)))]<|aF 130 (aw [AB 134 (C8 (Int.tmod (wI (Int.tdiv (wI (Int.tdiv v3 20)) 3)) 5)),AB 138 (C8 (Int.tmod (wI (Int.tdiv (wI (Int.tdiv v3 20)) 15)) 5))]<|aA c0 U [hc (rY.al ([wY (wI (Int.tdiv v3 20)),1,2,3,4,5,6,7,8]:CY)),hc (rW.al ([wU (Int.tmod (wI (Int.tdiv (wI (Int.tdiv v3 20)) 3)) 5),wU (Int.tmod (wI (Int.tdiv (wI (Int.tdiv v3 20)) 15)) 5)]:Br))])<|aA c0 U [hc (rY.al ([wY (wI (Int.tdiv v3 20)),1,2,3,4,5,6,7,8]:CY))])<|cC 1111111111111012141414141 (λo=>sk [1,3,6,7] [(9,aE aj o.2)] [ob 0 30 (aI g),ob 1 70 (bF [4,9,14,15,19,22,24] (aJ ip)),ob 2 70 (bF [9] (aJ ({o.1 with Path:=[]})))] 3) (λo=>rx R) λo V=>aF 142 (aw [AB 148 (Iz (wI (97+(Int.tmod (wI (Int.tdiv v3 20)) 3))))]<|aA c0 V [hc (rY.al ([wY (wI (97+(Int.tmod (wI (Int.tdiv v3 20)) 3)))]:CY))])<|cC 111111111111101214141414141 (λp=>sk [1,3,6,7] [(9,aE aj p.2)] [ob 0 30 (aI g),ob 1 70 (bF [4,9,14,15,19,22,24] (aJ ip)),ob 2 70 (bF [9] (aJ ({p.1 with Path:=[]})))] 3) (λp=>rx V) λp W=>aF 152 (rx W)<|cN 111111111111101214141414141401 (sx [8,10,68] [(155,bG (decide (b.Kind=9)))] [ob 0 30 (aI g),ob 1 70 (bF [4,9,14,15,19,22,24] (aJ ip)),ob 2 70 (bF [4,9,14,15,19,22,24] (aJ ({b with Past:=[],Path:=[],Body:=[],Refs:=[],Guards:=[],Boxes:=[],Hist:=[]})))] 3) []<|cC 111111111111101214141414141401 (λE=>sf [67] [(155,bG E)]) (λE=>cC 11111111111110121414141414141 (λq=>so [12,155] [(9,aE aj q.2)] [ob 2 70 (bF [9] (aJ ({q.1 with Path:=[]})))] 3) (λq=>rx W) λq X=>eH [155] (ak λv94 e95=>cC 111111111111101214141414141413111 (λF=>so [12,155] [(9,aE aj F)] [ob 2 70 (bF [9] (aJ ({v94 with Path:=[]})))] 3) (λF=>rx X) λF Y=>aw [hf 167 (UY [.agg (aI g),aE aj j12,.agg (bF [4,9,14,15,19,22,24] (aJ ({b with Past:=[],Path:=[],Body:=[],Refs:=[],Guards:=[],Boxes:=[],Hist:=[]}))),iG (wI (Int.tdiv v3 20))] (Fb gl e95))]<|aF 171 (JI 177 ac (Jv gl) λv101=>rx Y)<|rx Y)<|rx X) λE s=>eH [155] (rx s)<|cC 11111111111110121414141414140141 (λd=>sf [67] [(155,bG d)]) (λd=>rx s) λd t=>aF 157 (rx t)<|cC 1111111111111012141414141414014141 (λe=>sf [67] [(155,bG e)]) (λe=>rx t) λe u=>aF 158 (rx u)<|cC 111111111111101214141414141401414141 (λf=>sf [67] [(155,bG f)]) (λf=>rx u) λf v=>aF 159 (rx v)<|rx v) λc w=>eH [59] (CD 62 ac.ixZ 63 (ac.ptZ aW) λy124=>rx w)<|rx w) λj12 x=>eH [48] (JI 50 ac (DK gl) λv129=>rx x)<|rx x) λb y=>eH [33] (rx y)<|rx y
def uf(ids:Ba)(device:Int)(seq:Int)(s1:Int×Int):Option ((Int×Int)⊕(Int)):=
 bif s1.2<ah ids then(((aS ids s1.2).bind λa=>bif a.By=device then((aS ids s1.2).bind λb=>some (decide (b.Seq=seq)))else(some false)).bind λj13=>bif j13 then(some (.inl (wI (s1.1+1),wI (s1.2+1))))else(some (.inl (s1.1,wI (s1.2+1)))))else(some (.inr s1.1))
def Vq(ids:Ba)(device:Int)(seq:Int):JQ:=
 (AH (uf ids device seq) (0,0)).bind λa=>some a
theorem Jz{ids device seq}:DL prog gl (Vq ids device seq) 232 [aE aj ids,iG device,iG seq] iG:=
 cy func232 λK=>I5 11101 (λb=>sg [] [(7,iG b)]) (λs1=>sf [] [(7,iG s1.1),(8,iG s1.2)]) [] (λb=>rv K) λs1 k5 c=>aF 12 (N4 11101221020 (sf [] []) [] 30 (rb k5) (rb k5) λa=>CD 17 ac.ixZ 19 (ac.fdY tZ 0) λd=>aF 21 (CD 25 ac.ixZ 27 (ac.fdY tZ 1) λe=>rx a)<|rx a)<|aA c1 c []
def qM(ids:Ba)(device:Int)(s1:Int×Int):Option ((Int×Int)⊕(Int)):=
 bif s1.2<ah ids then((aS ids s1.2).bind λa=>(Vq ids device a.Seq).bind λb=>((aS ids s1.2).bind λc=>bif c.By=device then(bif 1<b then(bif s1.1=0 then(some true)else((aS ids s1.2).bind λd=>some (decide (d.Seq<s1.1))))else(some false))else(some false)).bind λe=>bif e then((aS ids s1.2).bind λf=>some (.inl (f.Seq,wI (s1.2+1))))else(some (.inl (s1.1,wI (s1.2+1)))))else(some (.inr s1.1))
def qN(ids:Ba)(device:Int):JQ:=
 (AH (qM ids device) (0,0)).bind λa=>some a
theorem yF{ids device}:DL prog gl (qN ids device) 172 [aE aj ids,iG device] iG:=
 cy func172 λK=>I5 11101 (λd=>sg [] [(5,iG d)]) (λs1=>sf [] [(5,iG s1.1),(6,iG s1.2)]) [] (λd=>rv K) λs1 k5 e=>aF 11 (CD 18 ac.ixZ 20 (ac.fdY tZ 1) λf=>BG 21 (Jz gl) λc=>cN 111012210210 (sf [] [(7,iG c)]) []<|cC 111012210210 (λb=>sf [7] [(45,bG b)]) (λb=>eH [45] (CD 48 ac.ixZ 50 (ac.fdY tZ 1) λg=>rb k5)<|rb k5) λb a=>CD 24 ac.ixZ 26 (ac.fdY tZ 0) λh=>aF 28 (aF 32 (aF 35 (rx a)<|CD 39 ac.ixZ 41 (ac.fdY tZ 1) λi=>rx a)<|rx a)<|rx a)<|aA c1 e []
def AR(c:DE)(device:Int)(s1:Int):Option ((Int)⊕(Unit⊕Int)):=
 bif s1<ah c.Cards then((aS c.Cards s1).bind λa=>bif a.Device=device then((aS c.Cards s1).bind λb=>some (.inr (.inr b.Member)))else(some (.inl (wI (s1+1)))))else(some (.inr (.inl ())))
def gE(c:DE)(device:Int):JQ:=
 (AH (AR c device) 0).bind λa=>ma a (λb=>some 0) (λq=>some q)
theorem c9{r_ device}:DL prog gl (gE r_ device) 236 [.agg (aU r_),iG device] iG:=
 cy func236 λK=>O7 1101 (λa=>sg [] []) (λs1=>so [0] [(2,.ref 0 0),(5,iG s1)] [ob 0 250 (aU r_)] 1) [] K (λa=>rv K) λs1 k5 b k6=>aF 10 (CD 16 bT.ixZ 18 (bT.fdY tZ 0) λc=>aF 20 (CD 24 bT.ixZ 26 (bT.fdY tZ 1) λd=>aP c3 k6 [])<|rb k5)<|aA c2 b []
def o5(b:DE)(n:Int)(s1:Int):Option ((Int)⊕(Unit⊕Int)):=
 bif s1<ah b.L then((aS b.L s1).bind λa=>bif a.N=n then(some (.inr (.inr s1)))else(some (.inl (wI (s1+1)))))else(some (.inr (.inl ())))
def dS(c:DE)(n:Int):JQ:=
 (AH (o5 c n) 0).bind λa=>ma a (λb=>some (-1)) (λq=>some q)
theorem dA{r_ n}:DL prog gl (dS r_ n) 240 [.agg (aU r_),iG n] iG:=
 cy func240 λK=>O7 1101 (λa=>sg [] []) (λs1=>so [0] [(2,.ref 0 0),(5,iG s1)] [ob 0 250 (aU r_)] 1) [] K (λa=>rv K) λs1 k5 b k6=>aF 10 (CD 16 bI.ixZ 18 (bI.fdY tZ 0) λc=>aF 20 (aP c3 k6 [])<|rb k5)<|aA c2 b []
def se(a:DE)(n:Int):JQ:=
 (dS a n).bind λv1=>bif v1<0 then(some 0)else((aS a.L v1).bind λb=>some b.Role)
theorem ug{r_ n}:DL prog gl (se r_ n) 237 [.agg (aU r_),iG n] iG:=
 cy func237 λK=>BG 8 (dA gl) λv1=>aF 10 (rv K)<|CD 14 bI.ixZ 16 (bI.fdY tZ 1) λa=>rv K
def Fd(b:DE)(device:Int):Fo:=
 ((fb b.In device).bind λc=>bif c then(some true)else((fb b.Gone device).bind λa=>some a)).bind λd=>some d
theorem Nb{r_ device}:DL prog gl (Fd r_ device) 337 [.agg (aU r_),iG device] bG:=
 cy func337 λK=>cN [1,0] (so [0] [(2,.ref 0 0)] [ob 0 250 (aU r_)] 1) []<|cC [1,0] (λa=>sk [] [(4,bG a)] [] 0) (λa=>rv K) λa k5=>ak λd e8=>kV (λb=>aw [hf 8 (cF (DD gl e8) b)]<|rx k5) λb=>BG 13 (DD gl) λc=>aw [hf 8 (cF (DD gl e8) b)]<|rx k5
def nW(a:DE)(device:Int):Fo:=
 (Fd a device).bind λv1=>((gE a device).bind λv9=>bif 0<v9 then(some (!v1))else(some false)).bind λb=>some b
theorem qO{r_ device}:DL prog gl (nW r_ device) 238 [.agg (aU r_),iG device] bG:=
 cy func238 λK=>BG 8 (Nb gl) λv1=>cN 1110 (so [0] [(2,.ref 0 0),(5,bG v1)] [ob 0 250 (aU r_)] 1) []<|cC 1110 (λa=>sk [] [(4,bG a)] [] 0) (λa=>rv K) λa b=>BG 11 (c9 gl) λv9=>aF 12 (rx b)<|rx b
def nX(a:DE)(device:Int)(role:Int):Option DE:=
 (nW a device).bind λv1=>bif(!v1)then(some a)else((aT 8 ([]:Bn) a.In).bind λv4=>(aT 8 v4 ([device]:Bn)).bind λb=>(gE ({a with In:=b}) device).bind λg=>(dS ({a with In:=b}) g).bind λc=>bif c<0 then(((aT 104 ([]:List GR) a.L).bind λd=>(aT 104 d [(⟨g,role,false,⟨0,0,0⟩,[],0,0,false,0⟩:GR)]).bind λe=>some e:Option (List GR)).bind λf=>some ({a with In:=b,L:=f}))else(some ({a with In:=b})))
theorem qP{r_ device role}:DL prog gl (nX r_ device role) 243 [.agg (aU r_),iG device,iG role] (λr=> .agg (aU r)):=
 cy func243 λK=>BG 11 (qO gl) λv1=>aF 13 (rv K)<|Gd (eu 18 rZ) λv4=>Gd (dg 21 rZ) λb=>ak λc i=>ak λj f=>aw [hq 25 [.agg (aU ({r_ with In:=b})),iG device] [hc (rZ.al b)] (c9 gl i),hq 28 [.agg (aU ({r_ with In:=b})),iG c] [hc (rZ.al b)] (dA gl f)]<|aF 29 (cN 111111013 (sp [2] [(3,.ref 0 0),(6,.ref 1 0),(8,iG c)] [ob 0 250 (aU ({r_ with In:=b})),ob 1 250 (bF [0,1,2,3,5] (aU eY))] 2) [hc (rZ.al b)]<|cC 111111013 (λa=>sp [3] [(6,.ref 2 0)] [ob 0 250 [aE bv r_.Cards,aE cZ b,aE cZ r_.Gone,.rsl 1 0 a.length,iG r_.Back,aE nJ r_.V],ob 1 310 (a.flatMap jG),ob 2 250 (bF [0,1,2,3,5] (aU eY))] 3) (λa=>aP c0 K [hc (bI.al a)]) λa g=>Gd (eu 33 bI) λh=>ak λd e=>aw [Tv 38 bI e [iG c,iG role,bG false,iG 0,iG 0,uG 0,Iy,iG 0,iG 0,bG false,iG 0] rfl]<|aA c0 g [hc (el d),ZV bI e [iG c,iG role,bG false,iG 0,iG 0,uG 0,Iy,iG 0,iG 0,bG false,iG 0]] (kd:=[(1,.app (h.flatMap jG) [iG c,iG role,bG false,iG 0,iG 0,uG 0,Iy,iG 0,iG 0,bG false,iG 0] (jG (⟨c,role,false,⟨0,0,0⟩,[],0,0,false,0⟩:GR)) (d.flatMap jG))]))<|aP c0 K [hc (rZ.al b)]
def qQ(c:DE)(d:Ab)(s1:Int):Option ((Int)⊕(Unit⊕Int)):=
 bif s1<ah c.L then(((aS c.L s1).bind λa=>bif a.Is then((aS c.L s1).bind λb=>some (decide (b.ID=d)))else(some false)).bind λj13=>bif j13 then(some (.inr (.inr s1)))else(some (.inl (wI (s1+1)))))else(some (.inr (.inl ())))
def jN(d:DE)(a:Ab):JQ:=
 (AH (qQ d a) 0).bind λb=>ma b (λc=>some (-1)) (λq=>some q)
theorem mA{r_ id_}:DL prog gl (jN r_ id_) 248 [.agg (aU r_),.agg (aj id_)] iG:=
 cy func248 λK=>O7 1101 (λd=>sg [] []) (λs1=>sp [] [(2,.ref 0 0),(3,.ref 1 0),(5,iG s1)] [ob 0 250 (aU r_),ob 1 41 (aj id_)] 2) [] K (λd=>rv K) λs1 k5 f k6=>aF 10 (N4 1101221020 (sf [] []) [] 28 (aP c3 k6 []) (rb k5) λc=>ak λg a=>aw [AB 16 (bI.ixZ a)]<|kV (λb=>CD 23 bI.ixZ 25 (bI.fsZ aW jz 3 BU) λe=>aw [AB 18 (cB (bI.fdZ tO 2 a) b),hV 27 (dU e.ID id_ rfl)]<|rx c) λb=>aw [AB 18 (cB (bI.fdZ tO 2 a) b)]<|rx c)<|aA c2 f []
def uh(b:DE)(h:Bn×Bool)(c:Bn)(d:List GR×List I6)(a:List I6×Int):Option ((List I6×Int)⊕(List I6)):=
 bif a.2<ah b.V then((aS b.V a.2).bind λe=>(jN ({b with In:=h.1,Gone:=c,L:=d.1}) e.Of).bind λf=>bif 0<=f then((aS b.V a.2).bind λg=>(aT 48 a.1 [g]).bind λv46=>some (.inl (v46,wI (a.2+1))))else(some (.inl (a.1,wI (a.2+1)))))else(some (.inr a.1))
def ui(e:DE)(v4:Int)(a:List GR×List I6×Int):Option ((List GR×List I6×Int)⊕(List GR×List I6)):=
 bif a.2.2<ah e.L then((aS e.L a.2.2).bind λb=>bif b.N≠v4 then((aS e.L a.2.2).bind λc=>(aT 104 a.1 [c]).bind λd=>some (.inl (d,a.2.1,wI (a.2.2+1))))else(some (.inl (a.1,a.2.1,wI (a.2.2+1)))))else(some (.inr (a.1,a.2.1)))
def uj(b:DE)(device:Int)(v4:Int)(a:Bn×Bool×Int):Option ((Bn×Bool×Int)⊕(Bn×Bool)):=
 bif a.2.2<ah b.In then((aS b.In a.2.2).bind λc=>bif c≠device then((aS b.In a.2.2).bind λd=>(aT 8 a.1 ([d]:Bn)).bind λe=>(bif a.2.1 then(some true)else((aS b.In a.2.2).bind λf=>(gE b f).bind λg=>some (decide (g=v4)))).bind λh=>some (.inl (e,h,wI (a.2.2+1))))else(some (.inl (a.1,a.2.1,wI (a.2.2+1)))))else(some (.inr (a.1,a.2.1)))
def sh(a:DE)(device:Int):Option DE:=
 (fb a.In device).bind λv1=>bif(!v1)then(some a)else((gE a device).bind λv4=>(AH (uj a device v4) ([],false,0)).bind λd=>(aT 8 ([]:Bn) a.Gone).bind λe=>(aT 8 e ([device]:Bn)).bind λb=>bif d.2 then(some ({a with In:=d.1,Gone:=b}))else((AH (ui a v4) ([],[],0)).bind λc=>(AH (uh a d b c) (c.2,0)).bind λf=>some ⟨a.Cards,d.1,b,c.1,a.Back,f⟩))
theorem AS{r_ device}:DL prog gl (sh r_ device) 244 [.agg (aU r_),iG device] (λr=> .agg (aU r)):=
 cy func244 λK=>BG 16 (DD gl) λv1=>aF 17 (rv K)<|BG 21 (c9 gl) λv4=>I5 11111101 (λf=>so [0] [(2,.ref 0 0),(4,.ref 1 0),(5,iG v4),(6,aE cZ f.1),(7,bG f.2)] [ob 0 250 (aU r_),ob 1 250 (bF [0,1,2,3,5] (aU eY))] 2) (λg=>so [0] [(2,.ref 0 0),(4,.ref 1 0),(5,iG v4),(6,.rsl 2 0 g.1.length),(7,bG g.2.1),(8,iG g.2.2)] [ob 0 250 (aU r_),ob 1 250 (bF [0,1,2,3,5] (aU eY)),ob 2 3 (g.1.flatMap cZ)] 3) [hc (rZ.imm [])] (λf=>Gd (eu 61 rZ) λq=>Gd (dg 64 rZ) λc=>aF 66 (aP c0 K [hc (rZ.al c)])<|I5 11111111111101 (λb=>sp [2,4] [(9,aE jG b.1),(10,.rsl 2 0 b.2.length)] [ob 0 250 (aU ({r_ with In:=f.1,Gone:=c})),ob 2 382 (b.2.flatMap nJ)] 3) (λa=>so [1,6,7] [(9,.rsl 2 0 a.1.length),(10,.rsl 3 0 a.2.1.length),(11,iG a.2.2)] [ob 0 250 (aU ({r_ with In:=f.1,Gone:=c})),ob 2 310 (a.1.flatMap jG),ob 3 382 (a.2.1.flatMap nJ)] 4) [hc (rZ.al c),hc (bI.imm []),hc (bV.imm [])] (λb=>I5 1111111111111101 (λi=>sx [9] [(10,aE nJ i)] [ob 0 250 (aU ({r_ with In:=f.1,Gone:=c,L:=b.1})),ob 1 250 (bF [0,1,2,3,5] (aU eY))] 2) (λd=>so [9] [(10,.rsl 2 0 d.1.length),(12,iG d.2)] [ob 0 250 (aU ({r_ with In:=f.1,Gone:=c,L:=b.1})),ob 2 382 (d.1.flatMap nJ)] 3) (DP bV b.2) (λi=>rv K) λd j o=>aF 97 (CD 104 bV.ixZ 106 (bV.fsZ aW jz 0 BU) λs=>BG 107 (mA gl) λt=>aF 108 (CD 113 bV.ixZ 114 (bV.ptZ Pd) λu=>Gd (dg 116 bV) λv46=>cj j (DP bV v46))<|cj j (DP bV d.1))<|aA c1 o [hc (bV.al d.1)]) λa k p=>aF 72 (CD 78 bI.ixZ 80 (bI.fdY tZ 0) λv=>aF 82 (CD 87 bI.ixZ 88 (bI.ptZ LG) λw=>Gd (dg 90 bI) λl=>cj k [hc (el l),hc (el a.2.1),hc (bI.imm l),hc (bV.imm a.2.1)])<|cj k [hc (el a.1),hc (el a.2.1),hc (bI.imm a.1),hc (bV.imm a.2.1)])<|aA c1 p [hc (bI.al a.1),hc (el a.2.1),hc (bV.imm a.2.1)]) λg m k9=>aF 26 (CD 32 rZ.ixZ 33 (rZ.p1Y tZ) λx=>aF 35 (CD 40 rZ.ixZ 41 (rZ.p1Y tZ) λy=>Gd (dg 43 rZ) λe=>cN 1111110122102131 (so [] [(6,.rsl 2 0 e.length)] [ob 2 3 (e.flatMap cZ)] 3) (DP rZ e)<|cC 1111110122102131 (λh=>sf [] [(7,bG h)]) (λh=>cj m (DP rZ e)) λh n=>aF 44 (aA c0 n (DP rZ e))<|CD 50 rZ.ixZ 51 (rZ.p1Y tZ) λz=>BG 52 (c9 gl) λA=>aA c0 n (DP rZ e))<|cj m (DP rZ g.1))<|aA c1 k9 [hc (rZ.al g.1)]
def o6(l:List GR)(at_:Int)(m:GR):Option (List GR):=
 (aT 104 ([]:List GR) l).bind λv1=>(ji v1 at_ m).bind λa=>some a
theorem JA{l at_ m}:M5 prog gl (o6 l at_ m) 245 [aE jG l,iG at_,.agg (jG m)] 310 jG:=
 gc func245 λK=>Gd (wX 10 bI) λv1=>ak λa e4=>aw [AB 14 (bI.ixsZ 1 e4),hw 14 (a.flatMap jG) (bI.putZ e4)]<|mr c0 K (bI.imm _) _ (hZ e4)
def ni(b:DE)(c:List GR)(a:List I6×Int):Option ((List I6×Int)⊕(List I6)):=
 bif a.2<ah b.V then((aS b.V a.2).bind λd=>(jN ({b with L:=c}) d.Of).bind λe=>bif 0<=e then((aS b.V a.2).bind λf=>(aT 48 a.1 [f]).bind λg=>some (.inl (g,wI (a.2+1))))else(some (.inl (a.1,wI (a.2+1)))))else(some (.inr a.1))
def o7(a:DE)(o:Bo)(d:Ab):Option DE:=
 (gE a o.By).bind λv1=>(dS a v1).bind λv3=>bif v3<0 then(some a)else((aS a.L v3).bind λe=>(aS a.L v3).bind λf=>(o6 a.L v3 (⟨e.N,f.Role,true,d,o.Guards,o.Need,o.Wait,false,0⟩:GR)).bind λb=>(AH (ni a b) ([],0)).bind λc=>some ({a with L:=b,V:=c}))
theorem Df{r_ o id_}:DL prog gl (o7 r_ o id_) 246 [.agg (aU r_),.agg (aJ o),.agg (aj id_)] (λr=> .agg (aU r)):=
 cy func246 λK=>BG 14 (c9 gl) λv1=>BG 15 (dA gl) λv3=>aF 17 (rv K)<|CD 25 bI.ixZ 27 (bI.fdY tZ 0) λj=>CD 31 bI.ixZ 33 (bI.fdY tZ 1) λk=>JI 42 bI (JA gl) λb=>I5 11111101 (λc=>sp [] [(3,.ref 0 0),(6,.ref 1 0),(8,aE nJ c)] [ob 0 250 (aU ({r_ with L:=b})),ob 1 250 (bF [0,1,2,3,5] (aU eY))] 2) (λa=>sp [] [(3,.ref 0 0),(6,.ref 1 0),(8,.rsl 2 0 a.1.length),(9,iG a.2)] [ob 0 250 (aU ({r_ with L:=b})),ob 1 250 (bF [0,1,2,3,5] (aU eY)),ob 2 382 (a.1.flatMap nJ)] 3) [hc (bV.imm [])] (λc=>rv K) λa d e=>aF 48 (CD 55 bV.ixZ 57 (bV.fsZ aW jz 0 BU) λg=>BG 58 (mA gl) λh=>aF 59 (CD 64 bV.ixZ 65 (bV.ptZ Pd) λi=>Gd (dg 67 bV) λf=>cj d (DP bV f))<|cj d (DP bV a.1))<|aA c1 e [hc (bV.al a.1)]
def nY(a:DE)(o:Bo):Option (Int×Int):=
 (jN a o.Of).bind λv1=>bif v1<0 then(some ((-1),25))else((aS a.L v1).bind λb=>(fb b.Guards o.By).bind λc=>bif(!c)then(some ((-1),14))else(some (v1,0)))
theorem vG{r_ o}:DL prog gl (nY r_ o) 338 [.agg (aU r_),.agg (aJ o)] (λr=> .tup [iG r.1,iG r.2]):=
 cy func338 λK=>BG 10 (mA gl) λv1=>aF 12 (rv K)<|CD 16 bI.ixZ 18 (bI.fdY Vs 6) λa=>BG 21 (DD gl) λb=>aF 22 (rv K)<|rv K
def nj(b:DE)(o:Bo)(a:Int×List I6×Int):Option ((Int×List I6×Int)⊕(Int×List I6)):=
 bif a.2.2<ah b.V then(((aS b.V a.2.2).bind λc=>bif c.Of=o.Of then((aS b.V a.2.2).bind λd=>bif d.By=o.By then((aS b.V a.2.2).bind λe=>some (decide (e.Device=o.Device)))else(some false))else(some false)).bind λf=>bif f then((aS b.V a.2.2).bind λg=>some (.inl (iI a.1 g.At,a.2.1,wI (a.2.2+1))))else((aS b.V a.2.2).bind λh=>(aT 48 a.2.1 [h]).bind λv25=>some (.inl (a.1,v25,wI (a.2.2+1)))))else(some (.inr (a.1,a.2.1)))
def o8(a:DE)(o:Bo):Option DE:=
 (nY a o).bind λv1=>bif v1.2≠0 then(some a)else((AH (nj a o) (o.At,[],0)).bind λc=>(aT 48 c.2 [{o with At:=c.1}]).bind λb=>some ({a with V:=b}))
theorem Dg{r_ o}:DL prog gl (o8 r_ o) 247 [.agg (aU r_),.agg (aJ o)] (λr=> .agg (aU r)):=
 cy func247 λK=>BG 13 (vG gl) λv1=>aF 17 (rv K)<|I5 11111101 (λe=>sp [] [(2,.ref 0 0),(4,.ref 1 0),(7,.ref 2 0),(8,.rsl 3 0 e.2.length)] [ob 0 250 (aU r_),ob 1 250 (bF [0,1,2,3,5] (aU eY)),ob 2 382 (nJ ({o with At:=e.1})),ob 3 382 (e.2.flatMap nJ)] 4) (λa=>sp [] [(2,.ref 0 0),(4,.ref 1 0),(7,.ref 2 0),(8,.rsl 3 0 a.2.1.length),(9,iG a.2.2)] [ob 0 250 (aU r_),ob 1 250 (bF [0,1,2,3,5] (aU eY)),ob 2 382 (nJ ({o with At:=a.1})),ob 3 382 (a.2.1.flatMap nJ)] 4) [hc (bV.imm [])] (λe=>Gd (dg 87 bV) λf=>aP c0 K [hc (bV.al f)]) λa k8 g=>aF 32 (N4 11111101221020 (sf [] []) (DP bV a.2.1) 65 (CD 71 bV.ixZ 73 (bV.fdY tZ 5) λh=>cj k8 (DP bV a.2.1)) (CD 80 bV.ixZ 81 (bV.ptZ Pd) λi=>Gd (dg 83 bV) λv25=>cj k8 (DP bV v25)) λb=>CD 38 bV.ixZ 40 (bV.fsZ aW jz 0 BU) λd=>kV (λc=>CD 48 bV.ixZ 50 (bV.fdY tZ 3) λj=>aw [hV 43 (cV (dU d.Of o.Of rfl) c)]<|aF 54 (CD 59 bV.ixZ 61 (bV.fdY tZ 4) λk=>aA c0 b (DP bV a.2.1))<|aA c0 b (DP bV a.2.1)) λc=>aw [hV 43 (cV (dU d.Of o.Of rfl) c)]<|aA c0 b (DP bV a.2.1))<|aA c1 g (DP bV a.2.1)
def AT(b:Bn)(a:DE×Int):Option ((DE×Int)⊕(DE)):=
 bif a.2<ah b then((aS b a.2).bind λc=>(sh a.1 c).bind λd=>some (.inl (d,wI (a.2+1))))else(some (.inr a.1))
def Pj(b:DE)(o:Bo)(a:Bn×Int):Option ((Bn×Int)⊕Bn):=
 bif a.2<ah b.In then((aS b.In a.2).bind λc=>(gE b c).bind λd=>bif d=o.Member then((aS b.In a.2).bind λe=>(aT 8 a.1 ([e]:Bn)).bind λf=>some (.inl (f,wI (a.2+1))))else(some (.inl (a.1,wI (a.2+1)))))else(some (.inr a.1))
def DM(a:DE)(o:Bo)(D:Ab):Option DE:=
 (gE a o.By).bind λv1=>(dS a v1).bind λv3=>bif o.Kind=1 then((bif 0<ah a.In then(some true)else(bif 0<ah a.Gone then(some true)else((gE a o.By).bind λl=>some (decide (l=0))))).bind λE=>bif E then(some a)else((nX a o.By 3).bind λv9=>some ({v9 with Back:=o.Need})))else(bif o.Kind=2 then((nX a o.Device o.Role).bind λm=>some m)else(bif o.Kind=3 then((bif o.Device=0 then((AH (Pj a o) ([],0)).bind λn=>some (.inl n))else(some (.inl ([o.Device]:Bn))):Option (Bn⊕DE)).bind λp=>ma p (λd=>(AH (AT d) (a,0)).bind λq=>some q) some)else(bif o.Kind=5 then((dS a o.Member).bind λb=>bif 0<=b then((aS a.L b).bind λr=>(o6 a.L b ({r with Role:=o.Role})).bind λs=>some ({a with L:=s}))else(some a))else(bif o.Kind=9 then((o7 a o D).bind λt=>some t)else(bif o.Kind=11 then((o8 a o).bind λu=>some u)else(bif o.Kind=12 then((bif 0<=v3 then((aS a.L (Fv v3 0)).bind λv=>bif v.Is then((aS a.L (Fv v3 0)).bind λw=>some (decide (w.ID=o.Of)))else(some false))else(some false)).bind λx=>bif x then((aS a.L v3).bind λe=>(o6 a.L v3 ({e with Objected:=true,Last:=Fv e.Last o.At})).bind λy=>some ({a with L:=y}))else(some a))else(bif o.Kind=13 then((jN a o.Of).bind λc=>(bif 0<=c then((fb a.In o.Old).bind λf=>bif f then((gE a o.Old).bind λg=>(aS a.L (Fv c 0)).bind λh=>bif g=h.N then((gE a o.Device).bind λi=>(aS a.L (Fv c 0)).bind λj=>some (decide (i=j.N)))else(some false))else(some false))else(some false)).bind λz=>bif z then((gE a o.Device).bind λA=>(se a A).bind λB=>(nX a o.Device B).bind λC=>(sh C o.Old).bind λk=>some k)else(some a))else(some a))))))))
theorem AU{r_ o id_}:DL prog gl (DM r_ o id_) 176 [.agg (aU r_),.agg (aJ o),.agg (aj id_)] (λr=> .agg (aU r)):=
 cy func176 λK=>BG 19 (c9 gl) λv1=>BG 20 (dA gl) λv3=>aF 24 (N4 1110121300 (sp [] [(3,.ref 0 0),(4,.ref 1 0),(6,.ref 2 0)] [ob 0 250 (aU r_),ob 1 70 (aJ o),ob 2 250 (bF [0,1,2,3,5] (aU eY))] 3) [] 41 (rv K) (BG 46 (qP gl) λv9=>rv K) λk11=>aF 28 (rx k11)<|aF 34 (rx k11)<|BG 39 (c9 gl) λy=>rx k11)<|aF 51 (BG 57 (qP gl) λz=>rv K)<|aF 59 (cN 111012141413101 (sp [] [(3,.ref 0 0),(4,.ref 1 0),(6,.ref 2 0),(8,aE cZ ([o.Device]:Bn)),(65,bG (decide (o.Device=0)))] [ob 0 250 (aU r_),ob 1 70 (aJ o),ob 2 250 (bF [0,1,2,3,5] (aU eY))] 3) [hc (rZ.al ([o.Device]:Bn))]<|rdM 111012141413101 (λc=>sk [3] [(6,.ref 1 0),(8,aE cZ c)] [ob 0 250 (aU r_),ob 1 250 (bF [0,1,2,3,5] (aU eY))] 2) (λc=>I5 111012141413111 (λg=>so [8] [] [ob 0 250 (aU g)] 2) (λd=>so [] [(10,iG d.2)] [ob 0 250 (aU d.1)] 2) [] (λg=>rv K) λd k l=>aF 94 (CD 100 rZ.ixZ 101 (rZ.p1Y tZ) λA=>BG 102 (AS gl) λB=>rb k)<|aA c1 l []) λC h D=>eH [65] (I5 111012141413101311 (λi=>sk [3] [(6,.ref 1 0),(8,aE cZ i)] [ob 0 250 (aU r_),ob 1 250 (bF [0,1,2,3,5] (aU eY))] 2) (λb=>so [65] [(8,.rsl 3 0 b.1.length),(9,iG b.2)] [ob 3 3 (b.1.flatMap cZ)] 4) [hc (rZ.imm [])] (λi=>aA c4 h []) λb j m=>aF 70 (CD 77 rZ.ixZ 78 (rZ.p1Y tZ) λE=>BG 79 (c9 gl) λF=>aF 82 (CD 87 rZ.ixZ 88 (rZ.p1Y tZ) λH=>Gd (dg 90 rZ) λn=>cj j (DP rZ n))<|cj j (DP rZ b.1))<|aA c1 m [hc (rZ.al b.1)])<|aA c4 h [])<|aF 104 (BG 108 (dA gl) λI=>aF 110 (CD 114 bI.ixZ 115 (bI.ptZ LG) λJ=>JI 123 bI (JA gl) λL=>rv K)<|rv K)<|aF 126 (BG 130 (Df gl) λM=>rv K)<|aF 132 (BG 135 (Dg gl) λN=>rv K)<|aF 137 (N4 111012141414141414130 (sp [] [(3,.ref 0 0),(4,.ref 1 0),(6,.ref 2 0),(7,iG v3)] [ob 0 250 (aU r_),ob 1 70 (aJ o),ob 2 250 (bF [0,1,2,3,5] (aU eY))] 3) [] 160 (CD 164 bI.ixZ 165 (bI.ptZ LG) λO=>JI 177 bI (JA gl) λP=>rv K) (rv K) λe=>aF 139 (CD 145 bI.ixZ 147 (bI.fdY tO 2) λQ=>aF 148 (CD 154 bI.ixZ 156 (bI.fsZ aW jz 3 BU) λp=>aw [hV 159 (dU p.ID o.Of rfl)]<|rx e)<|rx e)<|rx e)<|aF 180 (BG 184 (mA gl) λq=>cN 111012141414141414141310 (sp [] [(3,.ref 0 0),(4,.ref 1 0),(6,.ref 2 0),(14,iG q)] [ob 0 250 (aU r_),ob 1 70 (aJ o),ob 2 250 (bF [0,1,2,3,5] (aU eY))] 3) []<|cC 111012141414141414141310 (λf=>sf [14] [(221,bG f)]) (λf=>eH [221] (BG 229 (c9 gl) λR=>BG 230 (ug gl) λS=>BG 231 (qP gl) λU=>BG 235 (AS gl) λs=>rv K)<|rv K) λf a=>aF 186 (BG 192 (DD gl) λt=>aF 193 (BG 198 (c9 gl) λu=>CD 203 bI.ixZ 205 (bI.fdY tZ 0) λv=>aF 207 (BG 212 (c9 gl) λw=>CD 217 bI.ixZ 219 (bI.fdY tZ 0) λx=>rx a)<|rx a)<|rx a)<|rx a)<|rv K
def AV(cards:Mi):Option DE:=
 some ⟨cards,[],[],[],0,[]⟩
theorem DN{cards}:DL prog gl (AV cards) 233 [aE bv cards] (λr=> .agg (aU r)):=
 cy func233 λK=>rv K
def o9(e:DE)(o:Bo)(m:Int)(a:Bool):JQ:=
 bif o.Device≠0 then((fb e.In o.Device).bind λv2=>bif(!v2)then(some 17)else((bif(!a)then((gE e o.Device).bind λb=>some (decide (b≠m)))else(some false)).bind λf=>bif f then(some 14)else(some 0)))else((dS e o.Member).bind λc=>bif c<0 then(some 16)else((bif(!a)then(some (decide (o.Member≠m)))else(some false)).bind λd=>bif d then(some 14)else(some 0)))
theorem Dh{r_ o m rules}:DL prog gl (o9 r_ o m rules) 239 [.agg (aU r_),.agg (aJ o),iG m,bG rules] iG:=
 cy func239 λK=>aF 11 (BG 16 (DD gl) λv2=>aF 17 (rv K)<|Acd 11013100 (so [0,1] [(4,.ref 0 0),(5,.ref 1 0)] [ob 0 250 (aU r_),ob 1 70 (aJ o)] 2) [] 27 (rv K) (rv K) λk8=>aF 19 (BG 24 (c9 gl) λb=>rx k8)<|rx k8)<|BG 31 (dA gl) λc=>aF 32 (rv K)<|Acd 111100 (so [0,1] [(5,.ref 0 0)] [ob 0 70 (aJ o)] 1) [] 40 (rv K) (rv K) λa=>aF 34 (rx a)<|rx a
def pa(l:Bn)(s1:Bn×Int)(a:Int):Option ((Int)⊕(Int)):=
 (bif a<ah s1.1 then((aS s1.1 a).bind λb=>(aS l s1.2).bind λc=>some (decide (b<=c)))else(some false)).bind λd=>bif d then(some (.inl (wI (a+1))))else(some (.inr a))
def pb(l:Bn)(s1:Bn×Int):Option ((Bn×Int)⊕Bn):=
 bif s1.2<ah l then((AH (pa l s1) 0).bind λa=>(tq s1.1 a).bind λb=>(aT 8 ([]:Bn) b).bind λv22=>(aS l s1.2).bind λc=>(aT 8 v22 ([c]:Bn)).bind λd=>(mc s1.1 a).bind λe=>(aT 8 d e).bind λf=>some (.inl (f,wI (s1.2+1))))else(some (.inr s1.1))
def lg(l:Bn):Option Bn:=
 (AH (pb l) ([],0)).bind λa=>some a
theorem vH{l}:M5 prog gl (lg l) 242 [aE cZ l] 3 cZ:=
 gc func242 λK=>I5 11101 (λd=>sp [] [(3,.rsl 0 0 d.length)] [ob 0 3 (d.flatMap cZ)] 1) (λs1=>so [] [(3,.rsl 0 0 s1.1.length),(4,iG s1.2)] [ob 0 3 (s1.1.flatMap cZ)] 1) [hc (rZ.imm [])] (λd=>mr c0 K (rZ.imm _)) λs1 k5 h=>aF 10 (I5 111012210210 (λa=>sx [] [(3,aE cZ s1.1),(5,iG a)] [] 0) (λb=>sx [] [(3,aE cZ s1.1),(5,iG b)] [] 0) [hc (rZ.al s1.1)] (λa=>rdv 33 rZ.preZI λi=>Gd (wX 34 rZ) λv22=>CD 38 rZ.ixZ 39 (rZ.p1Y tZ) λj=>Gd (dg 41 rZ) λk=>rdv 45 rZ.sufZI λm=>Gd (eu 46 rZ) λe=>cj k5 (DP rZ e)) λb f g=>N4 1110122102102200 (sf [] []) [] 27 (rb f) (aA c1 g []) λc=>aF 16 (CD 20 rZ.ixZ 21 (rZ.p1Y tZ) λn=>CD 24 rZ.ixZ 25 (rZ.p1Y tZ) λo=>rx c)<|rx c)<|aA c1 h (DP rZ s1.1)
def QM(b:DE)(device:Int)(h:GR)(a:Bn×Int):Option ((Bn×Int)⊕Bn):=
 bif a.2<ah b.V then(((aS b.V a.2).bind λc=>bif c.Of=h.ID then((aS b.V a.2).bind λd=>some (decide (d.Device=device)))else(some false)).bind λe=>bif e then((aS b.V a.2).bind λf=>(aT 8 a.1 ([f.At]:Bn)).bind λg=>some (.inl (g,wI (a.2+1))))else(some (.inl (a.1,wI (a.2+1)))))else(some (.inr a.1))
def Ff(g:DE)(a:Int)(device:Int):Option (Int×Int):=
 (dS g a).bind λv1=>bif v1<0 then(some (0,4))else((aS g.L v1).bind λb=>bif(!b.Is)then(some (0,4))else((AH (QM g device b) ([],0)).bind λh=>(lg h).bind λc=>bif ah c<b.Need then(some (0,26))else((bif b.Objected then((aS c 0).bind λd=>some (decide (d<=b.Last)))else(some false)).bind λe=>bif e then(some (0,28))else((aS c (wI (b.Need-1))).bind λf=>some (wI (f+b.Wait),0)))))
theorem Nc{r_ a device}:DL prog gl (Ff r_ a device) 339 [.agg (aU r_),iG a,iG device] (λr=> .tup [iG r.1,iG r.2]):=
 cy func339 λK=>BG 14 (dA gl) λv1=>aF 16 (rv K)<|CD 20 bI.ixZ 21 (bI.ptZ LG) λg=>aF 24 (rv K)<|I5 111111101 (λk=>sp [] [(9,.ref 0 0),(10,aE cZ k)] [ob 0 310 (jG g)] 1) (λb=>sp [2] [(3,.ref 0 0),(9,.ref 1 0),(10,.rsl 2 0 b.1.length),(11,iG b.2)] [ob 0 250 (aU r_),ob 1 310 (jG g),ob 2 3 (b.1.flatMap cZ)] 3) [hc (rZ.imm [])] (λk=>JI 61 rZ (vH gl) λh=>aF 66 (rv K)<|N4 111111111100 (sf [] [(10,aE cZ h)]) [] 76 (rv K) (CD 81 rZ.ixZ 82 (rZ.p1Y tZ) λl=>rv K) λd=>aF 68 (CD 73 rZ.ixZ 74 (rZ.p1Y tZ) λm=>rx d)<|rx d) λb k11 i=>aF 29 (N4 111111101221020 (sf [] []) (DP rZ b.1) 50 (CD 55 bV.ixZ 57 (bV.fdY tZ 5) λn=>Gd (dg 59 rZ) λj=>cj k11 (DP rZ j)) (cj k11 (DP rZ b.1)) λe=>CD 35 bV.ixZ 37 (bV.fsZ aW jz 0 BU) λf=>kV (λc=>CD 45 bV.ixZ 47 (bV.fdY tZ 4) λo=>aw [hV 40 (cV (dU f.Of g.ID rfl) c)]<|aA c0 e (DP rZ b.1)) λc=>aw [hV 40 (cV (dU f.Of g.ID rfl) c)]<|aA c0 e (DP rZ b.1))<|aA c1 i [hc (rZ.al b.1)]
def mB(a:DE)(o:Bo):JQ:=
 (nY a o).bind λv1=>bif v1.2≠0 then(some v1.2)else((aS a.L v1.1).bind λc=>(bif o.Kind=11 then((gE a o.Device).bind λd=>some (decide (d≠c.N)))else(some false)).bind λj=>bif j then(some 16)else((bif o.Kind=13 then((fb a.In o.Old).bind λe=>bif(!e)then(some true)else((gE a o.Old).bind λf=>bif f≠c.N then(some true)else((gE a o.Device).bind λg=>some (decide (g≠c.N)))))else(some false)).bind λk=>bif k then(some 17)else((nW a o.Device).bind λh=>bif(!h)then(some 17)else(bif o.Kind=11 then(some 0)else((Ff a c.N o.Device).bind λb=>(bif b.2=0 then(some (decide (o.At<b.1)))else(some false)).bind λi=>bif i then(some 27)else(some b.2))))))
theorem AW{r_ o}:DL prog gl (mB r_ o) 241 [.agg (aU r_),.agg (aJ o)] iG:=
 cy func241 λK=>BG 14 (vG gl) λv1=>aF 18 (rv K)<|CD 23 bI.ixZ 25 (bI.fdY tZ 0) λf=>N4 1111100 (sp [] [(2,.ref 0 0),(3,.ref 1 0),(7,iG f.N)] [ob 0 250 (aU r_),ob 1 70 (aJ o)] 2) [] 36 (rv K) (N4 11111100 (sf [36] []) [] 63 (rv K) (BG 67 (qO gl) λg=>aF 69 (rv K)<|aF 72 (rv K)<|BG 78 (Nc gl) λc=>cN 1111111111100 (sk [] [(3,.ref 0 0),(9,iG c.1),(10,iG c.2)] [ob 0 70 (aJ o)] 1) []<|cC 1111111111100 (λb=>sk [10] [(88,bG b)] [] 0) (λb=>eH [88] (rv K)<|rv K) λb d=>aF 82 (rx d)<|rx d) λa=>aF 39 (BG 45 (DD gl) λh=>aF 46 (rx a)<|BG 51 (c9 gl) λi=>aF 54 (rx a)<|BG 59 (c9 gl) λj=>rx a)<|rx a) λe=>aF 28 (BG 33 (c9 gl) λk=>rx e)<|rx e
def Uc(d:DE)(o:Bo)(a:Int):Option ((Int)⊕(Unit⊕Int)):=
 bif a<ah o.Guards then((aS o.Guards a).bind λb=>(fb d.In b).bind λc=>bif(!c)then(some (.inr (.inr 17)))else(some (.inl (wI (a+1)))))else(some (.inr (.inl ())))
def AX(a:DE)(o:Bo)(x:Ab):JQ:=
 (gE a o.By).bind λv1=>bif o.Kind=1 then(bif v1=0 then(some 17)else((bif 0<ah a.In then(some true)else(some (decide (0<ah a.Gone)))).bind λw=>bif w then(some 5)else(some 0)))else((fb a.In o.By).bind λd=>bif(!d)then(some 15)else((se a v1).bind λb=>bif o.Kind=2 then((nW a o.Device).bind λe=>bif(!e)then(some 17)else((bif(!(decide (b=3)))then((gE a o.Device).bind λf=>some (decide (f≠v1)))else(some false)).bind λg=>bif g then(some 14)else(some 0)))else(bif o.Kind=3 then((o9 a o v1 (decide (b=3))).bind λh=>some h)else(bif o.Kind=5 then(bif(!(decide (b=3)))then(some 14)else((dS a o.Member).bind λi=>bif i<0 then(some 16)else(some 0)))else(bif o.Kind=6 then((se a v1).bind λj=>bif j<2 then(some 14)else(some 0))else(bif o.Kind=8 then((bif(!(decide (b=3)))then((gE a o.Of.By).bind λk=>some (decide (k≠v1)))else(some false)).bind λl=>bif l then(some 14)else(some 0))else(bif o.Kind=9 then((AH (Uc a o) 0).bind λm=>ma m (λv=>some 0) (λq=>some q))else((bif o.Kind=10 then(some true)else(some (decide (o.Kind=12)))).bind λn=>bif n then((dS a v1).bind λc=>bif c<0 then(some 25)else(((aS a.L c).bind λp=>bif(!p.Is)then(some true)else((aS a.L c).bind λr=>some (!decide (r.ID=o.Of)))).bind λs=>bif s then(some 25)else(some 0)))else((bif o.Kind=11 then(some true)else(some (decide (o.Kind=13)))).bind λt=>bif t then((mB a o).bind λu=>some u)else(some 0))))))))))
theorem DO{r_ o id_}:DL prog gl (AX r_ o id_) 174 [.agg (aU r_),.agg (aJ o),.agg (aj id_)] iG:=
 cy func174 λK=>BG 15 (c9 gl) λv1=>aF 18 (aF 20 (rv K)<|Acd 111013100 (sp [] [(3,.ref 0 0)] [ob 0 250 (aU r_)] 1) [] 30 (rv K) (rv K) λk8=>aF 24 (rx k8)<|rx k8)<|BG 35 (DD gl) λp=>aF 36 (rv K)<|BG 39 (ug gl) λb=>aF 44 (BG 48 (qO gl) λq=>aF 50 (rv K)<|Acd 11111101213110 (sp [] [(3,.ref 0 0),(4,.ref 1 0),(7,iG v1),(8,bG (decide (b=3)))] [ob 0 250 (aU r_),ob 1 70 (aJ o)] 2) [] 60 (rv K) (rv K) λc=>aF 52 (BG 57 (c9 gl) λr=>rx c)<|rx c)<|aF 62 (BG 67 (Dh gl) λs=>rv K)<|aF 69 (aF 71 (rv K)<|BG 75 (dA gl) λt=>aF 76 (rv K)<|rv K)<|aF 78 (BG 81 (ug gl) λu=>aF 82 (rv K)<|rv K)<|aF 84 (Acd 11111101214141414130 (sp [] [(3,.ref 0 0),(4,.ref 1 0),(7,iG v1),(8,bG (decide (b=3)))] [ob 0 250 (aU r_),ob 1 70 (aJ o)] 2) [] 95 (rv K) (rv K) λd=>aF 86 (BG 92 (c9 gl) λv=>rx d)<|rx d)<|aF 97 (O7 1111110121414141414131 (λe=>sg [] []) (λf=>sp [] [(3,.ref 0 0),(4,.ref 1 0),(10,iG f)] [ob 0 250 (aU r_),ob 1 70 (aJ o)] 2) [] K (λe=>rv K) λf j k l=>aF 102 (CD 110 rZ.ixZ 111 (rZ.p1Y tZ) λw=>BG 112 (DD gl) λx=>aF 113 (aP c3 l [])<|rb j)<|aA c2 k [])<|N4 11111101214141414141401 (sp [] [(3,.ref 0 0),(4,.ref 1 0),(7,iG v1),(42,iG o.Kind),(114,bG (decide (o.Kind=10)))] [ob 0 250 (aU r_),ob 1 70 (aJ o)] 2) [] 114 (BG 119 (dA gl) λm=>aF 121 (rv K)<|Acd 11111101214141414141413110 (sg [3,4] [(11,iG m)]) [] 139 (rv K) (rv K) λg=>CD 125 bI.ixZ 127 (bI.fdY tO 2) λy=>aF 128 (rx g)<|CD 133 bI.ixZ 135 (bI.fsZ aW jz 3 BU) λn=>aw [hV 138 (dy n.ID o.Of rfl)]<|rx g) (cN 1111110121414141414141401 (sf [7,114] [(140,bG (decide (o.Kind=11)))]) []<|cC 1111110121414141414141401 (λa=>sf [42] [(140,bG a)]) (λa=>eH [140] (BG 145 (AW gl) λz=>rv K)<|rv K) λa h=>eH [140] (rx h)<|rx h) λi=>eH [114] (rx i)<|rx i
def xx(g:Bc)(a:Bn)(at_:Int)(s3:DE×Int):Option ((DE×Int)⊕(DE)):=
 bif s3.2<ah a then((aS g.In at_).bind λb=>(aS a s3.2).bind λc=>(aS b c).bind λd=>bif d then((aS a s3.2).bind λe=>(aS g.L e).bind λf=>(aS a s3.2).bind λh=>(aS g.IDs h).bind λi=>(DM s3.1 f i).bind λj=>some (.inl (j,wI (s3.2+1))))else(some (.inl (s3.1,wI (s3.2+1)))))else(some (.inr s3.1))
def Fg(g:Bc)(a:Bn)(at_:Int):Option DE:=
 (AV g.Cards).bind λv1=>(AH (xx g a at_) (v1,0)).bind λb=>some b
theorem G5{g some_ at_ r}(h:Fg g some_ at_=some r):OU prog gl 331 [.agg (aI g),.rsl 0 0 some_.length,iG at_] [ob 0 3 (some_.flatMap cZ)] 1 1 (.agg (aU r)) [ob 0 3 (some_.flatMap cZ)]:=
 Yx (λr:DE=> .agg (aU r)) (λr:DE=>[ob 0 3 (some_.flatMap cZ)]) func331 h (λi hi=>by match i,hi with|0,_=>exact⟨_,rfl⟩) λK=>ak λv1 e2=>aw [hf 11 (DN gl e2)]<|rdL 11101 1110122 (λl=>sp [] [(6,.ref 1 0),(7,.ref 2 0)] [ob 1 250 (bF [0,1,2,3,5] (aU eY)),ob 2 250 (aU l)] 3) (λs3=>so [0] [(3,.ref 1 0),(6,.ref 2 0),(7,.ref 3 0),(8,iG s3.2)] [ob 1 30 (aI g),ob 2 250 (bF [0,1,2,3,5] (aU eY)),ob 3 250 (aU s3.1)] 4) [hc (el some_),hc (rZ.imm some_)] (ρ:=rI 4) (kd:=[(0,.row)]) (λl=>rdU c0 K [hc (rZ.imm some_)] [(0,0)] [(0,.row)]) λs3 m k6=>aF 15 (ak λn c=>ak λo e16=>ak λp a=>aw [AB 21 (zV.ixZ c),AB 22 (zV.p1Z Vt c),AB 25 (rZ.ixrZ 0 e16),AB 26 (rZ.p10Z tZ e16),AB 27 (rO.ixZ a)]<|kV (λb=>ak λq d=>ak λs e=>ak λt f=>ak λu j=>ak λv k=>aw [AB 28 (cB (rO.p1Z tO a) b),AB 34 (rZ.ixrZ 0 d),AB 35 (rZ.p10Z tZ d),AB 36 (eJ.ixZ e),AB 37 (eJ.ptZ GN e),AB 42 (rZ.ixrZ 0 f),AB 43 (rZ.p10Z tZ f),AB 44 (ac.ixZ j),AB 45 (ac.ptZ aW j),hf 46 (AU gl k)]<|cj m [hc (el some_),hc (rZ.imm some_)] (ρ:=rI 4) (kd:=[(0,.row)])) λb=>aw [AB 28 (cB (rO.p1Z tO a) b)]<|cj m [hc (el some_),hc (rZ.imm some_)] (ρ:=rI 4) (kd:=[(0,.row)]))<|aA c1 k6 [hc (rZ.imm some_)] (ρ:=[(0,0),(1,2),(2,3)]) (kd:=[(0,.row)])
def um(g:Bc)(l:JW)(s1:Bn×Int):Option ((Bn×Int)⊕Bn):=
 bif s1.2<ah l.Row then((aS l.Row s1.2).bind λa=>(aS l.Void a).bind λb=>bif b then(some (.inl (s1.1,wI (s1.2+1))))else((Fg g s1.1 a).bind λc=>(aS g.L a).bind λd=>(aS g.IDs a).bind λe=>(AX c d e).bind λv22=>bif v22=0 then((aT 8 s1.1 ([a]:Bn)).bind λv25=>some (.inl (v25,wI (s1.2+1))))else(some (.inl (s1.1,wI (s1.2+1))))))else(some (.inr s1.1))
def SD(g:Bc)(l:JW):Option Bn:=
 (AH (um g l) ([],0)).bind λa=>some a
theorem AY{g l}:M5 prog gl (SD g l) 234 [.agg (aI g),.agg (fU l)] 3 cZ:=
 gc func234 λK=>I5 11101 (λd=>sp [] [(5,.rsl 0 0 d.length)] [ob 0 3 (d.flatMap cZ)] 1) (λs1=>sp [] [(2,.ref 0 0),(3,.ref 1 0),(5,.rsl 2 0 s1.1.length),(6,iG s1.2)] [ob 0 30 (aI g),ob 1 304 (fU l),ob 2 3 (s1.1.flatMap cZ)] 3) [hc (rZ.imm [])] (λd=>mr c0 K (rZ.imm _)) λs1 k5 f=>aF 12 (CD 18 rZ.ixZ 19 (rZ.p1Y tZ) λh=>ak λj a=>aw [AB 23 (rO.ixZ a)]<|kV (λb=>aw [AB 24 (cB (rO.p1Z tO a) b)]<|cj k5 (DP rZ s1.1)) λb=>ak λk e=>CD 32 eJ.ixZ 33 (eJ.ptZ GN) λm=>CD 37 ac.ixZ 38 (ac.ptZ aW) λn=>BG 39 (DO gl) λv22=>aw [AB 24 (cB (rO.p1Z tO a) b),hz 28 [2] (wS (i:=2) (c:=3) aH (G5 gl e) (aG 20 _ aH) (rZ.imm s1.1) BU (by rfl) (CJ (aG 20 _ aH) (w5 (CJ (aG 20 _ aH) (wZ)))))]<|aF 40 (Gd (dg 44 rZ) λv25=>cj k5 (DP rZ v25))<|cj k5 (DP rZ s1.1))<|aA c1 f (DP rZ s1.1)
def qR(g:Bc)(a:Ab):JQ:=
 (fC g a).bind λv1=>some v1
theorem yG{g id_}:DL prog gl (qR g id_) 251 [.agg (aI g),.agg (aj id_)] iG:=
 cy func251 λK=>BG 7 (dX gl) λv1=>rv K
def iP(g:Bc)(s1:Bn×Int)(a:Int×Int):Option ((Int×Int)⊕(Int)):=
 (aS g.Up s1.2).bind λb=>bif a.2<ah b then((aS g.Up s1.2).bind λc=>(aS c a.2).bind λd=>(aS s1.1 d).bind λe=>some (.inl (Fv a.1 (wI (1+e)),wI (a.2+1))))else(some (.inr a.1))
def pd(g:Bc)(s1:Bn×Int):Option ((Bn×Int)⊕Bn):=
 bif s1.2<ah g.L then((AH (iP g s1) (1,0)).bind λa=>(aT 8 s1.1 ([a]:Bn)).bind λb=>some (.inl (b,wI (s1.2+1))))else(some (.inr s1.1))
def nZ(g:Bc):Option Bn:=
 (AH (pd g) ([],0)).bind λa=>some a
theorem Fh{g}:M5 prog gl (nZ g) 340 [.agg (aI g)] 3 cZ:=
 gc func340 λK=>I5 11101 (λc=>sp [] [(3,.rsl 0 0 c.length)] [ob 0 3 (c.flatMap cZ)] 1) (λs1=>sp [] [(1,.ref 0 0),(3,.rsl 1 0 s1.1.length),(4,iG s1.2)] [ob 0 30 (aI g),ob 1 3 (s1.1.flatMap cZ)] 2) [hc (rZ.imm [])] (λc=>mr c0 K (rZ.imm _)) λs1 k5 h=>aF 11 (I5 1110122102101 (λb=>sf [] [(5,iG b)]) (λa=>sf [] [(5,iG a.1),(6,iG a.2)]) (DP rZ s1.1) (λb=>Gd (dg 41 rZ) λd=>cj k5 (DP rZ d)) λa e f=>CD 18 nH.ixZ 19 (nH.p1Y Vs) λi=>aF 21 (CD 29 nH.ixZ 30 (nH.p1Y Vs) λj=>CD 32 rZ.ixZ 33 (rZ.p1Y tZ) λk=>CD 34 (rZ.ixrZ 1) 35 (rZ.p10Y tZ) λl=>cj e (DP rZ s1.1))<|aA c1 f (DP rZ s1.1))<|aA c1 h (DP rZ s1.1)
def vI(g:Bc)(l:Bn)(i:Int)(k:Int):Fo:=
 (aS l i).bind λd=>(aS l k).bind λe=>bif d≠e then((aS l i).bind λf=>(aS l k).bind λh=>some (decide (f<h)))else((aS g.IDs i).bind λa=>(aS g.IDs k).bind λb=>(oU a b).bind λc=>some c)
theorem G6{g l i k}:DL prog gl (vI g l i k) 341 [.agg (aI g),aE cZ l,iG i,iG k] bG:=
 cy func341 λK=>CD 11 rZ.ixZ 12 (rZ.p1Y tZ) λd=>CD 15 rZ.ixZ 16 (rZ.p1Y tZ) λe=>aF 17 (CD 20 rZ.ixZ 21 (rZ.p1Y tZ) λf=>CD 24 rZ.ixZ 25 (rZ.p1Y tZ) λh=>rv K)<|CD 30 ac.ixZ 31 (ac.ptZ aW) λa=>CD 35 ac.ixZ 36 (ac.ptZ aW) λb=>BG 37 (oV gl) λc=>rv K
def qS(g:Bc)(e:Bn)(a:Ba×Int):Option ((Ba×Int)⊕Ba):=
 bif a.2<ah e then((aS e a.2).bind λb=>(aS g.IDs b).bind λc=>(aT 24 a.1 [c]).bind λd=>some (.inl (d,wI (a.2+1))))else(some (.inr a.1))
def qT(g:Bc)(v1:Bn)(s3:Bn×Int)(b:Int)(a:Int):Option ((Int)⊕(Int)):=
 (bif a<ah s3.1 then((aS s3.1 a).bind λc=>(vI g v1 c b).bind λd=>some d)else(some false)).bind λe=>bif e then(some (.inl (wI (a+1))))else(some (.inr a))
def qU(g:Bc)(ids:Ba)(v1:Bn)(s3:Bn×Int):Option ((Bn×Int)⊕Bn):=
 bif s3.2<ah ids then((aS ids s3.2).bind λc=>(qR g c).bind λa=>bif a<0 then(some (.inl (s3.1,wI (s3.2+1))))else((AH (qT g v1 s3 a) 0).bind λb=>(tq s3.1 b).bind λd=>(aT 8 ([]:Bn) d).bind λv45=>(aT 8 v45 ([a]:Bn)).bind λe=>(mc s3.1 b).bind λf=>(aT 8 e f).bind λh=>some (.inl (h,wI (s3.2+1)))))else(some (.inr s3.1))
def n8(g:Bc)(ids:Ba):Option Ba:=
 (nZ g).bind λv1=>(AH (qU g ids v1) ([],0)).bind λb=>(AH (qS g b) ([],0)).bind λa=>some a
theorem G7{g ids}:M5 prog gl (n8 g ids) 249 [.agg (aI g),aE aj ids] 41 aj:=
 gc func249 λK=>JI 14 rZ (Fh gl) λv1=>I5 111101 (λn=>sp [] [(2,.ref 0 0),(6,aE cZ n)] [ob 0 30 (aI g)] 1) (λs3=>so [0] [(2,.ref 0 0),(5,aE cZ v1),(6,aE cZ s3.1),(7,iG s3.2)] [ob 0 30 (aI g)] 1) [] (λn=>I5 11111101 (λb=>sp [] [(11,.rsl 0 0 b.length)] [ob 0 41 (b.flatMap aj)] 1) (λa=>so [] [(11,.rsl 1 0 a.1.length),(12,iG a.2)] [ob 1 41 (a.1.flatMap aj)] 2) [hc (ac.imm [])] (λb=>mr c0 K (ac.imm _)) λa h i=>aF 62 (CD 70 rZ.ixZ 71 (rZ.p1Y tZ) λp=>CD 72 ac.ixZ 73 (ac.ptZ aW) λq=>Gd (dg 75 ac) λj=>cj h (DP ac j))<|aA c1 i (DP ac a.1)) λs3 o k6=>aF 18 (CD 24 ac.ixZ 25 (ac.ptZ aW) λr=>BG 26 (yG gl) λc=>aF 28 (rb o)<|I5 111101221021110 (λd=>sf [] [(8,iG c),(9,iG d)]) (λe=>sf [] [(8,iG c),(9,iG e)]) [] (λd=>rdv 48 rZ.preZI λs=>Gd (wX 49 rZ) λv45=>Gd (dg 53 rZ) λt=>rdv 57 rZ.sufZI λu=>Gd (eu 58 rZ) λk=>cj o [hc (rZ.al k)]) λe l m=>N4 1111012210211102200 (sf [] []) [] 42 (rb l) (aA c1 m []) λf=>aF 32 (CD 38 rZ.ixZ 39 (rZ.p1Y tZ) λv=>BG 41 (G6 gl) λw=>rx f)<|rx f)<|aA c1 k6 []
def LJ(o:Bo):JQ:=
 bif o.Kind=1 then(some o.By)else((bif o.Kind=2 then(some true)else(some (decide (o.Kind=13)))).bind λa=>bif a then(some o.Device)else(some 0))
theorem Pk{o}:DL prog gl (LJ o) 250 [.agg (aJ o)] iG:=
 cy func250 λK=>aF 5 (rv K)<|N4 11100 (sp [] [(1,.ref 0 0)] [ob 0 70 (aJ o)] 1) [] 15 (rv K) (rv K) λk5=>aF 10 (rx k5)<|rx k5
def nk(g:Bc)(v1:Ba)(s3:Bn×Int):Option ((Bn×Int)⊕Bn):=
 bif s3.2<ah v1 then((aS v1 s3.2).bind λb=>(qR g b).bind λc=>(aS g.L c).bind λd=>(LJ d).bind λa=>(bif 0<a then((fb s3.1 a).bind λe=>some (!e))else(some false)).bind λf=>bif f then((aT 8 s3.1 ([a]:Bn)).bind λh=>some (.inl (h,wI (s3.2+1))))else(some (.inl (s3.1,wI (s3.2+1)))))else(some (.inr s3.1))
def jn(g:Bc)(ids:Ba):Option Bn:=
 (n8 g ids).bind λv1=>(AH (nk g v1) ([],0)).bind λa=>some a
theorem Di{g ids}:M5 prog gl (jn g ids) 177 [.agg (aI g),aE aj ids] 3 cZ:=
 gc func177 λK=>JI 11 ac (G7 gl) λv1=>I5 111101 (λc=>sp [] [(6,.rsl 0 0 c.length)] [ob 0 3 (c.flatMap cZ)] 1) (λs3=>sp [] [(2,.ref 0 0),(5,aE aj v1),(6,.rsl 1 0 s3.1.length),(7,iG s3.2)] [ob 0 30 (aI g),ob 1 3 (s3.1.flatMap cZ)] 2) [hc (rZ.imm [])] (λc=>mr c0 K (rZ.imm _)) λs3 f k6=>aF 15 (CD 23 ac.ixZ 24 (ac.ptZ aW) λh=>BG 25 (yG gl) λi=>CD 26 eJ.ixZ 27 (eJ.ptZ GN) λj=>BG 28 (Pk gl) λa=>N4 1111012210210 (sf [] [(8,iG a)]) (DP rZ s3.1) 36 (Gd (dg 40 rZ) λd=>cj f (DP rZ d)) (cj f (DP rZ s3.1)) λb=>aF 30 (ak λk e=>aw [hq 34 [aE cZ s3.1,iG a] [hc (rZ.al s3.1)] (DD gl e)]<|aA c0 b (DP rZ s3.1))<|aA c0 b (DP rZ s3.1))<|aA c1 k6 (DP rZ s3.1)
def un(ids:Ba)(s1:Ba×Int):Option ((Ba×Int)⊕Ba):=
 bif s1.2<ah ids then((aS ids s1.2).bind λb=>(qN ids b.By).bind λa=>(bif 0<a then((aS ids s1.2).bind λc=>some (decide (a<=c.Seq)))else(some false)).bind λd=>bif d then((aS ids s1.2).bind λe=>(aT 24 s1.1 [e]).bind λv22=>some (.inl (v22,wI (s1.2+1))))else(some (.inl (s1.1,wI (s1.2+1)))))else(some (.inr s1.1))
def vJ(ids:Ba):Option Ba:=
 (AH (un ids) ([],0)).bind λb=>(iu b).bind λa=>some a
theorem JC{ids}:M5 prog gl (vJ ids) 376 [aE aj ids] 41 aj:=
 gc func376 λK=>I5 11101 (λc=>sg [] [(3,aE aj c)]) (λs1=>so [] [(3,.rsl 0 0 s1.1.length),(4,iG s1.2)] [ob 0 41 (s1.1.flatMap aj)] 1) [hc (ac.imm [])] (λc=>ak λd e=>aw [ho 38 [aE aj c] [] (iO gl e) (kF d)]<|mr c0 K (ac.imm _)) λs1 k5 g=>aF 9 (CD 15 ac.ixZ 17 (ac.fdY tZ 0) λh=>BG 18 (yF gl) λf=>cN 111012210210 (sf [] [(5,iG f)]) (DP ac s1.1)<|cC 111012210210 (λa=>sf [5] [(29,bG a)]) (λa=>eH [29] (CD 33 ac.ixZ 34 (ac.ptZ aW) λi=>Gd (dg 36 ac) λv22=>cj k5 (DP ac v22))<|cj k5 (DP ac s1.1)) λa b=>aF 20 (CD 24 ac.ixZ 26 (ac.fdY tZ 1) λj=>aA c0 b (DP ac s1.1))<|aA c0 b (DP ac s1.1))<|aA c1 g [hc (ac.al s1.1)]
def uo(g:Bc)(b:Ba)(a:List Bool×List Bool×Int):Option ((List Bool×List Bool×Int)⊕(List Bool×List Bool)):=
 bif a.2.2<ah b then((aS b a.2.2).bind λd=>(fC g d).bind λc=>(ji a.1 c true).bind λe=>(ji a.2.1 c true).bind λf=>some (.inl (e,f,wI (a.2.2+1))))else(some (.inr (a.1,a.2.1)))
def uq(g:Bc)(v1:Ba)(a:Bn×Int):Option ((Bn×Int)⊕Bn):=
 bif a.2<ah v1 then((aS v1 a.2).bind λb=>(fC g b).bind λc=>(aT 8 a.1 ([c]:Bn)).bind λd=>some (.inl (d,wI (a.2+1))))else(some (.inr a.1))
def Aa(g:Bc)(ids:Ba):Option JW:=
 (n8 g ids).bind λv1=>(rP 1 (false:Bool) (ah g.L)).bind λd=>(rP 1 (false:Bool) (ah g.L)).bind λe=>(rP 1 (false:Bool) (ah g.L)).bind λf=>(AH (uq g v1) ([],0)).bind λb=>(vJ ids).bind λc=>(AH (uo g c) (d,e,0)).bind λa=>some ⟨b,a.1,a.2,f⟩
theorem JE{g ids r}(h:Aa g ids=some r):OU prog gl 332 [.agg (aI g),aE aj ids] [] 0 0 (.agg [.rsl 0 0 r.Row.length,.rsl 1 0 r.Void.length,.rsl 2 0 r.Fork.length,.rsl 3 0 r.Decided.length]) [ob 0 3 (r.Row.flatMap cZ),ob 1 4 (r.Void.flatMap cO),ob 2 4 (r.Fork.flatMap cO),ob 3 4 (r.Decided.flatMap cO)]:=
 Yx (λr:JW=> .agg [.rsl 0 0 r.Row.length,.rsl 1 0 r.Void.length,.rsl 2 0 r.Fork.length,.rsl 3 0 r.Decided.length]) (λr:JW=>[ob 0 3 (r.Row.flatMap cZ),ob 1 4 (r.Void.flatMap cO),ob 2 4 (r.Fork.flatMap cO),ob 3 4 (r.Decided.flatMap cO)]) func332 h (λi hi=>absurd hi (Nat.not_lt_zero i)) λK=>JI 13 ac (G7 gl) λv1=>Gd (hmk 17 rO) λe=>Gd (hmk 22 rO) λf=>Gd (hmk 27 rO) λb=>I5 111111101 (λa=>so [0] [(2,.ref 0 0),(4,.ref 1 0),(5,.ref 2 0)] [ob 0 30 (aI g),ob 1 304 (bF [0,1,2,3] (fU AC)),ob 2 304 [.rsl 3 0 a.length,.rsl 4 0 e.length,.rsl 5 0 f.length,.rsl 6 0 b.length],ob 3 3 (a.flatMap cZ),ob 4 4 (e.flatMap cO),ob 5 4 (f.flatMap cO),ob 6 4 (b.flatMap cO)] 7) (λl=>so [0] [(2,.ref 0 0),(4,.ref 1 0),(5,.ref 2 0),(6,aE aj v1),(7,iG l.2)] [ob 0 30 (aI g),ob 1 304 (bF [0,1,2,3] (fU AC)),ob 2 304 [.rsl 3 0 l.1.length,.rsl 4 0 e.length,.rsl 5 0 f.length,.rsl 6 0 b.length],ob 3 3 (l.1.flatMap cZ),ob 4 4 (e.flatMap cO),ob 5 4 (f.flatMap cO),ob 6 4 (b.flatMap cO)] 7) [hc (el e),hc (el f),hc (el b),hc (rZ.imm []),hc (rO.imm e),hc (rO.imm f),hc (rO.imm b)] (λa=>JI 47 ac (JC gl) λp=>I5 11111111101 (λd=>sk [] [(4,.ref 0 0),(5,.ref 1 0)] [ob 0 304 (bF [0,1,2,3] (fU AC)),ob 1 304 [.rsl 2 0 a.length,.rsl 3 0 d.1.length,.rsl 4 0 d.2.length,.rsl 5 0 b.length],ob 2 3 (a.flatMap cZ),ob 3 4 (d.1.flatMap cO),ob 4 4 (d.2.flatMap cO),ob 5 4 (b.flatMap cO)] 6) (λc=>so [1] [(8,aE aj p),(9,iG c.2.2)] [ob 2 304 [.rsl 3 0 a.length,.rsl 4 0 c.1.length,.rsl 5 0 c.2.1.length,.rsl 6 0 b.length],ob 4 4 (c.1.flatMap cO),ob 5 4 (c.2.1.flatMap cO)] 7) [hc (el a),hc (el e),hc (el f),hc (el b),hc (rZ.imm a),hc (rO.imm e),hc (rO.imm f),hc (rO.imm b)] (λd=>rdU c0 K [hc (el a),hc (el d.1),hc (el d.2),hc (el b),hc (rZ.imm a),hc (rO.imm d.1),hc (rO.imm d.2),hc (rO.imm b)] [(0,2),(1,3),(2,4),(3,5)] [(0,.row),(1,.row),(2,.row),(3,.row)]) λc q s=>aF 51 (CD 57 ac.ixZ 58 (ac.ptZ aW) λt=>BG 59 (dX gl) λu=>ak λm j=>ak λn k=>aw [AB 63 (rO.ixsZ 4 j),hw 63 (m.flatMap cO) (rO.putZ j),AB 67 (rO.ixsZ 5 k),hw 67 (n.flatMap cO) (rO.putZ k)]<|cj q [hc (el a),hc (hZ j),hc (hZ k),hc (el b),hc (rZ.imm a),hc (rO.imm m),hc (rO.imm n),hc (rO.imm b)])<|aA c1 s [hc (el a),hc (el c.1),hc (el c.2.1),hc (el b),hc (rZ.imm a),hc (rO.imm c.1),hc (rO.imm c.2.1),hc (rO.imm b)]) λl k13 k12=>aF 32 (CD 40 ac.ixZ 41 (ac.ptZ aW) λv=>BG 42 (dX gl) λw=>Gd (dg 44 rZ) λo=>cj k13 [hc (el o),hc (el e),hc (el f),hc (el b),hc (rZ.imm o),hc (rO.imm e),hc (rO.imm f),hc (rO.imm b)])<|aA c1 k12 [hc (el l.1),hc (el e),hc (el f),hc (el b),hc (rZ.imm l.1),hc (rO.imm e),hc (rO.imm f),hc (rO.imm b)]
def N8(g:Bc)(l:JW)(at_:Int):Fo:=
 (aS g.L at_).bind λa=>((aS l.Void at_).bind λc=>bif(!c)then((aS l.Decided at_).bind λb=>bif(!b)then(bif a.Kind=3 then(some true)else(bif a.Kind=13 then(some true)else(some (decide (a.Kind=12)))))else(some false))else(some false)).bind λd=>some d
theorem lC{g l at_}:DL prog gl (N8 g l at_) 335 [.agg (aI g),.agg (fU l),iG at_] bG:=
 cy func335 λK=>CD 11 eJ.ixZ 13 (eJ.fdY tZ 2) λc=>cN 1110 (sp [2] [(4,.ref 0 0),(7,iG c.Kind)] [ob 0 304 (fU l)] 1) []<|cC 1110 (λb=>sk [] [(6,bG b)] [] 0) (λb=>rv K) λb a=>CD 17 rO.ixZ 18 (rO.p1Y tO) λe=>aF 19 (CD 24 rO.ixZ 25 (rO.p1Y tO) λd=>aF 27 (aF 30 (rx a)<|aF 34 (rx a)<|rx a)<|rx a)<|rx a
def n9(g:Bc)(c:Int)(y:Int):Fo:=
 (aS g.L c).bind λa=>(aS g.L y).bind λb=>(bif c=y then(some true)else((aS g.In c).bind λd=>(aS d y).bind λe=>bif e then(some true)else((aS g.In y).bind λf=>(aS f c).bind λh=>some h))).bind λl=>bif l then(some false)else((bif a.Kind=3 then(some (decide (a.Device≠0)))else(some false)).bind λm=>bif m then(some (decide (b.By=a.Device)))else(bif a.Kind=3 then((nT g b.By).bind λi=>some (decide (i=a.Member)))else(bif a.Kind=13 then((bif b.By=a.Old then(bif b.Kind≠12 then(some true)else(some (!decide (b.Of=a.Of))))else(some false)).bind λj=>some j)else((bif a.Kind=12 then(bif b.Kind=13 then(bif a.Of=b.Of then(some (decide (a.At<=b.At)))else(some false))else(some false))else(some false)).bind λk=>some k))))
theorem mC{g x_ y}:DL prog gl (n9 g x_ y) 334 [.agg (aI g),iG x_,iG y] bG:=
 cy func334 λK=>CD 12 eJ.ixZ 13 (eJ.ptZ GN) λf=>CD 17 eJ.ixZ 18 (eJ.ptZ GN) λh=>cN 111100 (so [0] [(3,.ref 0 0),(7,.ref 1 0),(8,.ref 2 0)] [ob 0 30 (aI g),ob 1 70 (aJ f),ob 2 70 (aJ h)] 3) []<|cC 111100 (λj=>sf [1,2] [(41,bG j)]) (λj=>eH [41] (rv K)<|N4 1111100 (sf [41] []) [] 49 (rv K) (aF 57 (BG 61 (vE gl) λk=>rv K)<|aF 67 (cN 11111110130 (sk [] [(7,.ref 0 0),(8,.ref 1 0)] [ob 0 70 (aJ f),ob 1 70 (aJ h)] 2) []<|cC 11111110130 (λb=>sk [] [(6,bG b)] [] 0) (λb=>rv K) λb c=>aF 72 (aF 76 (rx c)<|aw [hV 82 (dy h.Of f.Of rfl)]<|rx c)<|rx c)<|cN 111111110 (sk [] [(7,.ref 0 0),(8,.ref 1 0)] [ob 0 70 (aJ f),ob 1 70 (aJ h)] 2) []<|cC 111111110 (λd=>sk [] [(6,bG d)] [] 0) (λd=>rv K) λd a=>aF 87 (aF 92 (aw [hV 98 (dU f.Of h.Of rfl)]<|aF 99 (rx a)<|rx a)<|rx a)<|rx a) λi=>aF 44 (rx i)<|rx i) λj e=>aF 21 (rx e)<|CD 26 zV.ixZ 27 (zV.p1Y Vt) λl=>CD 29 rO.ixZ 30 (rO.p1Y tO) λm=>aF 31 (rx e)<|CD 36 zV.ixZ 37 (zV.p1Y Vt) λn=>CD 39 rO.ixZ 40 (rO.p1Y tO) λo=>rx e
def qV(g:Bc)(l:JW)(h:Int)(y:Int)(s2:Int):Option ((Int)⊕(Unit⊕Bool)):=
 bif s2<ah l.Row then((aS l.Row s2).bind λa=>(bif a=h then((n9 g y a).bind λb=>some b)else((aS g.In h).bind λc=>(aS c a).bind λd=>bif d then((n9 g y a).bind λe=>some e)else(some false))).bind λf=>bif f then(some (.inr (.inr true)))else(some (.inl (wI (s2+1)))))else(some (.inr (.inl ())))
def qW(g:Bc)(l:JW)(a:Int)(y:Int):Fo:=
 bif a=y then(some false)else((AH (qV g l a y) 0).bind λb=>ma b (λc=>some false) (λq=>some q))
theorem yI{g l x_ y}:DL prog gl (qW g l x_ y) 336 [.agg (aI g),.agg (fU l),iG x_,iG y] bG:=
 cy func336 λK=>aF 13 (rv K)<|O7 11101 (λc=>sg [] []) (λs2=>so [0,1] [(4,.ref 0 0),(5,.ref 1 0),(9,iG s2)] [ob 0 30 (aI g),ob 1 304 (fU l)] 2) [] K (λc=>rv K) λs2 k6 k5 e=>aF 18 (CD 24 rZ.ixZ 25 (rZ.p1Y tZ) λd=>cN 111012210210 (sf [] [(10,iG d)]) []<|cC 111012210210 (λa=>sf [10] [(44,bG a)]) (λa=>eH [44] (aP c3 e [])<|rb k6) λa b=>aF 28 (BG 43 (mC gl) λf=>rx b)<|CD 33 zV.ixZ 34 (zV.p1Y Vt) λh=>CD 36 rO.ixZ 37 (rO.p1Y tO) λi=>aF 38 (BG 43 (mC gl) λj=>rx b)<|rx b)<|aA c2 k5 []
def ph(a:Bn)(device:Int)(s1:Int):Option ((Int)⊕(Unit⊕Int)):=
 bif s1<ah a then((aS a s1).bind λb=>bif b=device then(some (.inr (.inr s1)))else(some (.inl (wI (s1+1)))))else(some (.inr (.inl ())))
def oa(a:Bn)(device:Int):JQ:=
 (AH (ph a device) 0).bind λb=>ma b (λc=>some (ah a)) (λq=>some q)
theorem vK{a device}:DL prog gl (oa a device) 377 [aE cZ a,iG device] iG:=
 cy func377 λK=>O7 1101 (λb=>sf [1] []) (λs1=>sf [] [(5,iG s1)]) [] K (λb=>rv K) λs1 k5 c k6=>aF 9 (CD 14 rZ.ixZ 15 (rZ.p1Y tZ) λd=>aF 17 (aP c3 k6 [])<|rb k5)<|aA c2 c []
def ut(g:Bc)(l:JW)(b:Int)(a:Bool×Int):Option ((Bool×Int)⊕(Bool)):=
 bif a.2<ah l.Row then(((aS l.Row a.2).bind λc=>(N8 g l c).bind λd=>bif d then((aS l.Row a.2).bind λe=>(qW g l b e).bind λf=>some f)else(some false)).bind λh=>bif h then(some (.inl (false,wI (a.2+1))))else(some (.inl (a.1,wI (a.2+1)))))else(some (.inr a.1))
def uu(g:Bc)(l:JW)(a:Bn)(s1:Int×Int):Option ((Int×Int)⊕(Int⊕Int)):=
 bif s1.2<ah l.Row then((aS l.Row s1.2).bind λb=>(N8 g l b).bind λc=>bif(!c)then(some (.inl (s1.1,wI (s1.2+1))))else((AH (ut g l b) (true,0)).bind λd=>bif d then(some (.inr (.inr b)))else((bif s1.1<0 then(some true)else((aS g.L b).bind λe=>(oa a e.By).bind λf=>(aS g.L (Fv s1.1 0)).bind λh=>(oa a h.By).bind λi=>some (decide (f<i)))).bind λj=>bif j then(some (.inl (b,wI (s1.2+1))))else(some (.inl (s1.1,wI (s1.2+1)))))))else(some (.inr (.inl s1.1)))
def vL(g:Bc)(l:JW)(a:Bn):JQ:=
 (AH (uu g l a) ((-1),0)).bind λc=>ma c (λb=>some b) (λq=>some q)
theorem AZ{g l a}:DL prog gl (vL g l a) 333 [.agg (aI g),.agg (fU l),aE cZ a] iG:=
 cy func333 λK=>O7 11101 (λd=>sg [] [(7,iG d)]) (λs1=>sp [2] [(3,.ref 0 0),(4,.ref 1 0),(7,iG s1.1),(8,iG s1.2)] [ob 0 30 (aI g),ob 1 304 (fU l)] 2) [] K (λd=>rv K) λs1 k5 n k6=>aF 16 (CD 22 rZ.ixZ 23 (rZ.p1Y tZ) λe=>BG 27 (lC gl) λo=>aF 28 (rb k5)<|I5 111012210211101 (λf=>sf [] [(9,iG e),(10,bG f)]) (λb=>sf [] [(9,iG e),(10,bG b.1),(11,iG b.2)]) [] (λf=>aF 55 (aP c3 k6 [])<|N4 1110122102111110 (sf [10] []) [] 78 (rb k5) (rb k5) λh=>aF 58 (rx h)<|CD 64 eJ.ixZ 66 (eJ.fdY tZ 0) λp=>BG 67 (vK gl) λq=>CD 73 eJ.ixZ 75 (eJ.fdY tZ 0) λr=>BG 76 (vK gl) λs=>rx h) λb i m=>aF 33 (N4 111012210211101221020 (sf [] []) [] 54 (rb i) (rb i) λj=>CD 41 rZ.ixZ 42 (rZ.p1Y tZ) λt=>ak λu k=>kV (λc=>CD 51 rZ.ixZ 52 (rZ.p1Y tZ) λv=>BG 53 (yI gl) λw=>aw [hf 43 (cF (lC gl k) c)]<|rx j) λc=>aw [hf 43 (cF (lC gl k) c)]<|rx j)<|aA c1 m [])<|aA c2 n []
def ng(b:Bn)(a:List Bool×Int):Option ((List Bool×Int)⊕(List Bool)):=
 bif a.2<ah b then((aS b a.2).bind λc=>(ji a.1 c true).bind λd=>some (.inl (d,wI (a.2+1))))else(some (.inr a.1))
def nh(g:Bc)(v1:JW)(c:List Bool×List Bool×Int)(a:Bn×Int):Option ((Bn×Int)⊕Bn):=
 bif a.2<ah v1.Row then((aS v1.Row a.2).bind λb=>((n9 g c.2.2 b).bind λd=>bif d then(some true)else((N8 g ({v1 with Void:=c.1,Decided:=c.2.1}) b).bind λe=>bif e then((qW g ({v1 with Void:=c.1,Decided:=c.2.1}) c.2.2 b).bind λf=>some f)else(some false)):Fo).bind λh=>bif h then((aT 8 a.1 ([b]:Bn)).bind λi=>some (.inl (i,wI (a.2+1))))else(some (.inl (a.1,wI (a.2+1)))))else(some (.inr a.1))
def tw(g:Bc)(v1:JW)(v3:Bn)(a:List Bool×List Bool×Int):Option ((List Bool×List Bool×Int)⊕(List Bool×List Bool)):=
 bif 0<=a.2.2 then((SD g ({v1 with Void:=a.1,Decided:=a.2.1})).bind λd=>(fb d a.2.2).bind λe=>(AH (nh g v1 a) ([],0)).bind λf=>(bif(!e)then(some ([a.2.2]:Bn))else(some f)).bind λh=>(ji a.2.1 a.2.2 true).bind λb=>(AH (ng h) (a.1,0)).bind λc=>(vL g ({v1 with Void:=c,Decided:=b}) v3).bind λi=>some (.inl (c,b,i)))else(some (.inr (a.1,a.2.1)))
def oR(g:Bc)(ids:Ba):Option JW:=
 (Aa g ids).bind λv1=>(jn g ids).bind λv3=>(vL g v1 v3).bind λv5=>(AH (tw g v1 v3) (v1.Void,v1.Decided,v5)).bind λa=>some ({v1 with Void:=a.1,Decided:=a.2})
theorem Db{g ids}:DL prog gl (oR g ids) 235 [.agg (aI g),aE aj ids] (λr=> .agg (fU r)):=
 cy func235 λK=>ak λv1 e2=>JI 18 rZ (Di gl) λv3=>ak λv5 e6=>aw [hz 15 [] (Ts (c:=2) aH (JE gl e2) (eB aH) rn4 (rZ.imm v1.Row) (rO.imm v1.Void) (rO.imm v1.Fork) (rO.imm v1.Decided)),hq 22 [.agg (aI g),.agg (fU v1),aE cZ v3] [hc (rZ.al v1.Row),hc (rO.al v1.Void),hc (rO.al v1.Fork),hc (rO.al v1.Decided)] (AZ gl e6)]<|I5 111110 (λy=>sp [] [(4,.ref 0 0),(5,.ref 1 0)] [ob 0 304 (bF [0,1,2,3] (fU AC)),ob 1 304 (fU ({v1 with Void:=y.1,Decided:=y.2}))] 2) (λa=>sp [] [(2,.ref 0 0),(4,.ref 1 0),(5,.ref 2 0),(6,aE cZ v3),(7,iG a.2.2)] [ob 0 30 (aI g),ob 1 304 (bF [0,1,2,3] (fU AC)),ob 2 304 [aE cZ v1.Row,.rsl 3 0 a.1.length,aE cO v1.Fork,.rsl 4 0 a.2.1.length],ob 3 4 (a.1.flatMap cO),ob 4 4 (a.2.1.flatMap cO)] 5) [hc (rZ.al v1.Row),hc (el v1.Void),hc (rO.al v1.Fork),hc (el v1.Decided),hc (rO.imm v1.Void),hc (rO.imm v1.Decided)] (λy=>rv K) λa k11 z=>aF 24 (ak λi A=>ak λj B=>aw [ho 27 [.agg (aI g),.agg (fU ({v1 with Void:=a.1,Decided:=a.2.1}))] [hc (rO.al a.1),hc (rO.al a.2.1)] (AY gl A) (lZ i),hq 29 [aE cZ i,iG a.2.2] [hc (rZ.al i)] (DD gl B)]<|I5 11111022121101 (λq=>sf [] [(8,bG j),(9,aE cZ q)]) (λb=>so [] [(8,bG j),(9,.rsl 5 0 b.1.length),(10,iG b.2)] [ob 5 3 (b.1.flatMap cZ)] 6) [hc (el a.1),hc (el a.2.1),hc (rO.imm a.1),hc (rO.imm a.2.1),hc (rZ.imm [])] (λq=>cN 111110221211101 (sf [8] [(64,bG (!j))]) [hc (el a.1),hc (el a.2.1),hc (rO.imm a.1),hc (rO.imm a.2.1)]<|cC 111110221211101 (λk=>sf [64] [(9,aE cZ k)]) (λk=>ak λd l=>aw [AB 70 (rO.ixsZ 4 l),hw 70 (d.flatMap cO) (rO.putZ l)]<|I5 11111022121111101 (λe=>so [7,9] [] [ob 2 304 [aE cZ v1.Row,.rsl 3 0 e.length,aE cO v1.Fork,.rsl 4 0 d.length],ob 3 4 (e.flatMap cO),ob 4 4 (d.flatMap cO)] 5) (λf=>so [7] [(12,iG f.2)] [ob 2 304 [aE cZ v1.Row,.rsl 3 0 f.1.length,aE cO v1.Fork,.rsl 4 0 d.length],ob 3 4 (f.1.flatMap cO),ob 4 4 (d.flatMap cO)] 5) [hc (el a.1),hc (hZ l),hc (rO.imm a.1),hc (rO.imm d)] (λe=>ak λI C=>aw [hq 87 [.agg (aI g),.agg (fU ({v1 with Void:=e,Decided:=d})),aE cZ v3] [hc (rO.al e),hc (rO.al d)] (AZ gl C)]<|cj k11 [hc (el e),hc (el d),hc (rO.imm e),hc (rO.imm d)]) λf D E=>aF 74 (CD 81 rZ.ixZ 82 (rZ.p1Y tZ) λJ=>ak λs m=>aw [AB 83 (rO.ixsZ 3 m),hw 83 (s.flatMap cO) (rO.putZ m)]<|cj D [hc (hZ m),hc (el d),hc (rO.imm s),hc (rO.imm d)])<|aA c1 E [hc (el f.1),hc (el d),hc (rO.imm f.1),hc (rO.imm d)]) λk t=>eH [64] (aA c0 t [hc (rZ.al ([a.2.2]:Bn)),hc (el a.1),hc (el a.2.1),hc (rO.imm a.1),hc (rO.imm a.2.1)])<|aA c0 t [hc (el a.1),hc (el a.2.1),hc (rO.imm a.1),hc (rO.imm a.2.1)]) λb u F=>aF 34 (CD 40 rZ.ixZ 41 (rZ.p1Y tZ) λh=>N4 111110221211012210210 (sf [] [(11,iG h)]) [hc (el b.1),hc (el a.1),hc (el a.2.1),hc (rO.imm a.1),hc (rO.imm a.2.1),hc (rZ.imm b.1)] 58 (Gd (dg 62 rZ) λv=>cj u [hc (el v),hc (el a.1),hc (el a.2.1),hc (rO.imm a.1),hc (rO.imm a.2.1),hc (rZ.imm v)]) (cj u [hc (el b.1),hc (el a.1),hc (el a.2.1),hc (rO.imm a.1),hc (rO.imm a.2.1),hc (rZ.imm b.1)]) λn=>ak λL w=>kV (λo=>aw [hf 45 (cF (mC gl w) o)]<|aA c0 n [hc (el b.1),hc (el a.1),hc (el a.2.1),hc (rO.imm a.1),hc (rO.imm a.2.1),hc (rZ.imm b.1)]) λo=>ak λM x=>aw [hf 45 (cF (mC gl w) o)]<|kV (λp=>ak λN H=>aw [hq 50 [.agg (aI g),.agg (fU ({v1 with Void:=a.1,Decided:=a.2.1})),iG h] [hc (rO.al a.1),hc (rO.al a.2.1)] (cF (lC gl x) p),hq 56 [.agg (aI g),.agg (fU ({v1 with Void:=a.1,Decided:=a.2.1})),iG a.2.2,iG h] [hc (rO.al a.1),hc (rO.al a.2.1)] (yI gl H)]<|aA c0 n [hc (el b.1),hc (el a.1),hc (el a.2.1),hc (rO.imm a.1),hc (rO.imm a.2.1),hc (rZ.imm b.1)]) λp=>aw [hq 50 [.agg (aI g),.agg (fU ({v1 with Void:=a.1,Decided:=a.2.1})),iG h] [hc (rO.al a.1),hc (rO.al a.2.1)] (cF (lC gl x) p)]<|aA c0 n [hc (el b.1),hc (el a.1),hc (el a.2.1),hc (rO.imm a.1),hc (rO.imm a.2.1),hc (rZ.imm b.1)])<|aA c1 F [hc (rZ.al b.1),hc (el a.1),hc (el a.2.1),hc (rO.imm a.1),hc (rO.imm a.2.1)])<|aA c1 z [hc (rO.al a.1),hc (rO.al a.2.1)]
def tQ(g:Bc)(v5:Bn)(a:DE×Int):Option ((DE×Int)⊕(DE)):=
 bif a.2<ah v5 then((aS v5 a.2).bind λb=>(aS g.L b).bind λc=>(aS v5 a.2).bind λd=>(aS g.IDs d).bind λe=>(DM a.1 c e).bind λv25=>some (.inl (v25,wI (a.2+1))))else(some (.inr a.1))
def zY(g:Bc)(ids:Ba):Option DE:=
 (AV g.Cards).bind λv1=>(oR g ids).bind λv3=>(SD g v3).bind λv5=>(AH (tQ g v5) (v1,0)).bind λa=>some a
theorem Jh{g ids}:DL prog gl (zY g ids) 173 [.agg (aI g),aE aj ids] (λr=> .agg (aU r)):=
 cy func173 λK=>BG 10 (DN gl) λv1=>BG 14 (Db gl) λv3=>JI 15 rZ (AY gl) λv5=>I5 111101 (λc=>sp [] [(4,.ref 0 0),(5,.ref 1 0)] [ob 0 250 (bF [0,1,2,3,5] (aU eY)),ob 1 250 (aU c)] 2) (λa=>sp [] [(2,.ref 0 0),(4,.ref 1 0),(5,.ref 2 0),(6,aE cZ v5),(7,iG a.2)] [ob 0 30 (aI g),ob 1 250 (bF [0,1,2,3,5] (aU eY)),ob 2 250 (aU a.1)] 3) [] (λc=>rv K) λa k11 b=>aF 19 (CD 27 rZ.ixZ 28 (rZ.p1Y tZ) λd=>CD 29 eJ.ixZ 30 (eJ.ptZ GN) λe=>CD 35 rZ.ixZ 36 (rZ.p1Y tZ) λf=>CD 37 ac.ixZ 38 (ac.ptZ aW) λh=>BG 39 (AU gl) λv25=>rb k11)<|aA c1 b []
def lu(a:DE):Option Bn:=
 (lg a.In).bind λv1=>some v1
theorem Dc{r_}:M5 prog gl (lu r_) 175 [.agg (aU r_)] 3 cZ:=
 gc func175 λK=>ak λv1 e2=>aw [ho 5 [aE cZ r_.In] [] (vH gl e2) (lZ v1)]<|mr c0 K (rZ.imm _)
def qm(b:Bn)(c:Bn)(a:Bn×Int):Option ((Bn×Int)⊕Bn):=
 bif a.2<ah b then((aS b a.2).bind λd=>(fb c d).bind λe=>bif(!e)then((aS b a.2).bind λf=>(aT 8 a.1 ([f]:Bn)).bind λg=>some (.inl (g,wI (a.2+1))))else(some (.inl (a.1,wI (a.2+1)))))else(some (.inr a.1))
def qn(c:Bn)(b:Bn)(a:Bn×Int):Option ((Bn×Int)⊕Bn):=
 bif a.2<ah b then((aS b a.2).bind λd=>(fb c d).bind λe=>bif e then((aS b a.2).bind λf=>(aT 8 a.1 ([f]:Bn)).bind λg=>some (.inl (g,wI (a.2+1))))else(some (.inl (a.1,wI (a.2+1)))))else(some (.inr a.1))
def qo(g:Bc)(o:Bo):Option Bn:=
 (M4 g o.Past).bind λv1=>(qN v1 o.By).bind λv3=>(bif 0<v3 then(some (decide (v3<=o.Seq)))else(some false)).bind λj=>bif j then(some [])else((zY g v1).bind λi=>(pV o).bind λa=>(AX i o a).bind λd=>bif d≠0 then(some [])else((DM i o a).bind λe=>(lu e).bind λb=>(jn g v1).bind λc=>(AH (qn b c) ([],0)).bind λf=>(AH (qm b c) (f,0)).bind λh=>some h))
theorem GU{g o}:M5 prog gl (qo g o) 94 [.agg (aI g),.agg (aJ o)] 3 cZ:=
 gc func94 λK=>JI 17 ac (ua gl) λv1=>BG 21 (yF gl) λv3=>cN 111100 (sp [] [(2,.ref 0 0),(3,.ref 1 0),(5,aE aj v1),(6,iG v3)] [ob 0 30 (aI g),ob 1 70 (aJ o)] 2) []<|cC 111100 (λm=>sf [6] [(29,bG m)]) (λm=>eH [29] (mr c0 K (rZ.imm _))<|BG 32 (Jh gl) λB=>BG 34 (AI gl) λs=>BG 38 (DO gl) λt=>aF 39 (mr c0 K (rZ.imm _))<|BG 43 (AU gl) λu=>JI 44 rZ (Dc gl) λf=>JI 47 rZ (Di gl) λh=>I5 1111111111101 (λc=>sk [] [(9,aE cZ f),(10,aE cZ h),(11,.rsl 0 0 c.length)] [ob 0 3 (c.flatMap cZ)] 1) (λa=>sk [] [(9,aE cZ f),(10,aE cZ h),(11,.rsl 0 0 a.1.length),(12,iG a.2)] [ob 0 3 (a.1.flatMap cZ)] 1) [hc (rZ.imm [])] (λc=>I5 11111111111101 (λd=>sp [] [(11,.rsl 0 0 d.length)] [ob 0 3 (d.flatMap cZ)] 1) (λb=>so [] [(11,.rsl 0 0 b.1.length),(13,iG b.2)] [ob 0 3 (b.1.flatMap cZ)] 1) (DP rZ c) (λd=>mr c0 K (rZ.imm _)) λb i n=>aF 70 (CD 76 rZ.ixZ 77 (rZ.p1Y tZ) λv=>BG 78 (DD gl) λw=>aF 79 (CD 83 rZ.ixZ 84 (rZ.p1Y tZ) λx=>Gd (dg 86 rZ) λp=>cj i (DP rZ p))<|cj i (DP rZ b.1))<|aA c1 n (DP rZ b.1)) λa j q=>aF 51 (CD 57 rZ.ixZ 58 (rZ.p1Y tZ) λy=>ak λz k=>kV (λe=>CD 63 rZ.ixZ 64 (rZ.p1Y tZ) λA=>Gd (dg 66 rZ) λr=>aw [hf 59 (cF (DD gl k) e)]<|cj j (DP rZ r)) λe=>aw [hf 59 (cF (DD gl k) e)]<|cj j (DP rZ a.1))<|aA c1 q (DP rZ a.1)) λm l=>aF 23 (rx l)<|rx l
def AE(n:Int)(s1:Int):Option ((Int)⊕(Int)):=
 bif wI (2*s1)<n then(some (.inl (wI (2*s1))))else(some (.inr s1))
def zZ(n:Int):JQ:=
 (AH (AE n) 1).bind λa=>some a
theorem Ji{n}:DL prog gl (zZ n) 252 [iG n] iG:=
 cy func252 λK=>I5 1110 (λa=>sg [] [(3,iG a)]) (λs1=>sf [] [(3,iG s1)]) [] (λa=>rv K) λs1 k5 b=>aF 7 (rb k5)<|aA c1 b []
def KZ:Nat->Bn->Option K4
 |0,_=>none
 |nn+1,leaves=>
 bif ah leaves=0 then(some [])else(bif ah leaves=1 then(some [leaves])else((zZ (ah leaves)).bind λv3=>(tq leaves v3).bind λd=>(KZ nn d).bind λe=>(aT 24 [leaves] e).bind λv9=>(mc leaves v3).bind λa=>(KZ nn a).bind λb=>(aT 24 v9 b).bind λc=>some c))
theorem qp:∀(nn:Nat) {leaves:Bn},M5 prog gl (KZ nn leaves) 178 [aE cZ leaves] 22 Jc
 |0,_=>λ_ h=>by cases h
 |nn+1,leaves=>gc func178 λK=>aF 7 (mr c0 K (nH.imm _))<|aF 12 (mr c0 K (nH.imm _))<|ak λv3 e4=>ak λg e6=>ak λi e8=>ak λv9 a=>ak λd b=>ak λe c=>ak λf e16=>aw [hf 16 (Ji gl e4),AB 20 (rZ.preZI e6),hf 21 ((qp nn e8).fn nH.sz (nH.len _) (nH.imm _)),eu 22 nH a,AB 26 (rZ.sufZI b),hf 27 ((qp nn c).fn nH.sz (nH.len _) (nH.imm _)),eu 28 nH e16]<|mr c0 K (nH.imm _)
def Vp(a:Bn):Option K4:=KZ (a.length+1) a
theorem Jj{leaves}:M5 prog gl (Vp leaves) 178 [aE cZ leaves] 22 Jc:=qp gl _
def AF(device:Int)(v1:K4)(s3:K4×Int):Option ((K4×Int)⊕K4):=
 bif 0<=s3.2 then((aS v1 s3.2).bind λa=>(fb a device).bind λb=>bif b then((aS v1 s3.2).bind λc=>(aT 24 s3.1 [c]).bind λd=>some (.inl (d,wI (s3.2-1))))else(some (.inl (s3.1,wI (s3.2-1)))))else(some (.inr s3.1))
def N6(a:Bn)(device:Int):Option K4:=
 (Vp a).bind λv1=>(AH (AF device v1) ([],wI ((ah v1)-1))).bind λb=>some b
theorem Jl{leaves device}:M5 prog gl (N6 leaves device) 95 [aE cZ leaves,iG device] 22 Jc:=
 gc func95 λK=>JI 9 nH (Jj gl) λv1=>I5 111101 (λb=>sp [] [(6,.rsl 0 0 b.length)] [ob 0 22 (b.flatMap Jc)] 1) (λs3=>so [0] [(5,aE Jc v1),(6,.rsl 0 0 s3.1.length),(7,iG s3.2)] [ob 0 22 (s3.1.flatMap Jc)] 1) [hc (nH.imm [])] (λb=>mr c0 K (nH.imm _)) λs3 d k6=>aF 14 (CD 19 nH.ixZ 20 (nH.p1Y Vs) λe=>ak λf e16=>kV (λa=>CD 26 nH.ixZ 27 (nH.p1Y Vs) λg=>Gd (dg 29 nH) λc=>aw [hf 22 (cF (DD gl e16) a)]<|cj d (DP nH c)) λa=>aw [hf 22 (cF (DD gl e16) a)]<|cj d (DP nH s3.1))<|aA c1 k6 (DP nH s3.1)
def jm(g:Bc)(o:Bo):Option K4:=
 (Fa o.Kind).bind λv1=>bif(!v1)then(some [])else((qo g o).bind λv4=>(fb v4 o.By).bind λa=>bif(!a)then(some [])else((N6 v4 o.By).bind λv9=>some v9))
theorem E6{g o}:M5 prog gl (jm g o) 51 [.agg (aI g),.agg (aJ o)] 22 Jc:=
 gc func51 λK=>BG 9 (N7 gl) λv1=>aF 11 (mr c0 K (nH.imm _))<|JI 14 rZ (GU gl) λv4=>BG 18 (DD gl) λb=>aF 19 (mr c0 K (nH.imm _))<|ak λv9 a=>aw [hz 23 [] (VA (c:=2) aH (Jl gl a) (eB aH) (nH.imm v9))]<|mr c0 K (nH.imm _)
def lw(g:Bc×Int)(b:Int)(c:Bool)(a:List Fp×Int):Option ((List Fp×Int)⊕(List Fp)):=
 (bif a.2<b then(bif c then(some (decide (a.2<5)))else(some false))else(some false)).bind λd=>bif d then(((aT 32 a.1 [(⟨wU (wI ((wI (1000+(wI (10*g.2))))+a.2)),[]⟩:Fp)]).bind λe=>some e:Option (List Fp)).bind λf=>some (.inl (f,wI (a.2+1))))else(some (.inr a.1))
def ly(l:Bn)(most:Int)(a:Bc×Int):Option ((Bc×Int)⊕(Bc)):=
 (bif a.2<most then(bif a.2<4 then(some true)else(some (decide (wI (2*a.2)<ah l))))else(some false)).bind λe=>bif e then((bif wI (2*a.2)<ah l then((aS l (wI (2*a.2))).bind λf=>some f)else(some 0)).bind λg=>(bif wI ((wI (2*a.2))+1)<ah l then((aS l (wI ((wI (2*a.2))+1))).bind λh=>some h)else(some 0)).bind λc=>(sd a.1 g c).bind λb=>(jm a.1 ({b with Path:=[]})).bind λv25=>(iq c 31).bind λi=>(bif i=30 then(some (wI ((ah v25)+1)))else(some (ah v25))).bind λj=>(Fa b.Kind).bind λk=>(AH (lw a j k) ([],0)).bind λm=>(nR ({b with Path:=m})).bind λn=>(AO a.1 n).bind λd=>bif d.2=0 then(some (.inl (d.1,wI (a.2+1))))else(some (.inl (a.1,wI (a.2+1)))))else(some (.inr a.1))
def vq(l:Bn)(most:Int):Option Bc:=
 (r8).bind λv1=>(ql v1).bind λv3=>(Jf v3).bind λv5=>(AH (ly l most) (v5,0)).bind λa=>some a
theorem Jm{l most}:DL prog gl (vq l most) 19 [aE cZ l,iG most] (λr=> .agg (aI r)):=
 cy func19 λK=>JI 15 rZ (E9 gl) λv1=>JI 16 bT (GQ gl) λv3=>BG 17 (M8 gl) λv5=>I5 11101 (λy=>sp [] [(4,.ref 0 0),(5,.ref 1 0)] [ob 0 30 (bF [0,1,2,3,4] (aI xm)),ob 1 30 (aI y)] 2) (λc=>so [] [(4,.ref 0 0),(5,.ref 1 0),(6,iG c.2)] [ob 0 30 (bF [0,1,2,3,4] (aI xm)),ob 1 30 (aI c.1)] 2) [] (λy=>rv K) λc k11 q=>N4 111012200 (sf [] []) [] 31 (cN 11101221021101 (sf [31] [(7,iG 0),(8,iG 0),(38,bG (decide (wI (2*c.2)<ah l)))]) []<|cC 11101221021101 (λe=>sf [38] [(7,iG e)]) (λe=>cN 111012210211101 (sf [] [(49,bG (decide (wI ((wI (2*c.2))+1)<ah l)))]) []<|cC 111012210211101 (λf=>sf [49] [(8,iG f)]) (λf=>BG 59 (Jy gl) λa=>ak λv25 s=>BG 65 (iL gl) λt=>aw [hf 62 (UY [.agg (aI c.1),.agg (bF [9] (aJ ({a with Path:=[]})))] (nH.fo (E6 gl s)))]<|cN 111012210211111101 (so [7,8] [(9,.ref 2 0),(10,iG (ah v25)),(66,bG (decide (t=30)))] [ob 2 70 (bF [9] (aJ ({a with Path:=[]})))] 3) []<|cC 111012210211111101 (λg=>sf [66] [(10,iG g)]) (λg=>BG 71 (N7 gl) λu=>I5 11101221021111111101 (λj=>so [10] [] [ob 2 70 (aJ ({a with Path:=j}))] 3) (λb=>so [] [(11,bG u),(12,iG b.2)] [ob 2 70 [iG a.By,iG a.Seq,iG a.Kind,iG a.At,aE aj a.Past,iG a.Device,iG a.Old,iG a.Member,iG a.Role,.rsl 3 0 b.1.length,iG a.Epoch.By,iG a.Epoch.Seq,uG a.Epoch.Sum,iG a.N,aE cY a.Body,aE cW a.Refs,iG a.Of.By,iG a.Of.Seq,uG a.Of.Sum,aE cZ a.Guards,iG a.Need,iG a.Wait,aE cz a.Boxes,uG a.Pub,aE bp a.Hist,uG a.Sig.R,uG a.Sig.S],ob 3 102 (b.1.flatMap bY)] 4) [hc (bZ.imm [])] (λj=>BG 99 (E8 gl) λz=>BG 100 (M9 gl) λA=>aF 104 (rb k11)<|rb k11) λb v w=>N4 111012210211111111012200 (sf [] []) (DP bZ b.1) 81 (cN 1110122102111111110122102 (sf [81] []) (DP bZ b.1)<|cC 1110122102111111110122102 (λd=>so [] [] [ob 2 70 [iG a.By,iG a.Seq,iG a.Kind,iG a.At,aE aj a.Past,iG a.Device,iG a.Old,iG a.Member,iG a.Role,.rsl 3 0 d.length,iG a.Epoch.By,iG a.Epoch.Seq,uG a.Epoch.Sum,iG a.N,aE cY a.Body,aE cW a.Refs,iG a.Of.By,iG a.Of.Seq,uG a.Of.Sum,aE cZ a.Guards,iG a.Need,iG a.Wait,aE cz a.Boxes,uG a.Pub,aE bp a.Hist,uG a.Sig.R,uG a.Sig.S],ob 3 102 (d.flatMap bY)] 4) (λd=>cj v (DP bZ d)) λd x=>ak λk m=>aw [AB 91 (C8 (wI ((wI (1000+(wI (10*c.2))))+b.2))),Tv 94 bZ m [uG (wU (wI ((wI (1000+(wI (10*c.2))))+b.2))),Iy] rfl]<|aA c0 x [hc (el k),ZV bZ m [uG (wU (wI ((wI (1000+(wI (10*c.2))))+b.2))),Iy]] (kd:=[(3,.app (b.1.flatMap bY) [uG (wU (wI ((wI (1000+(wI (10*c.2))))+b.2))),Iy] (bY (⟨wU (wI ((wI (1000+(wI (10*c.2))))+b.2)),[]⟩:Fp)) (k.flatMap bY))])) (aA c1 w [hc (bZ.al b.1)]) λh=>aF 74 (aF 77 (aA c0 h (DP bZ b.1))<|aA c0 h (DP bZ b.1))<|aA c0 h (DP bZ b.1)) λg n=>eH [66] (rx n)<|rx n) λf o=>eH [49] (CD 54 rZ.ixZ 55 (rZ.p1Y tZ) λB=>rx o)<|rx o) λe p=>eH [38] (CD 42 rZ.ixZ 43 (rZ.p1Y tZ) λC=>rx p)<|rx p) (aA c1 q []) λi=>aF 20 (aF 23 (rx i)<|rx i)<|rx i
end
structure Aj where
 commit:Ab
 n:Int
 deriving DecidableEq
structure Ak1 where
 device:Int
 keys:FM Aj Nat
structure Al0 where
 b:CY
def FR(x:JQ):Int:=x.getD 0
theorem H7(m:Jb)(k:Ab):∀σ,bL prog σ 90 true (FM.g ga iG m) (.agg (aj k))=some (.tup [iG (FR (m.get k)),bG (m.get k).isSome]):=FM.look (et:=3) jt aH aH m k rfl
structure OP where
 a0:Nat
 a1:Nat
 a2:Nat
 a3:Nat
 deriving DecidableEq
def FSq(x:OP):Bk:=[uG x.a0,uG x.a1,uG x.a2,uG x.a3]
theorem aap:fg prog 95=some true:=aH
theorem aaq:bw prog 95=some 4:=aH
structure C5 where
 o:Bo
 id:Ab
 past:OP
 level:Int
def d7(x:C5):Bk:=[iG x.o.By,iG x.o.Seq,iG x.o.Kind,iG x.o.At,aE aj x.o.Past,iG x.o.Device,iG x.o.Old,iG x.o.Member,iG x.o.Role,aE bY x.o.Path,iG x.o.Epoch.By,iG x.o.Epoch.Seq,uG x.o.Epoch.Sum,iG x.o.N,aE cY x.o.Body,aE cW x.o.Refs,iG x.o.Of.By,iG x.o.Of.Seq,uG x.o.Of.Sum,aE cZ x.o.Guards,iG x.o.Need,iG x.o.Wait,aE cz x.o.Boxes,uG x.o.Pub,aE bp x.o.Hist,uG x.o.Sig.R,uG x.o.Sig.S,iG x.id.By,iG x.id.Seq,uG x.id.Sum,uG x.past.a0,uG x.past.a1,uG x.past.a2,uG x.past.a3,iG x.level]
structure Az where
 cards:Mi
 at_:Jb
 nodes:List C5
def Ag(x:Az):Bk:=[aE bv x.cards,FM.g ga iG x.at_,aE d7 x.nodes]
theorem az:AQ prog 91 97 35 d7:=⟨aH,aH,BU,λ_=>rfl,λ_=>rfl⟩
structure Aa5 where
 Graph:Az
def Nv(x:Aa5):Bk:=[.ptr (Ag x.Graph) 0]
structure Bg where
 Device:Int
 Seq:Int
 deriving DecidableEq
def Bv(x:Bg):Bk:=[iG x.Device,iG x.Seq]
theorem Hp:fg prog 199=some true:=aH
def DY(x:Option DR):DR:=x.getD ⟨0,0,0,0,0⟩
theorem Aa6(m:FM Int DR)(k:Int):∀σ,bL prog σ 137 false (FM.g JG (λx=> .agg (bv x)) m) (iG k)=some ((λx=> .agg (bv x)) (DY (m.get k))):=FM.look1 (et:=147) O6 aH aH m k rfl
def EY(x:Fo):Bool:=x.getD false
theorem Q2(m:FM Int Bool)(k:Int):∀σ,bL prog σ 82 false (FM.g JG bG m) (iG k)=some (bG (EY (m.get k))):=FM.look1 (et:=4) O6 aH aH m k rfl
structure C7 where
 by_:Int
 device:Int
 deriving DecidableEq
def Nn(x:C7):Bk:=[iG x.by_,iG x.device]
def Hq(x:C7):List Value:=[.int .i64 x.by_,.int .i64 x.device]
theorem UR(d:Nat)(i j:C7):bt prog (Op.equalIn (d+3) 222 (.agg (Hq i).toArray) (.agg (Hq j).toArray))=some (decide (i=j)):=by obtain⟨a0,a1⟩:=i;obtain⟨b0,b1⟩:=j;unfold Hq;rw[xV (fs:= #[⟨ "by",3,0,false, "", "huddle/roll",0⟩,⟨ "device",3,1,false, "", "huddle/roll",8⟩]) aH aH];simp only[Array.toList];rw[uJ (k:= .i64) (k':= .i64) (a:=a0) (b:=b0) BU aH aH aH];rw[uJ (k:= .i64) (k':= .i64) (a:=a1) (b:=b1) BU aH aH aH];simp only[C7.mk.injEq];by_cases h0:a0=b0<;>by_cases h1:a1=b1<;>simp[h0,h1,Op.eqFields,bz]
def Cd(x:C7):Value:= .agg (Hq x).toArray
theorem Lx:MH prog 222 Cd:=Qw (d:= .struct #[⟨ "by",3,0,false, "", "huddle/roll",0⟩,⟨ "device",3,1,false, "", "huddle/roll",8⟩]) aH (λb k=>by cases b<;>(show _=_;kernel_rfl)) (λa b=>rfl) (λa b=>UR 9997 a b)
def MG(x:JQ):Int:=x.getD 0
theorem SI(m:FM C7 Int)(k:C7):∀σ,bL prog σ 216 true (FM.g Cd iG m) (.agg (Nn k))=some (.tup [iG (MG (m.get k)),bG (m.get k).isSome]):=FM.look (et:=3) Lx aH aH m k rfl
structure CM where
 id:Ab
 guards:Bn
 need:Int
 wait:Int
 vouches:FM C7 Int
 objected:Bool
 last:Int
def PB(x:CM):Bk:=[iG x.id.By,iG x.id.Seq,uG x.id.Sum,aE cZ x.guards,iG x.need,iG x.wait,FM.g Cd iG x.vouches,bG x.objected,iG x.last]
structure AA where
 role:Int
 guard:Option CM
def FF(x:AA):Bk:=[iG x.role,npG PB x.guard]
structure Ad where
 cards:FM Int DR
 in_:FM Int Bool
 was:FM Int Bool
 members:FM Int AA
 back:Int
def CO(x:Ad):Bk:=[FM.g JG (λx=> .agg (bv x)) x.cards,FM.g JG bG x.in_,FM.g JG bG x.was,FM.g JG (λx=> .ptr (FF x) 0) x.members,iG x.back]
def A7(x:Fo):Bool:=x.getD false
theorem SJ(m:FM Ab Bool)(k:Ab):∀σ,bL prog σ 288 false (FM.g ga bG m) (.agg (aj k))=some (bG (A7 (m.get k))):=FM.look1 (et:=4) jt aH aH m k rfl
structure Bb where
 g:Az
 row:Ba
 void:FM Ab Bool
 fork:FM Ab Bool
def B5(x:Bb):Bk:=[.ptr (Ag x.g) 0,aE aj x.row,FM.g ga bG x.void,FM.g ga bG x.fork]
theorem Bh:AQ prog 197 199 2 Bv:=⟨aH,aH,BU,λ_=>rfl,λ_=>rfl⟩
abbrev I4:=List C5
section
set_option maxHeartbeats 2000000
def fm(a:Bn)(s1:Int):Option ((Int)⊕(Unit⊕Int)):=
 bif s1<ah a then((aS a s1).bind λb=>bif b≠0 then(some (.inr (.inr b)))else(some (.inl (wI (s1+1)))))else(some (.inr (.inl ())))
def iy(a:Bn):JQ:=
 (AH (fm a) 0).bind λb=>ma b (λc=>some 0) (λq=>some q)
theorem FT{vals}:DL prog gl (iy vals) 108 [aE cZ vals] iG:=
 cy func108 λK=>O7 11101 (λa=>sg [] [(3,iG 0)]) (λs1=>sg [] [(3,iG 0),(6,aE cZ vals),(7,iG (ah vals)),(8,iG s1)]) [] K (λa=>rv K) λs1 k5 b k6=>aF 9 (CD 10 rZ.ixZ 11 (rZ.p1Y tZ) λc=>aF 14 (aP c3 k6 [])<|rb k5)<|aA c2 b []
def FI(a:Int):Fo:=
 some (decide (a≠a))
theorem dw{x_}:DL prog gl (FI x_) 199 [iG x_] bG:=
 cy func199 λK=>rv K
def f8(a:Int)(y:Int):JQ:=
 (FI a).bind λv1=>(FI y).bind λv3=>bif v1 then(bif v3 then(some 0)else(some (-1)))else(bif v3 then(some 1)else(bif a<y then(some (-1))else(bif y<a then(some 1)else(some 0))))
theorem mQ{x_ y}:DL prog gl (f8 x_ y) 109 [iG x_,iG y] iG:=
 cy func109 λK=>ak λv1 e2=>ak λv3 e4=>aw [hf 10 (dw gl e4)]<|kV (λb5=>aw [hf 8 (cF (dw gl e2) b5)]<|kV (λa=>aw [hf 10 (cF (dw gl e4) a)]<|rv K) λa=>aw [hf 10 (cF (dw gl e4) a)]<|rv K) λb5=>aw [hf 8 (cF (dw gl e2) b5)]<|kV (λb=>aw [hf 10 (cF (dw gl e4) b)]<|rv K) λb=>aw [hf 10 (cF (dw gl e4) b)]<|aF 16 (rv K)<|aF 19 (rv K)<|rv K
def g9(a:Nat):Fo:=
 some (decide ((a:Int)≠(a:Int)))
theorem cH{x_}:DL prog gl (g9 x_) 208 [uG x_] bG:=
 cy func208 λK=>rv K
def fQ(a:Nat)(y:Nat):JQ:=
 (g9 a).bind λv1=>(g9 y).bind λv3=>bif v1 then(bif v3 then(some 0)else(some (-1)))else(bif v3 then(some 1)else(bif (a:Int)<(y:Int)then(some (-1))else(bif (y:Int)<(a:Int)then(some 1)else(some 0))))
theorem rG{x_ y}:DL prog gl (fQ x_ y) 127 [uG x_,uG y] iG:=
 cy func127 λK=>ak λv1 e2=>ak λv3 e4=>aw [hf 10 (cH gl e4)]<|kV (λb5=>aw [hf 8 (cF (cH gl e2) b5)]<|kV (λa=>aw [hf 10 (cF (cH gl e4) a)]<|rv K) λa=>aw [hf 10 (cF (cH gl e4) a)]<|rv K) λb5=>aw [hf 8 (cF (cH gl e2) b5)]<|kV (λb=>aw [hf 10 (cF (cH gl e4) b)]<|rv K) λb=>aw [hf 10 (cF (cH gl e4) b)]<|aF 16 (rv K)<|aF 19 (rv K)<|rv K
def pE(a:Ab)(b:Ab):Fo:=
 (f8 a.By b.By).bind λv1=>(f8 a.Seq b.Seq).bind λv3=>(fQ a.Sum b.Sum).bind λv5=>(iy ([v1,v3,v5]:Bn)).bind λc=>some (decide (c<0))
theorem HB{a b}:DL prog gl (pE a b) 63 [.agg (aj a),.agg (aj b)] bG:=
 cy func63 λK=>BG 9 (mQ gl) λv1=>BG 14 (mQ gl) λv3=>BG 19 (rG gl) λv5=>ak λc e8=>aw [hq 21 [aE cZ ([v1,v3,v5]:Bn)] [hc (rZ.al ([v1,v3,v5]:Bn))] (FT gl e8)]<|rv K
def wz(a:Aj)(b:Aj):JQ:=
 (pE a.commit b.commit).bind λv1=>bif v1 then(some (-1))else((pE b.commit a.commit).bind λv4=>bif v4 then(some 1)else(some (wI (a.n-b.n))))
def Fj(g:Az)(a:Ab):JQ:=
 bif(g.at_.get a).isSome then((aS g.nodes (FR (g.at_.get a))).bind λb=>some b.level)else(some 0)
theorem HR{g id_}:DL prog gl (Fj g id_) 33 [.ptr (Ag g) 0,.agg (aj id_)] iG:=
 cy func33 λK=>aw [hm 13 (H7 g.at_ id_)]<|aF 15 (CD 22 az.ixZ 24 (az.fdY tZ 34) λa=>rv K)<|rv K
def iX(s:OP)(n:Int):Fo:=
 (aS ([s.a0,s.a1,s.a2,s.a3]:Br) (wI (Int.tdiv n 64))).bind λa=>(wJ (Int.tmod n 64)).bind λb=>some (decide (((bD (JH a b) 1:Nat):Int)=((1:Nat):Int)))
def KS{α:Type}(s:List α)(f:α->Fo)(s1:Int):Option ((Int)⊕(Unit⊕Int)):=
 bif s1<ah s then((aS s s1).bind λa=>(f a).bind λb=>bif b then(some (.inr (.inr s1)))else(some (.inl (wI (s1+1)))))else(some (.inr (.inl ())))
def Y4{α:Type}(s:List α)(f:α->Fo):JQ:=
 (AH (KS s f) 0).bind λa=>ma a (λb=>some (-1)) (λq=>some q)
def Aca(P:Bu)(gl:CC){α:Type}(c a:α->Bk)(F:FuncId):Prop:=∀⦃s:List α⦄ ⦃f:α->Fo⦄ ⦃fi_f:FuncId⦄ ⦃fa_f fc_f:Bk⦄,Uk P gl fi_f fa_f fc_f a (λx:Bool=>bG x) f->DL P gl (Y4 s f) F [aE c s,.clo (.func fi_f) fa_f fc_f] iG
theorem pF:Aca prog gl cZ (λx=>[iG x]) 69:=λs f fi_f fa_f fc_f a=>
 cy func69 λK=>O7 1101 (λg=>sg [] []) (λs1=>sf [] [(7,iG (ah s)),(8,iG s1)]) [hc (a.im)] K (λg=>rv K) λs1 k5 h k6=>aF 9 (CD 14 rZ.ixZ 15 (rZ.p1Y tZ) λd=>ak λi e=>kV (λb=>aw [hz 16 [] (cS (a.cs (c:=0) e (aY (aG 20 (iG d) aH) (bf))) b)]<|aP c3 k6 []) λb=>aw [hz 16 [] (cS (a.cs (c:=0) e (aY (aG 20 (iG d) aH) (bf))) b)]<|cj k5 [hc (a.im)])<|aA c2 h []
def Aa7{α:Type}(s:List α)(f:α->Fo):Fo:=
 (Y4 s f).bind λv1=>some (decide (0<=v1))
def Acb(P:Bu)(gl:CC){α:Type}(c a:α->Bk)(F:FuncId):Prop:=∀⦃s:List α⦄ ⦃f:α->Fo⦄ ⦃fi_f:FuncId⦄ ⦃fa_f fc_f:Bk⦄,Uk P gl fi_f fa_f fc_f a (λx:Bool=>bG x) f->DL P gl (Aa7 s f) F [aE c s,.clo (.func fi_f) fa_f fc_f] bG
theorem ml:Acb prog gl cZ (λx=>[iG x]) 35:=λs f fi_f fa_f fc_f a=>
 cy func35 λK=>ak λv1 e2=>aw [hz 7 [] (jf (c:=0) aH (pF gl (a) e2) (aY (aG 20 (aE cZ s) aH) (aY (a.im) (bf))))]<|rv K
def cU(s:Ba):Option Ba:=aT 24 [] s
theorem jY{s:Ba}:M5 prog gl (cU s) 55 [aE aj s] 41 aj:=λr h=>by
 unfold cU at h;refine OW func55 ?_;refine pO 1100 (s0 8 gl [(0,aE aj s)] [] 0 0) [] [] ?_;refine IA 0 3 4 26 41 rfl (Ef aH) (Ef aH) λb hb=>?_;cases b
 .exact EI [eu 7 ac h] (ac.imm _)
 .obtain rfl:=ac.isNil (hb rfl);obtain rfl:=mV h;exact EI [] (ac.imm [])
def Fk(s:CY):Option CY:=aT 1 [] s
theorem tj{s:CY}:M5 prog gl (Fk s) 110 [aE cY s] 5 cY:=λr h=>by
 unfold Fk at h;refine OW func110 ?_;refine pO 1100 (s0 8 gl [(0,aE cY s)] [] 0 0) [] [] ?_;refine IA 0 3 4 63 5 rfl (Ef aH) (Ef aH) λb hb=>?_;cases b
 .exact EI [eu 7 rY h] (rY.imm _)
 .obtain rfl:=rY.isNil (hb rfl);obtain rfl:=mV h;exact EI [] (rY.imm [])
def dK(s:Br):Option Br:=aT 8 [] s
theorem p9{s:Br}:M5 prog gl (dK s) 111 [aE cW s] 36 cW:=λr h=>by
 unfold dK at h;refine OW func111 ?_;refine pO 1100 (s0 8 gl [(0,aE cW s)] [] 0 0) [] [] ?_;refine IA 0 3 4 64 36 rfl (Ef aH) (Ef aH) λb hb=>?_;cases b
 .exact EI [eu 7 rW h] (rW.imm _)
 .obtain rfl:=rW.isNil (hb rfl);obtain rfl:=mV h;exact EI [] (rW.imm [])
def fF(s:Bn):Option Bn:=aT 8 [] s
theorem uK{s:Bn}:M5 prog gl (fF s) 112 [aE cZ s] 3 cZ:=λr h=>by
 unfold fF at h;refine OW func112 ?_;refine pO 1100 (s0 8 gl [(0,aE cZ s)] [] 0 0) [] [] ?_;refine IA 0 3 4 22 3 rfl (Ef aH) (Ef aH) λb hb=>?_;cases b
 .exact EI [eu 7 rZ h] (rZ.imm _)
 .obtain rfl:=rZ.isNil (hb rfl);obtain rfl:=mV h;exact EI [] (rZ.imm [])
def dx(s:List Hd):Option (List Hd):=aT 32 [] s
theorem uM{s:List Hd}:M5 prog gl (dx s) 113 [aE cz s] 186 cz:=λr h=>by
 unfold dx at h;refine OW func113 ?_;refine pO 1100 (s0 8 gl [(0,aE cz s)] [] 0 0) [] [] ?_;refine IA 0 3 4 65 186 rfl (Ef aH) (Ef aH) λb hb=>?_;cases b
 .exact EI [eu 7 EP h] (EP.imm _)
 .obtain rfl:=EP.isNil (hb rfl);obtain rfl:=mV h;exact EI [] (EP.imm [])
def gt(s:List Fp):Option (List Fp):=aT 32 [] s
theorem tk{s:List Fp}:M5 prog gl (gt s) 114 [aE bY s] 102 bY:=λr h=>by
 unfold gt at h;refine OW func114 ?_;refine pO 1100 (s0 8 gl [(0,aE bY s)] [] 0 0) [] [] ?_;refine IA 0 3 4 62 102 rfl (Ef aH) (Ef aH) λb hb=>?_;cases b
 .exact EI [eu 7 bZ h] (bZ.imm _)
 .obtain rfl:=bZ.isNil (hb rfl);obtain rfl:=mV h;exact EI [] (bZ.imm [])
def fu(s:List DT):Option (List DT):=aT 48 [] s
theorem qb{s:List DT}:M5 prog gl (fu s) 115 [aE bp s] 190 bp:=λr h=>by
 unfold fu at h;refine OW func115 ?_;refine pO 1100 (s0 8 gl [(0,aE bp s)] [] 0 0) [] [] ?_;refine IA 0 3 4 66 190 rfl (Ef aH) (Ef aH) λb hb=>?_;cases b
 .exact EI [eu 7 bH h] (bH.imm _)
 .obtain rfl:=bH.isNil (hb rfl);obtain rfl:=mV h;exact EI [] (bH.imm [])
def jC(b:List DT)(a:List DT×Int):Option ((List DT×Int)⊕(List DT)):=
 bif a.2<ah b then((aS a.1 a.2).bind λc=>(Fk c.Body).bind λd=>(aS a.1 a.2).bind λe=>(ji a.1 a.2 ({e with Body:=d})).bind λf=>some (.inl (f,wI (a.2+1))))else(some (.inr a.1))
def jD(b:List Fp)(a:List Fp×Int):Option ((List Fp×Int)⊕(List Fp)):=
 bif a.2<ah b then((aS a.1 a.2).bind λc=>(dx c.Boxes).bind λv45=>(aS a.1 a.2).bind λd=>(ji a.1 a.2 ({d with Boxes:=v45})).bind λe=>some (.inl (e,wI (a.2+1))))else(some (.inr a.1))
def pG(o:Bo):Option Bo:=
 (cU o.Past).bind λv1=>(Fk o.Body).bind λv3=>(dK o.Refs).bind λv5=>(fF o.Guards).bind λe=>(dx o.Boxes).bind λv9=>(gt o.Path).bind λa=>(fu o.Hist).bind λb=>(AH (jD a) (a,0)).bind λc=>(AH (jC b) (b,0)).bind λd=>some ({o with Past:=v1,Path:=c,Body:=v3,Refs:=v5,Guards:=e,Boxes:=v9,Hist:=d})
theorem Ds{o}:DL prog gl (pG o) 58 [.agg (aJ o)] (λr=> .agg (aJ r)):=
 cy func58 λK=>JI 7 ac (jY gl) λv1=>JI 10 rY (tj gl) λv3=>JI 13 rW (p9 gl) λv5=>JI 16 rZ (uK gl) λl=>JI 19 EP (uM gl) λv9=>ak λe m=>ak λa n=>aw [hz 27 [] (VA (c:=2) aH (tk gl m) (eB aH) (bZ.imm e)),hz 30 [] (VA (c:=3) aH (qb gl n) (eB aH) (bH.imm a))]<|I5 111101 (λf=>sp [] [(1,.ref 0 0),(2,.ref 2 0)] [ob 0 70 [iG o.By,iG o.Seq,iG o.Kind,iG o.At,aE aj v1,iG o.Device,iG o.Old,iG o.Member,iG o.Role,aE bY f,iG o.Epoch.By,iG o.Epoch.Seq,uG o.Epoch.Sum,iG o.N,aE cY v3,aE cW v5,iG o.Of.By,iG o.Of.Seq,uG o.Of.Sum,aE cZ l,iG o.Need,iG o.Wait,aE cz v9,uG o.Pub,.rsl 1 0 a.length,uG o.Sig.R,uG o.Sig.S],ob 1 190 (a.flatMap bp),ob 2 70 (bF [4,9,14,15,19,22,24] (aJ ip))] 3) (λb=>sp [] [(1,.ref 0 0),(2,.ref 3 0),(35,iG (ah e)),(36,iG b.2)] [ob 0 70 [iG o.By,iG o.Seq,iG o.Kind,iG o.At,aE aj v1,iG o.Device,iG o.Old,iG o.Member,iG o.Role,.rsl 1 0 b.1.length,iG o.Epoch.By,iG o.Epoch.Seq,uG o.Epoch.Sum,iG o.N,aE cY v3,aE cW v5,iG o.Of.By,iG o.Of.Seq,uG o.Of.Sum,aE cZ l,iG o.Need,iG o.Wait,aE cz v9,uG o.Pub,.rsl 2 0 a.length,uG o.Sig.R,uG o.Sig.S],ob 1 102 (b.1.flatMap bY),ob 2 190 (a.flatMap bp),ob 3 70 (bF [4,9,14,15,19,22,24] (aJ ip))] 4) [hc (el e),hc (el a),hc (bZ.imm e),hc (bH.imm a)] (λf=>I5 1111101 (λi=>sx [] [(2,.ref 1 0)] [ob 0 70 (aJ ({o with Past:=v1,Path:=f,Body:=v3,Refs:=v5,Guards:=l,Boxes:=v9,Hist:=i})),ob 1 70 (bF [4,9,14,15,19,22,24] (aJ ip))] 2) (λd=>so [] [(54,iG (ah a)),(55,iG d.2)] [ob 0 70 [iG o.By,iG o.Seq,iG o.Kind,iG o.At,aE aj v1,iG o.Device,iG o.Old,iG o.Member,iG o.Role,aE bY f,iG o.Epoch.By,iG o.Epoch.Seq,uG o.Epoch.Sum,iG o.N,aE cY v3,aE cW v5,iG o.Of.By,iG o.Of.Seq,uG o.Of.Sum,aE cZ l,iG o.Need,iG o.Wait,aE cz v9,uG o.Pub,.rsl 1 0 d.1.length,uG o.Sig.R,uG o.Sig.S],ob 1 190 (d.1.flatMap bp)] 3) (DP bH a) (λi=>rv K) λd p q=>aF 56 (CD 64 (bH.ixrZ 1) 66 (bH.fd0Y tLY 3) λx=>JI 67 rY (tj gl) λs=>ak λy t=>ak λj g=>aw [hw 69 (j.flatMap bp) (bH.putF g t 3 1 (gs:=[aE cY s]) rfl BU rfl),AB 68 (bH.ixsZ 1 g)]<|cj p [hc (hZ g),hc (bH.imm j)])<|aA c1 q [hc (bH.al d.1)]) λb u v=>aF 37 (CD 45 (bZ.ixrZ 1) 47 (bZ.fd0Y E3 1) λz=>JI 48 EP (uM gl) λv45=>ak λA w=>ak λk h=>aw [hw 50 (k.flatMap bY) (bZ.putF h w 1 1 (gs:=[aE cz v45]) rfl BU rfl),AB 49 (bZ.ixsZ 1 h)]<|cj u [hc (hZ h),hc (el a),hc (bZ.imm k),hc (bH.imm a)])<|aA c1 v [hc (bZ.al b.1),hc (el a),hc (bH.imm a)]
def Fl(s:Mi):Option Mi:=aT 40 [] s
theorem tn{s:Mi}:M5 prog gl (Fl s) 96 [aE bv s] 147 bv:=λr h=>by
 unfold Fl at h;refine OW func96 ?_;refine pO 1100 (s0 8 gl [(0,aE bv s)] [] 0 0) [] [] ?_;refine IA 0 3 4 24 147 rfl (Ef aH) (Ef aH) λb hb=>?_;cases b
 .exact EI [eu 7 bT h] (bT.imm _)
 .obtain rfl:=bT.isNil (hb rfl);obtain rfl:=mV h;exact EI [] (bT.imm [])
def Ly(f:Aa5)(a:Ab)(b:Ab):JQ:=
 (pE a b).bind λv1=>(bif v1 then(some (-1))else((pE b a).bind λc=>(bif c then(some 1)else(some 0)).bind λd=>some d)).bind λg=>(Fj f.Graph a).bind λv5=>(Fj f.Graph b).bind λh=>(f8 v5 h).bind λv9=>(iy ([v9,g]:Bn)).bind λe=>some e
theorem Sg{r_ a b}:DL prog gl (Ly r_ a b) 57 [.agg (Nv r_),.agg (aj a),.agg (aj b)] iG:=
 cy func57 λK=>BG 11 (HB gl) λv1=>cN 111021 (sp [] [(3,.ref 0 0),(4,.ref 1 0),(5,.ref 2 0),(7,iG 0),(8,bG v1)] [ob 0 119 (Nv r_),ob 1 41 (aj a),ob 2 41 (aj b)] 3) []<|cC 111021 (λe=>sf [8] [(7,iG e)]) (λe=>BG 19 (HR gl) λv5=>BG 23 (HR gl) λk=>BG 24 (mQ gl) λv9=>ak λi h=>aw [hq 27 [aE cZ ([v9,e]:Bn)] [hc (rZ.al ([v9,e]:Bn))] (FT gl h)]<|rv K) λe k13=>eH [8] (rx k13)<|ak λj f=>cC 11102141 (λc=>sf [8] [(7,iG c)]) (λc=>rx k13) λc g=>kV (λd=>aw [hf 15 (cF (HB gl f) d)]<|rx g) λd=>aw [hf 15 (cF (HB gl f) d)]<|rx g
def UB(a:Bg)(b:Bg):JQ:=
 (f8 a.Device b.Device).bind λv1=>some v1
theorem WY{a b}:DL prog gl (UB a b) 207 [.agg (Bv a),.agg (Bv b)] iG:=
 cy func207 λK=>BG 9 (mQ gl) λv1=>rv K
theorem gS:Aca prog gl aj (λx=>[.agg (aj x)]) 67:=λs f fi_f fa_f fc_f a=>
 cy func67 λK=>O7 1101 (λg=>sg [] []) (λs1=>sf [] [(7,iG (ah s)),(8,iG s1)]) [hc (a.im)] K (λg=>rv K) λs1 k5 h k6=>aF 9 (CD 14 ac.ixZ 15 (ac.ptZ aW) λd=>ak λi e=>kV (λb=>aw [hz 16 [] (cS (a.cs (c:=0) e (aY (aG 20 (.agg (aj d)) aH) (bf))) b)]<|aP c3 k6 []) λb=>aw [hz 16 [] (cS (a.cs (c:=0) e (aY (aG 20 (.agg (aj d)) aH) (bf))) b)]<|cj k5 [hc (a.im)])<|aA c2 h []
def UC(a:Ad)(device:Int):JQ:=
 some ((DY (a.cards.get device)).Member)
theorem PC{r_ device}:DL prog gl (UC r_ device) 134 [.ptr (CO r_) 0,iG device] iG:=
 cy func134 λK=>aw [hm 10 (Aa6 r_.cards device)]<|rv K
def UD(b:Int)(y:Int):Fo:=
 ((FI b).bind λc=>bif c then((FI y).bind λa=>bif(!a)then(some true)else(some (decide (b<y))))else(some (decide (b<y)))).bind λd=>some d
theorem W6{x_ y}:DL prog gl (UD x_ y) 323 [iG x_,iG y] bG:=
 cy func323 λK=>cN [1,0] (sf [] []) []<|cC [1,0] (λa=>sg [] [(4,bG a)]) (λa=>rv K) λa k5=>ak λd e8=>kV (λb=>BG 9 (dw gl) λc=>aw [hf 6 (cF (dw gl e8) b)]<|aF 11 (rx k5)<|rx k5) λb=>aw [hf 6 (cF (dw gl e8) b)]<|rx k5
def PD(a:Ad)(device:Int):Fo:=
 ((UC a device).bind λb=>bif 0<b then(some (!(EY (a.was.get device))))else(some false)).bind λc=>some c
theorem SK{r_ device}:DL prog gl (PD r_ device) 135 [.ptr (CO r_) 0,iG device] bG:=
 cy func135 λK=>cN [1,0] (sf [] []) []<|cC [1,0] (λa=>sg [] [(4,bG a)]) (λa=>rv K) λa k5=>BG 7 (PC gl) λb=>aF 8 (aw [hm 15 (Q2 r_.was device)]<|rx k5)<|rx k5
def abh{α:Type}[DecidableEq α](s:List α)(v:α)(s1:Int):Option ((Int)⊕(Unit⊕Int)):=
 bif s1<ah s then((aS s s1).bind λa=>bif v=a then(some (.inr (.inr s1)))else(some (.inl (wI (s1+1)))))else(some (.inr (.inl ())))
def ixT{α:Type}[DecidableEq α](s:List α)(v:α):JQ:=
 (AH (abh s v) 0).bind λa=>ma a (λb=>some (-1)) (λq=>some q)
theorem Sh{s v}:DL prog gl (ixT s v) 68 [aE cZ s,iG v] iG:=
 cy func68 λK=>O7 1101 (λa=>sg [] []) (λs1=>sf [] [(7,iG (ah s)),(8,iG s1)]) [] K (λa=>rv K) λs1 k5 b k6=>aF 9 (CD 14 rZ.ixZ 15 (rZ.p1Y tZ) λc=>aF 16 (aP c3 k6 [])<|rb k5)<|aA c2 b []
def Acc{α:Type}[DecidableEq α](s:List α)(v:α):Fo:=
 (ixT s v).bind λv1=>some (decide (0<=v1))
theorem DF{s v}:DL prog gl (Acc s v) 31 [aE cZ s,iG v] bG:=
 cy func31 λK=>BG 7 (Sh gl) λv1=>rv K
def Xf(kind:Int):Fo:=
 (bif kind=3 then(some true)else(bif kind=13 then(some true)else(some (decide (kind=12))))).bind λa=>some a
theorem Y5{kind}:DL prog gl (Xf kind) 213 [iG kind] bG:=
 cy func213 λK=>cN [1,0] (sf [] []) []<|cC [1,0] (λa=>sg [] [(2,bG a)]) (λa=>rv K) λa k3=>aF 4 (rx k3)<|aF 8 (rx k3)<|rx k3
def SM(a:Ab)(a1:Bb):Fo:=
 some (A7 (a1.void.get a))
theorem PE{id_ a1}:DL prog gl (SM id_ a1) 214 [.agg (aj id_),.ptr [.ptr (B5 a1) 0] 0] bG:=
 cy func214 λK=>aw [hm 9 (SJ a1.void id_)]<|rv K
theorem PG{s v}:DL prog gl (ixT s v) 303 [aE aj s,.agg (aj v)] iG:=
 cy func303 λK=>O7 1101 (λc=>sg [] []) (λs1=>so [1] [(3,.ref 0 0),(7,iG (ah s)),(8,iG s1)] [ob 0 41 (aj v)] 1) [] K (λc=>rv K) λs1 k5 d k6=>aF 9 (CD 14 ac.ixZ 15 (ac.ptZ aW) λb=>kV (λa=>aw [hV 16 (cV (dU v b rfl) a)]<|aP c3 k6 []) λa=>aw [hV 16 (cV (dU v b rfl) a)]<|rb k5)<|aA c2 d []
theorem Jq{s v}:DL prog gl (Acc s v) 204 [aE aj s,.agg (aj v)] bG:=
 cy func204 λK=>BG 7 (PG gl) λv1=>rv K
def ij(g:Az)(device:Int)(s1:DR×Int):Option ((DR×Int)⊕(DR⊕(DR×Bool))):=
 bif s1.2<ah g.cards then((aS g.cards s1.2).bind λa=>bif a.Device=device then(some (.inr (.inr (a,true))))else(some (.inl (s1.1,wI (s1.2+1)))))else(some (.inr (.inl s1.1)))
def hY(g:Az)(device:Int):Option (DR×Bool):=
 (AH (ij g device) (⟨0,0,0,0,0⟩,0)).bind λa=>ma a (λb=>some (⟨0,0,0,0,0⟩,false)) (λq=>some q)
theorem uN{g device}:DL prog gl (hY g device) 101 [.ptr (Ag g) 0,iG device] (λr=> .tup [.agg (bv r.1),bG r.2]):=
 cy func101 λK=>O7 1101 (λa=>sp [] [(4,.ref 0 0)] [ob 0 147 (bv a)] 1) (λs1=>so [0] [(4,.ref 0 0),(11,aE bv g.cards),(12,iG (ah g.cards)),(13,iG s1.2)] [ob 0 147 (bv s1.1)] 1) [] K (λa=>rv K) λs1 k5 b k6=>aF 14 (CD 15 bT.ixZ 16 (bT.ptZ E2) λc=>aF 20 (aP c3 k6 [])<|rb k5)<|aA c2 b []
theorem kP:Acb prog gl aj (λx=>[.agg (aj x)]) 29:=λs f fi_f fa_f fc_f a=>
 cy func29 λK=>ak λv1 e2=>aw [hz 7 [] (jf (c:=0) aH (gS gl (a) e2) (aY (aG 20 (aE aj s) aH) (aY (a.im) (bf))))]<|rv K
def Kp(a:DR)(b:DR):JQ:=
 some (wI (a.Device-b.Device))
theorem Dt{a b}:DL prog gl (Kp a b) 98 [.agg (bv a),.agg (bv b)] iG:=
 cy func98 λK=>rv K
def FV(n:Int)(low:Int)(a:Int):Fo:=
 (bif low<=n then(some (decide (n<=a)))else(some false)).bind λb=>some b
theorem eE{n low a}:DL prog gl (FV n low a) 261 [iG n,iG low,iG a] bG:=
 cy func261 λK=>cN [1,0] (sf [] []) []<|cC [1,0] (λb=>sg [] [(6,bG b)]) (λb=>rv K) λb k3=>aF 9 (rx k3)<|rx k3
def Kq(n:Nat):Fo:=
 some (decide ((n:Int)<((2305843009213693951:Nat):Int)))
theorem Ak{n}:DL prog gl (Kq n) 271 [uG n] bG:=
 cy func271 λK=>rv K
def Al(a:Ab):Fo:=
 ((FV a.By 1 12).bind λd=>bif d then((FV a.Seq 1 2147483647).bind λb=>bif b then((Kq a.Sum).bind λc=>some c)else(some false))else(some false)).bind λe=>some e
theorem pH{id_}:DL prog gl (Al id_) 262 [.agg (aj id_)] bG:=
 cy func262 λK=>cN [1,0] (sp [] [(1,.ref 0 0)] [ob 0 41 (aj id_)] 1) []<|cC [1,0] (λa=>sk [] [(2,bG a)] [] 0) (λa=>rv K) λa k5=>ak λe e8=>kV (λb=>BG 9 (eE gl) λc=>aw [hf 5 (cF (eE gl e8) b)]<|aF 10 (BG 14 (Ak gl) λd=>rx k5)<|rx k5) λb=>aw [hf 5 (cF (eE gl e8) b)]<|rx k5
def rJ(n:Nat):Fo:=
 (bif ((1:Nat):Int)<=(n:Int)then(some (decide ((n:Int)<((2305843009213693951:Nat):Int))))else(some false)).bind λa=>some a
theorem iz{n}:DL prog gl (rJ n) 263 [uG n] bG:=
 cy func263 λK=>cN [1,0] (sf [] []) []<|cC [1,0] (λa=>sg [] [(2,bG a)]) (λa=>rv K) λa k3=>aF 4 (rx k3)<|rx k3
theorem pI:Aca prog gl cz (λx=>[.agg (cz x)]) 379:=λs f fi_f fa_f fc_f a=>
 cy func379 λK=>O7 1101 (λg=>sg [] []) (λs1=>sf [] [(7,iG (ah s)),(8,iG s1)]) [hc (a.im)] K (λg=>rv K) λs1 k5 h k6=>aF 9 (CD 14 EP.ixZ 15 (EP.ptZ UL) λd=>ak λi e=>kV (λb=>aw [hz 16 [] (cS (a.cs (c:=0) e (aY (aG 20 (.agg (cz d)) aH) (bf))) b)]<|aP c3 k6 []) λb=>aw [hz 16 [] (cS (a.cs (c:=0) e (aY (aG 20 (.agg (cz d)) aH) (bf))) b)]<|cj k5 [hc (a.im)])<|aA c2 h []
theorem M1:Acb prog gl cz (λx=>[.agg (cz x)]) 345:=λs f fi_f fa_f fc_f a=>
 cy func345 λK=>ak λv1 e2=>aw [hz 7 [] (jf (c:=0) aH (pI gl (a) e2) (aY (aG 20 (aE cz s) aH) (aY (a.im) (bf))))]<|rv K
end
end Go.Proofs.YtjbfcillbjiajaaGreatDoor
