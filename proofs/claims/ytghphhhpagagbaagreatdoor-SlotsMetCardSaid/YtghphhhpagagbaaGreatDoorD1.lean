/- Texts. -/
import Derived.Test.YtghphhhpagagbaaGreatDoorSY
namespace Go.Proofs.YtghphhhpagagbaaGreatDoor
set_option linter.unusedSectionVars false
set_option linter.unusedVariables false
set_option linter.unusedSimpArgs false
open Go.RowKit Tryz
attribute [local irreducible] Tr dz Gp
variable (gl:CO)
section
set_option maxHeartbeats 2000000
def DJ(s1:Nat×CY):Option ((Nat×CY)⊕(Nat×CY)):=
 bif decide (((127:Nat):Int)<(s1.1:Int)) then((aT 1 s1.2 ([wY ((((wY ((s1.1%128:Nat):Int)).toNat:Nat):Int)+(((128:UInt8).toNat:Nat):Int))]:CY)).bind λa=>some (.inl (wU ((s1.1/128:Nat):Int),a))) else(some (.inr (s1.1,s1.2)))
def jl(k:Nat):Option CY:=
 (AB (DJ) (k,[])).bind λb=>(aT 1 b.2 ([wY (b.1:Int)]:CY)).bind λa=>some a
theorem LD{k}:LT prog gl (jl k) 203 [uG k] 5 cY:=
 gc func203 λK=>I4 1110 (λa=>so [] [(0,uG a.1),(3,.rsl 0 0 a.2.length)] [ob 0 5 (a.2.flatMap cY)] 1) (λs1=>so [] [(0,uG s1.1),(3,.rsl 0 0 s1.2.length)] [ob 0 5 (s1.2.flatMap cY)] 1) [hc (rY.imm [])] (λa=>Gq (dg 19 rY) λc=>aw [AA 17 (Iz (a.1:Int))]<|mr c0 K (rY.imm _)) λs1 k5 d=>aF 5 (Gq (dg 12 rY) λb=>aw [hbb 8 (iD s1.1 128 Cd),AA 9 (Iz ((s1.1%128:Nat):Int)),hbb 10 (YK (wY ((s1.1%128:Nat):Int)) (128:UInt8)),hbb 14 (zm s1.1 128 Cd)]<|cj k5 (DF rY b))<|aA c1 d (DF rY s1.2)
def cg(n:Int):Option CY:=
 bif decide (n<0) then((jl (wU (((wU (((wU (wI (0-(wI (n+1)))):Nat):Int)*((2:Nat):Int)):Nat):Int)+((1:Nat):Int)))).bind λa=>some a) else((jl (wU (((wU n:Nat):Int)*((2:Nat):Int)))).bind λb=>some b)
theorem eZ{n}:LT prog gl (cg n) 205 [iG n] 5 cY:=
 gc func205 λK=>aF 4 (ak λa e3=>aw [AA 8 (C8 (wI (0-(wI (n+1))))),hbb 9 (na ((wU (wI (0-(wI (n+1)))):Nat):Int) ((2:Nat):Int)),hbb 10 (gV ((wU (((wU (wI (0-(wI (n+1)))):Nat):Int)*((2:Nat):Int)):Nat):Int) ((1:Nat):Int)),ho 11 [uG (wU (((wU (((wU (wI (0-(wI (n+1)))):Nat):Int)*((2:Nat):Int)):Nat):Int)+((1:Nat):Int)))] [] (LD gl e3) (lY a)]<|mr c0 K (rY.imm _))<|ak λb e5=>aw [AA 13 (C8 n),hbb 14 (na ((wU n:Nat):Int) ((2:Nat):Int)),ho 15 [uG (wU (((wU n:Nat):Int)*((2:Nat):Int)))] [] (LD gl e5) (lY b)]<|mr c0 K (rY.imm _)
def iJ(a:Ab):Option CY:=
 (cg a.By).bind λb=>(cg a.Seq).bind λc=>(aT 1 b c).bind λd=>(jl a.Sum).bind λe=>(aT 1 d e).bind λf=>some f
theorem GO{id_}:LT prog gl (iJ id_) 202 [.agg (aj id_)] 5 cY:=
 gc func202 λK=>ak λa e2=>Jt 9 rY (eZ gl) λb=>Gq (eu 10 rY) λc=>Jt 14 rY (LD gl) λd=>Gq (eu 15 rY) λe=>aw [ho 6 [iG id_.By] [] (eZ gl e2) (lY a)]<|mr c0 K (rY.imm _)
def r6(s1:Nat×Nat×Nat):Option ((Nat×Nat×Nat)⊕(Nat)):=
 bif decide (((0:Nat):Int)<(s1.2.2:Int)) then((bif decide (((s1.2.2%2:Nat):Int)=((1:Nat):Int)) then((oQ s1.1 s1.2.1).bind λa=>some a) else(some s1.1)).bind λb=>(oQ s1.2.1 s1.2.1).bind λc=>some (.inl (b,c,wU ((s1.2.2/2:Nat):Int)))) else(some (.inr s1.1))
def iK(a:Nat)(n:Nat):Ft:=
 (AB (r6) (1,a%2305843009213693951,n)).bind λb=>some b
theorem lc{a n}:DL prog gl (iK a n) 195 [uG a,uG n] (λr:Nat=>uG r):=
 cy func195 λK=>aw [hbb 9 (iD a 2305843009213693951 Cd)]<|I4 111101 (λd=>sg [] [(5,uG d)]) (λs1=>sg [] [(5,uG s1.1),(6,uG s1.2.1),(7,uG s1.2.2)]) [] (λd=>rv K) λs1 k5 e=>aF 12 (aw [hbb 16 (iD s1.2.2 2 Cd)]<|cN 1111012210201 (sf [] [(17,bG (decide (((s1.2.2%2:Nat):Int)=((1:Nat):Int))))]) []<|cC 1111012210201 (λb=>sf [17] [(5,uG b)]) (λb=>BU 23 (nK gl) λf=>aw [hbb 14 (zm s1.2.2 2 Cd)]<|rb k5) λb c=>eH [17] (BU 20 (nK gl) λg=>rx c)<|rx c)<|aA c1 e []
def iq(n:Int)(most:Int):JP:=
 bif decide (n<0) then((u9 (wI (0-(wI (n+1)))) most).bind λa=>some a) else((u9 n most).bind λb=>some b)
theorem iL{n most}:DL prog gl (iq n most) 45 [iG n,iG most] iG:=
 cy func45 λK=>aF 6 (ak λa e3=>aw [hbb 12 (KO e3)]<|rv K)<|ak λb e5=>aw [hbb 12 (KO e5)]<|rv K
def Jf(cards:Md):Option Ba:=
 some ⟨cards,[],[],[],[]⟩
theorem M8{cards}:DL prog gl (Jf cards) 52 [aE bv cards] (λr=> .agg (aI r)):=
 cy func52 λK=>rv K
def xo(a:Nat):Ft:=
 (iK 37 a).bind λb=>some b
theorem r7{a}:DL prog gl (xo a) 109 [uG a] (λr:Nat=>uG r):=
 cy func109 λK=>BU 4 (lc gl) λb=>rv K
def my(b:CY)(s1:Br×Int)(a:Nat×Int):Option ((Nat×Int)⊕(Nat)):=
 bif decide (s1.2<=a.2) then((Bt b a.2).bind λc=>some (.inl (wU (((wU ((a.1:Int)*((256:Nat):Int)):Nat):Int)+((wU (c.toNat:Int):Nat):Int)),wI (a.2-1)))) else(some (.inr a.1))
def qh(b:CY)(s1:Br×Int):Option ((Br×Int)⊕Br):=
 bif decide (s1.2<ah b) then((AB (my b s1) (0,wI ((iI (ah b) (wI (s1.2+7)))-1))).bind λa=>(aT 8 s1.1 ([a]:Br)).bind λc=>some (.inl (c,wI (s1.2+7)))) else(some (.inr s1.1))
def LO(b:CY):Option Br:=
 (AB (qh b) ([],0)).bind λa=>some a
theorem yz{b}:LT prog gl (LO b) 212 [aE cY b] 23 cW:=
 gc func212 λK=>I4 11101 (λe=>sp [] [(3,.rsl 0 0 e.length)] [ob 0 23 (e.flatMap cW)] 1) (λs1=>so [] [(3,.rsl 0 0 s1.1.length),(4,iG s1.2)] [ob 0 23 (s1.1.flatMap cW)] 1) [hc (rW.imm [])] (λe=>mr c0 K (rW.imm _)) λs1 k5 i=>aF 10 (I4 1110122102101 (λc=>sf [] [(5,uG c)]) (λa=>sf [] [(5,uG a.1),(6,iG a.2)]) (DF rW s1.1) (λc=>Gq (dg 35 rW) λf=>cj k5 (DF rW f)) λa g h=>aF 21 (CB 28 rY.ixZ 29 (rY.p1Y tY) λd=>aw [hbb 25 (na (a.1:Int) ((256:Nat):Int)),AA 30 (C8 (d.toNat:Int)),hbb 31 (gV ((wU ((a.1:Int)*((256:Nat):Int)):Nat):Int) ((wU (d.toNat:Int):Nat):Int))]<|cj g (DF rW s1.1))<|aA c1 h (DF rW s1.1))<|aA c1 i (DF rW s1.1)
def qi(a:Nat)(b:Nat):Ft:=
 some ((wU (((a%2305843009213693951:Nat):Int)+((b%2305843009213693951:Nat):Int)))%2305843009213693951)
theorem Yc{a b}:DL prog gl (qi a b) 282 [uG a,uG b] (λr:Nat=>uG r):=
 cy func282 λK=>aw [hbb 6 (iD a 2305843009213693951 Cd),hbb 8 (iD b 2305843009213693951 Cd),hbb 9 (gV ((a%2305843009213693951:Nat):Int) ((b%2305843009213693951:Nat):Int)),hbb 10 (iD (wU (((a%2305843009213693951:Nat):Int)+((b%2305843009213693951:Nat):Int))) 2305843009213693951 Cd)]<|rv K
def qj(b:Br)(a:Nat×Int):Option ((Nat×Int)⊕(Nat)):=
 bif decide (a.2<ah b) then((oQ 37 a.1).bind λc=>(Bt b a.2).bind λd=>(qi d (wU (wI (a.2+1)))).bind λe=>(qi c e).bind λf=>(iK f 17).bind λg=>some (.inl (g,wI (a.2+1)))) else(some (.inr a.1))
def qk(l:Br)(a:Br×Int):Option ((Br×Int)⊕Br):=
 bif decide (a.2<ah l) then((Bt l a.2).bind λb=>(aT 8 a.1 ([b%2305843009213693951]:Br)).bind λc=>some (.inl (c,wI (a.2+1)))) else(some (.inr a.1))
def yA(label:CY)(l:Br):Ft:=
 (Gk label).bind λc=>(LO c).bind λd=>(aT 8 d ([wU (ah l)]:Br)).bind λe=>(AB (qk l) (e,0)).bind λf=>(aT 8 f ([0]:Br)).bind λa=>(AB (qj a) (wU (ah label),0)).bind λb=>some b
theorem AD{label l}:DL prog gl (yA label l) 211 [sG label,aE cW l] (λr:Nat=>uG r):=
 cy func211 λK=>ak λk e2=>ak λm e4=>Gq (dg 17 rW) λn=>aw [AA 15 (C8 (ah l)),hcB 11 e2,ho 12 [aE cY k] [] (yz gl e4) (lW m)]<|I4 11101 (λe=>so [1] [(5,.rsl 0 0 e.length)] [ob 0 23 (e.flatMap cW)] 1) (λb=>so [] [(5,.rsl 0 0 b.1.length),(6,iG b.2)] [ob 0 23 (b.1.flatMap cW)] 1) (DF rW n) (λe=>Gq (dg 34 rW) λc=>aw [hL 36 label,AA 37 (C8 (ah label))]<|I4 11111101 (λd=>sk [] [(7,uG d)] [] 0) (λa=>sk [] [(5,aE cW c),(7,uG a.1),(8,iG a.2)] [] 0) [hc (rW.al c)] (λd=>rv K) λa f g=>aF 41 (BU 45 (nK gl) λo=>CB 48 rW.ixZ 49 (rW.p1Y tW) λp=>BU 53 (Yc gl) λq=>BU 54 (Yc gl) λs=>BU 56 (lc gl) λt=>aw [AA 52 (C8 (wI (a.2+1)))]<|rb f)<|aA c1 g []) λb k11 h=>aF 21 (CB 27 rW.ixZ 28 (rW.p1Y tW) λi=>Gq (dg 31 rW) λj=>aw [hbb 29 (iD i 2305843009213693951 Cd)]<|cj k11 (DF rW j))<|aA c1 h (DF rW b.1)
def M6(label:CY)(l:Br):Ft:=
 (yA label l).bind λa=>some (wU (((1:Nat):Int)+((a%2305843009213693949:Nat):Int)))
theorem Se{label l}:DL prog gl (M6 label l) 196 [sG label,aE cW l] (λr:Nat=>uG r):=
 cy func196 λK=>BU 7 (AD gl) λa=>aw [hbb 8 (iD a 2305843009213693949 Cd),hbb 9 (gV ((1:Nat):Int) ((a%2305843009213693949:Nat):Int))]<|rv K
def lf(kind:CY)(device:Int):Ft:=
 (M6 kind ([wU device]:Br)).bind λa=>some a
theorem kG{kind device}:DL prog gl (lf kind device) 110 [sG kind,iG device] (λr:Nat=>uG r):=
 cy func110 λK=>ak λa e2=>aw [AA 7 (C8 device),hq 9 [sG kind,aE cW ([wU device]:Br)] [hc (rW.al ([wU device]:Br))] (Se gl e2)]<|rv K
def GP(a:Bj)(s1:Md×Int):Option ((Md×Int)⊕Md):=
 bif decide (s1.2<ah a) then((Bt a s1.2).bind λb=>(lf [108,101,97,100] (wI (s1.2+1))).bind λc=>(xo c).bind λd=>(lf [107,101,101,112] (wI (s1.2+1))).bind λe=>(xo e).bind λf=>(lf [115,105,103,110] (wI (s1.2+1))).bind λg=>(xo g).bind λh=>(aT 40 s1.1 [(⟨wI (s1.2+1),b,d,f,h⟩:DS)]).bind λi=>some (.inl (i,wI (s1.2+1)))) else(some (.inr s1.1))
def ql(a:Bj):Option Md:=
 (AB (GP a) ([],0)).bind λb=>some b
theorem GQ{owners}:LT prog gl (ql owners) 53 [aE cZ owners] 78 bv:=
 gc func53 λK=>I4 11101 (λa=>sp [] [(3,.rsl 0 0 a.length)] [ob 0 78 (a.flatMap bv)] 1) (λs1=>so [] [(3,.rsl 0 0 s1.1.length),(4,iG s1.2)] [ob 0 78 (s1.1.flatMap bv)] 1) [hc (bT.imm [])] (λa=>mr c0 K (bT.imm _)) λs1 k5 c=>aF 9 (CB 18 rZ.ixZ 19 (rZ.p1Y tZ) λd=>BU 21 (kG gl) λe=>BU 22 (r7 gl) λf=>BU 24 (kG gl) λg=>BU 25 (r7 gl) λh=>BU 27 (kG gl) λi=>BU 28 (r7 gl) λj=>Gq (dg 31 bT) λb=>cj k5 (DF bT b))<|aA c1 c (DF bT s1.1)
def jI(label:CY)(b:CY):Ft:=
 (LO b).bind λa=>(aT 8 a ([wU (ah b)]:Br)).bind λc=>(yA label c).bind λd=>some d
theorem yB{label b}:DL prog gl (jI label b) 115 [sG label,aE cY b] (λr:Nat=>uG r):=
 cy func115 λK=>ak λc e2=>Gq (dg 12 rW) λa=>ak λd e6=>aw [AA 10 (C8 (ah b)),ho 7 [aE cY b] [] (yz gl e2) (lW c),hq 13 [sG label,aE cW a] [hc (rW.al a)] (AD gl e6)]<|rv K
def Ph(b:CY):Ft:=
 (jI [115,105,103,110,101,100] b).bind λa=>some a
theorem LH{b}:DL prog gl (Ph b) 197 [aE cY b] (λr:Nat=>uG r):=
 cy func197 λK=>BU 4 (yB gl) λa=>rv K
def fV:Ft:=
 some 2305843009213693950
theorem eU:DL prog gl (fV) 200 [] (λr:Nat=>uG r):=
 cy func200 λK=>rv K
def yC(a:Nat×Nat×Nat):Option ((Nat×Nat×Nat)⊕(Nat)):=
 bif decide (((0:Nat):Int)<(a.2.1:Int)) then((bif decide (((a.2.1%2:Nat):Int)=((1:Nat):Int)) then((fV).bind λb=>(CH (wU ((a.2.2:Int)+(a.1:Int))) b).bind λc=>some c) else(some a.2.2)).bind λd=>(fV).bind λe=>(CH (wU ((a.1:Int)+(a.1:Int))) e).bind λf=>some (.inl (f,wU ((a.2.1/2:Nat):Int),d))) else(some (.inr a.2.2))
def vp(a:Nat)(b:Nat):Ft:=
 (fV).bind λd=>(CH a d).bind λe=>(fV).bind λf=>(CH b f).bind λg=>(AB (yC) (e,g,0)).bind λc=>some c
theorem GT{a b}:DL prog gl (vp a b) 198 [uG a,uG b] (λr:Nat=>uG r):=
 cy func198 λK=>BU 7 (eU gl) λm=>ak λn e4=>BU 10 (eU gl) λo=>ak λp e8=>aw [hbb 8 (YI e4),hbb 11 (YI e8)]<|I4 111110 (λe=>sg [] [(5,uG e)]) (λc=>sf [] [(0,uG c.1),(1,uG c.2.1),(5,uG c.2.2)]) [] (λe=>rv K) λc k13 k12=>aF 13 (aw [hbb 15 (iD c.2.1 2 Cd)]<|cN 111110221201 (sf [] [(16,bG (decide (((c.2.1%2:Nat):Int)=((1:Nat):Int))))]) []<|cC 111110221201 (λd=>sf [16] [(5,uG d)]) (λd=>BU 25 (eU gl) λi=>ak λj g=>aw [hbb 24 (gV (c.1:Int) (c.1:Int)),hbb 28 (zm c.2.1 2 Cd),hbb 26 (YI g)]<|rb k13) λd f=>eH [16] (BU 20 (eU gl) λk=>ak λl h=>aw [hbb 19 (gV (c.2.2:Int) (c.1:Int)),hbb 21 (YI h)]<|rx f)<|rx f)<|aA c1 k12 []
def Pi(d:Nat)(pub:Nat)(b:CY):Ft:=
 (Ph b).bind λa=>(yA [115,105,103] ([d,pub,a]:Br)).bind λc=>some c
theorem LI{r_ pub b}:DL prog gl (Pi r_ pub b) 199 [uG r_,uG pub,aE cY b] (λr:Nat=>uG r):=
 cy func199 λK=>BU 10 (LH gl) λa=>ak λc e4=>aw [hq 12 [sG [115,105,103],aE cW ([r_,pub,a]:Br)] [hc (rW.al ([r_,pub,a]:Br))] (AD gl e4)]<|rv K
def zX(a:Nat)(b:CY):Option XM:=
 (Ph b).bind λh=>(M6 [110,111,110,99,101] ([a,h]:Br)).bind λf=>(iK 37 f).bind λg=>(xo a).bind λi=>(Pi g i b).bind λj=>(vp j a).bind λc=>(fV).bind λd=>(CH (wU ((f:Int)+(c:Int))) d).bind λe=>some ⟨g,e⟩
theorem Jg{a b}:DL prog gl (zX a b) 111 [uG a,aE cY b] (λr=> .agg (yy r)):=
 cy func111 λK=>BU 10 (LH gl) λd=>ak λe e4=>BU 14 (lc gl) λh=>BU 17 (r7 gl) λi=>BU 19 (LI gl) λj=>BU 21 (GT gl) λc=>BU 26 (eU gl) λf=>ak λg e16=>aw [hbb 25 (gV (e:Int) (c:Int)),hq 12 [sG [110,111,110,99,101],aE cW ([a,d]:Br)] [hc (rW.al ([a,d]:Br))] (Se gl e4),hbb 27 (YI e16)]<|rv K
end
section
set_option maxHeartbeats 2000000
def tR(l:Bj)(s1:CY×Int):Option ((CY×Int)⊕CY):=
 bif decide (s1.2<ah l) then((Bt l s1.2).bind λa=>(cg a).bind λb=>(aT 1 s1.1 b).bind λc=>some (.inl (c,wI (s1.2+1)))) else(some (.inr s1.1))
def PK(l:Bj):Option CY:=
 (AB (tR l) ([],0)).bind λa=>some a
theorem oT{l}:LT prog gl (PK l) 201 [aE cZ l] 5 cY:=
 gc func201 λK=>I4 11101 (λa=>sp [] [(3,.rsl 0 0 a.length)] [ob 0 5 (a.flatMap cY)] 1) (λs1=>so [] [(3,.rsl 0 0 s1.1.length),(4,iG s1.2)] [ob 0 5 (s1.1.flatMap cY)] 1) [hc (rY.imm [])] (λa=>mr c0 K (rY.imm _)) λs1 k5 c=>aF 8 (CB 14 rZ.ixZ 15 (rZ.p1Y tZ) λd=>Jt 16 rY (eZ gl) λe=>Gq (eu 17 rY) λb=>cj k5 (DF rY b))<|aA c1 c (DF rY s1.1)
def tS(l:Br)(s1:CY×Int):Option ((CY×Int)⊕CY):=
 bif decide (s1.2<ah l) then((Bt l s1.2).bind λa=>(jl a).bind λb=>(aT 1 s1.1 b).bind λc=>some (.inl (c,wI (s1.2+1)))) else(some (.inr s1.1))
def vt(l:Br):Option CY:=
 (AB (tS l) ([],0)).bind λa=>some a
theorem AG{l}:LT prog gl (vt l) 207 [aE cW l] 5 cY:=
 gc func207 λK=>I4 11101 (λa=>sp [] [(3,.rsl 0 0 a.length)] [ob 0 5 (a.flatMap cY)] 1) (λs1=>so [] [(3,.rsl 0 0 s1.1.length),(4,iG s1.2)] [ob 0 5 (s1.1.flatMap cY)] 1) [hc (rY.imm [])] (λa=>mr c0 K (rY.imm _)) λs1 k5 c=>aF 8 (CB 14 rW.ixZ 15 (rW.p1Y tW) λd=>Jt 16 rY (LD gl) λe=>Gq (eu 17 rY) λb=>cj k5 (DF rY b))<|aA c1 c (DF rY s1.1)
def qq(l:List Ha)(s3:CY×Int):Option ((CY×Int)⊕CY):=
 bif decide (s3.2<ah l) then((Bt l s3.2).bind λa=>(Bt l s3.2).bind λb=>(Bt l s3.2).bind λc=>(Bt l s3.2).bind λd=>(vt ([a.To,b.Eph,c.Body,d.Tag]:Br)).bind λe=>(aT 1 s3.1 e).bind λf=>some (.inl (f,wI (s3.2+1)))) else(some (.inr s3.1))
def nQ(l:List Ha):Option CY:=
 (cg (ah l)).bind λa=>(AB (qq l) (a,0)).bind λb=>some b
theorem GW{l}:LT prog gl (nQ l) 204 [aE cz l] 5 cY:=
 gc func204 λK=>ak λi e2=>aw [ho 7 [iG (ah l)] [] (eZ gl e2) (lY i)]<|I4 11101 (λe=>sp [] [(3,.rsl 0 0 e.length)] [ob 0 5 (e.flatMap cY)] 1) (λs3=>so [] [(3,.rsl 0 0 s3.1.length),(4,iG s3.2)] [ob 0 5 (s3.1.flatMap cY)] 1) (DF rY i) (λe=>mr c0 K (rY.imm _)) λs3 j k6=>aF 11 (CB 17 EH.ixZ 19 (EH.fdY tW 0) λa=>CB 22 EH.ixZ 24 (EH.fdY tW 1) λb=>CB 27 EH.ixZ 29 (EH.fdY tW 2) λc=>CB 32 EH.ixZ 34 (EH.fdY tW 3) λd=>ak λf g=>Gq (dg 37 rY) λh=>aw [ho 36 [aE cW ([a.To,b.Eph,c.Body,d.Tag]:Br)] [hc (rW.al ([a.To,b.Eph,c.Body,d.Tag]:Br))] (AG gl g) (lY f)]<|cj j (DF rY h))<|aA c1 k6 (DF rY s3.1)
def vu(s:CY):Option CY:=
 (cg (ah s)).bind λa=>(aT 1 a s).bind λb=>some b
theorem Jp{s}:LT prog gl (vu s) 206 [sG s] 5 cY:=
 gc func206 λK=>ak λa e2=>ak λb e4=>aw [hL 4 s,ho 5 [iG (ah s)] [] (eZ gl e2) (lY a),XZ 7 e4]<|mr c0 K (rY.imm _)
def O0(o:Bq)(a:CY×Int):Option ((CY×Int)⊕CY):=
 bif decide (a.2<ah o.Hist) then((Bt o.Hist a.2).bind λb=>(iJ b.Of).bind λc=>(aT 1 a.1 c).bind λd=>(Bt o.Hist a.2).bind λe=>(vu e.Body).bind λf=>(aT 1 d f).bind λg=>some (.inl (g,wI (a.2+1)))) else(some (.inr a.1))
def qs(o:Bq)(a:CY×Int):Option ((CY×Int)⊕CY):=
 bif decide (a.2<ah o.Path) then((Bt o.Path a.2).bind λf=>(jl f.Pub).bind λg=>(aT 1 a.1 g).bind λb=>(Bt o.Path a.2).bind λc=>(nQ c.Boxes).bind λd=>(aT 1 b d).bind λe=>some (.inl (e,wI (a.2+1)))) else(some (.inr a.1))
def qt(o:Bq)(s3:CY×Int):Option ((CY×Int)⊕CY):=
 bif decide (s3.2<ah o.Past) then((Bt o.Past s3.2).bind λa=>(iJ a).bind λb=>(aT 1 s3.1 b).bind λc=>some (.inl (c,wI (s3.2+1)))) else(some (.inr s3.1))
def lz(o:Bq):Option CY:=
 (PK ([o.By,o.Seq,o.Kind,o.At,ah o.Past]:Bj)).bind λD=>(AB (qt o) (D,0)).bind λE=>(PK ([o.Device,o.Old,o.Member,o.Role,ah o.Path]:Bj)).bind λa=>(aT 1 E a).bind λb=>(AB (qs o) (b,0)).bind λc=>(iJ o.Epoch).bind λd=>(aT 1 c d).bind λe=>(cg o.N).bind λf=>(aT 1 e f).bind λg=>(vu o.Body).bind λh=>(aT 1 g h).bind λi=>(cg (ah o.Refs)).bind λj=>(aT 1 i j).bind λk=>(vt o.Refs).bind λl=>(aT 1 k l).bind λm=>(iJ o.Of).bind λn=>(aT 1 m n).bind λp=>(cg (ah o.Guards)).bind λq=>(aT 1 p q).bind λr=>(PK o.Guards).bind λs=>(aT 1 r s).bind λt=>(PK ([o.Need,o.Wait]:Bj)).bind λu=>(aT 1 t u).bind λv=>(nQ o.Boxes).bind λw=>(aT 1 v w).bind λx=>(jl o.Pub).bind λy=>(aT 1 x y).bind λz=>(cg (ah o.Hist)).bind λA=>(aT 1 z A).bind λB=>(AB (O0 o) (B,0)).bind λC=>some C
theorem GX{o}:LT prog gl (lz o) 112 [.agg (aJ o)] 5 cY:=
 gc func112 λK=>ak λu e2=>aw [ho 19 [aE cZ ([o.By,o.Seq,o.Kind,o.At,ah o.Past]:Bj)] [hc (rZ.al ([o.By,o.Seq,o.Kind,o.At,ah o.Past]:Bj))] (oT gl e2) (lY u)]<|I4 11101 (λg=>sp [] [(1,.ref 0 0),(3,.rsl 1 0 g.length)] [ob 0 64 (aJ o),ob 1 5 (g.flatMap cY)] 2) (λs3=>sp [] [(1,.ref 0 0),(3,.rsl 1 0 s3.1.length),(4,iG s3.2)] [ob 0 64 (aJ o),ob 1 5 (s3.1.flatMap cY)] 2) (DF rY u) (λg=>ak λh i=>Gq (dg 49 rY) λj=>aw [ho 48 [aE cZ ([o.Device,o.Old,o.Member,o.Role,ah o.Path]:Bj)] [hc (rZ.al ([o.Device,o.Old,o.Member,o.Role,ah o.Path]:Bj))] (oT gl i) (lY h)]<|I4 1111101 (λc=>so [] [(3,.rsl 1 0 c.length)] [ob 1 5 (c.flatMap cY)] 2) (λa=>so [] [(3,.rsl 1 0 a.1.length),(5,iG a.2)] [ob 1 5 (a.1.flatMap cY)] 2) (DF rY j) (λc=>Jt 78 rY (GO gl) λA=>Gq (eu 79 rY) λB=>Jt 83 rY (eZ gl) λC=>Gq (eu 84 rY) λD=>Jt 89 rY (Jp gl) λE=>Gq (eu 90 rY) λF=>Jt 95 rY (eZ gl) λH=>Gq (eu 96 rY) λI=>Jt 100 rY (AG gl) λJ=>Gq (eu 101 rY) λL=>Jt 105 rY (GO gl) λM=>Gq (eu 106 rY) λN=>Jt 111 rY (eZ gl) λO=>Gq (eu 112 rY) λP=>Jt 116 rY (oT gl) λQ=>Gq (eu 117 rY) λR=>ak λk l=>Gq (dg 125 rY) λS=>Jt 129 rY (GW gl) λU=>Gq (eu 130 rY) λV=>Jt 134 rY (LD gl) λW=>Gq (eu 135 rY) λX=>Jt 140 rY (eZ gl) λY=>Gq (eu 141 rY) λm=>aw [XY 88 o.Body,ho 124 [aE cZ ([o.Need,o.Wait]:Bj)] [hc (rZ.al ([o.Need,o.Wait]:Bj))] (oT gl l) (lY k)]<|I4 11111111111111111101 (λd=>sk [] [(3,.rsl 0 0 d.length)] [ob 0 5 (d.flatMap cY)] 1) (λb=>so [] [(3,.rsl 1 0 b.1.length),(6,iG b.2)] [ob 1 5 (b.1.flatMap cY)] 2) (DF rY m) (λd=>mr c0 K (rY.imm _)) λb n p=>aF 146 (CB 153 bH.ixZ 155 (bH.fsZ aW jz 0 Cd) λZ=>Jt 156 rY (GO gl) λv85=>Gq (eu 157 rY) λv87=>CB 162 bH.ixZ 164 (bH.fdY tLY 3) λq=>Jt 166 rY (Jp gl) λv91=>Gq (eu 167 rY) λr=>aw [XY 165 q.Body]<|cj n (DF rY r))<|aA c1 p (DF rY b.1)) λa s t=>aF 54 (CB 61 bZ.ixZ 63 (bZ.fdY tW 0) λy96=>Jt 64 rY (LD gl) λv98=>Gq (eu 65 rY) λv=>CB 70 bZ.ixZ 72 (bZ.fdY E3 1) λw=>Jt 73 rY (GW gl) λx=>Gq (eu 74 rY) λe=>cj s (DF rY e))<|aA c1 t (DF rY a.1)) λs3 k7 k6=>aF 24 (CB 31 ac.ixZ 32 (ac.ptZ aW) λy=>Jt 33 rY (GO gl) λz=>Gq (eu 34 rY) λf=>cj k7 (DF rY f))<|aA c1 k6 (DF rY s3.1)
def nR(o:Bq):Option Bq:=
 (lf [115,105,103,110] o.By).bind λa=>(lz o).bind λb=>(zX a b).bind λc=>some ({o with Sig:=c})
theorem E8{o}:DL prog gl (nR o) 54 [.agg (aJ o)] (λr=> .agg (aJ r)):=
 cy func54 λK=>BU 5 (kG gl) λa=>Jt 7 rY (GX gl) λb=>BU 8 (Jg gl) λc=>rv K
def pV(o:Bq):Option Ab:=
 (lz o).bind λa=>(jI [111,112] a).bind λb=>some ⟨o.By,o.Seq,b⟩
theorem AI{o}:DL prog gl (pV o) 56 [.agg (aJ o)] (λr=> .agg (aj r)):=
 cy func56 λK=>Jt 8 rY (GX gl) λa=>BU 9 (yB gl) λb=>rv K
def xq(l:Bj)(n:Int)(s1:Int):Option ((Int)⊕(Unit⊕Bool)):=
 bif decide (s1<ah l) then((Bt l s1).bind λa=>bif decide (a=n) then(some (.inr (.inr true))) else(some (.inl (wI (s1+1))))) else(some (.inr (.inl ())))
def fb(l:Bj)(n:Int):Fp:=
 (AB (xq l n) 0).bind λa=>ma a (λb=>some false) (λq=>some q)
theorem DE{l n}:DL prog gl (fb l n) 35 [aE cZ l,iG n] bG:=
 cy func35 λK=>Ow 1101 (λa=>sg [] []) (λs1=>sf [] [(5,iG s1)]) [] K (λa=>rv K) λs1 k5 b k6=>aF 9 (CB 14 rZ.ixZ 15 (rZ.p1Y tZ) λc=>aF 17 (aP c3 k6 [])<|rb k5)<|aA c2 b []
def tT(g:Ba)(s3:List Bool×Int)(a:List Bool×Int):Option ((List Bool×Int)⊕(List Bool)):=
 (Bt g.Up s3.2).bind λb=>bif decide (a.2<ah b) then((Bt g.Up s3.2).bind λc=>(Bt c a.2).bind λd=>(ji a.1 d true).bind λe=>some (.inl (e,wI (a.2+1)))) else(some (.inr a.1))
def AJ(g:Ba)(up:Bj)(s3:List Bool×Int):Option ((List Bool×Int)⊕(List Bool)):=
 bif decide (0<=s3.2) then((fb up s3.2).bind λb=>(bif b then((ji s3.1 s3.2 true).bind λc=>some c) else(some s3.1)).bind λa=>(Bt a s3.2).bind λd=>bif d then((AB (tT g s3) (a,0)).bind λe=>some (.inl (e,wI (s3.2-1)))) else(some (.inl (a,wI (s3.2-1))))) else(some (.inr s3.1))
def jA(g:Ba)(up:Bj):Option (List Bool):=
 (rP 1 (false:Bool) (ah g.L)).bind λa=>(AB (AJ g up) (a,wI ((ah g.L)-1))).bind λb=>some b
theorem AK{g up}:LT prog gl (jA g up) 114 [.agg (aI g),aE cZ up] 4 cO:=
 gc func114 λK=>Gq (hmk 11 rO) λq=>I4 11101 (λl=>sp [] [(5,.rsl 0 0 l.length)] [ob 0 4 (l.flatMap cO)] 1) (λs3=>so [0] [(2,.ref 0 0),(5,.rsl 1 0 s3.1.length),(6,iG s3.2)] [ob 0 33 (aI g),ob 1 4 (s3.1.flatMap cO)] 2) (DF rO q) (λl=>mr c0 K (rO.imm _)) λs3 p k6=>aF 17 (BU 22 (DE gl) λm=>cN 111012210201 (sf [] [(22,bG m)]) (DF rO s3.1)<|cC 111012210201 (λa=>so [22] [(5,.rsl 1 0 a.length)] [ob 1 4 (a.flatMap cO)] 2) (λa=>ak λr d=>aw [AA 28 (rO.ixrZ 1 d)]<|kV (λe=>aw [AA 29 (cB (rO.p10Z tO d) e)]<|I4 11101221021131 (λc=>so [] [(5,.rsl 1 0 c.length)] [ob 1 4 (c.flatMap cO)] 2) (λb=>so [] [(5,.rsl 1 0 b.1.length),(7,iG b.2)] [ob 1 4 (b.1.flatMap cO)] 2) (DF rO a) (λc=>cj p (DF rO c)) λb n o=>CB 34 nH.ixZ 35 (nH.p1Y Vs) λs=>aF 37 (CB 44 nH.ixZ 45 (nH.p1Y Vs) λt=>CB 47 rZ.ixZ 48 (rZ.p1Y tZ) λu=>ak λi f=>aw [AA 49 (rO.ixsZ 1 f),hw 49 (i.flatMap cO) (rO.putZ f)]<|cj n [hc (hZ f),hc (rO.imm i)])<|aA c1 o (DF rO b.1)) λe=>aw [AA 29 (cB (rO.p10Z tO d) e)]<|cj p (DF rO a)) λa j=>eH [22] (ak λk h=>aw [AA 25 (rO.ixsZ 1 h),hw 25 (k.flatMap cO) (rO.putZ h)]<|aA c0 j [hc (hZ h),hc (rO.imm k)])<|aA c0 j (DF rO s3.1))<|aA c1 k6 (DF rO s3.1)
def oU(a:Ab)(b:Ab):Fp:=
 bif decide (a.By≠b.By) then(some (decide (a.By<b.By))) else(bif decide (a.Seq≠b.Seq) then(some (decide (a.Seq<b.Seq))) else(some (decide ((a.Sum:Int)<(b.Sum:Int)))))
theorem oV{a b}:DL prog gl (oU a b) 150 [.agg (aj a),.agg (aj b)] bG:=
 cy func150 λK=>aF 9 (rv K)<|aF 19 (rv K)<|rv K
def E5(kind:Int):Fp:=
 (bif decide (kind=1) then(some true) else(bif decide (kind=2) then(some true) else(bif decide (kind=3) then(some true) else(bif decide (kind=4) then(some true) else(some (decide (kind=13))))))).bind λa=>some a
theorem NP{kind}:DL prog gl (E5 kind) 99 [iG kind] bG:=
 cy func99 λK=>cN [1,0] (sf [] []) []<|cC [1,0] (λa=>sg [] [(2,bG a)]) (λa=>rv K) λa k3=>aF 4 (rx k3)<|aF 8 (rx k3)<|aF 12 (rx k3)<|aF 16 (rx k3)<|rx k3
def mz(o:Bq):Fp:=
 (bif decide (o.Kind=7) then(some true) else(bif decide (o.Kind=8) then(some true) else(bif decide (o.Kind=12) then(some true) else(bif decide (o.Kind=10) then(some true) else(bif decide (o.Kind=11) then(some true) else(some (decide (o.Kind=13)))))))).bind λa=>(bif decide (o.Device≠0) then(bif decide (o.Kind≠2) then(bif decide (o.Kind≠3) then(bif decide (o.Kind≠11) then(some (decide (o.Kind≠13))) else(some false)) else(some false)) else(some false)) else(some false)).bind λg=>bif g then(some false) else((bif decide (o.Old≠0) then(bif decide (o.Kind≠13) then(some true) else(bif decide (o.Member≠0) then(bif decide (o.Kind≠3) then(bif decide (o.Kind≠5) then(some true) else(bif decide (o.Role≠0) then(bif decide (o.Kind≠2) then(some (decide (o.Kind≠5))) else(some false)) else(some false))) else(bif decide (o.Role≠0) then(bif decide (o.Kind≠2) then(some (decide (o.Kind≠5))) else(some false)) else(some false))) else(bif decide (o.Role≠0) then(bif decide (o.Kind≠2) then(some (decide (o.Kind≠5))) else(some false)) else(some false)))) else(bif decide (o.Member≠0) then(bif decide (o.Kind≠3) then(bif decide (o.Kind≠5) then(some true) else(bif decide (o.Role≠0) then(bif decide (o.Kind≠2) then(some (decide (o.Kind≠5))) else(some false)) else(some false))) else(bif decide (o.Role≠0) then(bif decide (o.Kind≠2) then(some (decide (o.Kind≠5))) else(some false)) else(some false))) else(bif decide (o.Role≠0) then(bif decide (o.Kind≠2) then(some (decide (o.Kind≠5))) else(some false)) else(some false)))).bind λh=>bif h then(some false) else((bif decide (0<ah o.Path) then((E5 o.Kind).bind λb=>some (!b)) else(some false)).bind λi=>bif i then(some false) else((bif decide (o.Kind≠6) then(bif(!decide (o.Epoch=(⟨0,0,0⟩:Ab))) then(some true) else(bif decide (o.N≠0) then(some true) else(some (decide (0<ah o.Refs))))) else(some false):Fp).bind λj12=>bif j12 then(some false) else((bif decide (0<ah o.Body) then(bif decide (o.Kind≠6) then(bif decide (o.Kind≠7) then(some true) else(bif(!decide (o.Of=(⟨0,0,0⟩:Ab))) then(some (!a)) else(some false))) else(bif(!decide (o.Of=(⟨0,0,0⟩:Ab))) then(some (!a)) else(some false))) else(bif(!decide (o.Of=(⟨0,0,0⟩:Ab))) then(some (!a)) else(some false)):Fp).bind λc=>bif c then(some false) else((bif decide (o.Kind≠9) then(bif decide (0<ah o.Guards) then(some true) else(bif decide (o.Wait≠0) then(some true) else(some (decide ((o.Pub:Int)≠((0:Nat):Int)))))) else(some false)).bind λd=>bif d then(some false) else((bif decide (o.Need≠0) then(bif decide (o.Kind≠9) then(bif decide (o.Kind≠1) then(some true) else(bif decide (0<ah o.Boxes) then(bif decide (o.Kind≠9) then(bif decide (o.Kind≠10) then(some (decide (o.Kind≠11))) else(some false)) else(some false)) else(some false))) else(bif decide (0<ah o.Boxes) then(bif decide (o.Kind≠9) then(bif decide (o.Kind≠10) then(some (decide (o.Kind≠11))) else(some false)) else(some false)) else(some false))) else(bif decide (0<ah o.Boxes) then(bif decide (o.Kind≠9) then(bif decide (o.Kind≠10) then(some (decide (o.Kind≠11))) else(some false)) else(some false)) else(some false))).bind λe=>bif e then(some false) else((bif decide (ah o.Hist=0) then(some true) else(bif decide (o.Kind=2) then(some true) else(some (decide (o.Kind=13))))).bind λf=>some f)))))))
theorem Jr{o}:DL prog gl (mz o) 278 [.agg (aJ o)] bG:=
 cy func278 λK=>cN 1110 (sp [] [(1,.ref 0 0),(3,iG o.Kind)] [ob 0 64 (aJ o)] 1) []<|cC 1110 (λq=>sf [] [(4,bG q)]) (λq=>Ny 111100 (sf [] []) [] 47 (rv K) (Ny 1111100 (sf [47] []) [] 80 (rv K) (Ny 11111100 (sf [80] []) [] 89 (rv K) (Ny 111111100 (sf [89] []) [] 108 (rv K) (cN 1111111100 (sf [108] []) []<|cC 1111111100 (λh=>sf [4] [(130,bG h)]) (λh=>eH [130] (rv K)<|Ny 11111111100 (sf [130] []) [] 148 (rv K) (Ny 111111111100 (sf [148] []) [] 177 (rv K) (cN 111111111110 (sf [177] []) []<|cC 111111111110 (λi=>sk [] [(2,bG i)] [] 0) (λi=>rv K) λi j=>aF 181 (rx j)<|aF 185 (rx j)<|rx j) λb=>aF 151 (aF 155 (aF 159 (rx b)<|aF 164 (aF 168 (aF 172 (rx b)<|rx b)<|rx b)<|rx b)<|aF 164 (aF 168 (aF 172 (rx b)<|rx b)<|rx b)<|rx b)<|aF 164 (aF 168 (aF 172 (rx b)<|rx b)<|rx b)<|rx b) λf=>aF 132 (aF 137 (rx f)<|aF 142 (rx f)<|rx f)<|rx f) λh c=>aF 112 (aF 116 (aF 120 (rx c)<|kV (λk=>aw [hV 125 (cV (dy o.Of (⟨0,0,0⟩:Ab) rfl) k)]<|rx c) λk=>aw [hV 125 (cV (dy o.Of (⟨0,0,0⟩:Ab) rfl) k)]<|rx c)<|kV (λl=>aw [hV 125 (cV (dy o.Of (⟨0,0,0⟩:Ab) rfl) l)]<|rx c) λl=>aw [hV 125 (cV (dy o.Of (⟨0,0,0⟩:Ab) rfl) l)]<|rx c)<|kV (λm=>aw [hV 125 (cV (dy o.Of (⟨0,0,0⟩:Ab) rfl) m)]<|rx c) λm=>aw [hV 125 (cV (dy o.Of (⟨0,0,0⟩:Ab) rfl) m)]<|rx c) λg=>aF 91 (kV (λn=>aw [hV 96 (cV (dy o.Epoch (⟨0,0,0⟩:Ab) rfl) n)]<|rx g) λn=>aw [hV 96 (cV (dy o.Epoch (⟨0,0,0⟩:Ab) rfl) n)]<|aF 101 (rx g)<|rx g)<|rx g) λp=>aF 84 (BU 87 (NP gl) λr=>rx p)<|rx p) λa=>aF 50 (aF 54 (rx a)<|aF 58 (aF 62 (aF 67 (rx a)<|aF 71 (aF 75 (rx a)<|rx a)<|rx a)<|aF 71 (aF 75 (rx a)<|rx a)<|rx a)<|aF 71 (aF 75 (rx a)<|rx a)<|rx a)<|aF 58 (aF 62 (aF 67 (rx a)<|aF 71 (aF 75 (rx a)<|rx a)<|rx a)<|aF 71 (aF 75 (rx a)<|rx a)<|rx a)<|aF 71 (aF 75 (rx a)<|rx a)<|rx a) λe=>aF 31 (aF 35 (aF 39 (aF 43 (rx e)<|rx e)<|rx e)<|rx e)<|rx e) λq d=>aF 8 (rx d)<|aF 12 (rx d)<|aF 16 (rx d)<|aF 20 (rx d)<|aF 24 (rx d)<|rx d
def fB(n:Int)(low:Int)(a:Int):Fp:=
 (bif decide (low<=n) then(some (decide (n<=a))) else(some false)).bind λb=>some b
theorem bJ{n low a}:DL prog gl (fB n low a) 347 [iG n,iG low,iG a] bG:=
 cy func347 λK=>cN [1,0] (sf [] []) []<|cC [1,0] (λb=>sg [] [(6,bG b)]) (λb=>rv K) λb k3=>aF 9 (rx k3)<|rx k3
def AL(n:Nat):Fp:=
 some (decide ((n:Int)<((2305843009213693951:Nat):Int)))
theorem vv{n}:DL prog gl (AL n) 350 [uG n] bG:=
 cy func350 λK=>rv K
def iM(a:Ab):Fp:=
 ((fB a.By 1 12).bind λd=>bif d then((fB a.Seq 1 2147483647).bind λb=>bif b then((AL a.Sum).bind λc=>some c) else(some false)) else(some false)).bind λe=>some e
theorem dW{id_}:DL prog gl (iM id_) 348 [.agg (aj id_)] bG:=
 cy func348 λK=>cN [1,0] (sp [] [(1,.ref 0 0)] [ob 0 25 (aj id_)] 1) []<|cC [1,0] (λa=>sk [] [(2,bG a)] [] 0) (λa=>rv K) λa k5=>ak λe e8=>kV (λb=>BU 9 (bJ gl) λc=>aw [hf 5 (cF (bJ gl e8) b)]<|aF 10 (BU 14 (vv gl) λd=>rx k5)<|rx k5) λb=>aw [hf 5 (cF (bJ gl e8) b)]<|rx k5
def Je(n:Nat):Fp:=
 (bif decide (((1:Nat):Int)<=(n:Int)) then(some (decide ((n:Int)<((2305843009213693951:Nat):Int)))) else(some false)).bind λa=>some a
theorem kH{n}:DL prog gl (Je n) 349 [uG n] bG:=
 cy func349 λK=>cN [1,0] (sf [] []) []<|cC [1,0] (λa=>sg [] [(2,bG a)]) (λa=>rv K) λa k3=>aF 4 (rx k3)<|rx k3
end
section
set_option maxHeartbeats 2000000
def FI(o:Bq):Fp:=
 ((fB o.By 1 12).bind λa=>bif(!a) then(some true) else((fB o.Seq 1 2147483647).bind λb=>bif(!b) then(some true) else((fB o.At 0 2147483647).bind λc=>some (!c)))).bind λC=>bif C then(some false) else(bif decide (o.Kind=1) then((fB o.Need 0 20).bind λD=>some D) else(bif decide (o.Kind=2) then(((fB o.Device 1 12).bind λf=>bif f then((fB o.Role 1 3).bind λg=>some g) else(some false)).bind λj12=>some j12) else(bif decide (o.Kind=3) then(((fB o.Device 1 12).bind λh=>bif h then(bif decide (o.Member=0) then(some true) else(bif decide (o.Device=0) then((fB o.Member 1 8).bind λi=>some i) else(some false))) else(bif decide (o.Device=0) then((fB o.Member 1 8).bind λj=>some j) else(some false))).bind λk=>some k) else(bif decide (o.Kind=5) then(((fB o.Member 1 8).bind λl=>bif l then((fB o.Role 1 3).bind λm=>some m) else(some false)).bind λn=>some n) else(bif decide (o.Kind=6) then(((iM o.Epoch).bind λp=>bif p then((fB o.N 0 2147483647).bind λq=>some q) else(some false)).bind λr=>some r) else(bif decide (o.Kind=9) then(((fB o.Need 1 (ah o.Guards)).bind λs=>bif s then((fB o.Wait 0 2147483647).bind λt=>bif t then((Je o.Pub).bind λu=>some u) else(some false)) else(some false)).bind λv=>some v) else(bif decide (o.Kind=11) then(((iM o.Of).bind λw=>bif w then((fB o.Device 1 12).bind λx=>some x) else(some false)).bind λy=>some y) else(bif decide (o.Kind=13) then(((iM o.Of).bind λz=>bif z then((fB o.Device 1 12).bind λA=>bif A then((fB o.Old 1 12).bind λd=>some d) else(some false)) else(some false)).bind λB=>some B) else(bif decide (o.Kind=4) then(some true) else((iM o.Of).bind λe=>some e))))))))))
theorem De{o}:DL prog gl (FI o) 279 [.agg (aJ o)] bG:=
 cy func279 λK=>Ny 1100 (sp [] [(1,.ref 0 0)] [ob 0 64 (aJ o)] 1) [] 18 (rv K) (aF 22 (BU 25 (bJ gl) λv7=>rv K)<|aF 27 (cN 11101214130 (sf [18] []) []<|cC 11101214130 (λj12=>sk [] [(2,bG j12)] [] 0) (λj12=>rv K) λj12 s=>ak λJ t=>kV (λc=>BU 34 (bJ gl) λL=>aw [hf 30 (cF (bJ gl t) c)]<|rx s) λc=>aw [hf 30 (cF (bJ gl t) c)]<|rx s)<|aF 37 (cN 1110121414130 (sf [18] []) []<|cC 1110121414130 (λd=>sk [] [(2,bG d)] [] 0) (λd=>rv K) λd a=>ak λM u=>kV (λe=>aw [hf 40 (cF (bJ gl u) e)]<|aF 45 (rx a)<|aF 49 (BU 53 (bJ gl) λN=>rx a)<|rx a) λe=>aw [hf 40 (cF (bJ gl u) e)]<|aF 49 (BU 53 (bJ gl) λO=>rx a)<|rx a)<|aF 57 (cN 111012141414130 (sf [18] []) []<|cC 111012141414130 (λf=>sk [] [(2,bG f)] [] 0) (λf=>rv K) λf v=>ak λP w=>kV (λg=>BU 64 (bJ gl) λQ=>aw [hf 60 (cF (bJ gl w) g)]<|rx v) λg=>aw [hf 60 (cF (bJ gl w) g)]<|rx v)<|aF 67 (cN 11101214141414130 (sf [18] []) []<|cC 11101214141414130 (λh=>sk [] [(2,bG h)] [] 0) (λh=>rv K) λh x=>ak λR y=>kV (λi=>BU 74 (bJ gl) λS=>aw [hf 70 (cF (dW gl y) i)]<|rx x) λi=>aw [hf 70 (cF (dW gl y) i)]<|rx x)<|aF 77 (cN 1110121414141414130 (sf [18] []) []<|cC 1110121414141414130 (λj=>sk [] [(2,bG j)] [] 0) (λj=>rv K) λj k=>ak λU z=>kV (λl=>BU 87 (bJ gl) λV=>aw [hf 83 (cF (bJ gl z) l)]<|aF 88 (BU 92 (kH gl) λW=>rx k)<|rx k) λl=>aw [hf 83 (cF (bJ gl z) l)]<|rx k)<|aF 95 (cN 111012141414141414130 (sf [18] []) []<|cC 111012141414141414130 (λm=>sk [] [(2,bG m)] [] 0) (λm=>rv K) λm A=>ak λX B=>kV (λn=>BU 102 (bJ gl) λY=>aw [hf 98 (cF (dW gl B) n)]<|rx A) λn=>aw [hf 98 (cF (dW gl B) n)]<|rx A)<|aF 105 (cN 11101214141414141414130 (sf [18] []) []<|cC 11101214141414141414130 (λp=>sk [] [(2,bG p)] [] 0) (λp=>rv K) λp q=>ak λZ C=>kV (λr=>BU 112 (bJ gl) λv99=>aw [hf 108 (cF (dW gl C) r)]<|aF 113 (BU 117 (bJ gl) λD=>rx q)<|rx q) λr=>aw [hf 108 (cF (dW gl C) r)]<|rx q)<|aF 120 (rv K)<|BU 123 (dW gl) λE=>rv K) λb=>BU 5 (bJ gl) λF=>aF 6 (rx b)<|BU 10 (bJ gl) λH=>aF 12 (rx b)<|BU 16 (bJ gl) λI=>rx b
def qv(l:List Ha)(s1:Int):Option ((Int)⊕(Unit⊕Bool)):=
 bif decide (s1<ah l) then(((Bt l s1).bind λa=>(Je a.To).bind λb=>bif(!b) then(some true) else((Bt l s1).bind λc=>(Je c.Eph).bind λd=>bif(!d) then(some true) else((Bt l s1).bind λe=>(AL e.Body).bind λf=>bif(!f) then(some true) else((Bt l s1).bind λg=>(AL g.Tag).bind λh=>some (!h))))).bind λi=>bif i then(some (.inr (.inr false))) else(some (.inl (wI (s1+1))))) else(some (.inr (.inl ())))
def qw(l:List Ha):Fp:=
 (AB (qv l) 0).bind λa=>ma a (λb=>some true) (λq=>some q)
theorem yE{l}:DL prog gl (qw l) 351 [aE cz l] bG:=
 cy func351 λK=>Ow 1101 (λb=>sg [] []) (λs1=>sf [] [(3,iG s1)]) [] K (λb=>rv K) λs1 k5 c k6=>aF 7 (Ny 1101221020 (sf [] []) [] 43 (aP c3 k6 []) (rb k5) λa=>CB 12 EH.ixZ 14 (EH.fdY tW 0) λd=>BU 15 (kH gl) λe=>aF 16 (rx a)<|CB 20 EH.ixZ 22 (EH.fdY tW 1) λf=>BU 23 (kH gl) λg=>aF 25 (rx a)<|CB 29 EH.ixZ 31 (EH.fdY tW 2) λh=>BU 32 (vv gl) λi=>aF 34 (rx a)<|CB 38 EH.ixZ 40 (EH.fdY tW 3) λj=>BU 41 (vv gl) λk=>rx a)<|aA c2 c []
def qx(o:Bq)(a:Int):Option ((Int)⊕(Unit⊕Bool)):=
 bif decide (a<ah o.Hist) then((Bt o.Hist a).bind λb=>(iM b.Of).bind λc=>bif(!c) then(some (.inr (.inr false))) else(some (.inl (wI (a+1))))) else(some (.inr (.inl ())))
def qy(o:Bq)(a:Int):Option ((Int)⊕(Unit⊕Bool)):=
 bif decide (a<ah o.Path) then(((Bt o.Path a).bind λb=>(Je b.Pub).bind λc=>bif(!c) then(some true) else((Bt o.Path a).bind λd=>(qw d.Boxes).bind λe=>some (!e))).bind λf=>bif f then(some (.inr (.inr false))) else(some (.inl (wI (a+1))))) else(some (.inr (.inl ())))
def qz(o:Bq)(a:Int):Option ((Int)⊕(Unit⊕Bool)):=
 bif decide (a<ah o.Past) then((Bt o.Past a).bind λb=>(iM b).bind λc=>bif(!c) then(some (.inr (.inr false))) else(some (.inl (wI (a+1))))) else(some (.inr (.inl ())))
def qA(o:Bq)(a:Int):Option ((Int)⊕(Unit⊕Bool)):=
 bif decide (a<ah o.Refs) then((Bt o.Refs a).bind λb=>(AL b).bind λc=>bif(!c) then(some (.inr (.inr false))) else(some (.inl (wI (a+1))))) else(some (.inr (.inl ())))
def qB(o:Bq)(s1:Int):Option ((Int)⊕(Unit⊕Bool)):=
 bif decide (s1<ah o.Guards) then((Bt o.Guards s1).bind λa=>(fB a 1 12).bind λb=>bif(!b) then(some (.inr (.inr false))) else(some (.inl (wI (s1+1))))) else(some (.inr (.inl ())))
def vw(o:Bq):Fp:=
 (AB (qB o) 0).bind λj=>ma j (λk=>(AB (qA o) 0).bind λa=>ma a (λf=>(AB (qz o) 0).bind λb=>ma b (λg=>(AB (qy o) 0).bind λc=>ma c (λh=>(AB (qx o) 0).bind λd=>ma d (λi=>(qw o.Boxes).bind λe=>some e) (λq=>some q)) (λq=>some q)) (λq=>some q)) (λq=>some q)) (λq=>some q)
theorem GY{o}:DL prog gl (vw o) 280 [.agg (aJ o)] bG:=
 cy func280 λK=>Ow 1101 (λj=>sp [] [(1,.ref 0 0)] [ob 0 64 (aJ o)] 1) (λs1=>sp [] [(1,.ref 0 0),(3,iG s1)] [ob 0 64 (aJ o)] 1) [] K (λj=>Ow 11101 (λa=>sf [] []) (λb=>sf [] [(4,iG b)]) [] K (λa=>Ow 111101 (λc=>sf [] []) (λd=>sf [] [(5,iG d)]) [] K (λc=>Ow 1111101 (λe=>sf [] []) (λf=>sf [] [(6,iG f)]) [] K (λe=>Ow 11111101 (λg=>sf [] []) (λh=>sf [] [(7,iG h)]) [] K (λg=>BU 92 (yE gl) λw=>rv K) λh k l m=>aF 79 (CB 85 bH.ixZ 87 (bH.fsZ aW jz 0 Cd) λx=>BU 88 (dW gl) λy=>aF 89 (aP c3 m [])<|rb k)<|aA c2 l []) λf n p q=>aF 54 (Ny 1111101221020 (sf [] []) [] 74 (aP c3 q []) (rb n) λi=>CB 60 bZ.ixZ 62 (bZ.fdY tW 0) λz=>BU 63 (kH gl) λA=>aF 64 (rx i)<|CB 69 bZ.ixZ 71 (bZ.fdY E3 1) λB=>BU 72 (yE gl) λC=>rx i)<|aA c2 p []) λd r s t=>aF 40 (CB 46 ac.ixZ 47 (ac.ptZ aW) λD=>BU 48 (dW gl) λE=>aF 49 (aP c3 t [])<|rb r)<|aA c2 s []) λb u k13 v=>aF 26 (CB 32 rW.ixZ 33 (rW.p1Y tW) λF=>BU 34 (vv gl) λH=>aF 35 (aP c3 v [])<|rb u)<|aA c2 k13 []) λs1 k5 I k6=>aF 12 (CB 18 rZ.ixZ 19 (rZ.p1Y tZ) λJ=>BU 20 (bJ gl) λL=>aF 21 (aP c3 k6 [])<|rb k5)<|aA c2 I []
def tU(o:Bq)(a:Int):Option ((Int)⊕(Unit⊕Bool)):=
 bif decide (a<ah o.Hist) then((Bt o.Hist a).bind λb=>bif decide (208<ah b.Body) then(some (.inr (.inr true))) else(some (.inl (wI (a+1))))) else(some (.inr (.inl ())))
def tV(o:Bq)(s1:Int):Option ((Int)⊕(Unit⊕Bool)):=
 bif decide (s1<ah o.Path) then((Bt o.Path s1).bind λa=>bif decide (12<ah a.Boxes) then(some (.inr (.inr true))) else(some (.inl (wI (s1+1))))) else(some (.inr (.inl ())))
def z6(o:Bq):Fp:=
 (AB (tV o) 0).bind λg=>ma g (λh=>(AB (tU o) 0).bind λa=>ma a (λf=>(bif decide (12<ah o.Past) then(some true) else(bif decide (5<ah o.Path) then(some true) else(bif decide (208<ah o.Body) then(some true) else(bif decide (8<ah o.Refs) then(some true) else(bif decide (20<ah o.Hist) then(some true) else(some (decide (6<ah o.Guards)))))))).bind λb=>bif b then(some true) else(bif decide (o.Kind=7) then((fB (ah o.Body) 1 20).bind λc=>some (!c)) else(bif decide (o.Kind=9) then(some (decide (ah o.Boxes≠ah o.Guards))) else(bif decide (o.Kind=10) then((fB (ah o.Boxes) 1 6).bind λd=>some (!d)) else((bif decide (o.Kind=11) then(some (decide (ah o.Boxes≠1))) else(some false)).bind λe=>some e))))) (λq=>some q)) (λq=>some q)
theorem AM{o}:DL prog gl (z6 o) 281 [.agg (aJ o)] bG:=
 cy func281 λK=>Ow 1101 (λf=>sp [] [(1,.ref 0 0)] [ob 0 64 (aJ o)] 1) (λs1=>sp [] [(1,.ref 0 0),(3,iG s1)] [ob 0 64 (aJ o)] 1) [] K (λf=>Ow 11101 (λc=>sf [] []) (λd=>sf [] [(4,iG d)]) [] K (λc=>Ny 111100 (sf [] []) [] 68 (rv K) (aF 71 (BU 75 (bJ gl) λi=>rv K)<|aF 79 (rv K)<|aF 89 (BU 93 (bJ gl) λj=>rv K)<|cN 111111110 (sf [68] []) []<|cC 111111110 (λb=>sk [] [(2,bG b)] [] 0) (λb=>rv K) λb e=>aF 97 (rx e)<|rx e) λa=>aF 38 (rx a)<|aF 44 (rx a)<|aF 50 (rx a)<|aF 56 (rx a)<|aF 62 (rx a)<|rx a) λd g k13 h=>aF 24 (CB 30 bH.ixZ 32 (bH.fdY tLY 3) λk=>aF 34 (aP c3 h [])<|rb g)<|aA c2 k13 []) λs1 k5 l k6=>aF 9 (CB 15 bZ.ixZ 17 (bZ.fdY E3 1) λm=>aF 19 (aP c3 k6 [])<|rb k5)<|aA c2 l []
def qC(o:Bq)(a:Int):Option ((Int)⊕(Unit⊕Int)):=
 bif decide (a<ah o.Guards) then((Bt o.Guards (wI (a-1))).bind λb=>(Bt o.Guards a).bind λc=>bif decide (c<=b) then(some (.inr (.inr 6))) else(some (.inl (wI (a+1))))) else(some (.inr (.inl ())))
def qD(o:Bq)(a:Int):Option ((Int)⊕(Unit⊕Int)):=
 bif decide (a<ah o.Past) then((Bt o.Past (wI (a-1))).bind λb=>(Bt o.Past a).bind λc=>(oU b c).bind λd=>bif(!d) then(some (.inr (.inr 6))) else(some (.inl (wI (a+1))))) else(some (.inr (.inl ())))
def qE(o:Bq):JP:=
 (bif decide (o.Kind<1) then(some true) else(some (decide (13<o.Kind)))).bind λi=>bif i then(some 1) else((mz o).bind λj=>bif(!j) then(some 1) else(((FI o).bind λa=>bif(!a) then(some true) else((vw o).bind λb=>some (!b))).bind λk=>bif k then(some 8) else((z6 o).bind λc=>bif c then(some 2) else((AB (qD o) 1).bind λd=>ma d (λg=>(AB (qC o) 1).bind λe=>ma e (λh=>(bif decide (ah o.Past=0) then(bif decide (o.Kind=1) then(some false) else(some true)) else(bif decide (o.Kind=1) then(some true) else(some false))).bind λf=>bif f then(some 10) else(some 0)) (λq=>some q)) (λq=>some q)))))
theorem GZ{o}:DL prog gl (qE o) 208 [.agg (aJ o)] iG:=
 cy func208 λK=>Ny 1100 (sp [] [(1,.ref 0 0)] [ob 0 64 (aJ o)] 1) [] 12 (rv K) (BU 14 (Jr gl) λy=>aF 15 (rv K)<|Ny 111100 (sf [12] []) [] 23 (rv K) (ak λq c=>kV (λb=>aw [hf 25 (cF (AM gl c) b)]<|rv K) λb=>aw [hf 25 (cF (AM gl c) b)]<|Ow 11111101 (λd=>sf [23] []) (λe=>sf [23] [(3,iG e)]) [] K (λd=>Ow 111111101 (λf=>sf [] []) (λg=>sf [] [(4,iG g)]) [] K (λf=>Ab2 1111111100 (sf [] []) [] 72 (rv K) (rv K) λa=>aF 68 (aF 71 (rx a)<|rx a)<|aF 71 (rx a)<|rx a) λg j k l=>aF 50 (CB 57 rZ.ixZ 58 (rZ.p1Y tZ) λr=>CB 62 rZ.ixZ 63 (rZ.p1Y tZ) λs=>aF 64 (aP c3 l [])<|rb j)<|aA c2 k []) λe m n p=>aF 30 (CB 37 ac.ixZ 38 (ac.ptZ aW) λt=>CB 42 ac.ixZ 43 (ac.ptZ aW) λu=>BU 44 (oV gl) λv=>aF 45 (aP c3 p [])<|rb m)<|aA c2 n []) λh=>BU 17 (De gl) λw=>aF 18 (rx h)<|BU 21 (GY gl) λx=>rx h) λi=>aF 7 (rx i)<|rx i
def qF(g:Ba)(b:Ab)(s1:Int):Option ((Int)⊕(Unit⊕Int)):=
 bif decide (s1<ah g.IDs) then((Bt g.IDs s1).bind λa=>bif decide (a=b) then(some (.inr (.inr s1))) else(some (.inl (wI (s1+1))))) else(some (.inr (.inl ())))
def fC(g:Ba)(a:Ab):JP:=
 (AB (qF g a) 0).bind λb=>ma b (λc=>some (-1)) (λq=>some q)
theorem dX{g id_}:DL prog gl (fC g id_) 38 [.agg (aI g),.agg (aj id_)] iG:=
 cy func38 λK=>Ow 1101 (λc=>sg [] []) (λs1=>sp [] [(2,.ref 0 0),(3,.ref 1 0),(5,iG s1)] [ob 0 33 (aI g),ob 1 25 (aj id_)] 2) [] K (λc=>rv K) λs1 k5 d k6=>aF 10 (CB 16 ac.ixZ 17 (ac.ptZ aW) λb=>kV (λa=>aw [hV 19 (cV (dU b id_ rfl) a)]<|aP c3 k6 []) λa=>aw [hV 19 (cV (dU b id_ rfl) a)]<|rb k5)<|aA c2 d []
def tX(g:Ba)(device:Int)(s1:DS×Int):Option ((DS×Int)⊕(DS⊕(DS×Bool))):=
 bif decide (s1.2<ah g.Cards) then((Bt g.Cards s1.2).bind λa=>bif decide (a.Device=device) then((Bt g.Cards s1.2).bind λb=>some (.inr (.inr (b,true)))) else(some (.inl (s1.1,wI (s1.2+1))))) else(some (.inr (.inl s1.1)))
def vz(g:Ba)(device:Int):Option (DS×Bool):=
 (AB (tX g device) (⟨0,0,0,0,0⟩,0)).bind λa=>ma a (λb=>some (⟨0,0,0,0,0⟩,false)) (λq=>some q)
theorem AN{g device}:DL prog gl (vz g device) 58 [.agg (aI g),iG device] (λr=> .tup [.agg (bv r.1),bG r.2]):=
 cy func58 λK=>Ow 1101 (λa=>sp [] [(4,.ref 0 0)] [ob 0 78 (bv a)] 1) (λs1=>so [0] [(2,.ref 0 0),(4,.ref 1 0),(6,iG s1.2)] [ob 0 33 (aI g),ob 1 78 (bv s1.1)] 2) [] K (λa=>rv K) λs1 k5 b k6=>aF 11 (CB 17 bT.ixZ 19 (bT.fdY tZ 0) λc=>aF 21 (CB 25 bT.ixZ 26 (bT.ptZ E2) λd=>aP c3 k6 [])<|rb k5)<|aA c2 b []
def jJ(pub:Nat)(b:CY)(s:XM):Fp:=
 (bif decide ((pub:Int)<((1:Nat):Int)) then(some true) else((fV).bind λa=>bif decide ((a:Int)<(pub:Int)) then(some true) else(bif decide ((s.R:Int)<((1:Nat):Int)) then(some true) else((fV).bind λc=>bif decide ((c:Int)<(s.R:Int)) then(some true) else((fV).bind λd=>some (decide ((d:Int)<=(s.S:Int)))))))).bind λf=>bif f then(some false) else((iK 37 s.S).bind λg=>(Pi s.R pub b).bind λh=>(iK pub h).bind λi=>(oQ s.R i).bind λe=>some (decide ((g:Int)=(e:Int))))
theorem G0{pub b s}:DL prog gl (jJ pub b s) 209 [uG pub,aE cY b,.agg (yy s)] bG:=
 cy func209 λK=>Ny 1100 (so [2] [(5,.ref 0 0)] [ob 0 62 (yy s)] 1) [] 30 (rv K) (BU 33 (lc gl) λf=>BU 41 (LI gl) λg=>BU 42 (lc gl) λh=>BU 43 (nK gl) λa=>rv K) λk12=>aF 8 (rx k12)<|BU 11 (eU gl) λc=>aF 13 (rx k12)<|aF 18 (rx k12)<|BU 22 (eU gl) λd=>aF 24 (rx k12)<|BU 28 (eU gl) λe=>rx k12
def jK(g:Ba)(o:Bq)(in_:List Bool)(s1:Bool×Int):Option ((Bool×Int)⊕(Bool⊕Bool)):=
 bif decide (s1.2<ah g.L) then(((Bt in_ s1.2).bind λa=>bif(!a) then(some true) else((Bt g.L s1.2).bind λb=>some (decide (b.By≠o.By)))).bind λc=>bif c then(some (.inl (s1.1,wI (s1.2+1)))) else((Bt g.L s1.2).bind λd=>bif decide (o.Seq<=d.Seq) then(some (.inr (.inr false))) else((bif s1.1 then(some true) else((Bt g.L s1.2).bind λe=>some (decide (e.Seq=wI (o.Seq-1))))).bind λf=>some (.inl (f,wI (s1.2+1)))))) else(some (.inr (.inl s1.1)))
def lA(g:Ba)(o:Bq)(in_:List Bool):Fp:=
 (AB (jK g o in_) (false,0)).bind λc=>ma c (λa=>(bif decide (o.Seq=1) then(some true) else(some a)).bind λb=>some b) (λq=>some q)
theorem G1{g o in_}:DL prog gl (lA g o in_) 210 [.agg (aI g),.agg (aJ o),aE cO in_] bG:=
 cy func210 λK=>Ow 11101 (λc=>sp [] [(4,.ref 0 0),(7,bG c)] [ob 0 64 (aJ o)] 1) (λs1=>sp [2] [(3,.ref 0 0),(4,.ref 1 0),(7,bG s1.1),(8,iG s1.2)] [ob 0 33 (aI g),ob 1 64 (aJ o)] 2) [] K (λc=>cN 11110 (sf [] []) []<|cC 11110 (λa=>sk [] [(6,bG a)] [] 0) (λa=>rv K) λa k12=>aF 56 (rx k12)<|rx k12) λs1 k5 f k6=>aF 13 (Ny 111012210200 (sf [] []) [] 31 (rb k5) (CB 35 eJ.ixZ 37 (eJ.fdY tZ 1) λh=>aF 40 (aP c3 k6 [])<|cC 111012210211 (λb=>sf [31] [(7,bG b)]) (λb=>rb k5) λb d=>aF 41 (rx d)<|CB 46 eJ.ixZ 48 (eJ.fdY tZ 1) λi=>rx d) λe=>CB 18 rO.ixZ 19 (rO.p1Y tO) λj=>aF 20 (rx e)<|CB 25 eJ.ixZ 27 (eJ.fdY tZ 0) λk=>rx e)<|aA c2 f []
end
section
set_option maxHeartbeats 2000000
def qG(g:Ba)(a:Bj)(c:Int)(b:Int):Option ((Int)⊕(Unit⊕(Int×Bj))):=
 bif decide (b<ah a) then((Bt a c).bind λd=>(Bt g.In d).bind λe=>(Bt a b).bind λf=>(Bt e f).bind λh=>bif h then(some (.inr (.inr (6,[])))) else(some (.inl (wI (b+1))))) else(some (.inr (.inl ())))
def qH(g:Ba)(o:Bq)(a:Bj)(b:Int):Option ((Int)⊕(Unit⊕(Int×Bj))):=
 bif decide (b<ah a) then((AB (qG g a b) 0).bind λc=>ma c (λf=>(Bt a b).bind λd=>(Bt g.L d).bind λe=>bif decide (o.At<e.At) then(some (.inr (.inr (6,[])))) else(some (.inl (wI (b+1))))) (λq=>some (.inr (.inr q)))) else(some (.inr (.inl ())))
def qI(g:Ba)(o:Bq)(a:Bj×Int):Option ((Bj×Int)⊕(Bj⊕(Int×Bj))):=
 bif decide (a.2<ah o.Past) then((Bt o.Past a.2).bind λc=>(fC g c).bind λb=>bif decide (b<0) then(some (.inr (.inr (10,[])))) else((aT 8 a.1 ([b]:Bj)).bind λd=>some (.inl (d,wI (a.2+1))))) else(some (.inr (.inl a.1)))
def vA(g:Ba)(o:Bq):Option (Int×Bj):=
 (qE o).bind λk=>bif decide (k≠0) then(some (k,[])) else((pV o).bind λm=>(fC g m).bind λn=>bif decide (0<=n) then(some (5,[])) else(bif decide (200<=ah g.L) then(some (3,[])) else((vz g o.By).bind λb=>bif(!b.2) then(some (17,[])) else((lz o).bind λc=>(jJ b.1.Sign c o.Sig).bind λd=>bif(!d) then(some (12,[])) else((bif decide (o.Kind=1) then(some (decide (0<ah g.L))) else(some false)).bind λe=>bif e then(some (1,[])) else((AB (qI g o) ([],0)).bind λf=>ma f (λa=>(AB (qH g o a) 0).bind λh=>ma h (λl=>(jA g a).bind λi=>(lA g o i).bind λj=>bif(!j) then(some (11,[])) else(some (0,a))) (λq=>some q)) (λq=>some q)))))))
theorem G2{g o}:DL prog gl (vA g o) 113 [.agg (aI g),.agg (aJ o)] (λr=> .tup [iG r.1,aE cZ r.2]):=
 cy func113 λK=>BU 16 (GZ gl) λL=>aF 18 (rv K)<|BU 22 (AI gl) λM=>BU 23 (dX gl) λN=>aF 24 (rv K)<|aF 28 (rv K)<|BU 33 (AN gl) λw=>aF 37 (rv K)<|Jt 41 rY (GX gl) λx=>BU 44 (G0 gl) λy=>aF 46 (rv K)<|Ny 111111111100 (sp [] [(2,.ref 0 0),(3,.ref 1 0)] [ob 0 33 (aI g),ob 1 64 (aJ o)] 2) [] 55 (rv K) (Ow 11111111111101 (λb=>sf [55] [(10,aE cZ b)]) (λa=>so [55] [(10,.rsl 2 0 a.1.length),(11,iG a.2)] [ob 2 3 (a.1.flatMap cZ)] 3) [hc (rZ.imm [])] K (λb=>Ow 111111111111101 (λe=>sf [] []) (λf=>sf [] [(13,iG f)]) [] K (λe=>Jt 118 rO (AK gl) λz=>BU 119 (G1 gl) λA=>aF 120 (rv K)<|rv K) λf l m h=>aF 79 (Ow 1111111111111012210201 (λi=>sf [] []) (λj=>sf [] [(14,iG j)]) [] h (λi=>CB 108 rZ.ixZ 109 (rZ.p1Y tZ) λB=>CB 110 eJ.ixZ 112 (eJ.fdY tZ 3) λC=>aF 113 (aP c3 h [])<|rb l) λj n p q=>aF 85 (CB 92 rZ.ixZ 93 (rZ.p1Y tZ) λD=>CB 94 zV.ixZ 95 (zV.p1Y Vt) λE=>CB 98 rZ.ixZ 99 (rZ.p1Y tZ) λF=>ak λH c=>aw [AA 100 (rO.ixZ c)]<|kV (λd=>aw [AA 101 (cB (rO.p1Z tO c) d)]<|aP c3 q []) λd=>aw [AA 101 (cB (rO.p1Z tO c) d)]<|rb n)<|aA c2 p [])<|aA c2 m []) λa s t u=>aF 60 (CB 67 ac.ixZ 68 (ac.ptZ aW) λI=>BU 69 (dX gl) λJ=>aF 71 (aP c3 u [])<|Gq (dg 75 rZ) λv=>cj s (DF rZ v))<|aA c2 t [hc (rZ.al a.1)]) λk=>aF 49 (rx k)<|rx k
def xr(g:Ba)(a:List (List Bool)×Int):Option ((List (List Bool)×Int)⊕(List (List Bool))):=
 bif decide (a.2<ah g.In) then((Bt g.In a.2).bind λb=>(aT 1 ([]:List Bool) b).bind λc=>((aT 1 c [false]).bind λd=>(aT 24 a.1 [d]).bind λe=>some e).bind λf=>some (.inl (f,wI (a.2+1)))) else(some (.inr a.1))
def AO(g:Ba)(o:Bq):Option (Ba×Int):=
 (vA g o).bind λa=>bif decide (a.1≠0) then(some (g,a.1)) else((jA g a.2).bind λl=>(aT 328 ([]:List Bq) g.L).bind λm=>(aT 328 m [o]).bind λn=>(aT 24 ([]:Bf) g.IDs).bind λb=>(pV o).bind λc=>(aT 24 b [c]).bind λd=>(aT 24 ([]:Lw) g.Up).bind λe=>(aT 24 e [a.2]).bind λf=>(AB (xr g) ([],0)).bind λh=>((aT 1 l [false]).bind λi=>(aT 24 h [i]).bind λj=>some j).bind λk=>some (⟨g.Cards,n,d,f,k⟩,0))
theorem M9{g o}:DL prog gl (AO g o) 55 [.agg (aI g),.agg (aJ o)] (λr=> .tup [.agg (aI r.1),iG r.2]):=
 cy func55 λK=>BU 15 (G2 gl) λw=>aF 19 (rv K)<|ak λb e5=>Gq (wX 32 eJ) λB=>Gq (dg 35 eJ) λl=>Gq (wX 41 ac) λx=>BU 43 (AI gl) λy=>Gq (dg 45 ac) λe=>Gq (wX 51 nH) λz=>Gq (dg 54 nH) λf=>aw [ho 24 [.agg (aI g),aE cZ w.2] [] (AK gl e5) (lO b)]<|I4 111111111101 (λc=>sp [] [(4,.ref 0 0),(8,.rsl 1 0 b.length),(9,.ref 2 0)] [ob 0 33 (bF [0,1,2,3,4] (aI xm)),ob 1 4 (b.flatMap cO),ob 2 33 [aE bv g.Cards,aE aJ l,aE aj e,aE Jc f,.rsl 3 0 c.length],ob 3 172 (c.flatMap OT)] 4) (λa=>sp [] [(2,.ref 0 0),(4,.ref 1 0),(8,.rsl 2 0 b.length),(9,.ref 3 0),(10,iG a.2)] [ob 0 33 (aI g),ob 1 33 (bF [0,1,2,3,4] (aI xm)),ob 2 4 (b.flatMap cO),ob 3 33 [aE bv g.Cards,aE aJ l,aE aj e,aE Jc f,.rsl 4 0 a.1.length],ob 4 172 (a.1.flatMap OT)] 5) [hc (el b),hc (rO.imm b),hc (eJ.al l),hc (ac.al e),hc (nH.al f),hc (zV.imm [])] (λc=>cN 111111111110 (sf [] []) [hc (el b),hc (rO.imm b),hc (el c),hc (zV.imm c)]<|cC 111111111110 (λh=>sx [8] [(9,.ref 1 0)] [ob 0 33 (bF [0,1,2,3,4] (aI xm)),ob 1 33 [aE bv g.Cards,aE aJ l,aE aj e,aE Jc f,.rsl 2 0 h.length],ob 2 172 (h.flatMap OT)] 3) (λh=>aP c0 K [hc (zV.al h)]) λh s=>Gq (dg 82 rO) λi=>ak λm n=>aw [Tv 84 zV n [.rsl 5 0 i.length] rfl]<|aA c0 s [hc (el m),ZV zV n [.rsl 5 0 i.length],hc (rO.al i)] (kd:=[(2,.app (c.flatMap OT) [.rsl 5 0 i.length] (OT i) (m.flatMap OT))])) λa t u=>aF 60 (CB 67 zV.ixZ 68 (zV.p1Y Vt) λA=>Gq (wX 69 rO) λk=>cN 1111111111012210211 (so [] [(11,.rsl 5 0 k.length)] [ob 5 4 (k.flatMap cO)] 6) [hc (el b),hc (el k),hc (rO.imm b),hc (el a.1),hc (zV.imm a.1),hc (rO.imm k)]<|cC 1111111111012210211 (λd=>sx [11] [] [ob 0 33 (aI g),ob 1 33 (bF [0,1,2,3,4] (aI xm)),ob 2 4 (b.flatMap cO),ob 3 33 [aE bv g.Cards,aE aJ l,aE aj e,aE Jc f,.rsl 4 0 d.length],ob 4 172 (d.flatMap OT)] 5) (λd=>cj t [hc (el b),hc (rO.imm b),hc (el d),hc (zV.imm d)]) λd v=>Gq (dg 74 rO) λj=>ak λp q=>aw [Tv 76 zV q [.rsl 7 0 j.length] rfl]<|aA c0 v [hc (el b),hc (rO.imm b),hc (el p),ZV zV q [.rsl 7 0 j.length],hc (rO.al j)] (kd:=[(2,.row),(4,.app (a.1.flatMap OT) [.rsl 7 0 j.length] (OT j) (p.flatMap OT))]))<|aA c1 u [hc (el b),hc (rO.imm b),hc (el a.1),hc (zV.imm a.1)]
def r8:Option Bj:=
 some ([1,2,3,1,2,3]:Bj)
theorem E9:LT prog gl (r8) 97 [] 3 cZ:=
 gc func97 λK=>mr c0 K (rZ.imm _)
def z7(n:Int):JP:=
 (Bt ([6,4,3,2,5,7,8,3,6,9,11,11,13,12,10,4,3,2,6,13]:Bj) (Int.tmod n 20)).bind λa=>some a
theorem Js{n}:DL prog gl (z7 n) 179 [iG n] iG:=
 cy func179 λK=>CB 6 (rZ.ixrZ 0) 7 (rZ.p10Y tZ) λa=>rv K
def vB(l:Bf)(s1:Bf×Int)(a:Int):Option ((Int)⊕(Int)):=
 bif decide (0<a) then((Bt l s1.2).bind λb=>(Bt s1.1 (wI (a-1))).bind λc=>(oU b c).bind λd=>bif(!d) then(some (.inr a)) else(some (.inl (wI (a-1))))) else(some (.inr a))
def oZ(l:Bf)(s1:Bf×Int):Option ((Bf×Int)⊕Bf):=
 bif decide (s1.2<ah l) then((AB (vB l s1) (ah s1.1)).bind λa=>(tq s1.1 a).bind λb=>(aT 24 ([]:Bf) b).bind λc=>(Bt l s1.2).bind λd=>(aT 24 c [d]).bind λe=>(mc s1.1 a).bind λf=>(aT 24 e f).bind λg=>some (.inl (g,wI (s1.2+1)))) else(some (.inr s1.1))
def iu(l:Bf):Option Bf:=
 (AB (oZ l) ([],0)).bind λa=>some a
theorem iO{l}:LT prog gl (iu l) 79 [aE aj l] 25 aj:=
 gc func79 λK=>I4 11101 (λd=>sp [] [(3,.rsl 0 0 d.length)] [ob 0 25 (d.flatMap aj)] 1) (λs1=>so [] [(3,.rsl 0 0 s1.1.length),(4,iG s1.2)] [ob 0 25 (s1.1.flatMap aj)] 1) [hc (ac.imm [])] (λd=>mr c0 K (ac.imm _)) λs1 k5 g=>aF 10 (I4 111012210210 (λa=>sx [] [(3,aE aj s1.1),(5,iG a)] [] 0) (λb=>sx [] [(3,aE aj s1.1),(5,iG b)] [] 0) [hc (ac.al s1.1)] (λa=>rdv 33 ac.preZI λh=>Gq (wX 34 ac) λi=>CB 38 ac.ixZ 39 (ac.ptZ aW) λj=>Gq (dg 41 ac) λk=>rdv 45 ac.sufZI λm=>Gq (eu 46 ac) λe=>cj k5 (DF ac e)) λb f c=>aF 16 (CB 19 ac.ixZ 20 (ac.ptZ aW) λn=>CB 24 ac.ixZ 25 (ac.ptZ aW) λo=>BU 26 (oV gl) λp=>aF 27 (aA c1 c [])<|rb f)<|aA c1 c [])<|aA c1 g (DF ac s1.1)
def xt(g:Ba):Option Bf:=
 (iu g.IDs).bind λa=>some a
theorem DK{g}:LT prog gl (xt g) 44 [.agg (aI g)] 25 aj:=
 gc func44 λK=>ak λa e2=>aw [ho 5 [aE aj g.IDs] [] (iO gl e2) (kF a)]<|mr c0 K (ac.imm _)
def qJ(l:Bf)(b:Ab)(s1:Int):Option ((Int)⊕(Unit⊕Bool)):=
 bif decide (s1<ah l) then((Bt l s1).bind λa=>bif decide (a=b) then(some (.inr (.inr true))) else(some (.inl (wI (s1+1))))) else(some (.inr (.inl ())))
def jL(l:Bf)(a:Ab):Fp:=
 (AB (qJ l a) 0).bind λb=>ma b (λc=>some false) (λq=>some q)
theorem jM{l id_}:DL prog gl (jL l id_) 18 [aE aj l,.agg (aj id_)] bG:=
 cy func18 λK=>Ow 1101 (λc=>sg [] []) (λs1=>so [1] [(3,.ref 0 0),(5,iG s1)] [ob 0 25 (aj id_)] 1) [] K (λc=>rv K) λs1 k5 d k6=>aF 9 (CB 14 ac.ixZ 15 (ac.ptZ aW) λb=>kV (λa=>aw [hV 17 (cV (dU b id_ rfl) a)]<|aP c3 k6 []) λa=>aw [hV 17 (cV (dU b id_ rfl) a)]<|rb k5)<|aA c2 d []
def t7(g:Ba)(ids:Bf)(s1:Bf×Int)(a:Bool×Int):Option ((Bool×Int)⊕(Bool)):=
 bif decide (a.2<ah ids) then((Bt ids a.2).bind λc=>(fC g c).bind λb=>(bif a.1 then(some true) else(bif decide (0<=b) then((Bt g.In (Fo b 0)).bind λd=>(Bt d s1.2).bind λe=>some e) else(some false))).bind λf=>some (.inl (f,wI (a.2+1)))) else(some (.inr a.1))
def t8(g:Ba)(ids:Bf)(s1:Bf×Int):Option ((Bf×Int)⊕Bf):=
 bif decide (s1.2<ah g.L) then((AB (t7 g ids s1) (false,0)).bind λa=>bif a then((Bt g.IDs s1.2).bind λb=>(aT 24 s1.1 [b]).bind λc=>some (.inl (c,wI (s1.2+1)))) else(some (.inl (s1.1,wI (s1.2+1))))) else(some (.inr s1.1))
def r9(g:Ba)(ids:Bf):Option Bf:=
 (AB (t8 g ids) ([],0)).bind λb=>(iu b).bind λa=>some a
theorem AP{g ids}:LT prog gl (r9 g ids) 78 [.agg (aI g),aE aj ids] 25 aj:=
 gc func78 λK=>I4 11101 (λe=>sg [] [(5,aE aj e)]) (λs1=>so [0] [(2,.ref 0 0),(5,.rsl 1 0 s1.1.length),(6,iG s1.2)] [ob 0 33 (aI g),ob 1 25 (s1.1.flatMap aj)] 2) [hc (ac.imm [])] (λe=>ak λf h=>aw [ho 55 [aE aj e] [] (iO gl h) (kF f)]<|mr c0 K (ac.imm _)) λs1 k5 m=>aF 14 (I4 1110122102101 (λd=>sf [] [(7,bG d)]) (λa=>sf [] [(7,bG a.1),(8,iG a.2)]) (DF ac s1.1) (λd=>aF 45 (CB 50 ac.ixZ 51 (ac.ptZ aW) λn=>Gq (dg 53 ac) λi=>cj k5 (DF ac i))<|cj k5 (DF ac s1.1)) λa j k=>aF 20 (CB 26 ac.ixZ 27 (ac.ptZ aW) λo=>BU 28 (dX gl) λl=>cN 1110122102101221021 (sf [] [(9,iG l)]) (DF ac s1.1)<|cC 1110122102101221021 (λb=>sf [9] [(7,bG b)]) (λb=>cj j (DF ac s1.1)) λb c=>aF 29 (aA c0 c (DF ac s1.1))<|aF 32 (CB 38 zV.ixZ 39 (zV.p1Y Vt) λp=>CB 41 rO.ixZ 42 (rO.p1Y tO) λq=>aA c0 c (DF ac s1.1))<|aA c0 c (DF ac s1.1))<|aA c1 k (DF ac s1.1))<|aA c1 m [hc (ac.al s1.1)]
def t9(g:Ba)(ids:Bf)(s3:Bf×Int):Option ((Bf×Int)⊕Bf):=
 bif decide (s3.2<ah ids) then(((Bt ids s3.2).bind λa=>(fC g a).bind λb=>bif decide (0<=b) then((Bt ids s3.2).bind λc=>(jL s3.1 c).bind λd=>some (!d)) else(some false)).bind λe=>bif e then((Bt ids s3.2).bind λf=>(aT 24 s3.1 [f]).bind λh=>some (.inl (h,wI (s3.2+1)))) else(some (.inl (s3.1,wI (s3.2+1))))) else(some (.inr s3.1))
def Mj(g:Ba)(ids:Bf):Option Bf:=
 (r9 g ids).bind λb=>(AB (t9 g ids) (b,0)).bind λc=>(iu c).bind λa=>some a
theorem ua{g ids}:LT prog gl (Mj g ids) 28 [.agg (aI g),aE aj ids] 25 aj:=
 gc func28 λK=>ak λi e2=>aw [ho 9 [.agg (aI g),aE aj ids] [] (AP gl e2) (kF i)]<|I4 11101 (λb=>sg [] [(5,aE aj b)]) (λs3=>so [0] [(2,.ref 0 0),(5,.rsl 1 0 s3.1.length),(6,iG s3.2)] [ob 0 33 (aI g),ob 1 25 (s3.1.flatMap aj)] 2) (DF ac i) (λb=>ak λc d=>aw [ho 40 [aE aj b] [] (iO gl d) (kF c)]<|mr c0 K (ac.imm _)) λs3 j k6=>aF 13 (Ny 11101221020 (sf [] []) (DF ac s3.1) 31 (CB 35 ac.ixZ 36 (ac.ptZ aW) λk=>Gq (dg 38 ac) λe=>cj j (DF ac e)) (cj j (DF ac s3.1)) λa=>CB 19 ac.ixZ 20 (ac.ptZ aW) λl=>BU 21 (dX gl) λm=>aF 22 (CB 27 ac.ixZ 28 (ac.ptZ aW) λf=>ak λn h=>aw [hq 29 [aE aj s3.1,.agg (aj f)] [hc (ac.al s3.1)] (jM gl h)]<|aA c0 a (DF ac s3.1))<|aA c0 a (DF ac s3.1))<|aA c1 k6 [hc (ac.al s3.1)]
def ub(g:Ba)(device:Int)(s3:Int×Int):Option ((Int×Int)⊕(Int)):=
 bif decide (s3.2<ah g.L) then((Bt g.L s3.2).bind λa=>bif decide (a.By=device) then(some (.inl (s3.2,wI (s3.2+1)))) else(some (.inl (s3.1,wI (s3.2+1))))) else(some (.inr s3.1))
def Sf(g:Ba)(device:Int)(n:Int):Option Bf:=
 (xt g).bind λj=>(AB (ub g device) ((-1),0)).bind λa=>(bif decide (Int.tmod n 37=7) then(some (decide (0<a))) else(some false)).bind λj12=>bif j12 then((Bt g.L a).bind λb=>(Mj g b.Past).bind λc=>some c) else((bif decide (0<Int.tmod n 3) then(some true) else(some (decide (a<0)))).bind λd=>bif d then(some j) else((Bt g.IDs a).bind λe=>(u9 (wI (Int.tdiv n 3)) (ah g.IDs)).bind λf=>(Bt g.IDs f).bind λh=>(Mj g [e,h]).bind λi=>some i))
theorem Jv{g device n}:LT prog gl (Sf g device n) 180 [.agg (aI g),iG device,iG n] 25 aj:=
 gc func180 λK=>ak λa e2=>aw [ho 11 [.agg (aI g)] [] (DK gl e2) (kF a)]<|I4 111101 (λm=>sp [2] [(3,.ref 0 0),(7,.rsl 1 0 a.length),(8,iG m)] [ob 0 33 (aI g),ob 1 25 (a.flatMap aj)] 2) (λs3=>so [0] [(3,.ref 0 0),(7,.rsl 1 0 a.length),(8,iG s3.1),(9,iG s3.2)] [ob 0 33 (aI g),ob 1 25 (a.flatMap aj)] 2) (DF ac a) (λm=>Ny 1111100 (sf [] []) (DF ac a) 34 (CB 39 eJ.ixZ 41 (eJ.fdY Pb 4) λf=>ak λh i=>aw [ho 42 [.agg (aI g),aE aj f.Past] [] (ua gl i) (kF h)]<|mr c0 K (ac.imm _)) (Ny 11111100 (sf [34] []) (DF ac a) 49 (mr c0 K (ac.imm _)) (CB 55 ac.ixZ 56 (ac.ptZ aW) λb=>ak λp j=>CB 65 ac.ixZ 66 (ac.ptZ aW) λc=>ak λk l=>aw [hbb 64 (KO j),ho 68 [.agg (aI g),aE aj [b,c]] [hc (ac.al [b,c])] (ua gl l) (kF k)]<|mr c0 K (ac.imm _)) λd=>aF 45 (aA c0 d (DF ac a))<|aA c0 d (DF ac a)) λe=>aF 30 (aA c0 e (DF ac a))<|aA c0 e (DF ac a)) λs3 o k6=>aF 16 (CB 22 eJ.ixZ 24 (eJ.fdY tZ 0) λq=>aF 26 (cj o (DF ac a))<|cj o (DF ac a))<|aA c1 k6 (DF ac a)
def vC(g:Ba)(ids:Bf)(kind:Int)(s1:Ab×Bq×Int):Option ((Ab×Bq×Int)⊕((Int×Int×Nat×Bq)⊕(Ab×Bq))):=
 bif decide (0<=s1.2.2) then(((Bt g.L s1.2.2).bind λa=>bif decide (a.Kind=kind) then((Bt g.IDs s1.2.2).bind λb=>(jL ids b).bind λc=>some c) else(some false)).bind λj13=>bif j13 then((Bt g.IDs s1.2.2).bind λd=>(Bt g.L s1.2.2).bind λe=>some (.inr (.inr (d,e)))) else(some (.inl (s1.1,s1.2.1,wI (s1.2.2-1))))) else(some (.inr (.inl (s1.1.By,s1.1.Seq,s1.1.Sum,s1.2.1))))
def nS(g:Ba)(ids:Bf)(kind:Int):Option (Ab×Bq):=
 (AB (vC g ids kind) (⟨0,0,0⟩,⟨0,0,0,0,[],0,0,0,0,[],⟨0,0,0⟩,0,[],[],⟨0,0,0⟩,[],0,0,[],0,[],⟨0,0⟩⟩,wI ((ah g.L)-1))).bind λa=>ma a (λb=>some (⟨0,0,0⟩,⟨0,0,0,0,[],0,0,0,0,[],⟨0,0,0⟩,0,[],[],⟨0,0,0⟩,[],0,0,[],0,[],⟨0,0⟩⟩)) (λq=>some q)
theorem vD{g ids kind}:DL prog gl (nS g ids kind) 181 [.agg (aI g),aE aj ids,iG kind] (λr=> .tup [.agg (aj r.1),.agg (aJ r.2)]):=
 cy func181 λK=>Ow 1101 (λa=>sp [] [(6,.ref 0 0),(7,.ref 1 0)] [ob 0 25 (aj (⟨a.1,a.2.1,a.2.2.1⟩:Ab)),ob 1 64 (aJ a.2.2.2)] 2) (λs1=>so [0] [(3,.ref 0 0),(6,.ref 1 0),(7,.ref 2 0),(8,iG s1.2.2)] [ob 0 33 (aI g),ob 1 25 (aj s1.1),ob 2 64 (aJ s1.2.1)] 3) [] K (λa=>rv K) λs1 k5 c k6=>aF 14 (Ny 1101221020 (sf [] []) [] 33 (CB 37 ac.ixZ 38 (ac.ptZ aW) λd=>CB 42 eJ.ixZ 43 (eJ.ptZ GN) λe=>aP c3 k6 []) (rb k5) λb=>CB 20 eJ.ixZ 22 (eJ.fdY tZ 2) λf=>aF 24 (CB 30 ac.ixZ 31 (ac.ptZ aW) λh=>BU 32 (jM gl) λi=>rx b)<|rx b)<|aA c2 c []
end
section
set_option maxHeartbeats 2000000
def uc(n:Int)(s1:List Ha×Int):Option ((List Ha×Int)⊕(List Ha)):=
 bif decide (s1.2<n) then((aT 32 s1.1 [(⟨1,1,wU s1.2,1⟩:Ha)]).bind λa=>some (.inl (a,wI (s1.2+1)))) else(some (.inr s1.1))
def o4(n:Int):Option (List Ha):=
 (AB (uc n) ([],0)).bind λa=>some a
theorem Jw{n}:LT prog gl (o4 n) 259 [iG n] 181 cz:=
 gc func259 λK=>I4 11101 (λa=>sp [] [(3,.rsl 0 0 a.length)] [ob 0 181 (a.flatMap cz)] 1) (λs1=>so [] [(3,.rsl 0 0 s1.1.length),(4,iG s1.2)] [ob 0 181 (s1.1.flatMap cz)] 1) [hc (EH.imm [])] (λa=>mr c0 K (EH.imm _)) λs1 k5 c=>aF 7 (Gq (dg 15 EH) λb=>aw [AA 12 (C8 s1.2)]<|cj k5 (DF EH b))<|aA c1 c (DF EH s1.1)
def nT(g:Ba)(device:Int):JP:=
 (vz g device).bind λa=>bif(!a.2) then(some 0) else(some a.1.Member)
theorem vE{g device}:DL prog gl (nT g device) 260 [.agg (aI g),iG device] iG:=
 cy func260 λK=>BU 10 (AN gl) λa=>aF 14 (rv K)<|rv K
def vF(n:Int)(s8:Bj×Int):Option ((Bj×Int)⊕Bj):=
 bif decide (s8.2<=4) then((Gg n s8.2).bind λa=>bif decide (Int.tmod a 2=0) then((aT 8 s8.1 ([s8.2]:Bj)).bind λb=>some (.inl (b,wI (s8.2+1)))) else(some (.inl (s8.1,wI (s8.2+1))))) else(some (.inr s8.1))
def sc(g:Ba)(ids:Bf)(o:Bq)(n:Int):Option Bq:=
 (nS g ids 9).bind λb=>(bif decide (o.Kind≠9) then(some (decide (b.1=(⟨0,0,0⟩:Ab)))) else(some false):Fp).bind λt=>(bif t then(some 9) else(some o.Kind)).bind λa=>bif decide (a=9) then((AB (vF n) ([],1)).bind λs=>(bif decide (ah s=0) then(some ([1,2]:Bj)) else(some s)).bind λc=>(u9 (wI (Int.tdiv n 16)) (iI 2 (ah c))).bind λj=>(o4 (ah c)).bind λk=>some ({o with Kind:=a,Path:=[],Guards:=c,Need:=wI (1+j),Wait:=Int.tmod (wI (Int.tdiv n 32)) 3,Boxes:=k,Pub:=5})) else((nT g b.1.By).bind λd=>(bif decide (a=10) then((o4 (ah b.2.Guards)).bind λl=>some (b.1.By,l)) else(some (o.By,o.Boxes))).bind λf=>(bif decide (a=11) then(some true) else(some (decide (a=13)))).bind λm=>(bif m then((u9 n (ah b.2.Guards)).bind λp=>(Bt b.2.Guards p).bind λq=>some (q,wI (d+3))) else(some (f.1,o.Device))).bind λe=>(bif decide (a=11) then((o4 1).bind λr=>some r) else(some f.2)).bind λh=>(bif decide (a=13) then(some d) else(some o.Old)).bind λi=>bif decide (a=12) then(some ({o with By:=d,Kind:=a,Device:=e.2,Old:=i,Path:=[],Of:=b.1,Guards:=[],Boxes:=h})) else(some ({o with By:=e.1,Kind:=a,Device:=e.2,Old:=i,Path:=[],Of:=b.1,Guards:=[],Boxes:=h})))
theorem Fb{g ids o n}:DL prog gl (sc g ids o n) 182 [.agg (aI g),aE aj ids,.agg (bF [9,19] (aJ ({o with Path:=[],Guards:=[]}))),iG n] (λr=> .agg (bF [9] (aJ ({r with Path:=[]})))):=
 cy func182 λK=>BU 16 (vD gl) λc=>cN 11100 (sp [3] [(4,.ref 0 0),(6,.ref 1 0),(8,.ref 2 0),(9,.ref 3 0),(10,.ref 4 0)] [ob 0 33 (aI g),ob 1 64 (bF [9,19] (aJ ({o with Path:=[],Guards:=[]}))),ob 2 64 (bF [4,9,14,15,19,22,24] (aJ ip)),ob 3 25 (aj c.1),ob 4 64 (aJ c.2)] 5) []<|cC 11100 (λu=>sf [] [(26,bG u)]) (λu=>cC 11101 (λb=>so [26] [] [ob 1 64 (bF [9,19] (aJ ({o with Kind:=b,Path:=[],Guards:=[]})))] 5) (λb=>aF 30 (I4 111101301 (λv=>sk [3] [(6,.ref 0 0),(8,.ref 1 0)] [ob 0 64 (bF [9] (aJ ({o with Kind:=b,Path:=[],Guards:=v}))),ob 1 64 (bF [4,9,14,15,19,22,24] (aJ ip))] 2) (λs8=>sk [3,8] [(6,.ref 0 0),(11,iG s8.2)] [ob 0 64 [iG o.By,iG o.Seq,iG b,iG o.At,aE aj o.Past,iG o.Device,iG o.Old,iG o.Member,iG o.Role,Iy,iG o.Epoch.By,iG o.Epoch.Seq,uG o.Epoch.Sum,iG o.N,aE cY o.Body,aE cW o.Refs,iG o.Of.By,iG o.Of.Seq,uG o.Of.Sum,.rsl 1 0 s8.1.length,iG o.Need,iG o.Wait,aE cz o.Boxes,uG o.Pub,aE bp o.Hist,uG o.Sig.R,uG o.Sig.S],ob 1 3 (s8.1.flatMap cZ),ob 2 64 (bF [4,9,14,15,19,22,24] (aJ ip))] 3) [hc (rZ.imm [])] (λv=>cN 1111013101 (sf [] [(49,bG (decide (ah v=0)))]) []<|cC 1111013101 (λf=>so [49] [] [ob 0 64 (bF [9] (aJ ({o with Kind:=b,Path:=[],Guards:=f})))] 2) (λf=>ak λB w=>Jt 69 EH (Jw gl) λC=>aw [hbb 58 (KO w)]<|rv K) λf j=>eH [49] (aA c0 j [hc (rZ.al ([1,2]:Bj))])<|rx j) λs8 k12 k11=>aF 32 (ak λD x=>aw [hbb 37 (Tt x)]<|aF 39 (Gq (dg 44 rZ) λy=>cj k12 (DF rZ y))<|cj k12 (DF rZ s8.1))<|aA c1 k11 [hc (rZ.al s8.1)])<|BU 77 (vE gl) λz=>cN 111111101 (sx [4] [(6,.ref 0 0),(8,.ref 1 0),(9,.ref 2 0),(10,.ref 3 0),(12,iG z),(80,bG (decide (b=10)))] [ob 0 64 (bF [9,19] (aJ ({o with Kind:=b,Path:=[],Of:=c.1,Guards:=[]}))),ob 1 64 (bF [4,9,14,15,19,22,24] (aJ ip)),ob 2 25 (aj c.1),ob 3 64 (aJ c.2)] 4) []<|cC 111111101 (λd=>sx [9,80] [(10,.ref 2 0)] [ob 0 64 (bF [9,19] (aJ ({o with By:=d.1,Kind:=b,Path:=[],Of:=c.1,Guards:=[],Boxes:=d.2}))),ob 1 64 (bF [4,9,14,15,19,22,24] (aJ ip)),ob 2 64 (aJ c.2)] 3) (λd=>cN 1111111100 (sf [] []) []<|cC 1111111100 (λh=>sf [] [(96,bG h)]) (λh=>cC 1111111101 (λa=>sx [3,10,96] [] [ob 0 64 (bF [9,19] (aJ ({o with By:=a.1,Kind:=b,Device:=a.2,Path:=[],Of:=c.1,Guards:=[],Boxes:=d.2}))),ob 1 64 (bF [4,9,14,15,19,22,24] (aJ ip))] 2) (λa=>cN 11111111101 (sf [] [(112,bG (decide (b=11)))]) []<|cC 11111111101 (λe=>so [112] [] [ob 0 64 (bF [9,19] (aJ ({o with By:=a.1,Kind:=b,Device:=a.2,Path:=[],Of:=c.1,Guards:=[],Boxes:=e})))] 2) (λe=>cN 111111111101 (sf [] [(117,bG (decide (b=13)))]) []<|cC 111111111101 (λi=>so [117] [] [ob 0 64 (bF [9,19] (aJ ({o with By:=a.1,Kind:=b,Device:=a.2,Old:=i,Path:=[],Of:=c.1,Guards:=[],Boxes:=e})))] 2) (λi=>aF 122 (rv K)<|rv K) λi k=>eH [117] (rx k)<|rx k) λe l=>eH [112] (Jt 113 EH (Jw gl) λE=>rx l)<|rx l) λa m=>eH [96] (ak λF A=>CB 104 rZ.ixZ 105 (rZ.p1Y tZ) λH=>aw [hbb 103 (KO A)]<|rx m)<|rx m) λh p=>aF 91 (rx p)<|rx p) λd q=>eH [80] (Jt 87 EH (Jw gl) λI=>aA c0 q [])<|aA c0 q []) λb s=>eH [26] (rx s)<|rx s) λu t=>aF 21 (aw [hV 25 (dU c.1 (⟨0,0,0⟩:Ab) rfl)]<|rx t)<|rx t
def qK(g:Ba)(ids:Bf)(k:Bf)(s3:Bf×Int):Option ((Bf×Int)⊕Bf):=
 bif decide (s3.2<ah ids) then(((Bt ids s3.2).bind λa=>(fC g a).bind λb=>bif decide (0<=b) then((Bt ids s3.2).bind λc=>(jL k c).bind λd=>bif(!d) then((Bt ids s3.2).bind λe=>(jL s3.1 e).bind λf=>some (!f)) else(some false)) else(some false)).bind λh=>bif h then((Bt ids s3.2).bind λi=>(aT 24 s3.1 [i]).bind λj=>some (.inl (j,wI (s3.2+1)))) else(some (.inl (s3.1,wI (s3.2+1))))) else(some (.inr s3.1))
def qL(g:Ba)(ids:Bf):Option Bf:=
 (r9 g ids).bind λb=>(AB (qK g ids b) ([],0)).bind λc=>(iu c).bind λa=>some a
theorem G3{g ids}:LT prog gl (qL g ids) 183 [.agg (aI g),aE aj ids] 25 aj:=
 gc func183 λK=>Jt 10 ac (AP gl) λj=>I4 111101 (λb=>sg [] [(6,aE aj b)]) (λs3=>so [0] [(2,.ref 0 0),(5,aE aj j),(6,.rsl 1 0 s3.1.length),(7,iG s3.2)] [ob 0 33 (aI g),ob 1 25 (s3.1.flatMap aj)] 2) [hc (ac.imm [])] (λb=>ak λc d=>aw [ho 50 [aE aj b] [] (iO gl d) (kF c)]<|mr c0 K (ac.imm _)) λs3 i k6=>aF 14 (Ny 111101221020 (sf [] []) (DF ac s3.1) 41 (CB 45 ac.ixZ 46 (ac.ptZ aW) λk=>Gq (dg 48 ac) λe=>cj i (DF ac e)) (cj i (DF ac s3.1)) λa=>CB 20 ac.ixZ 21 (ac.ptZ aW) λl=>BU 22 (dX gl) λm=>aF 23 (CB 28 ac.ixZ 29 (ac.ptZ aW) λn=>BU 30 (jM gl) λo=>aF 32 (CB 37 ac.ixZ 38 (ac.ptZ aW) λf=>ak λp h=>aw [hq 39 [aE aj s3.1,.agg (aj f)] [hc (ac.al s3.1)] (jM gl h)]<|aA c0 a (DF ac s3.1))<|aA c0 a (DF ac s3.1))<|aA c0 a (DF ac s3.1))<|aA c1 k6 [hc (ac.al s3.1)]
def xu(ids:Bf)(device:Int)(s1:Int×Int):Option ((Int×Int)⊕(Int)):=
 bif decide (s1.2<ah ids) then((Bt ids s1.2).bind λa=>bif decide (a.By=device) then((Bt ids s1.2).bind λb=>some (.inl (Fo s1.1 b.Seq,wI (s1.2+1)))) else(some (.inl (s1.1,wI (s1.2+1))))) else(some (.inr s1.1))
def Fc(g:Ba)(ids:Bf)(device:Int):JP:=
 (AB (xu ids device) (0,0)).bind λa=>some (wI (a+1))
theorem Na{g ids device}:DL prog gl (Fc g ids device) 184 [.agg (aI g),aE aj ids,iG device] iG:=
 cy func184 λK=>I4 11101 (λa=>sg [] [(7,iG a)]) (λs1=>sf [0] [(7,iG s1.1),(8,iG s1.2)]) [] (λa=>rv K) λs1 k5 b=>aF 12 (CB 17 ac.ixZ 19 (ac.fdY tZ 0) λc=>aF 21 (CB 25 ac.ixZ 27 (ac.fdY tZ 1) λd=>rb k5)<|rb k5)<|aA c1 b []
def ue(g:Ba)(ids:Bf)(s1:Int×Int):Option ((Int×Int)⊕(Int)):=
 bif decide (s1.2<ah ids) then((Bt ids s1.2).bind λb=>(fC g b).bind λa=>bif decide (0<=a) then((Bt g.L a).bind λc=>some (.inl (Fo s1.1 c.At,wI (s1.2+1)))) else(some (.inl (s1.1,wI (s1.2+1))))) else(some (.inr s1.1))
def z8(g:Ba)(ids:Bf):JP:=
 (AB (ue g ids) (0,0)).bind λa=>some a
theorem Jx{g ids}:DL prog gl (z8 g ids) 185 [.agg (aI g),aE aj ids] iG:=
 cy func185 λK=>I4 11101 (λa=>sg [] [(5,iG a)]) (λs1=>so [0] [(2,.ref 0 0),(5,iG s1.1),(6,iG s1.2)] [ob 0 33 (aI g)] 1) [] (λa=>rv K) λs1 k5 b=>aF 11 (CB 17 ac.ixZ 18 (ac.ptZ aW) λc=>BU 19 (dX gl) λd=>aF 21 (CB 26 eJ.ixZ 28 (eJ.fdY tZ 3) λe=>rb k5)<|rb k5)<|aA c1 b []
end
section
set_option maxHeartbeats 2000000
def sd(g:Ba)(n:Int)(m:Int):Option Bq:=
 (iq n 1000000).bind λj=>(iq m 1000000).bind λb=>(z7 b).bind λO=>bif decide (ah g.L=0) then(some ⟨1,1,1,0,[],0,0,0,0,[],⟨0,0,0⟩,0,[],[],⟨0,0,0⟩,[],Int.tmod j 4,0,[],0,[],⟨0,0⟩⟩) else((bif decide (ah g.L<4) then(some ⟨1,0,2,0,[],wI ((ah g.L)+1),0,0,wI (3-(wI (Int.tdiv (Int.tmod j 5) 4))),[],⟨0,0,0⟩,0,[],[],⟨0,0,0⟩,[],0,0,[],0,[],⟨0,0⟩⟩) else(some ⟨wI (1+(Int.tmod j 5)),0,O,0,[],0,0,0,0,[],⟨0,0,0⟩,0,[],[],⟨0,0,0⟩,[],0,0,[],0,[],⟨0,0⟩⟩):Option Bq).bind λa=>(Sf g a.By (wI (Int.tdiv j 5))).bind λz=>(bif decide (ah g.L<4) then((xt g).bind λk=>some k) else(some z)).bind λj12=>(nS g j12 6).bind λf=>(bif decide (f.1=(⟨0,0,0⟩:Ab)) then((Bt g.IDs 0).bind λe=>some (e.By,e.Seq,e.Sum)) else(some (f.1.By,f.1.Seq,f.1.Sum)):Option (Int×Int×Nat)).bind λc=>(bif decide (a.Kind=2) then((bif decide (4<=ah g.L) then(some (wI (4+(Int.tmod (wI (Int.tdiv b 20)) 3)),wI (1+(Int.tmod (wI (Int.tdiv (wI (Int.tdiv b 20)) 3)) 3)))) else(some (a.Device,a.Role))).bind λl=>some ({a with Past:=[],Device:=l.1,Role:=l.2,Path:=[],Body:=[],Refs:=[],Guards:=[],Boxes:=[],Hist:=[]},j12)) else((bif decide (a.Kind=3) then((bif decide (Int.tmod (wI (Int.tdiv b 20)) 5=1) then(some (0,wI (1+(Int.tmod (wI (Int.tdiv (wI (Int.tdiv b 20)) 5)) 3)))) else(some (wI (1+(Int.tmod (wI (Int.tdiv b 20)) 6)),a.Member))).bind λo=>some ({a with Past:=[],Device:=o.1,Member:=o.2,Path:=[],Body:=[],Refs:=[],Guards:=[],Boxes:=[],Hist:=[]},j12)) else((bif decide (a.Kind=5) then(some ({a with Past:=[],Member:=wI (1+(Int.tmod (wI (Int.tdiv b 20)) 3)),Role:=wI (1+(Int.tmod (wI (Int.tdiv (wI (Int.tdiv b 20)) 3)) 3)),Path:=[],Body:=[],Refs:=[],Guards:=[],Boxes:=[],Hist:=[]},j12)) else((bif decide (a.Kind=6) then((u9 (wI (Int.tdiv b 20)) (iI (ah g.IDs) 4)).bind λA=>(Bt g.IDs A).bind λB=>(bif decide (Int.tmod (wI (Int.tdiv b 20)) 3=1) then(some ([wU (Int.tmod (wI (Int.tdiv (wI (Int.tdiv b 20)) 3)) 5),wU (Int.tmod (wI (Int.tdiv (wI (Int.tdiv b 20)) 15)) 5)]:Br)) else(some [])).bind λC=>some ({a with Past:=[],Path:=[],Epoch:=B,N:=Int.tmod (wI (Int.tdiv (wI (Int.tdiv b 20)) 4)) 2,Body:=([wY (wI (Int.tdiv b 20)),1,2,3,4,5,6,7,8]:CY),Refs:=C,Guards:=[],Boxes:=[],Hist:=[]},j12)) else((bif decide (a.Kind=7) then(some ({a with Past:=[],Path:=[],Body:=([wY (wI (97+(Int.tmod (wI (Int.tdiv b 20)) 3)))]:CY),Refs:=[],Of:=⟨c.1,c.2.1,c.2.2⟩,Guards:=[],Boxes:=[],Hist:=[]},j12)) else((bif decide (a.Kind=8) then(some ({a with Past:=[],Path:=[],Body:=[],Refs:=[],Of:=⟨c.1,c.2.1,c.2.2⟩,Guards:=[],Boxes:=[],Hist:=[]},j12)) else((bif decide (a.Kind=9) then(some true) else((bif decide (a.Kind=11) then(some true) else((bif decide (a.Kind=13) then(some true) else((bif decide (a.Kind=12) then(some true) else(some (decide (a.Kind=10)))).bind λp=>some p)).bind λq=>some q)).bind λr=>some r)).bind λD=>(bif D then((sc g j12 ({a with Past:=[],Path:=[],Body:=[],Refs:=[],Guards:=[],Boxes:=[],Hist:=[]}) (wI (Int.tdiv b 20))).bind λh=>(bif decide (h.By≠a.By) then((Sf g h.By (wI (Int.tdiv j 5))).bind λs=>some s) else(some j12)).bind λE=>some ({h with Path:=[]},E)) else(some ({a with Past:=[],Path:=[],Body:=[],Refs:=[],Guards:=[],Boxes:=[],Hist:=[]},j12)):Option (Bq×Bf)).bind λt=>some ({t.1 with Path:=[]},t.2)):Option (Bq×Bf)).bind λu=>some ({u.1 with Path:=[]},u.2)):Option (Bq×Bf)).bind λv=>some ({v.1 with Path:=[]},v.2)):Option (Bq×Bf)).bind λw=>some ({w.1 with Path:=[]},w.2)):Option (Bq×Bf)).bind λx=>some ({x.1 with Path:=[]},x.2)):Option (Bq×Bf)).bind λy=>some ({y.1 with Path:=[]},y.2)):Option (Bq×Bf)).bind λd=>(bif(!decide (d.1.Of=(⟨0,0,0⟩:Ab))) then((jL d.2 d.1.Of).bind λF=>some (!F)) else(some false):Fp).bind λH=>(bif H then((xt g).bind λI=>some I) else(some d.2)).bind λi=>(qL g i).bind λJ=>(Fc g i d.1.By).bind λK=>(z8 g i).bind λM=>some ({d.1 with Seq:=K,At:=wI (M+(Int.tmod (wI (Int.tdiv j 5)) 2)),Past:=J,Path:=[]}))
theorem Jy{g n m}:DL prog gl (sd g n m) 98 [.agg (aI g),iG n,iG m] (λr=> .agg (bF [9] (aJ ({r with Path:=[]})))):=
 cy func98 λK=>BU 15 (iL gl) λv1=>BU 17 (iL gl) λa=>BU 22 (Js gl) λv5=>aF 28 (rv K)<|cN 111111101 (sp [] [(1,iG v1),(2,iG a),(3,.ref 0 0),(6,.ref 1 0),(7,.ref 2 0),(8,iG (ah g.L)),(33,bG (decide (ah g.L<4)))] [ob 0 33 (aI g),ob 1 64 (bF [4,9,14,15,19,22,24] (aJ ip)),ob 2 64 (bF [4,9,14,15,19,22,24] (aJ (⟨wI (1+(Int.tmod v1 5)),0,v5,0,[],0,0,0,0,[],⟨0,0,0⟩,0,[],[],⟨0,0,0⟩,[],0,0,[],0,[],⟨0,0⟩⟩:Bq)))] 3) []<|cC 111111101 (λc=>so [33] [] [ob 2 64 (bF [4,9,14,15,19,22,24] (aJ ({c with Past:=[],Path:=[],Body:=[],Refs:=[],Guards:=[],Boxes:=[],Hist:=[]})))] 3) (λc=>Jt 46 ac (Jv gl) λv10=>cN 11111111101 (sf [] [(9,aE aj v10),(48,bG (decide (ah g.L<4)))]) []<|cC 11111111101 (λj12=>sf [48] [(9,aE aj j12)]) (λj12=>BU 54 (vD gl) λA=>aw [hV 59 (dU A.1 (⟨0,0,0⟩:Ab) rfl)]<|cN 1111111111101 (so [] [(10,.ref 3 0),(59,bG (decide (A.1=(⟨0,0,0⟩:Ab))))] [ob 3 25 (aj A.1)] 4) []<|cC 1111111111101 (λd=>so [59] [] [ob 3 25 (aj (⟨d.1,d.2.1,d.2.2⟩:Ab))] 4) (λd=>cN 11111111111110121 (sf [2] [(12,iG (wI (Int.tdiv a 20))),(67,iG c.Kind),(68,bG (decide (c.Kind=2)))]) []<|cC 11111111111110121 (λb=>sk [1,3,6,7] [(9,aE aj b.2)] [ob 0 33 (aI g),ob 1 64 (bF [4,9,14,15,19,22,24] (aJ ip)),ob 2 64 (bF [9] (aJ ({b.1 with Path:=[]})))] 3) (λb=>cN 1111111111111100 (sf [] []) []<|cC 1111111111111100 (λB=>sf [] [(188,bG B)]) (λB=>cC 1111111111111101 (λC=>sf [188] [(9,aE aj C)]) (λC=>Jt 193 ac (G3 gl) λv24=>BU 199 (Na gl) λv26=>BU 203 (Jx gl) λv28=>rv K) λC I=>eH [188] (Jt 190 ac (DK gl) λv33=>rx I)<|rx I) λB J=>kV (λD=>BU 186 (jM gl) λv38=>aw [hV 181 (cV (dy b.1.Of (⟨0,0,0⟩:Ab) rfl) D)]<|rx J) λD=>aw [hV 181 (cV (dy b.1.Of (⟨0,0,0⟩:Ab) rfl) D)]<|rx J) λb M=>eH [68] (cC 1111111111111012131 (λi=>sx [8,10,12,67,68] [] [ob 0 33 (aI g),ob 1 64 (bF [4,9,14,15,19,22,24] (aJ ip)),ob 2 64 (bF [4,9,14,15,19,22,24] (aJ ({c with Past:=[],Device:=i.1,Role:=i.2,Path:=[],Body:=[],Refs:=[],Guards:=[],Boxes:=[],Hist:=[]})))] 3) (λi=>rx M) λi O=>aF 71 (rx O)<|rx O)<|cC 1111111111111012141 (λj=>sk [1,3,6,7] [(9,aE aj j.2)] [ob 0 33 (aI g),ob 1 64 (bF [4,9,14,15,19,22,24] (aJ ip)),ob 2 64 (bF [9] (aJ ({j.1 with Path:=[]})))] 3) (λj=>rx M) λj P=>aF 82 (cC 1111111111111012141311 (λk=>sx [8,10,12,67,68] [] [ob 0 33 (aI g),ob 1 64 (bF [4,9,14,15,19,22,24] (aJ ip)),ob 2 64 (bF [4,9,14,15,19,22,24] (aJ ({c with Past:=[],Device:=k.1,Member:=k.2,Path:=[],Body:=[],Refs:=[],Guards:=[],Boxes:=[],Hist:=[]})))] 3) (λk=>rx P) λk Q=>aF 89 (rx Q)<|rx Q)<|cC 111111111111101214141 (λl=>sk [1,3,6,7] [(9,aE aj l.2)] [ob 0 33 (aI g),ob 1 64 (bF [4,9,14,15,19,22,24] (aJ ip)),ob 2 64 (bF [9] (aJ ({l.1 with Path:=[]})))] 3) (λl=>rx P) λl R=>aF 97 (rx R)<|cC 11111111111110121414141 (λo=>sk [1,3,6,7] [(9,aE aj o.2)] [ob 0 33 (aI g),ob 1 64 (bF [4,9,14,15,19,22,24] (aJ ip)),ob 2 64 (bF [9] (aJ ({o.1 with Path:=[]})))] 3) (λo=>rx R) λo S=>aF 108 (ak λq68 e69=>ak λy70 U=>cC 1111111111111012141414131111 (λE=>sx [8,10,12,67,68] [] [ob 0 33 (aI g),ob 1 64 (bF [4,9,14,15,19,22,24] (aJ ip)),ob 2 64 (bF [4,9,19,22,24] (aJ ({c with Past:=[],Path:=[],Epoch:=y70,N:=Int.tmod (wI (Int.tdiv (wI (Int.tdiv a 20)) 4)) 2,Body:=([wY (wI (Int.tdiv a 20)),1,2,3,4,5,6,7,8]:CY),Refs:=E,Guards:=[],Boxes:=[],Hist:=[]})))] 3) (λE=>rx S) λE V=>aw [hbb 116 (KO e69),AA 117 (ac.ixZ U),AA 118 (ac.ptZ aW U),AA 125 (Iz (wI (Int.tdiv a 20)))]<|aF 130 (aw [AA 134 (C8 (Int.tmod (wI (Int.tdiv (wI (Int.tdiv a 20)) 3)) 5)),AA 138 (C8 (Int.tmod (wI (Int.tdiv (wI (Int.tdiv a 20)) 15)) 5))]<|aA c0 V [hc (rY.al ([wY (wI (Int.tdiv a 20)),1,2,3,4,5,6,7,8]:CY)),hc (rW.al ([wU (Int.tmod (wI (Int.tdiv (wI (Int.tdiv a 20)) 3)) 5),wU (Int.tmod (wI (Int.tdiv (wI (Int.tdiv a 20)) 15)) 5)]:Br))])<|aA c0 V [hc (rY.al ([wY (wI (Int.tdiv a 20)),1,2,3,4,5,6,7,8]:CY))])<|cC 1111111111111012141414141 (λp=>sk [1,3,6,7] [(9,aE aj p.2)] [ob 0 33 (aI g),ob 1 64 (bF [4,9,14,15,19,22,24] (aJ ip)),ob 2 64 (bF [9] (aJ ({p.1 with Path:=[]})))] 3) (λp=>rx S) λp W=>aF 142 (aw [AA 148 (Iz (wI (97+(Int.tmod (wI (Int.tdiv a 20)) 3))))]<|aA c0 W [hc (rY.al ([wY (wI (97+(Int.tmod (wI (Int.tdiv a 20)) 3)))]:CY))])<|cC 111111111111101214141414141 (λq=>sk [1,3,6,7] [(9,aE aj q.2)] [ob 0 33 (aI g),ob 1 64 (bF [4,9,14,15,19,22,24] (aJ ip)),ob 2 64 (bF [9] (aJ ({q.1 with Path:=[]})))] 3) (λq=>rx W) λq X=>aF 152 (rx X)<|cN 111111111111101214141414141401 (sx [8,10,68] [(155,bG (decide (c.Kind=9)))] [ob 0 33 (aI g),ob 1 64 (bF [4,9,14,15,19,22,24] (aJ ip)),ob 2 64 (bF [4,9,14,15,19,22,24] (aJ ({c with Past:=[],Path:=[],Body:=[],Refs:=[],Guards:=[],Boxes:=[],Hist:=[]})))] 3) []<|cC 111111111111101214141414141401 (λF=>sf [67] [(155,bG F)]) (λF=>cC 11111111111110121414141414141 (λs=>so [12,155] [(9,aE aj s.2)] [ob 2 64 (bF [9] (aJ ({s.1 with Path:=[]})))] 3) (λs=>rx X) λs Y=>eH [155] (ak λv94 e95=>cC 111111111111101214141414141413111 (λH=>so [12,155] [(9,aE aj H)] [ob 2 64 (bF [9] (aJ ({v94 with Path:=[]})))] 3) (λH=>rx Y) λH Z=>aw [hf 167 (UY [.agg (aI g),aE aj j12,.agg (bF [4,9,14,15,19,22,24] (aJ ({c with Past:=[],Path:=[],Body:=[],Refs:=[],Guards:=[],Boxes:=[],Hist:=[]}))),iG (wI (Int.tdiv a 20))] (Fb gl e95))]<|aF 171 (Jt 177 ac (Jv gl) λv101=>rx Z)<|rx Z)<|rx Y) λF t=>eH [155] (rx t)<|cC 11111111111110121414141414140141 (λe=>sf [67] [(155,bG e)]) (λe=>rx t) λe u=>aF 157 (rx u)<|cC 1111111111111012141414141414014141 (λf=>sf [67] [(155,bG f)]) (λf=>rx u) λf v=>aF 158 (rx v)<|cC 111111111111101214141414141401414141 (λh=>sf [67] [(155,bG h)]) (λh=>rx v) λh w=>aF 159 (rx w)<|rx w) λd x=>eH [59] (CB 62 ac.ixZ 63 (ac.ptZ aW) λy124=>rx x)<|rx x) λj12 y=>eH [48] (Jt 50 ac (DK gl) λv129=>rx y)<|rx y) λc z=>eH [33] (rx z)<|rx z
def uf(ids:Bf)(device:Int)(seq:Int)(s1:Int×Int):Option ((Int×Int)⊕(Int)):=
 bif decide (s1.2<ah ids) then(((Bt ids s1.2).bind λa=>bif decide (a.By=device) then((Bt ids s1.2).bind λb=>some (decide (b.Seq=seq))) else(some false)).bind λj13=>bif j13 then(some (.inl (wI (s1.1+1),wI (s1.2+1)))) else(some (.inl (s1.1,wI (s1.2+1))))) else(some (.inr s1.1))
def z9(ids:Bf)(device:Int)(seq:Int):JP:=
 (AB (uf ids device seq) (0,0)).bind λa=>some a
theorem Jz{ids device seq}:DL prog gl (z9 ids device seq) 160 [aE aj ids,iG device,iG seq] iG:=
 cy func160 λK=>I4 11101 (λb=>sg [] [(7,iG b)]) (λs1=>sf [] [(7,iG s1.1),(8,iG s1.2)]) [] (λb=>rv K) λs1 k5 c=>aF 12 (Ny 11101221020 (sf [] []) [] 30 (rb k5) (rb k5) λa=>CB 17 ac.ixZ 19 (ac.fdY tZ 0) λd=>aF 21 (CB 25 ac.ixZ 27 (ac.fdY tZ 1) λe=>rx a)<|rx a)<|aA c1 c []
def qM(ids:Bf)(device:Int)(s1:Int×Int):Option ((Int×Int)⊕(Int)):=
 bif decide (s1.2<ah ids) then((Bt ids s1.2).bind λa=>(z9 ids device a.Seq).bind λb=>((Bt ids s1.2).bind λc=>bif decide (c.By=device) then(bif decide (1<b) then(bif decide (s1.1=0) then(some true) else((Bt ids s1.2).bind λd=>some (decide (d.Seq<s1.1)))) else(some false)) else(some false)).bind λe=>bif e then((Bt ids s1.2).bind λf=>some (.inl (f.Seq,wI (s1.2+1)))) else(some (.inl (s1.1,wI (s1.2+1))))) else(some (.inr s1.1))
def qN(ids:Bf)(device:Int):JP:=
 (AB (qM ids device) (0,0)).bind λa=>some a
theorem yF{ids device}:DL prog gl (qN ids device) 88 [aE aj ids,iG device] iG:=
 cy func88 λK=>I4 11101 (λd=>sg [] [(5,iG d)]) (λs1=>sf [] [(5,iG s1.1),(6,iG s1.2)]) [] (λd=>rv K) λs1 k5 e=>aF 11 (CB 18 ac.ixZ 20 (ac.fdY tZ 1) λf=>BU 21 (Jz gl) λc=>cN 111012210210 (sf [] [(7,iG c)]) []<|cC 111012210210 (λb=>sf [7] [(45,bG b)]) (λb=>eH [45] (CB 48 ac.ixZ 50 (ac.fdY tZ 1) λg=>rb k5)<|rb k5) λb a=>CB 24 ac.ixZ 26 (ac.fdY tZ 0) λh=>aF 28 (aF 32 (aF 35 (rx a)<|CB 39 ac.ixZ 41 (ac.fdY tZ 1) λi=>rx a)<|rx a)<|rx a)<|aA c1 e []
def AR(c:Dl)(device:Int)(s1:Int):Option ((Int)⊕(Unit⊕Int)):=
 bif decide (s1<ah c.Cards) then((Bt c.Cards s1).bind λa=>bif decide (a.Device=device) then((Bt c.Cards s1).bind λb=>some (.inr (.inr b.Member))) else(some (.inl (wI (s1+1))))) else(some (.inr (.inl ())))
def gE(c:Dl)(device:Int):JP:=
 (AB (AR c device) 0).bind λa=>ma a (λb=>some 0) (λq=>some q)
theorem c9{r_ device}:DL prog gl (gE r_ device) 164 [.agg (aU r_),iG device] iG:=
 cy func164 λK=>Ow 1101 (λa=>sg [] []) (λs1=>so [0] [(2,.ref 0 0),(5,iG s1)] [ob 0 150 (aU r_)] 1) [] K (λa=>rv K) λs1 k5 b k6=>aF 10 (CB 16 bT.ixZ 18 (bT.fdY tZ 0) λc=>aF 20 (CB 24 bT.ixZ 26 (bT.fdY tZ 1) λd=>aP c3 k6 [])<|rb k5)<|aA c2 b []
def o5(b:Dl)(n:Int)(s1:Int):Option ((Int)⊕(Unit⊕Int)):=
 bif decide (s1<ah b.L) then((Bt b.L s1).bind λa=>bif decide (a.N=n) then(some (.inr (.inr s1))) else(some (.inl (wI (s1+1))))) else(some (.inr (.inl ())))
def dS(c:Dl)(n:Int):JP:=
 (AB (o5 c n) 0).bind λa=>ma a (λb=>some (-1)) (λq=>some q)
theorem dA{r_ n}:DL prog gl (dS r_ n) 168 [.agg (aU r_),iG n] iG:=
 cy func168 λK=>Ow 1101 (λa=>sg [] []) (λs1=>so [0] [(2,.ref 0 0),(5,iG s1)] [ob 0 150 (aU r_)] 1) [] K (λa=>rv K) λs1 k5 b k6=>aF 10 (CB 16 bI.ixZ 18 (bI.fdY tZ 0) λc=>aF 20 (aP c3 k6 [])<|rb k5)<|aA c2 b []
def se(b:Dl)(n:Int):JP:=
 (dS b n).bind λa=>bif decide (a<0) then(some 0) else((Bt b.L a).bind λc=>some c.Role)
theorem ug{r_ n}:DL prog gl (se r_ n) 165 [.agg (aU r_),iG n] iG:=
 cy func165 λK=>BU 8 (dA gl) λa=>aF 10 (rv K)<|CB 14 bI.ixZ 16 (bI.fdY tZ 1) λb=>rv K
def Fd(b:Dl)(device:Int):Fp:=
 ((fb b.In device).bind λc=>bif c then(some true) else((fb b.Gone device).bind λa=>some a)).bind λd=>some d
theorem Nb{r_ device}:DL prog gl (Fd r_ device) 256 [.agg (aU r_),iG device] bG:=
 cy func256 λK=>cN [1,0] (so [0] [(2,.ref 0 0)] [ob 0 150 (aU r_)] 1) []<|cC [1,0] (λa=>sk [] [(4,bG a)] [] 0) (λa=>rv K) λa k5=>ak λd e8=>kV (λb=>aw [hf 8 (cF (DE gl e8) b)]<|rx k5) λb=>BU 13 (DE gl) λc=>aw [hf 8 (cF (DE gl e8) b)]<|rx k5
def nW(a:Dl)(device:Int):Fp:=
 (Fd a device).bind λb=>((gE a device).bind λc=>bif decide (0<c) then(some (!b)) else(some false)).bind λd=>some d
theorem qO{r_ device}:DL prog gl (nW r_ device) 166 [.agg (aU r_),iG device] bG:=
 cy func166 λK=>BU 8 (Nb gl) λc=>cN 1110 (so [0] [(2,.ref 0 0),(5,bG c)] [ob 0 150 (aU r_)] 1) []<|cC 1110 (λa=>sk [] [(4,bG a)] [] 0) (λa=>rv K) λa b=>BU 11 (c9 gl) λd=>aF 12 (rx b)<|rx b
def nX(a:Dl)(device:Int)(role:Int):Option Dl:=
 (nW a device).bind λh=>bif(!h) then(some a) else((aT 8 ([]:Bj) a.In).bind λi=>(aT 8 i ([device]:Bj)).bind λb=>(gE ({a with In:=b}) device).bind λg=>(dS ({a with In:=b}) g).bind λc=>bif decide (c<0) then(((aT 104 ([]:List Ef) a.L).bind λd=>(aT 104 d [(⟨g,role,false,⟨0,0,0⟩,[],0,0,false,0⟩:Ef)]).bind λe=>some e:Option (List Ef)).bind λf=>some ({a with In:=b,L:=f})) else(some ({a with In:=b})))
theorem qP{r_ device role}:DL prog gl (nX r_ device role) 171 [.agg (aU r_),iG device,iG role] (λr=> .agg (aU r)):=
 cy func171 λK=>BU 11 (qO gl) λk=>aF 13 (rv K)<|Gq (eu 18 rZ) λl=>Gq (dg 21 rZ) λb=>ak λc i=>ak λj f=>aw [hq 25 [.agg (aU ({r_ with In:=b})),iG device] [hc (rZ.al b)] (c9 gl i),hq 28 [.agg (aU ({r_ with In:=b})),iG c] [hc (rZ.al b)] (dA gl f)]<|aF 29 (cN 111111013 (sp [2] [(3,.ref 0 0),(6,.ref 1 0),(8,iG c)] [ob 0 150 (aU ({r_ with In:=b})),ob 1 150 (bF [0,1,2,3,5] (aU eY))] 2) [hc (rZ.al b)]<|cC 111111013 (λa=>sp [3] [(6,.ref 2 0)] [ob 0 150 [aE bv r_.Cards,aE cZ b,aE cZ r_.Gone,.rsl 1 0 a.length,iG r_.Back,aE nJ r_.V],ob 1 231 (a.flatMap jG),ob 2 150 (bF [0,1,2,3,5] (aU eY))] 3) (λa=>aP c0 K [hc (bI.al a)]) λa g=>Gq (eu 33 bI) λh=>ak λd e=>aw [Tv 38 bI e [iG c,iG role,bG false,iG 0,iG 0,uG 0,Iy,iG 0,iG 0,bG false,iG 0] rfl]<|aA c0 g [hc (el d),ZV bI e [iG c,iG role,bG false,iG 0,iG 0,uG 0,Iy,iG 0,iG 0,bG false,iG 0]] (kd:=[(1,.app (h.flatMap jG) [iG c,iG role,bG false,iG 0,iG 0,uG 0,Iy,iG 0,iG 0,bG false,iG 0] (jG (⟨c,role,false,⟨0,0,0⟩,[],0,0,false,0⟩:Ef)) (d.flatMap jG))]))<|aP c0 K [hc (rZ.al b)]
def qQ(c:Dl)(d:Ab)(s1:Int):Option ((Int)⊕(Unit⊕Int)):=
 bif decide (s1<ah c.L) then(((Bt c.L s1).bind λa=>bif a.Is then((Bt c.L s1).bind λb=>some (decide (b.ID=d))) else(some false)).bind λj13=>bif j13 then(some (.inr (.inr s1))) else(some (.inl (wI (s1+1))))) else(some (.inr (.inl ())))
def jN(d:Dl)(a:Ab):JP:=
 (AB (qQ d a) 0).bind λb=>ma b (λc=>some (-1)) (λq=>some q)
theorem mA{r_ id_}:DL prog gl (jN r_ id_) 176 [.agg (aU r_),.agg (aj id_)] iG:=
 cy func176 λK=>Ow 1101 (λd=>sg [] []) (λs1=>sp [] [(2,.ref 0 0),(3,.ref 1 0),(5,iG s1)] [ob 0 150 (aU r_),ob 1 25 (aj id_)] 2) [] K (λd=>rv K) λs1 k5 f k6=>aF 10 (Ny 1101221020 (sf [] []) [] 28 (aP c3 k6 []) (rb k5) λc=>ak λg a=>aw [AA 16 (bI.ixZ a)]<|kV (λb=>CB 23 bI.ixZ 25 (bI.fsZ aW jz 3 Cd) λe=>aw [AA 18 (cB (bI.fdZ tO 2 a) b),hV 27 (dU e.ID id_ rfl)]<|rx c) λb=>aw [AA 18 (cB (bI.fdZ tO 2 a) b)]<|rx c)<|aA c2 f []
end
section
set_option maxHeartbeats 2000000
def uh(b:Dl)(i:Bj×Bool)(c:Bj)(d:List Ef×List G8)(a:List G8×Int):Option ((List G8×Int)⊕(List G8)):=
 bif decide (a.2<ah b.V) then((Bt b.V a.2).bind λe=>(jN ({b with In:=i.1,Gone:=c,L:=d.1}) e.Of).bind λf=>bif decide (0<=f) then((Bt b.V a.2).bind λg=>(aT 48 a.1 [g]).bind λh=>some (.inl (h,wI (a.2+1)))) else(some (.inl (a.1,wI (a.2+1))))) else(some (.inr a.1))
def ui(e:Dl)(f:Int)(a:List Ef×List G8×Int):Option ((List Ef×List G8×Int)⊕(List Ef×List G8)):=
 bif decide (a.2.2<ah e.L) then((Bt e.L a.2.2).bind λb=>bif decide (b.N≠f) then((Bt e.L a.2.2).bind λc=>(aT 104 a.1 [c]).bind λd=>some (.inl (d,a.2.1,wI (a.2.2+1)))) else(some (.inl (a.1,a.2.1,wI (a.2.2+1))))) else(some (.inr (a.1,a.2.1)))
def uj(b:Dl)(device:Int)(i:Int)(a:Bj×Bool×Int):Option ((Bj×Bool×Int)⊕(Bj×Bool)):=
 bif decide (a.2.2<ah b.In) then((Bt b.In a.2.2).bind λc=>bif decide (c≠device) then((Bt b.In a.2.2).bind λd=>(aT 8 a.1 ([d]:Bj)).bind λe=>(bif a.2.1 then(some true) else((Bt b.In a.2.2).bind λf=>(gE b f).bind λg=>some (decide (g=i)))).bind λh=>some (.inl (e,h,wI (a.2.2+1)))) else(some (.inl (a.1,a.2.1,wI (a.2.2+1))))) else(some (.inr (a.1,a.2.1)))
def sh(a:Dl)(device:Int):Option Dl:=
 (fb a.In device).bind λh=>bif(!h) then(some a) else((gE a device).bind λg=>(AB (uj a device g) ([],false,0)).bind λd=>(aT 8 ([]:Bj) a.Gone).bind λe=>(aT 8 e ([device]:Bj)).bind λb=>bif d.2 then(some ({a with In:=d.1,Gone:=b})) else((AB (ui a g) ([],[],0)).bind λc=>(AB (uh a d b c) (c.2,0)).bind λf=>some ⟨a.Cards,d.1,b,c.1,a.Back,f⟩))
theorem AS{r_ device}:DL prog gl (sh r_ device) 172 [.agg (aU r_),iG device] (λr=> .agg (aU r)):=
 cy func172 λK=>BU 16 (DE gl) λD=>aF 17 (rv K)<|BU 21 (c9 gl) λs=>I4 11111101 (λf=>so [0] [(2,.ref 0 0),(4,.ref 1 0),(5,iG s),(6,aE cZ f.1),(7,bG f.2)] [ob 0 150 (aU r_),ob 1 150 (bF [0,1,2,3,5] (aU eY))] 2) (λg=>so [0] [(2,.ref 0 0),(4,.ref 1 0),(5,iG s),(6,.rsl 2 0 g.1.length),(7,bG g.2.1),(8,iG g.2.2)] [ob 0 150 (aU r_),ob 1 150 (bF [0,1,2,3,5] (aU eY)),ob 2 3 (g.1.flatMap cZ)] 3) [hc (rZ.imm [])] (λf=>Gq (eu 61 rZ) λt=>Gq (dg 64 rZ) λc=>aF 66 (aP c0 K [hc (rZ.al c)])<|I4 11111111111101 (λb=>sp [2,4] [(9,aE jG b.1),(10,.rsl 2 0 b.2.length)] [ob 0 150 (aU ({r_ with In:=f.1,Gone:=c})),ob 2 312 (b.2.flatMap nJ)] 3) (λa=>so [1,6,7] [(9,.rsl 2 0 a.1.length),(10,.rsl 3 0 a.2.1.length),(11,iG a.2.2)] [ob 0 150 (aU ({r_ with In:=f.1,Gone:=c})),ob 2 231 (a.1.flatMap jG),ob 3 312 (a.2.1.flatMap nJ)] 4) [hc (rZ.al c),hc (bI.imm []),hc (bV.imm [])] (λb=>I4 1111111111111101 (λi=>sx [9] [(10,aE nJ i)] [ob 0 150 (aU ({r_ with In:=f.1,Gone:=c,L:=b.1})),ob 1 150 (bF [0,1,2,3,5] (aU eY))] 2) (λd=>so [9] [(10,.rsl 2 0 d.1.length),(12,iG d.2)] [ob 0 150 (aU ({r_ with In:=f.1,Gone:=c,L:=b.1})),ob 2 312 (d.1.flatMap nJ)] 3) (DF bV b.2) (λi=>rv K) λd j o=>aF 97 (CB 104 bV.ixZ 106 (bV.fsZ aW jz 0 Cd) λu=>BU 107 (mA gl) λv=>aF 108 (CB 113 bV.ixZ 114 (bV.ptZ Pd) λw=>Gq (dg 116 bV) λp=>cj j (DF bV p))<|cj j (DF bV d.1))<|aA c1 o [hc (bV.al d.1)]) λa k q=>aF 72 (CB 78 bI.ixZ 80 (bI.fdY tZ 0) λx=>aF 82 (CB 87 bI.ixZ 88 (bI.ptZ LG) λy=>Gq (dg 90 bI) λl=>cj k [hc (el l),hc (el a.2.1),hc (bI.imm l),hc (bV.imm a.2.1)])<|cj k [hc (el a.1),hc (el a.2.1),hc (bI.imm a.1),hc (bV.imm a.2.1)])<|aA c1 q [hc (bI.al a.1),hc (el a.2.1),hc (bV.imm a.2.1)]) λg m k9=>aF 26 (CB 32 rZ.ixZ 33 (rZ.p1Y tZ) λz=>aF 35 (CB 40 rZ.ixZ 41 (rZ.p1Y tZ) λA=>Gq (dg 43 rZ) λe=>cN 1111110122102131 (so [] [(6,.rsl 2 0 e.length)] [ob 2 3 (e.flatMap cZ)] 3) (DF rZ e)<|cC 1111110122102131 (λh=>sf [] [(7,bG h)]) (λh=>cj m (DF rZ e)) λh n=>aF 44 (aA c0 n (DF rZ e))<|CB 50 rZ.ixZ 51 (rZ.p1Y tZ) λB=>BU 52 (c9 gl) λC=>aA c0 n (DF rZ e))<|cj m (DF rZ g.1))<|aA c1 k9 [hc (rZ.al g.1)]
def o6(l:List Ef)(at_:Int)(m:Ef):Option (List Ef):=
 (aT 104 ([]:List Ef) l).bind λa=>(ji a at_ m).bind λb=>some b
theorem JA{l at_ m}:LT prog gl (o6 l at_ m) 173 [aE jG l,iG at_,.agg (jG m)] 231 jG:=
 gc func173 λK=>Gq (wX 10 bI) λb=>ak λa e4=>aw [AA 14 (bI.ixsZ 1 e4),hw 14 (a.flatMap jG) (bI.putZ e4)]<|mr c0 K (bI.imm _) _ (hZ e4)
def ni(b:Dl)(c:List Ef)(a:List G8×Int):Option ((List G8×Int)⊕(List G8)):=
 bif decide (a.2<ah b.V) then((Bt b.V a.2).bind λd=>(jN ({b with L:=c}) d.Of).bind λe=>bif decide (0<=e) then((Bt b.V a.2).bind λf=>(aT 48 a.1 [f]).bind λg=>some (.inl (g,wI (a.2+1)))) else(some (.inl (a.1,wI (a.2+1))))) else(some (.inr a.1))
def o7(a:Dl)(o:Bq)(e:Ab):Option Dl:=
 (gE a o.By).bind λf=>(dS a f).bind λc=>bif decide (c<0) then(some a) else((Bt a.L c).bind λg=>(Bt a.L c).bind λh=>(o6 a.L c (⟨g.N,h.Role,true,e,o.Guards,o.Need,o.Wait,false,0⟩:Ef)).bind λb=>(AB (ni a b) ([],0)).bind λd=>some ({a with L:=b,V:=d}))
theorem Df{r_ o id_}:DL prog gl (o7 r_ o id_) 174 [.agg (aU r_),.agg (aJ o),.agg (aj id_)] (λr=> .agg (aU r)):=
 cy func174 λK=>BU 14 (c9 gl) λj=>BU 15 (dA gl) λk=>aF 17 (rv K)<|CB 25 bI.ixZ 27 (bI.fdY tZ 0) λl=>CB 31 bI.ixZ 33 (bI.fdY tZ 1) λm=>Jt 42 bI (JA gl) λb=>I4 11111101 (λc=>sp [] [(3,.ref 0 0),(6,.ref 1 0),(8,aE nJ c)] [ob 0 150 (aU ({r_ with L:=b})),ob 1 150 (bF [0,1,2,3,5] (aU eY))] 2) (λa=>sp [] [(3,.ref 0 0),(6,.ref 1 0),(8,.rsl 2 0 a.1.length),(9,iG a.2)] [ob 0 150 (aU ({r_ with L:=b})),ob 1 150 (bF [0,1,2,3,5] (aU eY)),ob 2 312 (a.1.flatMap nJ)] 3) [hc (bV.imm [])] (λc=>rv K) λa d e=>aF 48 (CB 55 bV.ixZ 57 (bV.fsZ aW jz 0 Cd) λg=>BU 58 (mA gl) λh=>aF 59 (CB 64 bV.ixZ 65 (bV.ptZ Pd) λi=>Gq (dg 67 bV) λf=>cj d (DF bV f))<|cj d (DF bV a.1))<|aA c1 e [hc (bV.al a.1)]
def nY(b:Dl)(o:Bq):Option (Int×Int):=
 (jN b o.Of).bind λa=>bif decide (a<0) then(some ((-1),25)) else((Bt b.L a).bind λc=>(fb c.Guards o.By).bind λd=>bif(!d) then(some ((-1),14)) else(some (a,0)))
theorem vG{r_ o}:DL prog gl (nY r_ o) 257 [.agg (aU r_),.agg (aJ o)] (λr=> .tup [iG r.1,iG r.2]):=
 cy func257 λK=>BU 10 (mA gl) λa=>aF 12 (rv K)<|CB 16 bI.ixZ 18 (bI.fdY Vs 6) λb=>BU 21 (DE gl) λc=>aF 22 (rv K)<|rv K
def nj(b:Dl)(o:Bq)(a:Int×List G8×Int):Option ((Int×List G8×Int)⊕(Int×List G8)):=
 bif decide (a.2.2<ah b.V) then(((Bt b.V a.2.2).bind λc=>bif decide (c.Of=o.Of) then((Bt b.V a.2.2).bind λd=>bif decide (d.By=o.By) then((Bt b.V a.2.2).bind λe=>some (decide (e.Device=o.Device))) else(some false)) else(some false)).bind λf=>bif f then((Bt b.V a.2.2).bind λg=>some (.inl (iI a.1 g.At,a.2.1,wI (a.2.2+1)))) else((Bt b.V a.2.2).bind λh=>(aT 48 a.2.1 [h]).bind λi=>some (.inl (a.1,i,wI (a.2.2+1))))) else(some (.inr (a.1,a.2.1)))
def o8(a:Dl)(o:Bq):Option Dl:=
 (nY a o).bind λd=>bif decide (d.2≠0) then(some a) else((AB (nj a o) (o.At,[],0)).bind λc=>(aT 48 c.2 [{o with At:=c.1}]).bind λb=>some ({a with V:=b}))
theorem Dg{r_ o}:DL prog gl (o8 r_ o) 175 [.agg (aU r_),.agg (aJ o)] (λr=> .agg (aU r)):=
 cy func175 λK=>BU 13 (vG gl) λm=>aF 17 (rv K)<|I4 11111101 (λe=>sp [] [(2,.ref 0 0),(4,.ref 1 0),(7,.ref 2 0),(8,.rsl 3 0 e.2.length)] [ob 0 150 (aU r_),ob 1 150 (bF [0,1,2,3,5] (aU eY)),ob 2 312 (nJ ({o with At:=e.1})),ob 3 312 (e.2.flatMap nJ)] 4) (λa=>sp [] [(2,.ref 0 0),(4,.ref 1 0),(7,.ref 2 0),(8,.rsl 3 0 a.2.1.length),(9,iG a.2.2)] [ob 0 150 (aU r_),ob 1 150 (bF [0,1,2,3,5] (aU eY)),ob 2 312 (nJ ({o with At:=a.1})),ob 3 312 (a.2.1.flatMap nJ)] 4) [hc (bV.imm [])] (λe=>Gq (dg 87 bV) λf=>aP c0 K [hc (bV.al f)]) λa k8 h=>aF 32 (Ny 11111101221020 (sf [] []) (DF bV a.2.1) 65 (CB 71 bV.ixZ 73 (bV.fdY tZ 5) λi=>cj k8 (DF bV a.2.1)) (CB 80 bV.ixZ 81 (bV.ptZ Pd) λj=>Gq (dg 83 bV) λg=>cj k8 (DF bV g)) λb=>CB 38 bV.ixZ 40 (bV.fsZ aW jz 0 Cd) λd=>kV (λc=>CB 48 bV.ixZ 50 (bV.fdY tZ 3) λk=>aw [hV 43 (cV (dU d.Of o.Of rfl) c)]<|aF 54 (CB 59 bV.ixZ 61 (bV.fdY tZ 4) λl=>aA c0 b (DF bV a.2.1))<|aA c0 b (DF bV a.2.1)) λc=>aw [hV 43 (cV (dU d.Of o.Of rfl) c)]<|aA c0 b (DF bV a.2.1))<|aA c1 h (DF bV a.2.1)
def AT(b:Bj)(a:Dl×Int):Option ((Dl×Int)⊕(Dl)):=
 bif decide (a.2<ah b) then((Bt b a.2).bind λc=>(sh a.1 c).bind λd=>some (.inl (d,wI (a.2+1)))) else(some (.inr a.1))
def Pj(b:Dl)(o:Bq)(a:Bj×Int):Option ((Bj×Int)⊕Bj):=
 bif decide (a.2<ah b.In) then((Bt b.In a.2).bind λc=>(gE b c).bind λd=>bif decide (d=o.Member) then((Bt b.In a.2).bind λe=>(aT 8 a.1 ([e]:Bj)).bind λf=>some (.inl (f,wI (a.2+1)))) else(some (.inl (a.1,wI (a.2+1))))) else(some (.inr a.1))
def DM(a:Dl)(o:Bq)(E:Ab):Option Dl:=
 (gE a o.By).bind λF=>(dS a F).bind λd=>bif decide (o.Kind=1) then((bif decide (0<ah a.In) then(some true) else(bif decide (0<ah a.Gone) then(some true) else((gE a o.By).bind λm=>some (decide (m=0))))).bind λH=>bif H then(some a) else((nX a o.By 3).bind λI=>some ({I with Back:=o.Need}))) else(bif decide (o.Kind=2) then((nX a o.Device o.Role).bind λn=>some n) else(bif decide (o.Kind=3) then((bif decide (o.Device=0) then((AB (Pj a o) ([],0)).bind λp=>some (.inl p)) else(some (.inl ([o.Device]:Bj))):Option (Bj⊕Dl)).bind λq=>ma q (λe=>(AB (AT e) (a,0)).bind λr=>some r) some) else(bif decide (o.Kind=5) then((dS a o.Member).bind λb=>bif decide (0<=b) then((Bt a.L b).bind λs=>(o6 a.L b ({s with Role:=o.Role})).bind λt=>some ({a with L:=t})) else(some a)) else(bif decide (o.Kind=9) then((o7 a o E).bind λu=>some u) else(bif decide (o.Kind=11) then((o8 a o).bind λv=>some v) else(bif decide (o.Kind=12) then((bif decide (0<=d) then((Bt a.L (Fo d 0)).bind λw=>bif w.Is then((Bt a.L (Fo d 0)).bind λx=>some (decide (x.ID=o.Of))) else(some false)) else(some false)).bind λy=>bif y then((Bt a.L d).bind λf=>(o6 a.L d ({f with Objected:=true,Last:=Fo f.Last o.At})).bind λz=>some ({a with L:=z})) else(some a)) else(bif decide (o.Kind=13) then((jN a o.Of).bind λc=>(bif decide (0<=c) then((fb a.In o.Old).bind λg=>bif g then((gE a o.Old).bind λh=>(Bt a.L (Fo c 0)).bind λi=>bif decide (h=i.N) then((gE a o.Device).bind λj=>(Bt a.L (Fo c 0)).bind λk=>some (decide (j=k.N))) else(some false)) else(some false)) else(some false)).bind λA=>bif A then((gE a o.Device).bind λB=>(se a B).bind λC=>(nX a o.Device C).bind λD=>(sh D o.Old).bind λl=>some l) else(some a)) else(some a))))))))
theorem AU{r_ o id_}:DL prog gl (DM r_ o id_) 92 [.agg (aU r_),.agg (aJ o),.agg (aj id_)] (λr=> .agg (aU r)):=
 cy func92 λK=>BU 19 (c9 gl) λW=>BU 20 (dA gl) λy=>aF 24 (Ny 1110121300 (sp [] [(3,.ref 0 0),(4,.ref 1 0),(6,.ref 2 0)] [ob 0 150 (aU r_),ob 1 64 (aJ o),ob 2 150 (bF [0,1,2,3,5] (aU eY))] 3) [] 41 (rv K) (BU 46 (qP gl) λX=>rv K) λk11=>aF 28 (rx k11)<|aF 34 (rx k11)<|BU 39 (c9 gl) λz=>rx k11)<|aF 51 (BU 57 (qP gl) λA=>rv K)<|aF 59 (cN 111012141413101 (sp [] [(3,.ref 0 0),(4,.ref 1 0),(6,.ref 2 0),(8,aE cZ ([o.Device]:Bj)),(65,bG (decide (o.Device=0)))] [ob 0 150 (aU r_),ob 1 64 (aJ o),ob 2 150 (bF [0,1,2,3,5] (aU eY))] 3) [hc (rZ.al ([o.Device]:Bj))]<|rdM 111012141413101 (λc=>sk [3] [(6,.ref 1 0),(8,aE cZ c)] [ob 0 150 (aU r_),ob 1 150 (bF [0,1,2,3,5] (aU eY))] 2) (λc=>I4 111012141413111 (λg=>so [8] [] [ob 0 150 (aU g)] 2) (λd=>so [] [(10,iG d.2)] [ob 0 150 (aU d.1)] 2) [] (λg=>rv K) λd k l=>aF 94 (CB 100 rZ.ixZ 101 (rZ.p1Y tZ) λB=>BU 102 (AS gl) λC=>rb k)<|aA c1 l []) λD h E=>eH [65] (I4 111012141413101311 (λi=>sk [3] [(6,.ref 1 0),(8,aE cZ i)] [ob 0 150 (aU r_),ob 1 150 (bF [0,1,2,3,5] (aU eY))] 2) (λb=>so [65] [(8,.rsl 3 0 b.1.length),(9,iG b.2)] [ob 3 3 (b.1.flatMap cZ)] 4) [hc (rZ.imm [])] (λi=>aA c4 h []) λb j m=>aF 70 (CB 77 rZ.ixZ 78 (rZ.p1Y tZ) λF=>BU 79 (c9 gl) λH=>aF 82 (CB 87 rZ.ixZ 88 (rZ.p1Y tZ) λI=>Gq (dg 90 rZ) λn=>cj j (DF rZ n))<|cj j (DF rZ b.1))<|aA c1 m [hc (rZ.al b.1)])<|aA c4 h [])<|aF 104 (BU 108 (dA gl) λJ=>aF 110 (CB 114 bI.ixZ 115 (bI.ptZ LG) λL=>Jt 123 bI (JA gl) λM=>rv K)<|rv K)<|aF 126 (BU 130 (Df gl) λN=>rv K)<|aF 132 (BU 135 (Dg gl) λO=>rv K)<|aF 137 (Ny 111012141414141414130 (sp [] [(3,.ref 0 0),(4,.ref 1 0),(6,.ref 2 0),(7,iG y)] [ob 0 150 (aU r_),ob 1 64 (aJ o),ob 2 150 (bF [0,1,2,3,5] (aU eY))] 3) [] 160 (CB 164 bI.ixZ 165 (bI.ptZ LG) λP=>Jt 177 bI (JA gl) λQ=>rv K) (rv K) λe=>aF 139 (CB 145 bI.ixZ 147 (bI.fdY tO 2) λR=>aF 148 (CB 154 bI.ixZ 156 (bI.fsZ aW jz 3 Cd) λp=>aw [hV 159 (dU p.ID o.Of rfl)]<|rx e)<|rx e)<|rx e)<|aF 180 (BU 184 (mA gl) λq=>cN 111012141414141414141310 (sp [] [(3,.ref 0 0),(4,.ref 1 0),(6,.ref 2 0),(14,iG q)] [ob 0 150 (aU r_),ob 1 64 (aJ o),ob 2 150 (bF [0,1,2,3,5] (aU eY))] 3) []<|cC 111012141414141414141310 (λf=>sf [14] [(221,bG f)]) (λf=>eH [221] (BU 229 (c9 gl) λS=>BU 230 (ug gl) λU=>BU 231 (qP gl) λV=>BU 235 (AS gl) λs=>rv K)<|rv K) λf a=>aF 186 (BU 192 (DE gl) λt=>aF 193 (BU 198 (c9 gl) λu=>CB 203 bI.ixZ 205 (bI.fdY tZ 0) λv=>aF 207 (BU 212 (c9 gl) λw=>CB 217 bI.ixZ 219 (bI.fdY tZ 0) λx=>rx a)<|rx a)<|rx a)<|rx a)<|rv K
def AV(cards:Md):Option Dl:=
 some ⟨cards,[],[],[],0,[]⟩
theorem DN{cards}:DL prog gl (AV cards) 161 [aE bv cards] (λr=> .agg (aU r)):=
 cy func161 λK=>rv K
def o9(e:Dl)(o:Bq)(m:Int)(a:Bool):JP:=
 bif decide (o.Device≠0) then((fb e.In o.Device).bind λf=>bif(!f) then(some 17) else((bif(!a) then((gE e o.Device).bind λb=>some (decide (b≠m))) else(some false)).bind λg=>bif g then(some 14) else(some 0))) else((dS e o.Member).bind λc=>bif decide (c<0) then(some 16) else((bif(!a) then(some (decide (o.Member≠m))) else(some false)).bind λd=>bif d then(some 14) else(some 0)))
theorem Dh{r_ o m rules}:DL prog gl (o9 r_ o m rules) 167 [.agg (aU r_),.agg (aJ o),iG m,bG rules] iG:=
 cy func167 λK=>aF 11 (BU 16 (DE gl) λd=>aF 17 (rv K)<|Ab2 11013100 (so [0,1] [(4,.ref 0 0),(5,.ref 1 0)] [ob 0 150 (aU r_),ob 1 64 (aJ o)] 2) [] 27 (rv K) (rv K) λk8=>aF 19 (BU 24 (c9 gl) λb=>rx k8)<|rx k8)<|BU 31 (dA gl) λc=>aF 32 (rv K)<|Ab2 111100 (so [0,1] [(5,.ref 0 0)] [ob 0 64 (aJ o)] 1) [] 40 (rv K) (rv K) λa=>aF 34 (rx a)<|rx a
def pa(l:Bj)(s1:Bj×Int)(a:Int):Option ((Int)⊕(Int)):=
 (bif decide (a<ah s1.1) then((Bt s1.1 a).bind λb=>(Bt l s1.2).bind λc=>some (decide (b<=c))) else(some false)).bind λd=>bif d then(some (.inl (wI (a+1)))) else(some (.inr a))
def pb(l:Bj)(s1:Bj×Int):Option ((Bj×Int)⊕Bj):=
 bif decide (s1.2<ah l) then((AB (pa l s1) 0).bind λa=>(tq s1.1 a).bind λb=>(aT 8 ([]:Bj) b).bind λc=>(Bt l s1.2).bind λd=>(aT 8 c ([d]:Bj)).bind λe=>(mc s1.1 a).bind λf=>(aT 8 e f).bind λg=>some (.inl (g,wI (s1.2+1)))) else(some (.inr s1.1))
def lg(l:Bj):Option Bj:=
 (AB (pb l) ([],0)).bind λa=>some a
theorem vH{l}:LT prog gl (lg l) 170 [aE cZ l] 3 cZ:=
 gc func170 λK=>I4 11101 (λd=>sp [] [(3,.rsl 0 0 d.length)] [ob 0 3 (d.flatMap cZ)] 1) (λs1=>so [] [(3,.rsl 0 0 s1.1.length),(4,iG s1.2)] [ob 0 3 (s1.1.flatMap cZ)] 1) [hc (rZ.imm [])] (λd=>mr c0 K (rZ.imm _)) λs1 k5 h=>aF 10 (I4 111012210210 (λa=>sx [] [(3,aE cZ s1.1),(5,iG a)] [] 0) (λb=>sx [] [(3,aE cZ s1.1),(5,iG b)] [] 0) [hc (rZ.al s1.1)] (λa=>rdv 33 rZ.preZI λi=>Gq (wX 34 rZ) λj=>CB 38 rZ.ixZ 39 (rZ.p1Y tZ) λk=>Gq (dg 41 rZ) λm=>rdv 45 rZ.sufZI λn=>Gq (eu 46 rZ) λe=>cj k5 (DF rZ e)) λb f g=>Ny 1110122102102200 (sf [] []) [] 27 (rb f) (aA c1 g []) λc=>aF 16 (CB 20 rZ.ixZ 21 (rZ.p1Y tZ) λo=>CB 24 rZ.ixZ 25 (rZ.p1Y tZ) λp=>rx c)<|rx c)<|aA c1 h (DF rZ s1.1)
end
section
set_option maxHeartbeats 2000000
def PL(b:Dl)(device:Int)(h:Ef)(a:Bj×Int):Option ((Bj×Int)⊕Bj):=
 bif decide (a.2<ah b.V) then(((Bt b.V a.2).bind λc=>bif decide (c.Of=h.ID) then((Bt b.V a.2).bind λd=>some (decide (d.Device=device))) else(some false)).bind λe=>bif e then((Bt b.V a.2).bind λf=>(aT 8 a.1 ([f.At]:Bj)).bind λg=>some (.inl (g,wI (a.2+1)))) else(some (.inl (a.1,wI (a.2+1))))) else(some (.inr a.1))
def Ff(g:Dl)(a:Int)(device:Int):Option (Int×Int):=
 (dS g a).bind λh=>bif decide (h<0) then(some (0,4)) else((Bt g.L h).bind λb=>bif(!b.Is) then(some (0,4)) else((AB (PL g device b) ([],0)).bind λi=>(lg i).bind λc=>bif decide (ah c<b.Need) then(some (0,26)) else((bif b.Objected then((Bt c 0).bind λd=>some (decide (d<=b.Last))) else(some false)).bind λe=>bif e then(some (0,28)) else((Bt c (wI (b.Need-1))).bind λf=>some (wI (f+b.Wait),0)))))
theorem Nc{r_ a device}:DL prog gl (Ff r_ a device) 258 [.agg (aU r_),iG a,iG device] (λr=> .tup [iG r.1,iG r.2]):=
 cy func258 λK=>BU 14 (dA gl) λp=>aF 16 (rv K)<|CB 20 bI.ixZ 21 (bI.ptZ LG) λg=>aF 24 (rv K)<|I4 111111101 (λk=>sp [] [(9,.ref 0 0),(10,aE cZ k)] [ob 0 231 (jG g)] 1) (λb=>sp [2] [(3,.ref 0 0),(9,.ref 1 0),(10,.rsl 2 0 b.1.length),(11,iG b.2)] [ob 0 150 (aU r_),ob 1 231 (jG g),ob 2 3 (b.1.flatMap cZ)] 3) [hc (rZ.imm [])] (λk=>Jt 61 rZ (vH gl) λh=>aF 66 (rv K)<|Ny 111111111100 (sf [] [(10,aE cZ h)]) [] 76 (rv K) (CB 81 rZ.ixZ 82 (rZ.p1Y tZ) λl=>rv K) λd=>aF 68 (CB 73 rZ.ixZ 74 (rZ.p1Y tZ) λm=>rx d)<|rx d) λb k11 i=>aF 29 (Ny 111111101221020 (sf [] []) (DF rZ b.1) 50 (CB 55 bV.ixZ 57 (bV.fdY tZ 5) λn=>Gq (dg 59 rZ) λj=>cj k11 (DF rZ j)) (cj k11 (DF rZ b.1)) λe=>CB 35 bV.ixZ 37 (bV.fsZ aW jz 0 Cd) λf=>kV (λc=>CB 45 bV.ixZ 47 (bV.fdY tZ 4) λo=>aw [hV 40 (cV (dU f.Of g.ID rfl) c)]<|aA c0 e (DF rZ b.1)) λc=>aw [hV 40 (cV (dU f.Of g.ID rfl) c)]<|aA c0 e (DF rZ b.1))<|aA c1 i [hc (rZ.al b.1)]
def mB(a:Dl)(o:Bq):JP:=
 (nY a o).bind λd=>bif decide (d.2≠0) then(some d.2) else((Bt a.L d.1).bind λc=>(bif decide (o.Kind=11) then((gE a o.Device).bind λe=>some (decide (e≠c.N))) else(some false)).bind λk=>bif k then(some 16) else((bif decide (o.Kind=13) then((fb a.In o.Old).bind λf=>bif(!f) then(some true) else((gE a o.Old).bind λg=>bif decide (g≠c.N) then(some true) else((gE a o.Device).bind λh=>some (decide (h≠c.N))))) else(some false)).bind λl=>bif l then(some 17) else((nW a o.Device).bind λi=>bif(!i) then(some 17) else(bif decide (o.Kind=11) then(some 0) else((Ff a c.N o.Device).bind λb=>(bif decide (b.2=0) then(some (decide (o.At<b.1))) else(some false)).bind λj=>bif j then(some 27) else(some b.2))))))
theorem AW{r_ o}:DL prog gl (mB r_ o) 169 [.agg (aU r_),.agg (aJ o)] iG:=
 cy func169 λK=>BU 14 (vG gl) λl=>aF 18 (rv K)<|CB 23 bI.ixZ 25 (bI.fdY tZ 0) λf=>Ny 1111100 (sp [] [(2,.ref 0 0),(3,.ref 1 0),(7,iG f.N)] [ob 0 150 (aU r_),ob 1 64 (aJ o)] 2) [] 36 (rv K) (Ny 11111100 (sf [36] []) [] 63 (rv K) (BU 67 (qO gl) λg=>aF 69 (rv K)<|aF 72 (rv K)<|BU 78 (Nc gl) λc=>cN 1111111111100 (sk [] [(3,.ref 0 0),(9,iG c.1),(10,iG c.2)] [ob 0 64 (aJ o)] 1) []<|cC 1111111111100 (λb=>sk [10] [(88,bG b)] [] 0) (λb=>eH [88] (rv K)<|rv K) λb d=>aF 82 (rx d)<|rx d) λa=>aF 39 (BU 45 (DE gl) λh=>aF 46 (rx a)<|BU 51 (c9 gl) λi=>aF 54 (rx a)<|BU 59 (c9 gl) λj=>rx a)<|rx a) λe=>aF 28 (BU 33 (c9 gl) λk=>rx e)<|rx e
def TF(d:Dl)(o:Bq)(a:Int):Option ((Int)⊕(Unit⊕Int)):=
 bif decide (a<ah o.Guards) then((Bt o.Guards a).bind λb=>(fb d.In b).bind λc=>bif(!c) then(some (.inr (.inr 17))) else(some (.inl (wI (a+1))))) else(some (.inr (.inl ())))
def AX(a:Dl)(o:Bq)(y:Ab):JP:=
 (gE a o.By).bind λc=>bif decide (o.Kind=1) then(bif decide (c=0) then(some 17) else((bif decide (0<ah a.In) then(some true) else(some (decide (0<ah a.Gone)))).bind λx=>bif x then(some 5) else(some 0))) else((fb a.In o.By).bind λe=>bif(!e) then(some 15) else((se a c).bind λb=>bif decide (o.Kind=2) then((nW a o.Device).bind λf=>bif(!f) then(some 17) else((bif(!(decide (b=3))) then((gE a o.Device).bind λg=>some (decide (g≠c))) else(some false)).bind λh=>bif h then(some 14) else(some 0))) else(bif decide (o.Kind=3) then((o9 a o c (decide (b=3))).bind λi=>some i) else(bif decide (o.Kind=5) then(bif(!(decide (b=3))) then(some 14) else((dS a o.Member).bind λj=>bif decide (j<0) then(some 16) else(some 0))) else(bif decide (o.Kind=6) then((se a c).bind λk=>bif decide (k<2) then(some 14) else(some 0)) else(bif decide (o.Kind=8) then((bif(!(decide (b=3))) then((gE a o.Of.By).bind λl=>some (decide (l≠c))) else(some false)).bind λm=>bif m then(some 14) else(some 0)) else(bif decide (o.Kind=9) then((AB (TF a o) 0).bind λn=>ma n (λw=>some 0) (λq=>some q)) else((bif decide (o.Kind=10) then(some true) else(some (decide (o.Kind=12)))).bind λp=>bif p then((dS a c).bind λd=>bif decide (d<0) then(some 25) else(((Bt a.L d).bind λr=>bif(!r.Is) then(some true) else((Bt a.L d).bind λs=>some (!decide (s.ID=o.Of)))).bind λt=>bif t then(some 25) else(some 0))) else((bif decide (o.Kind=11) then(some true) else(some (decide (o.Kind=13)))).bind λu=>bif u then((mB a o).bind λv=>some v) else(some 0))))))))))
theorem DO{r_ o id_}:DL prog gl (AX r_ o id_) 90 [.agg (aU r_),.agg (aJ o),.agg (aj id_)] iG:=
 cy func90 λK=>BU 15 (c9 gl) λj=>aF 18 (aF 20 (rv K)<|Ab2 111013100 (sp [] [(3,.ref 0 0)] [ob 0 150 (aU r_)] 1) [] 30 (rv K) (rv K) λk8=>aF 24 (rx k8)<|rx k8)<|BU 35 (DE gl) λq=>aF 36 (rv K)<|BU 39 (ug gl) λb=>aF 44 (BU 48 (qO gl) λr=>aF 50 (rv K)<|Ab2 11111101213110 (sp [] [(3,.ref 0 0),(4,.ref 1 0),(7,iG j),(8,bG (decide (b=3)))] [ob 0 150 (aU r_),ob 1 64 (aJ o)] 2) [] 60 (rv K) (rv K) λc=>aF 52 (BU 57 (c9 gl) λs=>rx c)<|rx c)<|aF 62 (BU 67 (Dh gl) λt=>rv K)<|aF 69 (aF 71 (rv K)<|BU 75 (dA gl) λu=>aF 76 (rv K)<|rv K)<|aF 78 (BU 81 (ug gl) λv=>aF 82 (rv K)<|rv K)<|aF 84 (Ab2 11111101214141414130 (sp [] [(3,.ref 0 0),(4,.ref 1 0),(7,iG j),(8,bG (decide (b=3)))] [ob 0 150 (aU r_),ob 1 64 (aJ o)] 2) [] 95 (rv K) (rv K) λd=>aF 86 (BU 92 (c9 gl) λw=>rx d)<|rx d)<|aF 97 (Ow 1111110121414141414131 (λe=>sg [] []) (λf=>sp [] [(3,.ref 0 0),(4,.ref 1 0),(10,iG f)] [ob 0 150 (aU r_),ob 1 64 (aJ o)] 2) [] K (λe=>rv K) λf k l m=>aF 102 (CB 110 rZ.ixZ 111 (rZ.p1Y tZ) λx=>BU 112 (DE gl) λy=>aF 113 (aP c3 m [])<|rb k)<|aA c2 l [])<|Ny 11111101214141414141401 (sp [] [(3,.ref 0 0),(4,.ref 1 0),(7,iG j),(42,iG o.Kind),(114,bG (decide (o.Kind=10)))] [ob 0 150 (aU r_),ob 1 64 (aJ o)] 2) [] 114 (BU 119 (dA gl) λn=>aF 121 (rv K)<|Ab2 11111101214141414141413110 (sg [3,4] [(11,iG n)]) [] 139 (rv K) (rv K) λg=>CB 125 bI.ixZ 127 (bI.fdY tO 2) λz=>aF 128 (rx g)<|CB 133 bI.ixZ 135 (bI.fsZ aW jz 3 Cd) λp=>aw [hV 138 (dy p.ID o.Of rfl)]<|rx g) (cN 1111110121414141414141401 (sf [7,114] [(140,bG (decide (o.Kind=11)))]) []<|cC 1111110121414141414141401 (λa=>sf [42] [(140,bG a)]) (λa=>eH [140] (BU 145 (AW gl) λA=>rv K)<|rv K) λa h=>eH [140] (rx h)<|rx h) λi=>eH [114] (rx i)<|rx i
def xx(g:Ba)(a:Bj)(at_:Int)(s3:Dl×Int):Option ((Dl×Int)⊕(Dl)):=
 bif decide (s3.2<ah a) then((Bt g.In at_).bind λb=>(Bt a s3.2).bind λc=>(Bt b c).bind λd=>bif d then((Bt a s3.2).bind λe=>(Bt g.L e).bind λf=>(Bt a s3.2).bind λh=>(Bt g.IDs h).bind λi=>(DM s3.1 f i).bind λj=>some (.inl (j,wI (s3.2+1)))) else(some (.inl (s3.1,wI (s3.2+1))))) else(some (.inr s3.1))
def Fg(g:Ba)(a:Bj)(at_:Int):Option Dl:=
 (AV g.Cards).bind λb=>(AB (xx g a at_) (b,0)).bind λc=>some c
theorem G5{g some_ at_ r}(h:Fg g some_ at_=some r):OU prog gl 250 [.agg (aI g),.rsl 0 0 some_.length,iG at_] [ob 0 3 (some_.flatMap cZ)] 1 1 (.agg (aU r)) [ob 0 3 (some_.flatMap cZ)]:=
 Yx (λr:Dl=> .agg (aU r)) (λr:Dl=>[ob 0 3 (some_.flatMap cZ)]) func250 h (λi hi=>by match i,hi with|0,_=>exact⟨_,rfl⟩) λK=>ak λw e2=>aw [hf 11 (DN gl e2)]<|rdL 11101 1110122 (λl=>sp [] [(6,.ref 1 0),(7,.ref 2 0)] [ob 1 150 (bF [0,1,2,3,5] (aU eY)),ob 2 150 (aU l)] 3) (λs3=>so [0] [(3,.ref 1 0),(6,.ref 2 0),(7,.ref 3 0),(8,iG s3.2)] [ob 1 33 (aI g),ob 2 150 (bF [0,1,2,3,5] (aU eY)),ob 3 150 (aU s3.1)] 4) [hc (el some_),hc (rZ.imm some_)] (ρ:=rI 4) (kd:=[(0,.row)]) (λl=>rdU c0 K [hc (rZ.imm some_)] [(0,0)] [(0,.row)]) λs3 m k6=>aF 15 (ak λn c=>ak λo e16=>ak λp a=>aw [AA 21 (zV.ixZ c),AA 22 (zV.p1Z Vt c),AA 25 (rZ.ixrZ 0 e16),AA 26 (rZ.p10Z tZ e16),AA 27 (rO.ixZ a)]<|kV (λb=>ak λq d=>ak λs e=>ak λt f=>ak λu j=>ak λv k=>aw [AA 28 (cB (rO.p1Z tO a) b),AA 34 (rZ.ixrZ 0 d),AA 35 (rZ.p10Z tZ d),AA 36 (eJ.ixZ e),AA 37 (eJ.ptZ GN e),AA 42 (rZ.ixrZ 0 f),AA 43 (rZ.p10Z tZ f),AA 44 (ac.ixZ j),AA 45 (ac.ptZ aW j),hf 46 (AU gl k)]<|cj m [hc (el some_),hc (rZ.imm some_)] (ρ:=rI 4) (kd:=[(0,.row)])) λb=>aw [AA 28 (cB (rO.p1Z tO a) b)]<|cj m [hc (el some_),hc (rZ.imm some_)] (ρ:=rI 4) (kd:=[(0,.row)]))<|aA c1 k6 [hc (rZ.imm some_)] (ρ:=[(0,0),(1,2),(2,3)]) (kd:=[(0,.row)])
def um(g:Ba)(l:JW)(s1:Bj×Int):Option ((Bj×Int)⊕Bj):=
 bif decide (s1.2<ah l.Row) then((Bt l.Row s1.2).bind λa=>(Bt l.Void a).bind λb=>bif b then(some (.inl (s1.1,wI (s1.2+1)))) else((Fg g s1.1 a).bind λc=>(Bt g.L a).bind λd=>(Bt g.IDs a).bind λe=>(AX c d e).bind λf=>bif decide (f=0) then((aT 8 s1.1 ([a]:Bj)).bind λh=>some (.inl (h,wI (s1.2+1)))) else(some (.inl (s1.1,wI (s1.2+1)))))) else(some (.inr s1.1))
def Sg(g:Ba)(l:JW):Option Bj:=
 (AB (um g l) ([],0)).bind λa=>some a
theorem AY{g l}:LT prog gl (Sg g l) 162 [.agg (aI g),.agg (fU l)] 3 cZ:=
 gc func162 λK=>I4 11101 (λd=>sp [] [(5,.rsl 0 0 d.length)] [ob 0 3 (d.flatMap cZ)] 1) (λs1=>sp [] [(2,.ref 0 0),(3,.ref 1 0),(5,.rsl 2 0 s1.1.length),(6,iG s1.2)] [ob 0 33 (aI g),ob 1 225 (fU l),ob 2 3 (s1.1.flatMap cZ)] 3) [hc (rZ.imm [])] (λd=>mr c0 K (rZ.imm _)) λs1 k5 h=>aF 12 (CB 18 rZ.ixZ 19 (rZ.p1Y tZ) λj=>ak λk a=>aw [AA 23 (rO.ixZ a)]<|kV (λb=>aw [AA 24 (cB (rO.p1Z tO a) b)]<|cj k5 (DF rZ s1.1)) λb=>ak λm e=>CB 32 eJ.ixZ 33 (eJ.ptZ GN) λn=>CB 37 ac.ixZ 38 (ac.ptZ aW) λo=>BU 39 (DO gl) λp=>aw [AA 24 (cB (rO.p1Z tO a) b),hz 28 [2] (wS (i:=2) (c:=3) aH (G5 gl e) (aG 20 _ aH) (rZ.imm s1.1) Cd (by rfl) (CJ (aG 20 _ aH) (w5 (CJ (aG 20 _ aH) (wZ)))))]<|aF 40 (Gq (dg 44 rZ) λf=>cj k5 (DF rZ f))<|cj k5 (DF rZ s1.1))<|aA c1 h (DF rZ s1.1)
def qR(g:Ba)(a:Ab):JP:=
 (fC g a).bind λb=>some b
theorem yG{g id_}:DL prog gl (qR g id_) 106 [.agg (aI g),.agg (aj id_)] iG:=
 cy func106 λK=>BU 7 (dX gl) λa=>rv K
def iP(g:Ba)(s1:Bj×Int)(a:Int×Int):Option ((Int×Int)⊕(Int)):=
 (Bt g.Up s1.2).bind λb=>bif decide (a.2<ah b) then((Bt g.Up s1.2).bind λc=>(Bt c a.2).bind λd=>(Bt s1.1 d).bind λe=>some (.inl (Fo a.1 (wI (1+e)),wI (a.2+1)))) else(some (.inr a.1))
def pd(g:Ba)(s1:Bj×Int):Option ((Bj×Int)⊕Bj):=
 bif decide (s1.2<ah g.L) then((AB (iP g s1) (1,0)).bind λa=>(aT 8 s1.1 ([a]:Bj)).bind λb=>some (.inl (b,wI (s1.2+1)))) else(some (.inr s1.1))
def nZ(g:Ba):Option Bj:=
 (AB (pd g) ([],0)).bind λa=>some a
theorem Fh{g}:LT prog gl (nZ g) 105 [.agg (aI g)] 3 cZ:=
 gc func105 λK=>I4 11101 (λc=>sp [] [(3,.rsl 0 0 c.length)] [ob 0 3 (c.flatMap cZ)] 1) (λs1=>sp [] [(1,.ref 0 0),(3,.rsl 1 0 s1.1.length),(4,iG s1.2)] [ob 0 33 (aI g),ob 1 3 (s1.1.flatMap cZ)] 2) [hc (rZ.imm [])] (λc=>mr c0 K (rZ.imm _)) λs1 k5 h=>aF 11 (I4 1110122102101 (λb=>sf [] [(5,iG b)]) (λa=>sf [] [(5,iG a.1),(6,iG a.2)]) (DF rZ s1.1) (λb=>Gq (dg 41 rZ) λd=>cj k5 (DF rZ d)) λa e f=>CB 18 nH.ixZ 19 (nH.p1Y Vs) λi=>aF 21 (CB 29 nH.ixZ 30 (nH.p1Y Vs) λj=>CB 32 rZ.ixZ 33 (rZ.p1Y tZ) λk=>CB 34 (rZ.ixrZ 1) 35 (rZ.p10Y tZ) λl=>cj e (DF rZ s1.1))<|aA c1 f (DF rZ s1.1))<|aA c1 h (DF rZ s1.1)
def vI(g:Ba)(l:Bj)(i:Int)(k:Int):Fp:=
 (Bt l i).bind λd=>(Bt l k).bind λe=>bif decide (d≠e) then((Bt l i).bind λf=>(Bt l k).bind λh=>some (decide (f<h))) else((Bt g.IDs i).bind λa=>(Bt g.IDs k).bind λb=>(oU a b).bind λc=>some c)
theorem G6{g l i k}:DL prog gl (vI g l i k) 107 [.agg (aI g),aE cZ l,iG i,iG k] bG:=
 cy func107 λK=>CB 11 rZ.ixZ 12 (rZ.p1Y tZ) λd=>CB 15 rZ.ixZ 16 (rZ.p1Y tZ) λe=>aF 17 (CB 20 rZ.ixZ 21 (rZ.p1Y tZ) λf=>CB 24 rZ.ixZ 25 (rZ.p1Y tZ) λh=>rv K)<|CB 30 ac.ixZ 31 (ac.ptZ aW) λa=>CB 35 ac.ixZ 36 (ac.ptZ aW) λb=>BU 37 (oV gl) λc=>rv K
def qS(g:Ba)(e:Bj)(a:Bf×Int):Option ((Bf×Int)⊕Bf):=
 bif decide (a.2<ah e) then((Bt e a.2).bind λb=>(Bt g.IDs b).bind λc=>(aT 24 a.1 [c]).bind λd=>some (.inl (d,wI (a.2+1)))) else(some (.inr a.1))
def qT(g:Ba)(f:Bj)(s3:Bj×Int)(b:Int)(a:Int):Option ((Int)⊕(Int)):=
 (bif decide (a<ah s3.1) then((Bt s3.1 a).bind λc=>(vI g f c b).bind λd=>some d) else(some false)).bind λe=>bif e then(some (.inl (wI (a+1)))) else(some (.inr a))
def qU(g:Ba)(ids:Bf)(j:Bj)(s3:Bj×Int):Option ((Bj×Int)⊕Bj):=
 bif decide (s3.2<ah ids) then((Bt ids s3.2).bind λc=>(qR g c).bind λa=>bif decide (a<0) then(some (.inl (s3.1,wI (s3.2+1)))) else((AB (qT g j s3 a) 0).bind λb=>(tq s3.1 b).bind λd=>(aT 8 ([]:Bj) d).bind λe=>(aT 8 e ([a]:Bj)).bind λf=>(mc s3.1 b).bind λh=>(aT 8 f h).bind λi=>some (.inl (i,wI (s3.2+1))))) else(some (.inr s3.1))
def n8(g:Ba)(ids:Bf):Option Bf:=
 (nZ g).bind λb=>(AB (qU g ids b) ([],0)).bind λc=>(AB (qS g c) ([],0)).bind λa=>some a
theorem G7{g ids}:LT prog gl (n8 g ids) 50 [.agg (aI g),aE aj ids] 25 aj:=
 gc func50 λK=>Jt 14 rZ (Fh gl) λp=>I4 111101 (λn=>sp [] [(2,.ref 0 0),(6,aE cZ n)] [ob 0 33 (aI g)] 1) (λs3=>so [0] [(2,.ref 0 0),(5,aE cZ p),(6,aE cZ s3.1),(7,iG s3.2)] [ob 0 33 (aI g)] 1) [] (λn=>I4 11111101 (λb=>sp [] [(11,.rsl 0 0 b.length)] [ob 0 25 (b.flatMap aj)] 1) (λa=>so [] [(11,.rsl 1 0 a.1.length),(12,iG a.2)] [ob 1 25 (a.1.flatMap aj)] 2) [hc (ac.imm [])] (λb=>mr c0 K (ac.imm _)) λa h i=>aF 62 (CB 70 rZ.ixZ 71 (rZ.p1Y tZ) λq=>CB 72 ac.ixZ 73 (ac.ptZ aW) λr=>Gq (dg 75 ac) λj=>cj h (DF ac j))<|aA c1 i (DF ac a.1)) λs3 o k6=>aF 18 (CB 24 ac.ixZ 25 (ac.ptZ aW) λs=>BU 26 (yG gl) λc=>aF 28 (rb o)<|I4 111101221021110 (λd=>sf [] [(8,iG c),(9,iG d)]) (λe=>sf [] [(8,iG c),(9,iG e)]) [] (λd=>rdv 48 rZ.preZI λt=>Gq (wX 49 rZ) λu=>Gq (dg 53 rZ) λv=>rdv 57 rZ.sufZI λw=>Gq (eu 58 rZ) λk=>cj o [hc (rZ.al k)]) λe l m=>Ny 1111012210211102200 (sf [] []) [] 42 (rb l) (aA c1 m []) λf=>aF 32 (CB 38 rZ.ixZ 39 (rZ.p1Y tZ) λx=>BU 41 (G6 gl) λy=>rx f)<|rx f)<|aA c1 k6 []
def LJ(o:Bq):JP:=
 bif decide (o.Kind=1) then(some o.By) else((bif decide (o.Kind=2) then(some true) else(some (decide (o.Kind=13)))).bind λa=>bif a then(some o.Device) else(some 0))
theorem Pk{o}:DL prog gl (LJ o) 177 [.agg (aJ o)] iG:=
 cy func177 λK=>aF 5 (rv K)<|Ny 11100 (sp [] [(1,.ref 0 0)] [ob 0 64 (aJ o)] 1) [] 15 (rv K) (rv K) λk5=>aF 10 (rx k5)<|rx k5
end
section
set_option maxHeartbeats 2000000
def nk(g:Ba)(i:Bf)(s3:Bj×Int):Option ((Bj×Int)⊕Bj):=
 bif decide (s3.2<ah i) then((Bt i s3.2).bind λb=>(qR g b).bind λc=>(Bt g.L c).bind λd=>(LJ d).bind λa=>(bif decide (0<a) then((fb s3.1 a).bind λe=>some (!e)) else(some false)).bind λf=>bif f then((aT 8 s3.1 ([a]:Bj)).bind λh=>some (.inl (h,wI (s3.2+1)))) else(some (.inl (s3.1,wI (s3.2+1))))) else(some (.inr s3.1))
def jn(g:Ba)(ids:Bf):Option Bj:=
 (n8 g ids).bind λa=>(AB (nk g a) ([],0)).bind λb=>some b
theorem Di{g ids}:LT prog gl (jn g ids) 93 [.agg (aI g),aE aj ids] 3 cZ:=
 gc func93 λK=>Jt 11 ac (G7 gl) λh=>I4 111101 (λc=>sp [] [(6,.rsl 0 0 c.length)] [ob 0 3 (c.flatMap cZ)] 1) (λs3=>sp [] [(2,.ref 0 0),(5,aE aj h),(6,.rsl 1 0 s3.1.length),(7,iG s3.2)] [ob 0 33 (aI g),ob 1 3 (s3.1.flatMap cZ)] 2) [hc (rZ.imm [])] (λc=>mr c0 K (rZ.imm _)) λs3 f k6=>aF 15 (CB 23 ac.ixZ 24 (ac.ptZ aW) λi=>BU 25 (yG gl) λj=>CB 26 eJ.ixZ 27 (eJ.ptZ GN) λk=>BU 28 (Pk gl) λa=>Ny 1111012210210 (sf [] [(8,iG a)]) (DF rZ s3.1) 36 (Gq (dg 40 rZ) λd=>cj f (DF rZ d)) (cj f (DF rZ s3.1)) λb=>aF 30 (ak λl e=>aw [hq 34 [aE cZ s3.1,iG a] [hc (rZ.al s3.1)] (DE gl e)]<|aA c0 b (DF rZ s3.1))<|aA c0 b (DF rZ s3.1))<|aA c1 k6 (DF rZ s3.1)
def un(ids:Bf)(s1:Bf×Int):Option ((Bf×Int)⊕Bf):=
 bif decide (s1.2<ah ids) then((Bt ids s1.2).bind λb=>(qN ids b.By).bind λa=>(bif decide (0<a) then((Bt ids s1.2).bind λc=>some (decide (a<=c.Seq))) else(some false)).bind λd=>bif d then((Bt ids s1.2).bind λe=>(aT 24 s1.1 [e]).bind λf=>some (.inl (f,wI (s1.2+1)))) else(some (.inl (s1.1,wI (s1.2+1))))) else(some (.inr s1.1))
def vJ(ids:Bf):Option Bf:=
 (AB (un ids) ([],0)).bind λb=>(iu b).bind λa=>some a
theorem JC{ids}:LT prog gl (vJ ids) 312 [aE aj ids] 25 aj:=
 gc func312 λK=>I4 11101 (λc=>sg [] [(3,aE aj c)]) (λs1=>so [] [(3,.rsl 0 0 s1.1.length),(4,iG s1.2)] [ob 0 25 (s1.1.flatMap aj)] 1) [hc (ac.imm [])] (λc=>ak λd e=>aw [ho 38 [aE aj c] [] (iO gl e) (kF d)]<|mr c0 K (ac.imm _)) λs1 k5 h=>aF 9 (CB 15 ac.ixZ 17 (ac.fdY tZ 0) λi=>BU 18 (yF gl) λf=>cN 111012210210 (sf [] [(5,iG f)]) (DF ac s1.1)<|cC 111012210210 (λa=>sf [5] [(29,bG a)]) (λa=>eH [29] (CB 33 ac.ixZ 34 (ac.ptZ aW) λj=>Gq (dg 36 ac) λg=>cj k5 (DF ac g))<|cj k5 (DF ac s1.1)) λa b=>aF 20 (CB 24 ac.ixZ 26 (ac.fdY tZ 1) λk=>aA c0 b (DF ac s1.1))<|aA c0 b (DF ac s1.1))<|aA c1 h [hc (ac.al s1.1)]
def uo(g:Ba)(b:Bf)(a:List Bool×List Bool×Int):Option ((List Bool×List Bool×Int)⊕(List Bool×List Bool)):=
 bif decide (a.2.2<ah b) then((Bt b a.2.2).bind λd=>(fC g d).bind λc=>(ji a.1 c true).bind λe=>(ji a.2.1 c true).bind λf=>some (.inl (e,f,wI (a.2.2+1)))) else(some (.inr (a.1,a.2.1)))
def uq(g:Ba)(e:Bf)(a:Bj×Int):Option ((Bj×Int)⊕Bj):=
 bif decide (a.2<ah e) then((Bt e a.2).bind λb=>(fC g b).bind λc=>(aT 8 a.1 ([c]:Bj)).bind λd=>some (.inl (d,wI (a.2+1)))) else(some (.inr a.1))
def Aa(g:Ba)(ids:Bf):Option JW:=
 (n8 g ids).bind λd=>(rP 1 (false:Bool) (ah g.L)).bind λe=>(rP 1 (false:Bool) (ah g.L)).bind λf=>(rP 1 (false:Bool) (ah g.L)).bind λh=>(AB (uq g d) ([],0)).bind λb=>(vJ ids).bind λc=>(AB (uo g c) (e,f,0)).bind λa=>some ⟨b,a.1,a.2,h⟩
theorem JE{g ids r}(h:Aa g ids=some r):OU prog gl 251 [.agg (aI g),aE aj ids] [] 0 0 (.agg [.rsl 0 0 r.Row.length,.rsl 1 0 r.Void.length,.rsl 2 0 r.Fork.length,.rsl 3 0 r.Decided.length]) [ob 0 3 (r.Row.flatMap cZ),ob 1 4 (r.Void.flatMap cO),ob 2 4 (r.Fork.flatMap cO),ob 3 4 (r.Decided.flatMap cO)]:=
 Yx (λr:JW=> .agg [.rsl 0 0 r.Row.length,.rsl 1 0 r.Void.length,.rsl 2 0 r.Fork.length,.rsl 3 0 r.Decided.length]) (λr:JW=>[ob 0 3 (r.Row.flatMap cZ),ob 1 4 (r.Void.flatMap cO),ob 2 4 (r.Fork.flatMap cO),ob 3 4 (r.Decided.flatMap cO)]) func251 h (λi hi=>absurd hi (Nat.not_lt_zero i)) λK=>Jt 13 ac (G7 gl) λt=>Gq (hmk 17 rO) λe=>Gq (hmk 22 rO) λf=>Gq (hmk 27 rO) λb=>I4 111111101 (λa=>so [0] [(2,.ref 0 0),(4,.ref 1 0),(5,.ref 2 0)] [ob 0 33 (aI g),ob 1 225 (bF [0,1,2,3] (fU AC)),ob 2 225 [.rsl 3 0 a.length,.rsl 4 0 e.length,.rsl 5 0 f.length,.rsl 6 0 b.length],ob 3 3 (a.flatMap cZ),ob 4 4 (e.flatMap cO),ob 5 4 (f.flatMap cO),ob 6 4 (b.flatMap cO)] 7) (λl=>so [0] [(2,.ref 0 0),(4,.ref 1 0),(5,.ref 2 0),(6,aE aj t),(7,iG l.2)] [ob 0 33 (aI g),ob 1 225 (bF [0,1,2,3] (fU AC)),ob 2 225 [.rsl 3 0 l.1.length,.rsl 4 0 e.length,.rsl 5 0 f.length,.rsl 6 0 b.length],ob 3 3 (l.1.flatMap cZ),ob 4 4 (e.flatMap cO),ob 5 4 (f.flatMap cO),ob 6 4 (b.flatMap cO)] 7) [hc (el e),hc (el f),hc (el b),hc (rZ.imm []),hc (rO.imm e),hc (rO.imm f),hc (rO.imm b)] (λa=>Jt 47 ac (JC gl) λp=>I4 11111111101 (λd=>sk [] [(4,.ref 0 0),(5,.ref 1 0)] [ob 0 225 (bF [0,1,2,3] (fU AC)),ob 1 225 [.rsl 2 0 a.length,.rsl 3 0 d.1.length,.rsl 4 0 d.2.length,.rsl 5 0 b.length],ob 2 3 (a.flatMap cZ),ob 3 4 (d.1.flatMap cO),ob 4 4 (d.2.flatMap cO),ob 5 4 (b.flatMap cO)] 6) (λc=>so [1] [(8,aE aj p),(9,iG c.2.2)] [ob 2 225 [.rsl 3 0 a.length,.rsl 4 0 c.1.length,.rsl 5 0 c.2.1.length,.rsl 6 0 b.length],ob 4 4 (c.1.flatMap cO),ob 5 4 (c.2.1.flatMap cO)] 7) [hc (el a),hc (el e),hc (el f),hc (el b),hc (rZ.imm a),hc (rO.imm e),hc (rO.imm f),hc (rO.imm b)] (λd=>rdU c0 K [hc (el a),hc (el d.1),hc (el d.2),hc (el b),hc (rZ.imm a),hc (rO.imm d.1),hc (rO.imm d.2),hc (rO.imm b)] [(0,2),(1,3),(2,4),(3,5)] [(0,.row),(1,.row),(2,.row),(3,.row)]) λc q s=>aF 51 (CB 57 ac.ixZ 58 (ac.ptZ aW) λu=>BU 59 (dX gl) λv=>ak λm j=>ak λn k=>aw [AA 63 (rO.ixsZ 4 j),hw 63 (m.flatMap cO) (rO.putZ j),AA 67 (rO.ixsZ 5 k),hw 67 (n.flatMap cO) (rO.putZ k)]<|cj q [hc (el a),hc (hZ j),hc (hZ k),hc (el b),hc (rZ.imm a),hc (rO.imm m),hc (rO.imm n),hc (rO.imm b)])<|aA c1 s [hc (el a),hc (el c.1),hc (el c.2.1),hc (el b),hc (rZ.imm a),hc (rO.imm c.1),hc (rO.imm c.2.1),hc (rO.imm b)]) λl k13 k12=>aF 32 (CB 40 ac.ixZ 41 (ac.ptZ aW) λw=>BU 42 (dX gl) λx=>Gq (dg 44 rZ) λo=>cj k13 [hc (el o),hc (el e),hc (el f),hc (el b),hc (rZ.imm o),hc (rO.imm e),hc (rO.imm f),hc (rO.imm b)])<|aA c1 k12 [hc (el l.1),hc (el e),hc (el f),hc (el b),hc (rZ.imm l.1),hc (rO.imm e),hc (rO.imm f),hc (rO.imm b)]
def NQ(g:Ba)(l:JW)(at_:Int):Fp:=
 (Bt g.L at_).bind λa=>((Bt l.Void at_).bind λc=>bif(!c) then((Bt l.Decided at_).bind λb=>bif(!b) then(bif decide (a.Kind=3) then(some true) else(bif decide (a.Kind=13) then(some true) else(some (decide (a.Kind=12))))) else(some false)) else(some false)).bind λd=>some d
theorem lC{g l at_}:DL prog gl (NQ g l at_) 254 [.agg (aI g),.agg (fU l),iG at_] bG:=
 cy func254 λK=>CB 11 eJ.ixZ 13 (eJ.fdY tZ 2) λc=>cN 1110 (sp [2] [(4,.ref 0 0),(7,iG c.Kind)] [ob 0 225 (fU l)] 1) []<|cC 1110 (λb=>sk [] [(6,bG b)] [] 0) (λb=>rv K) λb a=>CB 17 rO.ixZ 18 (rO.p1Y tO) λe=>aF 19 (CB 24 rO.ixZ 25 (rO.p1Y tO) λd=>aF 27 (aF 30 (rx a)<|aF 34 (rx a)<|rx a)<|rx a)<|rx a
def n9(g:Ba)(c:Int)(y:Int):Fp:=
 (Bt g.L c).bind λa=>(Bt g.L y).bind λb=>(bif decide (c=y) then(some true) else((Bt g.In c).bind λd=>(Bt d y).bind λe=>bif e then(some true) else((Bt g.In y).bind λf=>(Bt f c).bind λh=>some h))).bind λl=>bif l then(some false) else((bif decide (a.Kind=3) then(some (decide (a.Device≠0))) else(some false)).bind λm=>bif m then(some (decide (b.By=a.Device))) else(bif decide (a.Kind=3) then((nT g b.By).bind λi=>some (decide (i=a.Member))) else(bif decide (a.Kind=13) then((bif decide (b.By=a.Old) then(bif decide (b.Kind≠12) then(some true) else(some (!decide (b.Of=a.Of)))) else(some false)).bind λj=>some j) else((bif decide (a.Kind=12) then(bif decide (b.Kind=13) then(bif decide (a.Of=b.Of) then(some (decide (a.At<=b.At))) else(some false)) else(some false)) else(some false)).bind λk=>some k))))
theorem mC{g x_ y}:DL prog gl (n9 g x_ y) 253 [.agg (aI g),iG x_,iG y] bG:=
 cy func253 λK=>CB 12 eJ.ixZ 13 (eJ.ptZ GN) λf=>CB 17 eJ.ixZ 18 (eJ.ptZ GN) λh=>cN 111100 (so [0] [(3,.ref 0 0),(7,.ref 1 0),(8,.ref 2 0)] [ob 0 33 (aI g),ob 1 64 (aJ f),ob 2 64 (aJ h)] 3) []<|cC 111100 (λj=>sf [1,2] [(41,bG j)]) (λj=>eH [41] (rv K)<|Ny 1111100 (sf [41] []) [] 49 (rv K) (aF 57 (BU 61 (vE gl) λk=>rv K)<|aF 67 (cN 11111110130 (sk [] [(7,.ref 0 0),(8,.ref 1 0)] [ob 0 64 (aJ f),ob 1 64 (aJ h)] 2) []<|cC 11111110130 (λb=>sk [] [(6,bG b)] [] 0) (λb=>rv K) λb c=>aF 72 (aF 76 (rx c)<|aw [hV 82 (dy h.Of f.Of rfl)]<|rx c)<|rx c)<|cN 111111110 (sk [] [(7,.ref 0 0),(8,.ref 1 0)] [ob 0 64 (aJ f),ob 1 64 (aJ h)] 2) []<|cC 111111110 (λd=>sk [] [(6,bG d)] [] 0) (λd=>rv K) λd a=>aF 87 (aF 92 (aw [hV 98 (dU f.Of h.Of rfl)]<|aF 99 (rx a)<|rx a)<|rx a)<|rx a) λi=>aF 44 (rx i)<|rx i) λj e=>aF 21 (rx e)<|CB 26 zV.ixZ 27 (zV.p1Y Vt) λl=>CB 29 rO.ixZ 30 (rO.p1Y tO) λm=>aF 31 (rx e)<|CB 36 zV.ixZ 37 (zV.p1Y Vt) λn=>CB 39 rO.ixZ 40 (rO.p1Y tO) λo=>rx e
def qV(g:Ba)(l:JW)(h:Int)(y:Int)(s2:Int):Option ((Int)⊕(Unit⊕Bool)):=
 bif decide (s2<ah l.Row) then((Bt l.Row s2).bind λa=>(bif decide (a=h) then((n9 g y a).bind λb=>some b) else((Bt g.In h).bind λc=>(Bt c a).bind λd=>bif d then((n9 g y a).bind λe=>some e) else(some false))).bind λf=>bif f then(some (.inr (.inr true))) else(some (.inl (wI (s2+1))))) else(some (.inr (.inl ())))
def qW(g:Ba)(l:JW)(a:Int)(y:Int):Fp:=
 bif decide (a=y) then(some false) else((AB (qV g l a y) 0).bind λb=>ma b (λc=>some false) (λq=>some q))
theorem yI{g l x_ y}:DL prog gl (qW g l x_ y) 255 [.agg (aI g),.agg (fU l),iG x_,iG y] bG:=
 cy func255 λK=>aF 13 (rv K)<|Ow 11101 (λc=>sg [] []) (λs2=>so [0,1] [(4,.ref 0 0),(5,.ref 1 0),(9,iG s2)] [ob 0 33 (aI g),ob 1 225 (fU l)] 2) [] K (λc=>rv K) λs2 k6 k5 e=>aF 18 (CB 24 rZ.ixZ 25 (rZ.p1Y tZ) λd=>cN 111012210210 (sf [] [(10,iG d)]) []<|cC 111012210210 (λa=>sf [10] [(44,bG a)]) (λa=>eH [44] (aP c3 e [])<|rb k6) λa b=>aF 28 (BU 43 (mC gl) λf=>rx b)<|CB 33 zV.ixZ 34 (zV.p1Y Vt) λh=>CB 36 rO.ixZ 37 (rO.p1Y tO) λi=>aF 38 (BU 43 (mC gl) λj=>rx b)<|rx b)<|aA c2 k5 []
def ph(a:Bj)(device:Int)(s1:Int):Option ((Int)⊕(Unit⊕Int)):=
 bif decide (s1<ah a) then((Bt a s1).bind λb=>bif decide (b=device) then(some (.inr (.inr s1))) else(some (.inl (wI (s1+1))))) else(some (.inr (.inl ())))
def oa(a:Bj)(device:Int):JP:=
 (AB (ph a device) 0).bind λb=>ma b (λc=>some (ah a)) (λq=>some q)
theorem vK{a device}:DL prog gl (oa a device) 313 [aE cZ a,iG device] iG:=
 cy func313 λK=>Ow 1101 (λb=>sf [1] []) (λs1=>sf [] [(5,iG s1)]) [] K (λb=>rv K) λs1 k5 c k6=>aF 9 (CB 14 rZ.ixZ 15 (rZ.p1Y tZ) λd=>aF 17 (aP c3 k6 [])<|rb k5)<|aA c2 c []
def ut(g:Ba)(l:JW)(b:Int)(a:Bool×Int):Option ((Bool×Int)⊕(Bool)):=
 bif decide (a.2<ah l.Row) then(((Bt l.Row a.2).bind λc=>(NQ g l c).bind λd=>bif d then((Bt l.Row a.2).bind λe=>(qW g l b e).bind λf=>some f) else(some false)).bind λh=>bif h then(some (.inl (false,wI (a.2+1)))) else(some (.inl (a.1,wI (a.2+1))))) else(some (.inr a.1))
def uu(g:Ba)(l:JW)(a:Bj)(s1:Int×Int):Option ((Int×Int)⊕(Int⊕Int)):=
 bif decide (s1.2<ah l.Row) then((Bt l.Row s1.2).bind λb=>(NQ g l b).bind λc=>bif(!c) then(some (.inl (s1.1,wI (s1.2+1)))) else((AB (ut g l b) (true,0)).bind λd=>bif d then(some (.inr (.inr b))) else((bif decide (s1.1<0) then(some true) else((Bt g.L b).bind λe=>(oa a e.By).bind λf=>(Bt g.L (Fo s1.1 0)).bind λh=>(oa a h.By).bind λi=>some (decide (f<i)))).bind λj=>bif j then(some (.inl (b,wI (s1.2+1)))) else(some (.inl (s1.1,wI (s1.2+1))))))) else(some (.inr (.inl s1.1)))
def vL(g:Ba)(l:JW)(a:Bj):JP:=
 (AB (uu g l a) ((-1),0)).bind λc=>ma c (λb=>some b) (λq=>some q)
theorem AZ{g l a}:DL prog gl (vL g l a) 252 [.agg (aI g),.agg (fU l),aE cZ a] iG:=
 cy func252 λK=>Ow 11101 (λd=>sg [] [(7,iG d)]) (λs1=>sp [2] [(3,.ref 0 0),(4,.ref 1 0),(7,iG s1.1),(8,iG s1.2)] [ob 0 33 (aI g),ob 1 225 (fU l)] 2) [] K (λd=>rv K) λs1 k5 n k6=>aF 16 (CB 22 rZ.ixZ 23 (rZ.p1Y tZ) λe=>BU 27 (lC gl) λo=>aF 28 (rb k5)<|I4 111012210211101 (λf=>sf [] [(9,iG e),(10,bG f)]) (λb=>sf [] [(9,iG e),(10,bG b.1),(11,iG b.2)]) [] (λf=>aF 55 (aP c3 k6 [])<|Ny 1110122102111110 (sf [10] []) [] 78 (rb k5) (rb k5) λh=>aF 58 (rx h)<|CB 64 eJ.ixZ 66 (eJ.fdY tZ 0) λp=>BU 67 (vK gl) λq=>CB 73 eJ.ixZ 75 (eJ.fdY tZ 0) λr=>BU 76 (vK gl) λs=>rx h) λb i m=>aF 33 (Ny 111012210211101221020 (sf [] []) [] 54 (rb i) (rb i) λj=>CB 41 rZ.ixZ 42 (rZ.p1Y tZ) λt=>ak λu k=>kV (λc=>CB 51 rZ.ixZ 52 (rZ.p1Y tZ) λv=>BU 53 (yI gl) λw=>aw [hf 43 (cF (lC gl k) c)]<|rx j) λc=>aw [hf 43 (cF (lC gl k) c)]<|rx j)<|aA c1 m [])<|aA c2 n []
end
section
set_option maxHeartbeats 2000000
def ng(b:Bj)(a:List Bool×Int):Option ((List Bool×Int)⊕(List Bool)):=
 bif decide (a.2<ah b) then((Bt b a.2).bind λc=>(ji a.1 c true).bind λd=>some (.inl (d,wI (a.2+1)))) else(some (.inr a.1))
def nh(g:Ba)(d:JW)(c:List Bool×List Bool×Int)(a:Bj×Int):Option ((Bj×Int)⊕Bj):=
 bif decide (a.2<ah d.Row) then((Bt d.Row a.2).bind λb=>((n9 g c.2.2 b).bind λe=>bif e then(some true) else((NQ g ({d with Void:=c.1,Decided:=c.2.1}) b).bind λf=>bif f then((qW g ({d with Void:=c.1,Decided:=c.2.1}) c.2.2 b).bind λh=>some h) else(some false)):Fp).bind λi=>bif i then((aT 8 a.1 ([b]:Bj)).bind λj=>some (.inl (j,wI (a.2+1)))) else(some (.inl (a.1,wI (a.2+1))))) else(some (.inr a.1))
def tw(g:Ba)(d:JW)(k:Bj)(a:List Bool×List Bool×Int):Option ((List Bool×List Bool×Int)⊕(List Bool×List Bool)):=
 bif decide (0<=a.2.2) then((Sg g ({d with Void:=a.1,Decided:=a.2.1})).bind λe=>(fb e a.2.2).bind λf=>(AB (nh g d a) ([],0)).bind λh=>(bif(!f) then(some ([a.2.2]:Bj)) else(some h)).bind λi=>(ji a.2.1 a.2.2 true).bind λb=>(AB (ng i) (a.1,0)).bind λc=>(vL g ({d with Void:=c,Decided:=b}) k).bind λj=>some (.inl (c,b,j))) else(some (.inr (a.1,a.2.1)))
def oR(g:Ba)(ids:Bf):Option JW:=
 (Aa g ids).bind λa=>(jn g ids).bind λb=>(vL g a b).bind λd=>(AB (tw g a b) (a.Void,a.Decided,d)).bind λc=>some ({a with Void:=c.1,Decided:=c.2})
theorem Db{g ids}:DL prog gl (oR g ids) 163 [.agg (aI g),aE aj ids] (λr=> .agg (fU r)):=
 cy func163 λK=>ak λe e2=>Jt 18 rZ (Di gl) λz=>ak λQ e6=>aw [hz 15 [] (Ts (c:=2) aH (JE gl e2) (eB aH) rn4 (rZ.imm e.Row) (rO.imm e.Void) (rO.imm e.Fork) (rO.imm e.Decided)),hq 22 [.agg (aI g),.agg (fU e),aE cZ z] [hc (rZ.al e.Row),hc (rO.al e.Void),hc (rO.al e.Fork),hc (rO.al e.Decided)] (AZ gl e6)]<|I4 111110 (λA=>sp [] [(4,.ref 0 0),(5,.ref 1 0)] [ob 0 225 (bF [0,1,2,3] (fU AC)),ob 1 225 (fU ({e with Void:=A.1,Decided:=A.2}))] 2) (λa=>sp [] [(2,.ref 0 0),(4,.ref 1 0),(5,.ref 2 0),(6,aE cZ z),(7,iG a.2.2)] [ob 0 33 (aI g),ob 1 225 (bF [0,1,2,3] (fU AC)),ob 2 225 [aE cZ e.Row,.rsl 3 0 a.1.length,aE cO e.Fork,.rsl 4 0 a.2.1.length],ob 3 4 (a.1.flatMap cO),ob 4 4 (a.2.1.flatMap cO)] 5) [hc (rZ.al e.Row),hc (el e.Void),hc (rO.al e.Fork),hc (el e.Decided),hc (rO.imm e.Void),hc (rO.imm e.Decided)] (λA=>rv K) λa k11 B=>aF 24 (ak λj C=>ak λk D=>aw [ho 27 [.agg (aI g),.agg (fU ({e with Void:=a.1,Decided:=a.2.1}))] [hc (rO.al a.1),hc (rO.al a.2.1)] (AY gl C) (lZ j),hq 29 [aE cZ j,iG a.2.2] [hc (rZ.al j)] (DE gl D)]<|I4 11111022121101 (λs=>sf [] [(8,bG k),(9,aE cZ s)]) (λb=>so [] [(8,bG k),(9,.rsl 5 0 b.1.length),(10,iG b.2)] [ob 5 3 (b.1.flatMap cZ)] 6) [hc (el a.1),hc (el a.2.1),hc (rO.imm a.1),hc (rO.imm a.2.1),hc (rZ.imm [])] (λs=>cN 111110221211101 (sf [8] [(64,bG (!k))]) [hc (el a.1),hc (el a.2.1),hc (rO.imm a.1),hc (rO.imm a.2.1)]<|cC 111110221211101 (λl=>sf [64] [(9,aE cZ l)]) (λl=>ak λd m=>aw [AA 70 (rO.ixsZ 4 m),hw 70 (d.flatMap cO) (rO.putZ m)]<|I4 11111022121111101 (λf=>so [7,9] [] [ob 2 225 [aE cZ e.Row,.rsl 3 0 f.length,aE cO e.Fork,.rsl 4 0 d.length],ob 3 4 (f.flatMap cO),ob 4 4 (d.flatMap cO)] 5) (λh=>so [7] [(12,iG h.2)] [ob 2 225 [aE cZ e.Row,.rsl 3 0 h.1.length,aE cO e.Fork,.rsl 4 0 d.length],ob 3 4 (h.1.flatMap cO),ob 4 4 (d.flatMap cO)] 5) [hc (el a.1),hc (hZ m),hc (rO.imm a.1),hc (rO.imm d)] (λf=>ak λL E=>aw [hq 87 [.agg (aI g),.agg (fU ({e with Void:=f,Decided:=d})),aE cZ z] [hc (rO.al f),hc (rO.al d)] (AZ gl E)]<|cj k11 [hc (el f),hc (el d),hc (rO.imm f),hc (rO.imm d)]) λh F H=>aF 74 (CB 81 rZ.ixZ 82 (rZ.p1Y tZ) λM=>ak λt n=>aw [AA 83 (rO.ixsZ 3 n),hw 83 (t.flatMap cO) (rO.putZ n)]<|cj F [hc (hZ n),hc (el d),hc (rO.imm t),hc (rO.imm d)])<|aA c1 H [hc (el h.1),hc (el d),hc (rO.imm h.1),hc (rO.imm d)]) λl u=>eH [64] (aA c0 u [hc (rZ.al ([a.2.2]:Bj)),hc (el a.1),hc (el a.2.1),hc (rO.imm a.1),hc (rO.imm a.2.1)])<|aA c0 u [hc (el a.1),hc (el a.2.1),hc (rO.imm a.1),hc (rO.imm a.2.1)]) λb v I=>aF 34 (CB 40 rZ.ixZ 41 (rZ.p1Y tZ) λi=>Ny 111110221211012210210 (sf [] [(11,iG i)]) [hc (el b.1),hc (el a.1),hc (el a.2.1),hc (rO.imm a.1),hc (rO.imm a.2.1),hc (rZ.imm b.1)] 58 (Gq (dg 62 rZ) λw=>cj v [hc (el w),hc (el a.1),hc (el a.2.1),hc (rO.imm a.1),hc (rO.imm a.2.1),hc (rZ.imm w)]) (cj v [hc (el b.1),hc (el a.1),hc (el a.2.1),hc (rO.imm a.1),hc (rO.imm a.2.1),hc (rZ.imm b.1)]) λo=>ak λN x=>kV (λp=>aw [hf 45 (cF (mC gl x) p)]<|aA c0 o [hc (el b.1),hc (el a.1),hc (el a.2.1),hc (rO.imm a.1),hc (rO.imm a.2.1),hc (rZ.imm b.1)]) λp=>ak λO y=>aw [hf 45 (cF (mC gl x) p)]<|kV (λq=>ak λP J=>aw [hq 50 [.agg (aI g),.agg (fU ({e with Void:=a.1,Decided:=a.2.1})),iG i] [hc (rO.al a.1),hc (rO.al a.2.1)] (cF (lC gl y) q),hq 56 [.agg (aI g),.agg (fU ({e with Void:=a.1,Decided:=a.2.1})),iG a.2.2,iG i] [hc (rO.al a.1),hc (rO.al a.2.1)] (yI gl J)]<|aA c0 o [hc (el b.1),hc (el a.1),hc (el a.2.1),hc (rO.imm a.1),hc (rO.imm a.2.1),hc (rZ.imm b.1)]) λq=>aw [hq 50 [.agg (aI g),.agg (fU ({e with Void:=a.1,Decided:=a.2.1})),iG i] [hc (rO.al a.1),hc (rO.al a.2.1)] (cF (lC gl y) q)]<|aA c0 o [hc (el b.1),hc (el a.1),hc (el a.2.1),hc (rO.imm a.1),hc (rO.imm a.2.1),hc (rZ.imm b.1)])<|aA c1 I [hc (rZ.al b.1),hc (el a.1),hc (el a.2.1),hc (rO.imm a.1),hc (rO.imm a.2.1)])<|aA c1 B [hc (rO.al a.1),hc (rO.al a.2.1)]
def tQ(g:Ba)(b:Bj)(a:Dl×Int):Option ((Dl×Int)⊕(Dl)):=
 bif decide (a.2<ah b) then((Bt b a.2).bind λc=>(Bt g.L c).bind λd=>(Bt b a.2).bind λe=>(Bt g.IDs e).bind λf=>(DM a.1 d f).bind λh=>some (.inl (h,wI (a.2+1)))) else(some (.inr a.1))
def zY(g:Ba)(ids:Bf):Option Dl:=
 (AV g.Cards).bind λa=>(oR g ids).bind λb=>(Sg g b).bind λc=>(AB (tQ g c) (a,0)).bind λd=>some d
theorem Jh{g ids}:DL prog gl (zY g ids) 89 [.agg (aI g),aE aj ids] (λr=> .agg (aU r)):=
 cy func89 λK=>BU 10 (DN gl) λk=>BU 14 (Db gl) λl=>Jt 15 rZ (AY gl) λd=>I4 111101 (λc=>sp [] [(4,.ref 0 0),(5,.ref 1 0)] [ob 0 150 (bF [0,1,2,3,5] (aU eY)),ob 1 150 (aU c)] 2) (λa=>sp [] [(2,.ref 0 0),(4,.ref 1 0),(5,.ref 2 0),(6,aE cZ d),(7,iG a.2)] [ob 0 33 (aI g),ob 1 150 (bF [0,1,2,3,5] (aU eY)),ob 2 150 (aU a.1)] 3) [] (λc=>rv K) λa k11 b=>aF 19 (CB 27 rZ.ixZ 28 (rZ.p1Y tZ) λe=>CB 29 eJ.ixZ 30 (eJ.ptZ GN) λf=>CB 35 rZ.ixZ 36 (rZ.p1Y tZ) λh=>CB 37 ac.ixZ 38 (ac.ptZ aW) λi=>BU 39 (AU gl) λj=>rb k11)<|aA c1 b []
def lu(b:Dl):Option Bj:=
 (lg b.In).bind λa=>some a
theorem Dc{r_}:LT prog gl (lu r_) 91 [.agg (aU r_)] 3 cZ:=
 gc func91 λK=>ak λa e2=>aw [ho 5 [aE cZ r_.In] [] (vH gl e2) (lZ a)]<|mr c0 K (rZ.imm _)
def qm(b:Bj)(c:Bj)(a:Bj×Int):Option ((Bj×Int)⊕Bj):=
 bif decide (a.2<ah b) then((Bt b a.2).bind λd=>(fb c d).bind λe=>bif(!e) then((Bt b a.2).bind λf=>(aT 8 a.1 ([f]:Bj)).bind λg=>some (.inl (g,wI (a.2+1)))) else(some (.inl (a.1,wI (a.2+1))))) else(some (.inr a.1))
def qn(c:Bj)(b:Bj)(a:Bj×Int):Option ((Bj×Int)⊕Bj):=
 bif decide (a.2<ah b) then((Bt b a.2).bind λd=>(fb c d).bind λe=>bif e then((Bt b a.2).bind λf=>(aT 8 a.1 ([f]:Bj)).bind λg=>some (.inl (g,wI (a.2+1)))) else(some (.inl (a.1,wI (a.2+1))))) else(some (.inr a.1))
def qo(g:Ba)(o:Bq):Option Bj:=
 (Mj g o.Past).bind λd=>(qN d o.By).bind λj=>(bif decide (0<j) then(some (decide (j<=o.Seq))) else(some false)).bind λl=>bif l then(some []) else((zY g d).bind λk=>(pV o).bind λa=>(AX k o a).bind λe=>bif decide (e≠0) then(some []) else((DM k o a).bind λf=>(lu f).bind λb=>(jn g d).bind λc=>(AB (qn b c) ([],0)).bind λh=>(AB (qm b c) (h,0)).bind λi=>some i))
theorem GU{g o}:LT prog gl (qo g o) 39 [.agg (aI g),.agg (aJ o)] 3 cZ:=
 gc func39 λK=>Jt 17 ac (ua gl) λs=>BU 21 (yF gl) λt=>cN 111100 (sp [] [(2,.ref 0 0),(3,.ref 1 0),(5,aE aj s),(6,iG t)] [ob 0 33 (aI g),ob 1 64 (aJ o)] 2) []<|cC 111100 (λm=>sf [6] [(29,bG m)]) (λm=>eH [29] (mr c0 K (rZ.imm _))<|BU 32 (Jh gl) λD=>BU 34 (AI gl) λu=>BU 38 (DO gl) λv=>aF 39 (mr c0 K (rZ.imm _))<|BU 43 (AU gl) λw=>Jt 44 rZ (Dc gl) λf=>Jt 47 rZ (Di gl) λh=>I4 1111111111101 (λc=>sk [] [(9,aE cZ f),(10,aE cZ h),(11,.rsl 0 0 c.length)] [ob 0 3 (c.flatMap cZ)] 1) (λa=>sk [] [(9,aE cZ f),(10,aE cZ h),(11,.rsl 0 0 a.1.length),(12,iG a.2)] [ob 0 3 (a.1.flatMap cZ)] 1) [hc (rZ.imm [])] (λc=>I4 11111111111101 (λd=>sp [] [(11,.rsl 0 0 d.length)] [ob 0 3 (d.flatMap cZ)] 1) (λb=>so [] [(11,.rsl 0 0 b.1.length),(13,iG b.2)] [ob 0 3 (b.1.flatMap cZ)] 1) (DF rZ c) (λd=>mr c0 K (rZ.imm _)) λb i n=>aF 70 (CB 76 rZ.ixZ 77 (rZ.p1Y tZ) λx=>BU 78 (DE gl) λy=>aF 79 (CB 83 rZ.ixZ 84 (rZ.p1Y tZ) λz=>Gq (dg 86 rZ) λp=>cj i (DF rZ p))<|cj i (DF rZ b.1))<|aA c1 n (DF rZ b.1)) λa j q=>aF 51 (CB 57 rZ.ixZ 58 (rZ.p1Y tZ) λA=>ak λB k=>kV (λe=>CB 63 rZ.ixZ 64 (rZ.p1Y tZ) λC=>Gq (dg 66 rZ) λr=>aw [hf 59 (cF (DE gl k) e)]<|cj j (DF rZ r)) λe=>aw [hf 59 (cF (DE gl k) e)]<|cj j (DF rZ a.1))<|aA c1 q (DF rZ a.1)) λm l=>aF 23 (rx l)<|rx l
def AE(n:Int)(s1:Int):Option ((Int)⊕(Int)):=
 bif decide (wI (2*s1)<n) then(some (.inl (wI (2*s1)))) else(some (.inr s1))
def zZ(n:Int):JP:=
 (AB (AE n) 1).bind λa=>some a
theorem Ji{n}:DL prog gl (zZ n) 96 [iG n] iG:=
 cy func96 λK=>I4 1110 (λa=>sg [] [(3,iG a)]) (λs1=>sf [] [(3,iG s1)]) [] (λa=>rv K) λs1 k5 b=>aF 7 (rb k5)<|aA c1 b []
def KX:Nat->Bj->Option Lw
 |0,_=>none
 |nn+1,leaves=>
 bif decide (ah leaves=0) then(some []) else(bif decide (ah leaves=1) then(some [leaves]) else((zZ (ah leaves)).bind λd=>(tq leaves d).bind λe=>(KX nn e).bind λf=>(aT 24 [leaves] f).bind λg=>(mc leaves d).bind λa=>(KX nn a).bind λb=>(aT 24 g b).bind λc=>some c))
theorem qp:∀(nn:Nat) {leaves:Bj},LT prog gl (KX nn leaves) 194 [aE cZ leaves] 22 Jc
 |0,_=>λ_ h=>by cases h
 |nn+1,leaves=>gc func194 λK=>aF 7 (mr c0 K (nH.imm _))<|aF 12 (mr c0 K (nH.imm _))<|ak λg e4=>ak λi e6=>ak λj e8=>ak λk a=>ak λd b=>ak λe c=>ak λf e16=>aw [hf 16 (Ji gl e4),AA 20 (rZ.preZI e6),hf 21 ((qp nn e8).fn nH.sz (nH.len _) (nH.imm _)),eu 22 nH a,AA 26 (rZ.sufZI b),hf 27 ((qp nn c).fn nH.sz (nH.len _) (nH.imm _)),eu 28 nH e16]<|mr c0 K (nH.imm _)
def UJ(a:Bj):Option Lw:=KX (a.length+1) a
theorem Jj{leaves}:LT prog gl (UJ leaves) 194 [aE cZ leaves] 22 Jc:=qp gl _
def AF(device:Int)(e:Lw)(s3:Lw×Int):Option ((Lw×Int)⊕Lw):=
 bif decide (0<=s3.2) then((Bt e s3.2).bind λa=>(fb a device).bind λb=>bif b then((Bt e s3.2).bind λc=>(aT 24 s3.1 [c]).bind λd=>some (.inl (d,wI (s3.2-1)))) else(some (.inl (s3.1,wI (s3.2-1))))) else(some (.inr s3.1))
def NN(a:Bj)(device:Int):Option Lw:=
 (UJ a).bind λb=>(AB (AF device b) ([],wI ((ah b)-1))).bind λc=>some c
theorem Jl{leaves device}:LT prog gl (NN leaves device) 108 [aE cZ leaves,iG device] 22 Jc:=
 gc func108 λK=>Jt 9 nH (Jj gl) λe=>I4 111101 (λb=>sp [] [(6,.rsl 0 0 b.length)] [ob 0 22 (b.flatMap Jc)] 1) (λs3=>so [0] [(5,aE Jc e),(6,.rsl 0 0 s3.1.length),(7,iG s3.2)] [ob 0 22 (s3.1.flatMap Jc)] 1) [hc (nH.imm [])] (λb=>mr c0 K (nH.imm _)) λs3 d k6=>aF 14 (CB 19 nH.ixZ 20 (nH.p1Y Vs) λf=>ak λg e16=>kV (λa=>CB 26 nH.ixZ 27 (nH.p1Y Vs) λh=>Gq (dg 29 nH) λc=>aw [hf 22 (cF (DE gl e16) a)]<|cj d (DF nH c)) λa=>aw [hf 22 (cF (DE gl e16) a)]<|cj d (DF nH s3.1))<|aA c1 k6 (DF nH s3.1)
def jm(g:Ba)(o:Bq):Option Lw:=
 (E5 o.Kind).bind λb=>bif(!b) then(some []) else((qo g o).bind λa=>(fb a o.By).bind λc=>bif(!c) then(some []) else((NN a o.By).bind λd=>some d))
theorem E6{g o}:LT prog gl (jm g o) 51 [.agg (aI g),.agg (aJ o)] 22 Jc:=
 gc func51 λK=>BU 9 (NP gl) λd=>aF 11 (mr c0 K (nH.imm _))<|Jt 14 rZ (GU gl) λe=>BU 18 (DE gl) λf=>aF 19 (mr c0 K (nH.imm _))<|ak λb a=>aw [hz 23 [] (Sw (c:=2) aH (Jl gl a) (eB aH) (nH.imm b))]<|mr c0 K (nH.imm _)
def lw(g:Ba×Int)(b:Int)(c:Bool)(a:List Fk×Int):Option ((List Fk×Int)⊕(List Fk)):=
 (bif decide (a.2<b) then(bif c then(some (decide (a.2<5))) else(some false)) else(some false)).bind λd=>bif d then(((aT 32 a.1 [(⟨wU (wI ((wI (1000+(wI (10*g.2))))+a.2)),[]⟩:Fk)]).bind λe=>some e:Option (List Fk)).bind λf=>some (.inl (f,wI (a.2+1)))) else(some (.inr a.1))
def ly(l:Bj)(most:Int)(a:Ba×Int):Option ((Ba×Int)⊕(Ba)):=
 (bif decide (a.2<most) then(bif decide (a.2<4) then(some true) else(some (decide (wI (2*a.2)<ah l)))) else(some false)).bind λf=>bif f then((bif decide (wI (2*a.2)<ah l) then((Bt l (wI (2*a.2))).bind λg=>some g) else(some 0)).bind λh=>(bif decide (wI ((wI (2*a.2))+1)<ah l) then((Bt l (wI ((wI (2*a.2))+1))).bind λi=>some i) else(some 0)).bind λc=>(sd a.1 h c).bind λb=>(jm a.1 ({b with Path:=[]})).bind λd=>(iq c 31).bind λj=>(bif decide (j=30) then(some (wI ((ah d)+1))) else(some (ah d))).bind λk=>(E5 b.Kind).bind λm=>(AB (lw a k m) ([],0)).bind λn=>(nR ({b with Path:=n})).bind λo=>(AO a.1 o).bind λe=>bif decide (e.2=0) then(some (.inl (e.1,wI (a.2+1)))) else(some (.inl (a.1,wI (a.2+1))))) else(some (.inr a.1))
def vq(l:Bj)(most:Int):Option Ba:=
 (r8).bind λa=>(ql a).bind λb=>(Jf b).bind λc=>(AB (ly l most) (c,0)).bind λd=>some d
theorem Jm{l most}:DL prog gl (vq l most) 42 [aE cZ l,iG most] (λr=> .agg (aI r)):=
 cy func42 λK=>Jt 15 rZ (E9 gl) λE=>Jt 16 bT (GQ gl) λF=>BU 17 (M8 gl) λH=>I4 11101 (λz=>sp [] [(4,.ref 0 0),(5,.ref 1 0)] [ob 0 33 (bF [0,1,2,3,4] (aI xm)),ob 1 33 (aI z)] 2) (λc=>so [] [(4,.ref 0 0),(5,.ref 1 0),(6,iG c.2)] [ob 0 33 (bF [0,1,2,3,4] (aI xm)),ob 1 33 (aI c.1)] 2) [] (λz=>rv K) λc k11 q=>Ny 111012200 (sf [] []) [] 31 (cN 11101221021101 (sf [31] [(7,iG 0),(8,iG 0),(38,bG (decide (wI (2*c.2)<ah l)))]) []<|cC 11101221021101 (λe=>sf [38] [(7,iG e)]) (λe=>cN 111012210211101 (sf [] [(49,bG (decide (wI ((wI (2*c.2))+1)<ah l)))]) []<|cC 111012210211101 (λf=>sf [49] [(8,iG f)]) (λf=>BU 59 (Jy gl) λa=>ak λs t=>BU 65 (iL gl) λu=>aw [hf 62 (UY [.agg (aI c.1),.agg (bF [9] (aJ ({a with Path:=[]})))] (nH.fo (E6 gl t)))]<|cN 111012210211111101 (so [7,8] [(9,.ref 2 0),(10,iG (ah s)),(66,bG (decide (u=30)))] [ob 2 64 (bF [9] (aJ ({a with Path:=[]})))] 3) []<|cC 111012210211111101 (λg=>sf [66] [(10,iG g)]) (λg=>BU 71 (NP gl) λv=>I4 11101221021111111101 (λj=>so [10] [] [ob 2 64 (aJ ({a with Path:=j}))] 3) (λb=>so [] [(11,bG v),(12,iG b.2)] [ob 2 64 [iG a.By,iG a.Seq,iG a.Kind,iG a.At,aE aj a.Past,iG a.Device,iG a.Old,iG a.Member,iG a.Role,.rsl 3 0 b.1.length,iG a.Epoch.By,iG a.Epoch.Seq,uG a.Epoch.Sum,iG a.N,aE cY a.Body,aE cW a.Refs,iG a.Of.By,iG a.Of.Seq,uG a.Of.Sum,aE cZ a.Guards,iG a.Need,iG a.Wait,aE cz a.Boxes,uG a.Pub,aE bp a.Hist,uG a.Sig.R,uG a.Sig.S],ob 3 70 (b.1.flatMap bY)] 4) [hc (bZ.imm [])] (λj=>BU 99 (E8 gl) λA=>BU 100 (M9 gl) λB=>aF 104 (rb k11)<|rb k11) λb w x=>Ny 111012210211111111012200 (sf [] []) (DF bZ b.1) 81 (cN 1110122102111111110122102 (sf [81] []) (DF bZ b.1)<|cC 1110122102111111110122102 (λd=>so [] [] [ob 2 64 [iG a.By,iG a.Seq,iG a.Kind,iG a.At,aE aj a.Past,iG a.Device,iG a.Old,iG a.Member,iG a.Role,.rsl 3 0 d.length,iG a.Epoch.By,iG a.Epoch.Seq,uG a.Epoch.Sum,iG a.N,aE cY a.Body,aE cW a.Refs,iG a.Of.By,iG a.Of.Seq,uG a.Of.Sum,aE cZ a.Guards,iG a.Need,iG a.Wait,aE cz a.Boxes,uG a.Pub,aE bp a.Hist,uG a.Sig.R,uG a.Sig.S],ob 3 70 (d.flatMap bY)] 4) (λd=>cj w (DF bZ d)) λd y=>ak λk m=>aw [AA 91 (C8 (wI ((wI (1000+(wI (10*c.2))))+b.2))),Tv 94 bZ m [uG (wU (wI ((wI (1000+(wI (10*c.2))))+b.2))),Iy] rfl]<|aA c0 y [hc (el k),ZV bZ m [uG (wU (wI ((wI (1000+(wI (10*c.2))))+b.2))),Iy]] (kd:=[(3,.app (b.1.flatMap bY) [uG (wU (wI ((wI (1000+(wI (10*c.2))))+b.2))),Iy] (bY (⟨wU (wI ((wI (1000+(wI (10*c.2))))+b.2)),[]⟩:Fk)) (k.flatMap bY))])) (aA c1 x [hc (bZ.al b.1)]) λh=>aF 74 (aF 77 (aA c0 h (DF bZ b.1))<|aA c0 h (DF bZ b.1))<|aA c0 h (DF bZ b.1)) λg n=>eH [66] (rx n)<|rx n) λf o=>eH [49] (CB 54 rZ.ixZ 55 (rZ.p1Y tZ) λC=>rx o)<|rx o) λe p=>eH [38] (CB 42 rZ.ixZ 43 (rZ.p1Y tZ) λD=>rx p)<|rx p) (aA c1 q []) λi=>aF 20 (aF 23 (rx i)<|rx i)<|rx i
end
structure EP where
 commit:Ab
 n:Int
 deriving DecidableEq
structure Akd where
 device:Int
 keys:FM EP Nat
structure AkP where
 b:CY
def FR(x:JP):Int:=x.getD 0
theorem H7(m:JN)(k:Ab):∀σ,bL prog σ 108 true (FM.g ga iG m) (.agg (aj k))=some (.tup [iG (FR (m.get k)),bG (m.get k).isSome]):=FM.look (et:=3) jt aH aH m k rfl
structure Ot where
 a0:Nat
 a1:Nat
 a2:Nat
 a3:Nat
 deriving DecidableEq
def FSq(x:Ot):Bn:=[uG x.a0,uG x.a1,uG x.a2,uG x.a3]
theorem aap:fg prog 113=some true:=aH
theorem aaq:bw prog 113=some 4:=aH
structure C3 where
 o:Bq
 id:Ab
 past:Ot
 level:Int
def d7(x:C3):Bn:=[iG x.o.By,iG x.o.Seq,iG x.o.Kind,iG x.o.At,aE aj x.o.Past,iG x.o.Device,iG x.o.Old,iG x.o.Member,iG x.o.Role,aE bY x.o.Path,iG x.o.Epoch.By,iG x.o.Epoch.Seq,uG x.o.Epoch.Sum,iG x.o.N,aE cY x.o.Body,aE cW x.o.Refs,iG x.o.Of.By,iG x.o.Of.Seq,uG x.o.Of.Sum,aE cZ x.o.Guards,iG x.o.Need,iG x.o.Wait,aE cz x.o.Boxes,uG x.o.Pub,aE bp x.o.Hist,uG x.o.Sig.R,uG x.o.Sig.S,iG x.id.By,iG x.id.Seq,uG x.id.Sum,uG x.past.a0,uG x.past.a1,uG x.past.a2,uG x.past.a3,iG x.level]
structure Aj where
 cards:Md
 at_:JN
 nodes:List C3
def Ag(x:Aj):Bn:=[aE bv x.cards,FM.g ga iG x.at_,aE d7 x.nodes]
theorem az:AQ prog 109 115 35 d7:=⟨aH,aH,Cd,λ_=>rfl,λ_=>rfl⟩
structure AaY where
 Graph:Aj
def Ni(x:AaY):Bn:=[.ptr (Ag x.Graph) 0]
structure Bh where
 Device:Int
 Seq:Int
 deriving DecidableEq
def Bv(x:Bh):Bn:=[iG x.Device,iG x.Seq]
theorem Hk:fg prog 123=some true:=aH
def DY(x:Option DS):DS:=x.getD ⟨0,0,0,0,0⟩
theorem AaZ(m:FM Int DS)(k:Int):∀σ,bL prog σ 139 false (FM.g JR (λx=> .agg (bv x)) m) (iG k)=some ((λx=> .agg (bv x)) (DY (m.get k))):=FM.look1 (et:=78) Pr aH aH m k rfl
def Hw(x:Fp):Bool:=x.getD false
theorem Sp(m:FM Int Bool)(k:Int):∀σ,bL prog σ 138 false (FM.g JR bG m) (iG k)=some (bG (Hw (m.get k))):=FM.look1 (et:=4) Pr aH aH m k rfl
structure C4 where
 by_:Int
 device:Int
 deriving DecidableEq
def M0(x:C4):Bn:=[iG x.by_,iG x.device]
def Hl(x:C4):List Value:=[.int .i64 x.by_,.int .i64 x.device]
theorem Ux(d:Nat)(i j:C4):bt prog (Op.equalIn (d+3) 210 (.agg (Hl i).toArray) (.agg (Hl j).toArray))=some (decide (i=j)):=by obtain⟨a0,a1⟩:=i;obtain⟨b0,b1⟩:=j;unfold Hl;rw[xV (fs:= #[⟨ "by",3,0,false, "", "huddle/roll",0⟩,⟨ "device",3,1,false, "", "huddle/roll",8⟩]) aH aH];simp only[Array.toList];rw[uJ (k:= .i64) (k':= .i64) (a:=a0) (b:=b0) Cd aH aH aH];rw[uJ (k:= .i64) (k':= .i64) (a:=a1) (b:=b1) Cd aH aH aH];simp only[C4.mk.injEq];by_cases h0:a0=b0<;>by_cases h1:a1=b1<;>simp[h0,h1,Op.eqFields,bz]
def BX(x:C4):Value:= .agg (Hl x).toArray
theorem Lm:MG prog 210 BX:=Qw (d:= .struct #[⟨ "by",3,0,false, "", "huddle/roll",0⟩,⟨ "device",3,1,false, "", "huddle/roll",8⟩]) aH (λb k=>by cases b<;>(show _=_;kernel_rfl)) (λa b=>rfl) (λa b=>Ux 9997 a b)
def LR(x:JP):Int:=x.getD 0
theorem Sq(m:FM C4 Int)(k:C4):∀σ,bL prog σ 204 true (FM.g BX iG m) (.agg (M0 k))=some (.tup [iG (LR (m.get k)),bG (m.get k).isSome]):=FM.look (et:=3) Lm aH aH m k rfl
structure CD where
 id:Ab
 guards:Bj
 need:Int
 wait:Int
 vouches:FM C4 Int
 objected:Bool
 last:Int
def Pa(x:CD):Bn:=[iG x.id.By,iG x.id.Seq,uG x.id.Sum,aE cZ x.guards,iG x.need,iG x.wait,FM.g BX iG x.vouches,bG x.objected,iG x.last]
structure Az where
 role:Int
 guard:Option CD
def Fv(x:Az):Bn:=[iG x.role,npG Pa x.guard]
structure Ad where
 cards:FM Int DS
 in_:FM Int Bool
 was:FM Int Bool
 members:FM Int Az
 back:Int
def CM(x:Ad):Bn:=[FM.g JR (λx=> .agg (bv x)) x.cards,FM.g JR bG x.in_,FM.g JR bG x.was,FM.g JR (λx=> .ptr (Fv x) 0) x.members,iG x.back]
def Bc(x:Fp):Bool:=x.getD false
theorem Sr(m:FM Ab Bool)(k:Ab):∀σ,bL prog σ 296 false (FM.g ga bG m) (.agg (aj k))=some (bG (Bc (m.get k))):=FM.look1 (et:=4) jt aH aH m k rfl
structure A3 where
 g:Aj
 row:Bf
 void:FM Ab Bool
 fork:FM Ab Bool
def BW(x:A3):Bn:=[.ptr (Ag x.g) 0,aE aj x.row,FM.g ga bG x.void,FM.g ga bG x.fork]
theorem Bi:AQ prog 121 123 2 Bv:=⟨aH,aH,Cd,λ_=>rfl,λ_=>rfl⟩
abbrev JL:=List C3
end Go.Proofs.YtghphhhpagagbaaGreatDoor
