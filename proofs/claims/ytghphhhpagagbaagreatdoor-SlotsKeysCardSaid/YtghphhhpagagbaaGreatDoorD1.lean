/- Texts. -/
import Derived.Test.YtghphhhpagagbaaGreatDoorSY
namespace Go.Proofs.YtghphhhpagagbaaGreatDoor
set_option linter.unusedSectionVars false
set_option linter.unusedVariables false
set_option linter.unusedSimpArgs false
open Go.RowKit Tryz
attribute [local irreducible] Tr dz Gp
variable (gl:CD)
section
set_option maxHeartbeats 2000000
def DJ(s1:Nat×CM):Option ((Nat×CM)⊕(Nat×CM)):=
 bif decide (((127:Nat):Int)<(s1.1:Int)) then((aT 1 s1.2 ([wY ((((wY ((s1.1%128:Nat):Int)).toNat:Nat):Int)+(((128:UInt8).toNat:Nat):Int))]:CM)).bind λa=>some (.inl (wU ((s1.1/128:Nat):Int),a))) else(some (.inr (s1.1,s1.2)))
def jl(k:Nat):Option CM:=
 (AB (DJ) (k,[])).bind λb=>(aT 1 b.2 ([wY (b.1:Int)]:CM)).bind λa=>some a
theorem LA{k}:LC prog gl (jl k) 203 [uG k] 5 cY:=
 gc func203 λK=>HC 1110 (λa=>so [] [(0,uG a.1),(3,.rsl 0 0 a.2.length)] [ob 0 5 (a.2.flatMap cY)] 1) (λs1=>so [] [(0,uG s1.1),(3,.rsl 0 0 s1.2.length)] [ob 0 5 (s1.2.flatMap cY)] 1) [hc (rY.imm [])] (λa=>FI (dg 19 rY) λc=>aw [AA 17 (Iz (a.1:Int))]<|mr c0 K (rY.imm _)) λs1 k5 d=>aF 5 (FI (dg 12 rY) λb=>aw [hbb 8 (iD s1.1 128 B5),AA 9 (Iz ((s1.1%128:Nat):Int)),hbb 10 (YK (wY ((s1.1%128:Nat):Int)) (128:UInt8)),hbb 14 (zm s1.1 128 B5)]<|cj k5 (DE rY b))<|aA c1 d (DE rY s1.2)
def cg(n:Int):Option CM:=
 bif decide (n<0) then((jl (wU (((wU (((wU (wI (0-(wI (n+1)))):Nat):Int)*((2:Nat):Int)):Nat):Int)+((1:Nat):Int)))).bind λa=>some a) else((jl (wU (((wU n:Nat):Int)*((2:Nat):Int)))).bind λb=>some b)
theorem eZ{n}:LC prog gl (cg n) 205 [iG n] 5 cY:=
 gc func205 λK=>aF 4 (ak λa e3=>aw [AA 8 (C8 (wI (0-(wI (n+1))))),hbb 9 (na ((wU (wI (0-(wI (n+1)))):Nat):Int) ((2:Nat):Int)),hbb 10 (gV ((wU (((wU (wI (0-(wI (n+1)))):Nat):Int)*((2:Nat):Int)):Nat):Int) ((1:Nat):Int)),ho 11 [uG (wU (((wU (((wU (wI (0-(wI (n+1)))):Nat):Int)*((2:Nat):Int)):Nat):Int)+((1:Nat):Int)))] [] (LA gl e3) (lY a)]<|mr c0 K (rY.imm _))<|ak λb e5=>aw [AA 13 (C8 n),hbb 14 (na ((wU n:Nat):Int) ((2:Nat):Int)),ho 15 [uG (wU (((wU n:Nat):Int)*((2:Nat):Int)))] [] (LA gl e5) (lY b)]<|mr c0 K (rY.imm _)
def iJ(a:Ab):Option CM:=
 (cg a.By).bind λb=>(cg a.Seq).bind λc=>(aT 1 b c).bind λd=>(jl a.Sum).bind λe=>(aT 1 d e).bind λf=>some f
theorem GO{id_}:LC prog gl (iJ id_) 202 [.agg (aj id_)] 5 cY:=
 gc func202 λK=>ak λa e2=>Jt 9 rY (eZ gl) λb=>FI (eu 10 rY) λc=>Jt 14 rY (LA gl) λd=>FI (eu 15 rY) λe=>aw [ho 6 [iG id_.By] [] (eZ gl e2) (lY a)]<|mr c0 K (rY.imm _)
def r6(s1:Nat×Nat×Nat):Option ((Nat×Nat×Nat)⊕(Nat)):=
 bif decide (((0:Nat):Int)<(s1.2.2:Int)) then((bif decide (((s1.2.2%2:Nat):Int)=((1:Nat):Int)) then((oQ s1.1 s1.2.1).bind λa=>some a) else(some s1.1)).bind λb=>(oQ s1.2.1 s1.2.1).bind λc=>some (.inl (b,c,wU ((s1.2.2/2:Nat):Int)))) else(some (.inr s1.1))
def iK(a:Nat)(n:Nat):Ft:=
 (AB (r6) (1,a%2305843009213693951,n)).bind λb=>some b
theorem lc{a n}:DF prog gl (iK a n) 195 [uG a,uG n] (λr:Nat=>uG r):=
 cy func195 λK=>aw [hbb 9 (iD a 2305843009213693951 B5)]<|HC 111101 (λd=>sg [] [(5,uG d)]) (λs1=>sg [] [(5,uG s1.1),(6,uG s1.2.1),(7,uG s1.2.2)]) [] (λd=>rv K) λs1 k5 e=>aF 12 (aw [hbb 16 (iD s1.2.2 2 B5)]<|cN 1111012210201 (sf [] [(17,bG (decide (((s1.2.2%2:Nat):Int)=((1:Nat):Int))))]) []<|cC 1111012210201 (λb=>sf [17] [(5,uG b)]) (λb=>Bz 23 (nK gl) λf=>aw [hbb 14 (zm s1.2.2 2 B5)]<|rb k5) λb c=>eH [17] (Bz 20 (nK gl) λg=>rx c)<|rx c)<|aA c1 e []
def iq(n:Int)(most:Int):JM:=
 bif decide (n<0) then((u9 (wI (0-(wI (n+1)))) most).bind λa=>some a) else((u9 n most).bind λb=>some b)
theorem iL{n most}:DF prog gl (iq n most) 45 [iG n,iG most] iG:=
 cy func45 λK=>aF 6 (ak λa e3=>aw [hbb 12 (KO e3)]<|rv K)<|ak λb e5=>aw [hbb 12 (KO e5)]<|rv K
def Jf(cards:LT):Option A7:=
 some ⟨cards,[],[],[],[]⟩
theorem M8{cards}:DF prog gl (Jf cards) 52 [aE bv cards] (λr=> .agg (aI r)):=
 cy func52 λK=>rv K
def xo(a:Nat):Ft:=
 (iK 37 a).bind λb=>some b
theorem r7{a}:DF prog gl (xo a) 109 [uG a] (λr:Nat=>uG r):=
 cy func109 λK=>Bz 4 (lc gl) λb=>rv K
def my(b:CM)(s1:Bq×Int)(a:Nat×Int):Option ((Nat×Int)⊕(Nat)):=
 bif decide (s1.2<=a.2) then((aS b a.2).bind λc=>some (.inl (wU (((wU ((a.1:Int)*((256:Nat):Int)):Nat):Int)+((wU (c.toNat:Int):Nat):Int)),wI (a.2-1)))) else(some (.inr a.1))
def qh(b:CM)(s1:Bq×Int):Option ((Bq×Int)⊕Bq):=
 bif decide (s1.2<ah b) then((AB (my b s1) (0,wI ((iI (ah b) (wI (s1.2+7)))-1))).bind λa=>(aT 8 s1.1 ([a]:Bq)).bind λc=>some (.inl (c,wI (s1.2+7)))) else(some (.inr s1.1))
def LK(b:CM):Option Bq:=
 (AB (qh b) ([],0)).bind λa=>some a
theorem yz{b}:LC prog gl (LK b) 212 [aE cY b] 23 cW:=
 gc func212 λK=>HC 11101 (λe=>sp [] [(3,.rsl 0 0 e.length)] [ob 0 23 (e.flatMap cW)] 1) (λs1=>so [] [(3,.rsl 0 0 s1.1.length),(4,iG s1.2)] [ob 0 23 (s1.1.flatMap cW)] 1) [hc (rW.imm [])] (λe=>mr c0 K (rW.imm _)) λs1 k5 i=>aF 10 (HC 1110122102101 (λc=>sf [] [(5,uG c)]) (λa=>sf [] [(5,uG a.1),(6,iG a.2)]) (DE rW s1.1) (λc=>FI (dg 35 rW) λf=>cj k5 (DE rW f)) λa g h=>aF 21 (Cd 28 rY.ixZ 29 (rY.p1Y tY) λd=>aw [hbb 25 (na (a.1:Int) ((256:Nat):Int)),AA 30 (C8 (d.toNat:Int)),hbb 31 (gV ((wU ((a.1:Int)*((256:Nat):Int)):Nat):Int) ((wU (d.toNat:Int):Nat):Int))]<|cj g (DE rW s1.1))<|aA c1 h (DE rW s1.1))<|aA c1 i (DE rW s1.1)
def qi(a:Nat)(b:Nat):Ft:=
 some ((wU (((a%2305843009213693951:Nat):Int)+((b%2305843009213693951:Nat):Int)))%2305843009213693951)
theorem Yc{a b}:DF prog gl (qi a b) 282 [uG a,uG b] (λr:Nat=>uG r):=
 cy func282 λK=>aw [hbb 6 (iD a 2305843009213693951 B5),hbb 8 (iD b 2305843009213693951 B5),hbb 9 (gV ((a%2305843009213693951:Nat):Int) ((b%2305843009213693951:Nat):Int)),hbb 10 (iD (wU (((a%2305843009213693951:Nat):Int)+((b%2305843009213693951:Nat):Int))) 2305843009213693951 B5)]<|rv K
def qj(b:Bq)(a:Nat×Int):Option ((Nat×Int)⊕(Nat)):=
 bif decide (a.2<ah b) then((oQ 37 a.1).bind λc=>(aS b a.2).bind λd=>(qi d (wU (wI (a.2+1)))).bind λe=>(qi c e).bind λf=>(iK f 17).bind λg=>some (.inl (g,wI (a.2+1)))) else(some (.inr a.1))
def qk(l:Bq)(a:Bq×Int):Option ((Bq×Int)⊕Bq):=
 bif decide (a.2<ah l) then((aS l a.2).bind λb=>(aT 8 a.1 ([b%2305843009213693951]:Bq)).bind λc=>some (.inl (c,wI (a.2+1)))) else(some (.inr a.1))
def yA(label:CM)(l:Bq):Ft:=
 (Gk label).bind λc=>(LK c).bind λd=>(aT 8 d ([wU (ah l)]:Bq)).bind λe=>(AB (qk l) (e,0)).bind λf=>(aT 8 f ([0]:Bq)).bind λa=>(AB (qj a) (wU (ah label),0)).bind λb=>some b
theorem AD{label l}:DF prog gl (yA label l) 211 [sG label,aE cW l] (λr:Nat=>uG r):=
 cy func211 λK=>ak λk e2=>ak λm e4=>FI (dg 17 rW) λn=>aw [AA 15 (C8 (ah l)),hcB 11 e2,ho 12 [aE cY k] [] (yz gl e4) (lW m)]<|HC 11101 (λe=>so [1] [(5,.rsl 0 0 e.length)] [ob 0 23 (e.flatMap cW)] 1) (λb=>so [] [(5,.rsl 0 0 b.1.length),(6,iG b.2)] [ob 0 23 (b.1.flatMap cW)] 1) (DE rW n) (λe=>FI (dg 34 rW) λc=>aw [hL 36 label,AA 37 (C8 (ah label))]<|HC 11111101 (λd=>sk [] [(7,uG d)] [] 0) (λa=>sk [] [(5,aE cW c),(7,uG a.1),(8,iG a.2)] [] 0) [hc (rW.al c)] (λd=>rv K) λa f g=>aF 41 (Bz 45 (nK gl) λo=>Cd 48 rW.ixZ 49 (rW.p1Y tW) λp=>Bz 53 (Yc gl) λq=>Bz 54 (Yc gl) λs=>Bz 56 (lc gl) λt=>aw [AA 52 (C8 (wI (a.2+1)))]<|rb f)<|aA c1 g []) λb k11 h=>aF 21 (Cd 27 rW.ixZ 28 (rW.p1Y tW) λi=>FI (dg 31 rW) λj=>aw [hbb 29 (iD i 2305843009213693951 B5)]<|cj k11 (DE rW j))<|aA c1 h (DE rW b.1)
def M6(label:CM)(l:Bq):Ft:=
 (yA label l).bind λa=>some (wU (((1:Nat):Int)+((a%2305843009213693949:Nat):Int)))
theorem Sh{label l}:DF prog gl (M6 label l) 196 [sG label,aE cW l] (λr:Nat=>uG r):=
 cy func196 λK=>Bz 7 (AD gl) λa=>aw [hbb 8 (iD a 2305843009213693949 B5),hbb 9 (gV ((1:Nat):Int) ((a%2305843009213693949:Nat):Int))]<|rv K
def lf(kind:CM)(device:Int):Ft:=
 (M6 kind ([wU device]:Bq)).bind λa=>some a
theorem kG{kind device}:DF prog gl (lf kind device) 110 [sG kind,iG device] (λr:Nat=>uG r):=
 cy func110 λK=>ak λa e2=>aw [AA 7 (C8 device),hq 9 [sG kind,aE cW ([wU device]:Bq)] [hc (rW.al ([wU device]:Bq))] (Sh gl e2)]<|rv K
def GP(a:Be)(s1:LT×Int):Option ((LT×Int)⊕LT):=
 bif decide (s1.2<ah a) then((aS a s1.2).bind λb=>(lf [108,101,97,100] (wI (s1.2+1))).bind λc=>(xo c).bind λd=>(lf [107,101,101,112] (wI (s1.2+1))).bind λe=>(xo e).bind λf=>(lf [115,105,103,110] (wI (s1.2+1))).bind λg=>(xo g).bind λh=>(aT 40 s1.1 [(⟨wI (s1.2+1),b,d,f,h⟩:DL)]).bind λi=>some (.inl (i,wI (s1.2+1)))) else(some (.inr s1.1))
def ql(a:Be):Option LT:=
 (AB (GP a) ([],0)).bind λb=>some b
theorem GQ{owners}:LC prog gl (ql owners) 53 [aE cZ owners] 78 bv:=
 gc func53 λK=>HC 11101 (λa=>sp [] [(3,.rsl 0 0 a.length)] [ob 0 78 (a.flatMap bv)] 1) (λs1=>so [] [(3,.rsl 0 0 s1.1.length),(4,iG s1.2)] [ob 0 78 (s1.1.flatMap bv)] 1) [hc (bT.imm [])] (λa=>mr c0 K (bT.imm _)) λs1 k5 c=>aF 9 (Cd 18 rZ.ixZ 19 (rZ.p1Y tZ) λd=>Bz 21 (kG gl) λe=>Bz 22 (r7 gl) λf=>Bz 24 (kG gl) λg=>Bz 25 (r7 gl) λh=>Bz 27 (kG gl) λi=>Bz 28 (r7 gl) λj=>FI (dg 31 bT) λb=>cj k5 (DE bT b))<|aA c1 c (DE bT s1.1)
def jI(label:CM)(b:CM):Ft:=
 (LK b).bind λa=>(aT 8 a ([wU (ah b)]:Bq)).bind λc=>(yA label c).bind λd=>some d
theorem yB{label b}:DF prog gl (jI label b) 115 [sG label,aE cY b] (λr:Nat=>uG r):=
 cy func115 λK=>ak λc e2=>FI (dg 12 rW) λa=>ak λd e6=>aw [AA 10 (C8 (ah b)),ho 7 [aE cY b] [] (yz gl e2) (lW c),hq 13 [sG label,aE cW a] [hc (rW.al a)] (AD gl e6)]<|rv K
def Ph(b:CM):Ft:=
 (jI [115,105,103,110,101,100] b).bind λa=>some a
theorem LH{b}:DF prog gl (Ph b) 197 [aE cY b] (λr:Nat=>uG r):=
 cy func197 λK=>Bz 4 (yB gl) λa=>rv K
def fV:Ft:=
 some 2305843009213693950
theorem eU:DF prog gl (fV) 200 [] (λr:Nat=>uG r):=
 cy func200 λK=>rv K
def yC(a:Nat×Nat×Nat):Option ((Nat×Nat×Nat)⊕(Nat)):=
 bif decide (((0:Nat):Int)<(a.2.1:Int)) then((bif decide (((a.2.1%2:Nat):Int)=((1:Nat):Int)) then((fV).bind λb=>(CH (wU ((a.2.2:Int)+(a.1:Int))) b).bind λc=>some c) else(some a.2.2)).bind λd=>(fV).bind λe=>(CH (wU ((a.1:Int)+(a.1:Int))) e).bind λf=>some (.inl (f,wU ((a.2.1/2:Nat):Int),d))) else(some (.inr a.2.2))
def vp(a:Nat)(b:Nat):Ft:=
 (fV).bind λd=>(CH a d).bind λe=>(fV).bind λf=>(CH b f).bind λg=>(AB (yC) (e,g,0)).bind λc=>some c
theorem GT{a b}:DF prog gl (vp a b) 198 [uG a,uG b] (λr:Nat=>uG r):=
 cy func198 λK=>Bz 7 (eU gl) λm=>ak λn e4=>Bz 10 (eU gl) λo=>ak λp e8=>aw [hbb 8 (YI e4),hbb 11 (YI e8)]<|HC 111110 (λe=>sg [] [(5,uG e)]) (λc=>sf [] [(0,uG c.1),(1,uG c.2.1),(5,uG c.2.2)]) [] (λe=>rv K) λc k13 k12=>aF 13 (aw [hbb 15 (iD c.2.1 2 B5)]<|cN 111110221201 (sf [] [(16,bG (decide (((c.2.1%2:Nat):Int)=((1:Nat):Int))))]) []<|cC 111110221201 (λd=>sf [16] [(5,uG d)]) (λd=>Bz 25 (eU gl) λi=>ak λj g=>aw [hbb 24 (gV (c.1:Int) (c.1:Int)),hbb 28 (zm c.2.1 2 B5),hbb 26 (YI g)]<|rb k13) λd f=>eH [16] (Bz 20 (eU gl) λk=>ak λl h=>aw [hbb 19 (gV (c.2.2:Int) (c.1:Int)),hbb 21 (YI h)]<|rx f)<|rx f)<|aA c1 k12 []
def Pi(d:Nat)(pub:Nat)(b:CM):Ft:=
 (Ph b).bind λa=>(yA [115,105,103] ([d,pub,a]:Bq)).bind λc=>some c
theorem LI{r_ pub b}:DF prog gl (Pi r_ pub b) 199 [uG r_,uG pub,aE cY b] (λr:Nat=>uG r):=
 cy func199 λK=>Bz 10 (LH gl) λa=>ak λc e4=>aw [hq 12 [sG [115,105,103],aE cW ([r_,pub,a]:Bq)] [hc (rW.al ([r_,pub,a]:Bq))] (AD gl e4)]<|rv K
def zX(a:Nat)(b:CM):Option XM:=
 (Ph b).bind λh=>(M6 [110,111,110,99,101] ([a,h]:Bq)).bind λf=>(iK 37 f).bind λg=>(xo a).bind λi=>(Pi g i b).bind λj=>(vp j a).bind λc=>(fV).bind λd=>(CH (wU ((f:Int)+(c:Int))) d).bind λe=>some ⟨g,e⟩
theorem Jg{a b}:DF prog gl (zX a b) 111 [uG a,aE cY b] (λr=> .agg (yy r)):=
 cy func111 λK=>Bz 10 (LH gl) λd=>ak λe e4=>Bz 14 (lc gl) λh=>Bz 17 (r7 gl) λi=>Bz 19 (LI gl) λj=>Bz 21 (GT gl) λc=>Bz 26 (eU gl) λf=>ak λg e16=>aw [hbb 25 (gV (e:Int) (c:Int)),hq 12 [sG [110,111,110,99,101],aE cW ([a,d]:Bq)] [hc (rW.al ([a,d]:Bq))] (Sh gl e4),hbb 27 (YI e16)]<|rv K
end
section
set_option maxHeartbeats 2000000
def tR(l:Be)(s1:CM×Int):Option ((CM×Int)⊕CM):=
 bif decide (s1.2<ah l) then((aS l s1.2).bind λa=>(cg a).bind λb=>(aT 1 s1.1 b).bind λc=>some (.inl (c,wI (s1.2+1)))) else(some (.inr s1.1))
def PK(l:Be):Option CM:=
 (AB (tR l) ([],0)).bind λa=>some a
theorem oT{l}:LC prog gl (PK l) 201 [aE cZ l] 5 cY:=
 gc func201 λK=>HC 11101 (λa=>sp [] [(3,.rsl 0 0 a.length)] [ob 0 5 (a.flatMap cY)] 1) (λs1=>so [] [(3,.rsl 0 0 s1.1.length),(4,iG s1.2)] [ob 0 5 (s1.1.flatMap cY)] 1) [hc (rY.imm [])] (λa=>mr c0 K (rY.imm _)) λs1 k5 c=>aF 8 (Cd 14 rZ.ixZ 15 (rZ.p1Y tZ) λd=>Jt 16 rY (eZ gl) λe=>FI (eu 17 rY) λb=>cj k5 (DE rY b))<|aA c1 c (DE rY s1.1)
def tS(l:Bq)(s1:CM×Int):Option ((CM×Int)⊕CM):=
 bif decide (s1.2<ah l) then((aS l s1.2).bind λa=>(jl a).bind λb=>(aT 1 s1.1 b).bind λc=>some (.inl (c,wI (s1.2+1)))) else(some (.inr s1.1))
def vt(l:Bq):Option CM:=
 (AB (tS l) ([],0)).bind λa=>some a
theorem AG{l}:LC prog gl (vt l) 207 [aE cW l] 5 cY:=
 gc func207 λK=>HC 11101 (λa=>sp [] [(3,.rsl 0 0 a.length)] [ob 0 5 (a.flatMap cY)] 1) (λs1=>so [] [(3,.rsl 0 0 s1.1.length),(4,iG s1.2)] [ob 0 5 (s1.1.flatMap cY)] 1) [hc (rY.imm [])] (λa=>mr c0 K (rY.imm _)) λs1 k5 c=>aF 8 (Cd 14 rW.ixZ 15 (rW.p1Y tW) λd=>Jt 16 rY (LA gl) λe=>FI (eu 17 rY) λb=>cj k5 (DE rY b))<|aA c1 c (DE rY s1.1)
def qq(l:List Hb)(s3:CM×Int):Option ((CM×Int)⊕CM):=
 bif decide (s3.2<ah l) then((aS l s3.2).bind λa=>(aS l s3.2).bind λb=>(aS l s3.2).bind λc=>(aS l s3.2).bind λd=>(vt ([a.To,b.Eph,c.Body,d.Tag]:Bq)).bind λe=>(aT 1 s3.1 e).bind λf=>some (.inl (f,wI (s3.2+1)))) else(some (.inr s3.1))
def nQ(l:List Hb):Option CM:=
 (cg (ah l)).bind λa=>(AB (qq l) (a,0)).bind λb=>some b
theorem GW{l}:LC prog gl (nQ l) 204 [aE cz l] 5 cY:=
 gc func204 λK=>ak λi e2=>aw [ho 7 [iG (ah l)] [] (eZ gl e2) (lY i)]<|HC 11101 (λe=>sp [] [(3,.rsl 0 0 e.length)] [ob 0 5 (e.flatMap cY)] 1) (λs3=>so [] [(3,.rsl 0 0 s3.1.length),(4,iG s3.2)] [ob 0 5 (s3.1.flatMap cY)] 1) (DE rY i) (λe=>mr c0 K (rY.imm _)) λs3 j k6=>aF 11 (Cd 17 EA.ixZ 19 (EA.fdY tW 0) λa=>Cd 22 EA.ixZ 24 (EA.fdY tW 1) λb=>Cd 27 EA.ixZ 29 (EA.fdY tW 2) λc=>Cd 32 EA.ixZ 34 (EA.fdY tW 3) λd=>ak λf g=>FI (dg 37 rY) λh=>aw [ho 36 [aE cW ([a.To,b.Eph,c.Body,d.Tag]:Bq)] [hc (rW.al ([a.To,b.Eph,c.Body,d.Tag]:Bq))] (AG gl g) (lY f)]<|cj j (DE rY h))<|aA c1 k6 (DE rY s3.1)
def vu(s:CM):Option CM:=
 (cg (ah s)).bind λa=>(aT 1 a s).bind λb=>some b
theorem Jp{s}:LC prog gl (vu s) 206 [sG s] 5 cY:=
 gc func206 λK=>ak λa e2=>ak λb e4=>aw [hL 4 s,ho 5 [iG (ah s)] [] (eZ gl e2) (lY a),XZ 7 e4]<|mr c0 K (rY.imm _)
def OY(o:Bp)(a:CM×Int):Option ((CM×Int)⊕CM):=
 bif decide (a.2<ah o.Hist) then((aS o.Hist a.2).bind λb=>(iJ b.Of).bind λc=>(aT 1 a.1 c).bind λd=>(aS o.Hist a.2).bind λe=>(vu e.Body).bind λf=>(aT 1 d f).bind λg=>some (.inl (g,wI (a.2+1)))) else(some (.inr a.1))
def qs(o:Bp)(a:CM×Int):Option ((CM×Int)⊕CM):=
 bif decide (a.2<ah o.Path) then((aS o.Path a.2).bind λf=>(jl f.Pub).bind λg=>(aT 1 a.1 g).bind λb=>(aS o.Path a.2).bind λc=>(nQ c.Boxes).bind λd=>(aT 1 b d).bind λe=>some (.inl (e,wI (a.2+1)))) else(some (.inr a.1))
def qt(o:Bp)(s3:CM×Int):Option ((CM×Int)⊕CM):=
 bif decide (s3.2<ah o.Past) then((aS o.Past s3.2).bind λa=>(iJ a).bind λb=>(aT 1 s3.1 b).bind λc=>some (.inl (c,wI (s3.2+1)))) else(some (.inr s3.1))
def lz(o:Bp):Option CM:=
 (PK ([o.By,o.Seq,o.Kind,o.At,ah o.Past]:Be)).bind λD=>(AB (qt o) (D,0)).bind λE=>(PK ([o.Device,o.Old,o.Member,o.Role,ah o.Path]:Be)).bind λa=>(aT 1 E a).bind λb=>(AB (qs o) (b,0)).bind λc=>(iJ o.Epoch).bind λd=>(aT 1 c d).bind λe=>(cg o.N).bind λf=>(aT 1 e f).bind λg=>(vu o.Body).bind λh=>(aT 1 g h).bind λi=>(cg (ah o.Refs)).bind λj=>(aT 1 i j).bind λk=>(vt o.Refs).bind λl=>(aT 1 k l).bind λm=>(iJ o.Of).bind λn=>(aT 1 m n).bind λp=>(cg (ah o.Guards)).bind λq=>(aT 1 p q).bind λr=>(PK o.Guards).bind λs=>(aT 1 r s).bind λt=>(PK ([o.Need,o.Wait]:Be)).bind λu=>(aT 1 t u).bind λv=>(nQ o.Boxes).bind λw=>(aT 1 v w).bind λx=>(jl o.Pub).bind λy=>(aT 1 x y).bind λz=>(cg (ah o.Hist)).bind λA=>(aT 1 z A).bind λB=>(AB (OY o) (B,0)).bind λC=>some C
theorem GX{o}:LC prog gl (lz o) 112 [.agg (aJ o)] 5 cY:=
 gc func112 λK=>ak λu e2=>aw [ho 19 [aE cZ ([o.By,o.Seq,o.Kind,o.At,ah o.Past]:Be)] [hc (rZ.al ([o.By,o.Seq,o.Kind,o.At,ah o.Past]:Be))] (oT gl e2) (lY u)]<|HC 11101 (λg=>sp [] [(1,.ref 0 0),(3,.rsl 1 0 g.length)] [ob 0 64 (aJ o),ob 1 5 (g.flatMap cY)] 2) (λs3=>sp [] [(1,.ref 0 0),(3,.rsl 1 0 s3.1.length),(4,iG s3.2)] [ob 0 64 (aJ o),ob 1 5 (s3.1.flatMap cY)] 2) (DE rY u) (λg=>ak λh i=>FI (dg 49 rY) λj=>aw [ho 48 [aE cZ ([o.Device,o.Old,o.Member,o.Role,ah o.Path]:Be)] [hc (rZ.al ([o.Device,o.Old,o.Member,o.Role,ah o.Path]:Be))] (oT gl i) (lY h)]<|HC 1111101 (λc=>so [] [(3,.rsl 1 0 c.length)] [ob 1 5 (c.flatMap cY)] 2) (λa=>so [] [(3,.rsl 1 0 a.1.length),(5,iG a.2)] [ob 1 5 (a.1.flatMap cY)] 2) (DE rY j) (λc=>Jt 78 rY (GO gl) λA=>FI (eu 79 rY) λB=>Jt 83 rY (eZ gl) λC=>FI (eu 84 rY) λD=>Jt 89 rY (Jp gl) λE=>FI (eu 90 rY) λF=>Jt 95 rY (eZ gl) λH=>FI (eu 96 rY) λI=>Jt 100 rY (AG gl) λJ=>FI (eu 101 rY) λL=>Jt 105 rY (GO gl) λM=>FI (eu 106 rY) λN=>Jt 111 rY (eZ gl) λO=>FI (eu 112 rY) λP=>Jt 116 rY (oT gl) λQ=>FI (eu 117 rY) λR=>ak λk l=>FI (dg 125 rY) λS=>Jt 129 rY (GW gl) λU=>FI (eu 130 rY) λV=>Jt 134 rY (LA gl) λW=>FI (eu 135 rY) λX=>Jt 140 rY (eZ gl) λY=>FI (eu 141 rY) λm=>aw [XY 88 o.Body,ho 124 [aE cZ ([o.Need,o.Wait]:Be)] [hc (rZ.al ([o.Need,o.Wait]:Be))] (oT gl l) (lY k)]<|HC 11111111111111111101 (λd=>sk [] [(3,.rsl 0 0 d.length)] [ob 0 5 (d.flatMap cY)] 1) (λb=>so [] [(3,.rsl 1 0 b.1.length),(6,iG b.2)] [ob 1 5 (b.1.flatMap cY)] 2) (DE rY m) (λd=>mr c0 K (rY.imm _)) λb n p=>aF 146 (Cd 153 bH.ixZ 155 (bH.fsZ aW jz 0 B5) λZ=>Jt 156 rY (GO gl) λv85=>FI (eu 157 rY) λv87=>Cd 162 bH.ixZ 164 (bH.fdY tLY 3) λq=>Jt 166 rY (Jp gl) λv91=>FI (eu 167 rY) λr=>aw [XY 165 q.Body]<|cj n (DE rY r))<|aA c1 p (DE rY b.1)) λa s t=>aF 54 (Cd 61 bZ.ixZ 63 (bZ.fdY tW 0) λy96=>Jt 64 rY (LA gl) λv98=>FI (eu 65 rY) λv=>Cd 70 bZ.ixZ 72 (bZ.fdY E3 1) λw=>Jt 73 rY (GW gl) λx=>FI (eu 74 rY) λe=>cj s (DE rY e))<|aA c1 t (DE rY a.1)) λs3 k7 k6=>aF 24 (Cd 31 ac.ixZ 32 (ac.ptZ aW) λy=>Jt 33 rY (GO gl) λz=>FI (eu 34 rY) λf=>cj k7 (DE rY f))<|aA c1 k6 (DE rY s3.1)
def nR(o:Bp):Option Bp:=
 (lf [115,105,103,110] o.By).bind λa=>(lz o).bind λb=>(zX a b).bind λc=>some ({o with Sig:=c})
theorem E8{o}:DF prog gl (nR o) 54 [.agg (aJ o)] (λr=> .agg (aJ r)):=
 cy func54 λK=>Bz 5 (kG gl) λa=>Jt 7 rY (GX gl) λb=>Bz 8 (Jg gl) λc=>rv K
def pV(o:Bp):Option Ab:=
 (lz o).bind λa=>(jI [111,112] a).bind λb=>some ⟨o.By,o.Seq,b⟩
theorem AI{o}:DF prog gl (pV o) 56 [.agg (aJ o)] (λr=> .agg (aj r)):=
 cy func56 λK=>Jt 8 rY (GX gl) λa=>Bz 9 (yB gl) λb=>rv K
def xq(l:Be)(n:Int)(s1:Int):Option ((Int)⊕(Unit⊕Bool)):=
 bif decide (s1<ah l) then((aS l s1).bind λa=>bif decide (a=n) then(some (.inr (.inr true))) else(some (.inl (wI (s1+1))))) else(some (.inr (.inl ())))
def fb(l:Be)(n:Int):Fo:=
 (AB (xq l n) 0).bind λa=>ma a (λb=>some false) (λq=>some q)
theorem C5{l n}:DF prog gl (fb l n) 35 [aE cZ l,iG n] bG:=
 cy func35 λK=>Nk 1101 (λa=>sg [] []) (λs1=>sf [] [(5,iG s1)]) [] K (λa=>rv K) λs1 k5 b k6=>aF 9 (Cd 14 rZ.ixZ 15 (rZ.p1Y tZ) λc=>aF 17 (aP c3 k6 [])<|rb k5)<|aA c2 b []
def tT(g:A7)(s3:List Bool×Int)(a:List Bool×Int):Option ((List Bool×Int)⊕(List Bool)):=
 (aS g.Up s3.2).bind λb=>bif decide (a.2<ah b) then((aS g.Up s3.2).bind λc=>(aS c a.2).bind λd=>(ji a.1 d true).bind λe=>some (.inl (e,wI (a.2+1)))) else(some (.inr a.1))
def AJ(g:A7)(up:Be)(s3:List Bool×Int):Option ((List Bool×Int)⊕(List Bool)):=
 bif decide (0<=s3.2) then((fb up s3.2).bind λb=>(bif b then((ji s3.1 s3.2 true).bind λc=>some c) else(some s3.1)).bind λa=>(aS a s3.2).bind λd=>bif d then((AB (tT g s3) (a,0)).bind λe=>some (.inl (e,wI (s3.2-1)))) else(some (.inl (a,wI (s3.2-1))))) else(some (.inr s3.1))
def jA(g:A7)(up:Be):Option (List Bool):=
 (rP 1 (false:Bool) (ah g.L)).bind λa=>(AB (AJ g up) (a,wI ((ah g.L)-1))).bind λb=>some b
theorem AK{g up}:LC prog gl (jA g up) 114 [.agg (aI g),aE cZ up] 4 cO:=
 gc func114 λK=>FI (hmk 11 rO) λq=>HC 11101 (λl=>sp [] [(5,.rsl 0 0 l.length)] [ob 0 4 (l.flatMap cO)] 1) (λs3=>so [0] [(2,.ref 0 0),(5,.rsl 1 0 s3.1.length),(6,iG s3.2)] [ob 0 33 (aI g),ob 1 4 (s3.1.flatMap cO)] 2) (DE rO q) (λl=>mr c0 K (rO.imm _)) λs3 p k6=>aF 17 (Bz 22 (C5 gl) λm=>cN 111012210201 (sf [] [(22,bG m)]) (DE rO s3.1)<|cC 111012210201 (λa=>so [22] [(5,.rsl 1 0 a.length)] [ob 1 4 (a.flatMap cO)] 2) (λa=>ak λr d=>aw [AA 28 (rO.ixrZ 1 d)]<|kV (λe=>aw [AA 29 (cB (rO.p10Z tO d) e)]<|HC 11101221021131 (λc=>so [] [(5,.rsl 1 0 c.length)] [ob 1 4 (c.flatMap cO)] 2) (λb=>so [] [(5,.rsl 1 0 b.1.length),(7,iG b.2)] [ob 1 4 (b.1.flatMap cO)] 2) (DE rO a) (λc=>cj p (DE rO c)) λb n o=>Cd 34 nH.ixZ 35 (nH.p1Y Vs) λs=>aF 37 (Cd 44 nH.ixZ 45 (nH.p1Y Vs) λt=>Cd 47 rZ.ixZ 48 (rZ.p1Y tZ) λu=>ak λi f=>aw [AA 49 (rO.ixsZ 1 f),hw 49 (i.flatMap cO) (rO.putZ f)]<|cj n [hc (hZ f),hc (rO.imm i)])<|aA c1 o (DE rO b.1)) λe=>aw [AA 29 (cB (rO.p10Z tO d) e)]<|cj p (DE rO a)) λa j=>eH [22] (ak λk h=>aw [AA 25 (rO.ixsZ 1 h),hw 25 (k.flatMap cO) (rO.putZ h)]<|aA c0 j [hc (hZ h),hc (rO.imm k)])<|aA c0 j (DE rO s3.1))<|aA c1 k6 (DE rO s3.1)
def oU(a:Ab)(b:Ab):Fo:=
 bif decide (a.By≠b.By) then(some (decide (a.By<b.By))) else(bif decide (a.Seq≠b.Seq) then(some (decide (a.Seq<b.Seq))) else(some (decide ((a.Sum:Int)<(b.Sum:Int)))))
theorem oV{a b}:DF prog gl (oU a b) 150 [.agg (aj a),.agg (aj b)] bG:=
 cy func150 λK=>aF 9 (rv K)<|aF 19 (rv K)<|rv K
def E7(kind:Int):Fo:=
 (bif decide (kind=1) then(some true) else(bif decide (kind=2) then(some true) else(bif decide (kind=3) then(some true) else(bif decide (kind=4) then(some true) else(some (decide (kind=13))))))).bind λa=>some a
theorem NP{kind}:DF prog gl (E7 kind) 99 [iG kind] bG:=
 cy func99 λK=>cN [1,0] (sf [] []) []<|cC [1,0] (λa=>sg [] [(2,bG a)]) (λa=>rv K) λa k3=>aF 4 (rx k3)<|aF 8 (rx k3)<|aF 12 (rx k3)<|aF 16 (rx k3)<|rx k3
def mz(o:Bp):Fo:=
 (bif decide (o.Kind=7) then(some true) else(bif decide (o.Kind=8) then(some true) else(bif decide (o.Kind=12) then(some true) else(bif decide (o.Kind=10) then(some true) else(bif decide (o.Kind=11) then(some true) else(some (decide (o.Kind=13)))))))).bind λa=>(bif decide (o.Device≠0) then(bif decide (o.Kind≠2) then(bif decide (o.Kind≠3) then(bif decide (o.Kind≠11) then(some (decide (o.Kind≠13))) else(some false)) else(some false)) else(some false)) else(some false)).bind λg=>bif g then(some false) else((bif decide (o.Old≠0) then(bif decide (o.Kind≠13) then(some true) else(bif decide (o.Member≠0) then(bif decide (o.Kind≠3) then(bif decide (o.Kind≠5) then(some true) else(bif decide (o.Role≠0) then(bif decide (o.Kind≠2) then(some (decide (o.Kind≠5))) else(some false)) else(some false))) else(bif decide (o.Role≠0) then(bif decide (o.Kind≠2) then(some (decide (o.Kind≠5))) else(some false)) else(some false))) else(bif decide (o.Role≠0) then(bif decide (o.Kind≠2) then(some (decide (o.Kind≠5))) else(some false)) else(some false)))) else(bif decide (o.Member≠0) then(bif decide (o.Kind≠3) then(bif decide (o.Kind≠5) then(some true) else(bif decide (o.Role≠0) then(bif decide (o.Kind≠2) then(some (decide (o.Kind≠5))) else(some false)) else(some false))) else(bif decide (o.Role≠0) then(bif decide (o.Kind≠2) then(some (decide (o.Kind≠5))) else(some false)) else(some false))) else(bif decide (o.Role≠0) then(bif decide (o.Kind≠2) then(some (decide (o.Kind≠5))) else(some false)) else(some false)))).bind λh=>bif h then(some false) else((bif decide (0<ah o.Path) then((E7 o.Kind).bind λb=>some (!b)) else(some false)).bind λi=>bif i then(some false) else((bif decide (o.Kind≠6) then(bif(!decide (o.Epoch=(⟨0,0,0⟩:Ab))) then(some true) else(bif decide (o.N≠0) then(some true) else(some (decide (0<ah o.Refs))))) else(some false):Fo).bind λj12=>bif j12 then(some false) else((bif decide (0<ah o.Body) then(bif decide (o.Kind≠6) then(bif decide (o.Kind≠7) then(some true) else(bif(!decide (o.Of=(⟨0,0,0⟩:Ab))) then(some (!a)) else(some false))) else(bif(!decide (o.Of=(⟨0,0,0⟩:Ab))) then(some (!a)) else(some false))) else(bif(!decide (o.Of=(⟨0,0,0⟩:Ab))) then(some (!a)) else(some false)):Fo).bind λc=>bif c then(some false) else((bif decide (o.Kind≠9) then(bif decide (0<ah o.Guards) then(some true) else(bif decide (o.Wait≠0) then(some true) else(some (decide ((o.Pub:Int)≠((0:Nat):Int)))))) else(some false)).bind λd=>bif d then(some false) else((bif decide (o.Need≠0) then(bif decide (o.Kind≠9) then(bif decide (o.Kind≠1) then(some true) else(bif decide (0<ah o.Boxes) then(bif decide (o.Kind≠9) then(bif decide (o.Kind≠10) then(some (decide (o.Kind≠11))) else(some false)) else(some false)) else(some false))) else(bif decide (0<ah o.Boxes) then(bif decide (o.Kind≠9) then(bif decide (o.Kind≠10) then(some (decide (o.Kind≠11))) else(some false)) else(some false)) else(some false))) else(bif decide (0<ah o.Boxes) then(bif decide (o.Kind≠9) then(bif decide (o.Kind≠10) then(some (decide (o.Kind≠11))) else(some false)) else(some false)) else(some false))).bind λe=>bif e then(some false) else((bif decide (ah o.Hist=0) then(some true) else(bif decide (o.Kind=2) then(some true) else(some (decide (o.Kind=13))))).bind λf=>some f)))))))
theorem Jr{o}:DF prog gl (mz o) 278 [.agg (aJ o)] bG:=
 cy func278 λK=>cN 1110 (sp [] [(1,.ref 0 0),(3,iG o.Kind)] [ob 0 64 (aJ o)] 1) []<|cC 1110 (λq=>sf [] [(4,bG q)]) (λq=>Nj 111100 (sf [] []) [] 47 (rv K) (Nj 1111100 (sf [47] []) [] 80 (rv K) (Nj 11111100 (sf [80] []) [] 89 (rv K) (Nj 111111100 (sf [89] []) [] 108 (rv K) (cN 1111111100 (sf [108] []) []<|cC 1111111100 (λh=>sf [4] [(130,bG h)]) (λh=>eH [130] (rv K)<|Nj 11111111100 (sf [130] []) [] 148 (rv K) (Nj 111111111100 (sf [148] []) [] 177 (rv K) (cN 111111111110 (sf [177] []) []<|cC 111111111110 (λi=>sk [] [(2,bG i)] [] 0) (λi=>rv K) λi j=>aF 181 (rx j)<|aF 185 (rx j)<|rx j) λb=>aF 151 (aF 155 (aF 159 (rx b)<|aF 164 (aF 168 (aF 172 (rx b)<|rx b)<|rx b)<|rx b)<|aF 164 (aF 168 (aF 172 (rx b)<|rx b)<|rx b)<|rx b)<|aF 164 (aF 168 (aF 172 (rx b)<|rx b)<|rx b)<|rx b) λf=>aF 132 (aF 137 (rx f)<|aF 142 (rx f)<|rx f)<|rx f) λh c=>aF 112 (aF 116 (aF 120 (rx c)<|kV (λk=>aw [hV 125 (cV (dy o.Of (⟨0,0,0⟩:Ab) rfl) k)]<|rx c) λk=>aw [hV 125 (cV (dy o.Of (⟨0,0,0⟩:Ab) rfl) k)]<|rx c)<|kV (λl=>aw [hV 125 (cV (dy o.Of (⟨0,0,0⟩:Ab) rfl) l)]<|rx c) λl=>aw [hV 125 (cV (dy o.Of (⟨0,0,0⟩:Ab) rfl) l)]<|rx c)<|kV (λm=>aw [hV 125 (cV (dy o.Of (⟨0,0,0⟩:Ab) rfl) m)]<|rx c) λm=>aw [hV 125 (cV (dy o.Of (⟨0,0,0⟩:Ab) rfl) m)]<|rx c) λg=>aF 91 (kV (λn=>aw [hV 96 (cV (dy o.Epoch (⟨0,0,0⟩:Ab) rfl) n)]<|rx g) λn=>aw [hV 96 (cV (dy o.Epoch (⟨0,0,0⟩:Ab) rfl) n)]<|aF 101 (rx g)<|rx g)<|rx g) λp=>aF 84 (Bz 87 (NP gl) λr=>rx p)<|rx p) λa=>aF 50 (aF 54 (rx a)<|aF 58 (aF 62 (aF 67 (rx a)<|aF 71 (aF 75 (rx a)<|rx a)<|rx a)<|aF 71 (aF 75 (rx a)<|rx a)<|rx a)<|aF 71 (aF 75 (rx a)<|rx a)<|rx a)<|aF 58 (aF 62 (aF 67 (rx a)<|aF 71 (aF 75 (rx a)<|rx a)<|rx a)<|aF 71 (aF 75 (rx a)<|rx a)<|rx a)<|aF 71 (aF 75 (rx a)<|rx a)<|rx a) λe=>aF 31 (aF 35 (aF 39 (aF 43 (rx e)<|rx e)<|rx e)<|rx e)<|rx e) λq d=>aF 8 (rx d)<|aF 12 (rx d)<|aF 16 (rx d)<|aF 20 (rx d)<|aF 24 (rx d)<|rx d
def fB(n:Int)(low:Int)(a:Int):Fo:=
 (bif decide (low<=n) then(some (decide (n<=a))) else(some false)).bind λb=>some b
theorem bJ{n low a}:DF prog gl (fB n low a) 347 [iG n,iG low,iG a] bG:=
 cy func347 λK=>cN [1,0] (sf [] []) []<|cC [1,0] (λb=>sg [] [(6,bG b)]) (λb=>rv K) λb k3=>aF 9 (rx k3)<|rx k3
def AL(n:Nat):Fo:=
 some (decide ((n:Int)<((2305843009213693951:Nat):Int)))
theorem vv{n}:DF prog gl (AL n) 350 [uG n] bG:=
 cy func350 λK=>rv K
def iM(a:Ab):Fo:=
 ((fB a.By 1 12).bind λd=>bif d then((fB a.Seq 1 2147483647).bind λb=>bif b then((AL a.Sum).bind λc=>some c) else(some false)) else(some false)).bind λe=>some e
theorem dW{id_}:DF prog gl (iM id_) 348 [.agg (aj id_)] bG:=
 cy func348 λK=>cN [1,0] (sp [] [(1,.ref 0 0)] [ob 0 25 (aj id_)] 1) []<|cC [1,0] (λa=>sk [] [(2,bG a)] [] 0) (λa=>rv K) λa k5=>ak λe e8=>kV (λb=>Bz 9 (bJ gl) λc=>aw [hf 5 (cF (bJ gl e8) b)]<|aF 10 (Bz 14 (vv gl) λd=>rx k5)<|rx k5) λb=>aw [hf 5 (cF (bJ gl e8) b)]<|rx k5
def Jd(n:Nat):Fo:=
 (bif decide (((1:Nat):Int)<=(n:Int)) then(some (decide ((n:Int)<((2305843009213693951:Nat):Int)))) else(some false)).bind λa=>some a
theorem kH{n}:DF prog gl (Jd n) 349 [uG n] bG:=
 cy func349 λK=>cN [1,0] (sf [] []) []<|cC [1,0] (λa=>sg [] [(2,bG a)]) (λa=>rv K) λa k3=>aF 4 (rx k3)<|rx k3
end
section
set_option maxHeartbeats 2000000
def Gd(o:Bp):Fo:=
 ((fB o.By 1 12).bind λa=>bif(!a) then(some true) else((fB o.Seq 1 2147483647).bind λb=>bif(!b) then(some true) else((fB o.At 0 2147483647).bind λc=>some (!c)))).bind λC=>bif C then(some false) else(bif decide (o.Kind=1) then((fB o.Need 0 20).bind λD=>some D) else(bif decide (o.Kind=2) then(((fB o.Device 1 12).bind λf=>bif f then((fB o.Role 1 3).bind λg=>some g) else(some false)).bind λj12=>some j12) else(bif decide (o.Kind=3) then(((fB o.Device 1 12).bind λh=>bif h then(bif decide (o.Member=0) then(some true) else(bif decide (o.Device=0) then((fB o.Member 1 8).bind λi=>some i) else(some false))) else(bif decide (o.Device=0) then((fB o.Member 1 8).bind λj=>some j) else(some false))).bind λk=>some k) else(bif decide (o.Kind=5) then(((fB o.Member 1 8).bind λl=>bif l then((fB o.Role 1 3).bind λm=>some m) else(some false)).bind λn=>some n) else(bif decide (o.Kind=6) then(((iM o.Epoch).bind λp=>bif p then((fB o.N 0 2147483647).bind λq=>some q) else(some false)).bind λr=>some r) else(bif decide (o.Kind=9) then(((fB o.Need 1 (ah o.Guards)).bind λs=>bif s then((fB o.Wait 0 2147483647).bind λt=>bif t then((Jd o.Pub).bind λu=>some u) else(some false)) else(some false)).bind λv=>some v) else(bif decide (o.Kind=11) then(((iM o.Of).bind λw=>bif w then((fB o.Device 1 12).bind λx=>some x) else(some false)).bind λy=>some y) else(bif decide (o.Kind=13) then(((iM o.Of).bind λz=>bif z then((fB o.Device 1 12).bind λA=>bif A then((fB o.Old 1 12).bind λd=>some d) else(some false)) else(some false)).bind λB=>some B) else(bif decide (o.Kind=4) then(some true) else((iM o.Of).bind λe=>some e))))))))))
theorem De{o}:DF prog gl (Gd o) 279 [.agg (aJ o)] bG:=
 cy func279 λK=>Nj 1100 (sp [] [(1,.ref 0 0)] [ob 0 64 (aJ o)] 1) [] 18 (rv K) (aF 22 (Bz 25 (bJ gl) λv7=>rv K)<|aF 27 (cN 11101214130 (sf [18] []) []<|cC 11101214130 (λj12=>sk [] [(2,bG j12)] [] 0) (λj12=>rv K) λj12 s=>ak λJ t=>kV (λc=>Bz 34 (bJ gl) λL=>aw [hf 30 (cF (bJ gl t) c)]<|rx s) λc=>aw [hf 30 (cF (bJ gl t) c)]<|rx s)<|aF 37 (cN 1110121414130 (sf [18] []) []<|cC 1110121414130 (λd=>sk [] [(2,bG d)] [] 0) (λd=>rv K) λd a=>ak λM u=>kV (λe=>aw [hf 40 (cF (bJ gl u) e)]<|aF 45 (rx a)<|aF 49 (Bz 53 (bJ gl) λN=>rx a)<|rx a) λe=>aw [hf 40 (cF (bJ gl u) e)]<|aF 49 (Bz 53 (bJ gl) λO=>rx a)<|rx a)<|aF 57 (cN 111012141414130 (sf [18] []) []<|cC 111012141414130 (λf=>sk [] [(2,bG f)] [] 0) (λf=>rv K) λf v=>ak λP w=>kV (λg=>Bz 64 (bJ gl) λQ=>aw [hf 60 (cF (bJ gl w) g)]<|rx v) λg=>aw [hf 60 (cF (bJ gl w) g)]<|rx v)<|aF 67 (cN 11101214141414130 (sf [18] []) []<|cC 11101214141414130 (λh=>sk [] [(2,bG h)] [] 0) (λh=>rv K) λh x=>ak λR y=>kV (λi=>Bz 74 (bJ gl) λS=>aw [hf 70 (cF (dW gl y) i)]<|rx x) λi=>aw [hf 70 (cF (dW gl y) i)]<|rx x)<|aF 77 (cN 1110121414141414130 (sf [18] []) []<|cC 1110121414141414130 (λj=>sk [] [(2,bG j)] [] 0) (λj=>rv K) λj k=>ak λU z=>kV (λl=>Bz 87 (bJ gl) λV=>aw [hf 83 (cF (bJ gl z) l)]<|aF 88 (Bz 92 (kH gl) λW=>rx k)<|rx k) λl=>aw [hf 83 (cF (bJ gl z) l)]<|rx k)<|aF 95 (cN 111012141414141414130 (sf [18] []) []<|cC 111012141414141414130 (λm=>sk [] [(2,bG m)] [] 0) (λm=>rv K) λm A=>ak λX B=>kV (λn=>Bz 102 (bJ gl) λY=>aw [hf 98 (cF (dW gl B) n)]<|rx A) λn=>aw [hf 98 (cF (dW gl B) n)]<|rx A)<|aF 105 (cN 11101214141414141414130 (sf [18] []) []<|cC 11101214141414141414130 (λp=>sk [] [(2,bG p)] [] 0) (λp=>rv K) λp q=>ak λZ C=>kV (λr=>Bz 112 (bJ gl) λv99=>aw [hf 108 (cF (dW gl C) r)]<|aF 113 (Bz 117 (bJ gl) λD=>rx q)<|rx q) λr=>aw [hf 108 (cF (dW gl C) r)]<|rx q)<|aF 120 (rv K)<|Bz 123 (dW gl) λE=>rv K) λb=>Bz 5 (bJ gl) λF=>aF 6 (rx b)<|Bz 10 (bJ gl) λH=>aF 12 (rx b)<|Bz 16 (bJ gl) λI=>rx b
def qv(l:List Hb)(s1:Int):Option ((Int)⊕(Unit⊕Bool)):=
 bif decide (s1<ah l) then(((aS l s1).bind λa=>(Jd a.To).bind λb=>bif(!b) then(some true) else((aS l s1).bind λc=>(Jd c.Eph).bind λd=>bif(!d) then(some true) else((aS l s1).bind λe=>(AL e.Body).bind λf=>bif(!f) then(some true) else((aS l s1).bind λg=>(AL g.Tag).bind λh=>some (!h))))).bind λi=>bif i then(some (.inr (.inr false))) else(some (.inl (wI (s1+1))))) else(some (.inr (.inl ())))
def qw(l:List Hb):Fo:=
 (AB (qv l) 0).bind λa=>ma a (λb=>some true) (λq=>some q)
theorem yE{l}:DF prog gl (qw l) 351 [aE cz l] bG:=
 cy func351 λK=>Nk 1101 (λb=>sg [] []) (λs1=>sf [] [(3,iG s1)]) [] K (λb=>rv K) λs1 k5 c k6=>aF 7 (Nj 1101221020 (sf [] []) [] 43 (aP c3 k6 []) (rb k5) λa=>Cd 12 EA.ixZ 14 (EA.fdY tW 0) λd=>Bz 15 (kH gl) λe=>aF 16 (rx a)<|Cd 20 EA.ixZ 22 (EA.fdY tW 1) λf=>Bz 23 (kH gl) λg=>aF 25 (rx a)<|Cd 29 EA.ixZ 31 (EA.fdY tW 2) λh=>Bz 32 (vv gl) λi=>aF 34 (rx a)<|Cd 38 EA.ixZ 40 (EA.fdY tW 3) λj=>Bz 41 (vv gl) λk=>rx a)<|aA c2 c []
def qx(o:Bp)(a:Int):Option ((Int)⊕(Unit⊕Bool)):=
 bif decide (a<ah o.Hist) then((aS o.Hist a).bind λb=>(iM b.Of).bind λc=>bif(!c) then(some (.inr (.inr false))) else(some (.inl (wI (a+1))))) else(some (.inr (.inl ())))
def qy(o:Bp)(a:Int):Option ((Int)⊕(Unit⊕Bool)):=
 bif decide (a<ah o.Path) then(((aS o.Path a).bind λb=>(Jd b.Pub).bind λc=>bif(!c) then(some true) else((aS o.Path a).bind λd=>(qw d.Boxes).bind λe=>some (!e))).bind λf=>bif f then(some (.inr (.inr false))) else(some (.inl (wI (a+1))))) else(some (.inr (.inl ())))
def qz(o:Bp)(a:Int):Option ((Int)⊕(Unit⊕Bool)):=
 bif decide (a<ah o.Past) then((aS o.Past a).bind λb=>(iM b).bind λc=>bif(!c) then(some (.inr (.inr false))) else(some (.inl (wI (a+1))))) else(some (.inr (.inl ())))
def qA(o:Bp)(a:Int):Option ((Int)⊕(Unit⊕Bool)):=
 bif decide (a<ah o.Refs) then((aS o.Refs a).bind λb=>(AL b).bind λc=>bif(!c) then(some (.inr (.inr false))) else(some (.inl (wI (a+1))))) else(some (.inr (.inl ())))
def qB(o:Bp)(s1:Int):Option ((Int)⊕(Unit⊕Bool)):=
 bif decide (s1<ah o.Guards) then((aS o.Guards s1).bind λa=>(fB a 1 12).bind λb=>bif(!b) then(some (.inr (.inr false))) else(some (.inl (wI (s1+1))))) else(some (.inr (.inl ())))
def vw(o:Bp):Fo:=
 (AB (qB o) 0).bind λj=>ma j (λk=>(AB (qA o) 0).bind λa=>ma a (λf=>(AB (qz o) 0).bind λb=>ma b (λg=>(AB (qy o) 0).bind λc=>ma c (λh=>(AB (qx o) 0).bind λd=>ma d (λi=>(qw o.Boxes).bind λe=>some e) (λq=>some q)) (λq=>some q)) (λq=>some q)) (λq=>some q)) (λq=>some q)
theorem GY{o}:DF prog gl (vw o) 280 [.agg (aJ o)] bG:=
 cy func280 λK=>Nk 1101 (λj=>sp [] [(1,.ref 0 0)] [ob 0 64 (aJ o)] 1) (λs1=>sp [] [(1,.ref 0 0),(3,iG s1)] [ob 0 64 (aJ o)] 1) [] K (λj=>Nk 11101 (λa=>sf [] []) (λb=>sf [] [(4,iG b)]) [] K (λa=>Nk 111101 (λc=>sf [] []) (λd=>sf [] [(5,iG d)]) [] K (λc=>Nk 1111101 (λe=>sf [] []) (λf=>sf [] [(6,iG f)]) [] K (λe=>Nk 11111101 (λg=>sf [] []) (λh=>sf [] [(7,iG h)]) [] K (λg=>Bz 92 (yE gl) λw=>rv K) λh k l m=>aF 79 (Cd 85 bH.ixZ 87 (bH.fsZ aW jz 0 B5) λx=>Bz 88 (dW gl) λy=>aF 89 (aP c3 m [])<|rb k)<|aA c2 l []) λf n p q=>aF 54 (Nj 1111101221020 (sf [] []) [] 74 (aP c3 q []) (rb n) λi=>Cd 60 bZ.ixZ 62 (bZ.fdY tW 0) λz=>Bz 63 (kH gl) λA=>aF 64 (rx i)<|Cd 69 bZ.ixZ 71 (bZ.fdY E3 1) λB=>Bz 72 (yE gl) λC=>rx i)<|aA c2 p []) λd r s t=>aF 40 (Cd 46 ac.ixZ 47 (ac.ptZ aW) λD=>Bz 48 (dW gl) λE=>aF 49 (aP c3 t [])<|rb r)<|aA c2 s []) λb u k13 v=>aF 26 (Cd 32 rW.ixZ 33 (rW.p1Y tW) λF=>Bz 34 (vv gl) λH=>aF 35 (aP c3 v [])<|rb u)<|aA c2 k13 []) λs1 k5 I k6=>aF 12 (Cd 18 rZ.ixZ 19 (rZ.p1Y tZ) λJ=>Bz 20 (bJ gl) λL=>aF 21 (aP c3 k6 [])<|rb k5)<|aA c2 I []
def tU(o:Bp)(a:Int):Option ((Int)⊕(Unit⊕Bool)):=
 bif decide (a<ah o.Hist) then((aS o.Hist a).bind λb=>bif decide (208<ah b.Body) then(some (.inr (.inr true))) else(some (.inl (wI (a+1))))) else(some (.inr (.inl ())))
def tV(o:Bp)(s1:Int):Option ((Int)⊕(Unit⊕Bool)):=
 bif decide (s1<ah o.Path) then((aS o.Path s1).bind λa=>bif decide (12<ah a.Boxes) then(some (.inr (.inr true))) else(some (.inl (wI (s1+1))))) else(some (.inr (.inl ())))
def z6(o:Bp):Fo:=
 (AB (tV o) 0).bind λg=>ma g (λh=>(AB (tU o) 0).bind λa=>ma a (λf=>(bif decide (12<ah o.Past) then(some true) else(bif decide (5<ah o.Path) then(some true) else(bif decide (208<ah o.Body) then(some true) else(bif decide (8<ah o.Refs) then(some true) else(bif decide (20<ah o.Hist) then(some true) else(some (decide (6<ah o.Guards)))))))).bind λb=>bif b then(some true) else(bif decide (o.Kind=7) then((fB (ah o.Body) 1 20).bind λc=>some (!c)) else(bif decide (o.Kind=9) then(some (decide (ah o.Boxes≠ah o.Guards))) else(bif decide (o.Kind=10) then((fB (ah o.Boxes) 1 6).bind λd=>some (!d)) else((bif decide (o.Kind=11) then(some (decide (ah o.Boxes≠1))) else(some false)).bind λe=>some e))))) (λq=>some q)) (λq=>some q)
theorem AM{o}:DF prog gl (z6 o) 281 [.agg (aJ o)] bG:=
 cy func281 λK=>Nk 1101 (λf=>sp [] [(1,.ref 0 0)] [ob 0 64 (aJ o)] 1) (λs1=>sp [] [(1,.ref 0 0),(3,iG s1)] [ob 0 64 (aJ o)] 1) [] K (λf=>Nk 11101 (λc=>sf [] []) (λd=>sf [] [(4,iG d)]) [] K (λc=>Nj 111100 (sf [] []) [] 68 (rv K) (aF 71 (Bz 75 (bJ gl) λi=>rv K)<|aF 79 (rv K)<|aF 89 (Bz 93 (bJ gl) λj=>rv K)<|cN 111111110 (sf [68] []) []<|cC 111111110 (λb=>sk [] [(2,bG b)] [] 0) (λb=>rv K) λb e=>aF 97 (rx e)<|rx e) λa=>aF 38 (rx a)<|aF 44 (rx a)<|aF 50 (rx a)<|aF 56 (rx a)<|aF 62 (rx a)<|rx a) λd g k13 h=>aF 24 (Cd 30 bH.ixZ 32 (bH.fdY tLY 3) λk=>aF 34 (aP c3 h [])<|rb g)<|aA c2 k13 []) λs1 k5 l k6=>aF 9 (Cd 15 bZ.ixZ 17 (bZ.fdY E3 1) λm=>aF 19 (aP c3 k6 [])<|rb k5)<|aA c2 l []
def qC(o:Bp)(a:Int):Option ((Int)⊕(Unit⊕Int)):=
 bif decide (a<ah o.Guards) then((aS o.Guards (wI (a-1))).bind λb=>(aS o.Guards a).bind λc=>bif decide (c<=b) then(some (.inr (.inr 6))) else(some (.inl (wI (a+1))))) else(some (.inr (.inl ())))
def qD(o:Bp)(a:Int):Option ((Int)⊕(Unit⊕Int)):=
 bif decide (a<ah o.Past) then((aS o.Past (wI (a-1))).bind λb=>(aS o.Past a).bind λc=>(oU b c).bind λd=>bif(!d) then(some (.inr (.inr 6))) else(some (.inl (wI (a+1))))) else(some (.inr (.inl ())))
def qE(o:Bp):JM:=
 (bif decide (o.Kind<1) then(some true) else(some (decide (13<o.Kind)))).bind λi=>bif i then(some 1) else((mz o).bind λj=>bif(!j) then(some 1) else(((Gd o).bind λa=>bif(!a) then(some true) else((vw o).bind λb=>some (!b))).bind λk=>bif k then(some 8) else((z6 o).bind λc=>bif c then(some 2) else((AB (qD o) 1).bind λd=>ma d (λg=>(AB (qC o) 1).bind λe=>ma e (λh=>(bif decide (ah o.Past=0) then(bif decide (o.Kind=1) then(some false) else(some true)) else(bif decide (o.Kind=1) then(some true) else(some false))).bind λf=>bif f then(some 10) else(some 0)) (λq=>some q)) (λq=>some q)))))
theorem GZ{o}:DF prog gl (qE o) 208 [.agg (aJ o)] iG:=
 cy func208 λK=>Nj 1100 (sp [] [(1,.ref 0 0)] [ob 0 64 (aJ o)] 1) [] 12 (rv K) (Bz 14 (Jr gl) λy=>aF 15 (rv K)<|Nj 111100 (sf [12] []) [] 23 (rv K) (ak λq c=>kV (λb=>aw [hf 25 (cF (AM gl c) b)]<|rv K) λb=>aw [hf 25 (cF (AM gl c) b)]<|Nk 11111101 (λd=>sf [23] []) (λe=>sf [23] [(3,iG e)]) [] K (λd=>Nk 111111101 (λf=>sf [] []) (λg=>sf [] [(4,iG g)]) [] K (λf=>Ab1 1111111100 (sf [] []) [] 72 (rv K) (rv K) λa=>aF 68 (aF 71 (rx a)<|rx a)<|aF 71 (rx a)<|rx a) λg j k l=>aF 50 (Cd 57 rZ.ixZ 58 (rZ.p1Y tZ) λr=>Cd 62 rZ.ixZ 63 (rZ.p1Y tZ) λs=>aF 64 (aP c3 l [])<|rb j)<|aA c2 k []) λe m n p=>aF 30 (Cd 37 ac.ixZ 38 (ac.ptZ aW) λt=>Cd 42 ac.ixZ 43 (ac.ptZ aW) λu=>Bz 44 (oV gl) λv=>aF 45 (aP c3 p [])<|rb m)<|aA c2 n []) λh=>Bz 17 (De gl) λw=>aF 18 (rx h)<|Bz 21 (GY gl) λx=>rx h) λi=>aF 7 (rx i)<|rx i
def qF(g:A7)(b:Ab)(s1:Int):Option ((Int)⊕(Unit⊕Int)):=
 bif decide (s1<ah g.IDs) then((aS g.IDs s1).bind λa=>bif decide (a=b) then(some (.inr (.inr s1))) else(some (.inl (wI (s1+1))))) else(some (.inr (.inl ())))
def fC(g:A7)(a:Ab):JM:=
 (AB (qF g a) 0).bind λb=>ma b (λc=>some (-1)) (λq=>some q)
theorem dX{g id_}:DF prog gl (fC g id_) 38 [.agg (aI g),.agg (aj id_)] iG:=
 cy func38 λK=>Nk 1101 (λc=>sg [] []) (λs1=>sp [] [(2,.ref 0 0),(3,.ref 1 0),(5,iG s1)] [ob 0 33 (aI g),ob 1 25 (aj id_)] 2) [] K (λc=>rv K) λs1 k5 d k6=>aF 10 (Cd 16 ac.ixZ 17 (ac.ptZ aW) λb=>kV (λa=>aw [hV 19 (cV (dU b id_ rfl) a)]<|aP c3 k6 []) λa=>aw [hV 19 (cV (dU b id_ rfl) a)]<|rb k5)<|aA c2 d []
def tX(g:A7)(device:Int)(s1:DL×Int):Option ((DL×Int)⊕(DL⊕(DL×Bool))):=
 bif decide (s1.2<ah g.Cards) then((aS g.Cards s1.2).bind λa=>bif decide (a.Device=device) then((aS g.Cards s1.2).bind λb=>some (.inr (.inr (b,true)))) else(some (.inl (s1.1,wI (s1.2+1))))) else(some (.inr (.inl s1.1)))
def vz(g:A7)(device:Int):Option (DL×Bool):=
 (AB (tX g device) (⟨0,0,0,0,0⟩,0)).bind λa=>ma a (λb=>some (⟨0,0,0,0,0⟩,false)) (λq=>some q)
theorem AN{g device}:DF prog gl (vz g device) 58 [.agg (aI g),iG device] (λr=> .tup [.agg (bv r.1),bG r.2]):=
 cy func58 λK=>Nk 1101 (λa=>sp [] [(4,.ref 0 0)] [ob 0 78 (bv a)] 1) (λs1=>so [0] [(2,.ref 0 0),(4,.ref 1 0),(6,iG s1.2)] [ob 0 33 (aI g),ob 1 78 (bv s1.1)] 2) [] K (λa=>rv K) λs1 k5 b k6=>aF 11 (Cd 17 bT.ixZ 19 (bT.fdY tZ 0) λc=>aF 21 (Cd 25 bT.ixZ 26 (bT.ptZ E2) λd=>aP c3 k6 [])<|rb k5)<|aA c2 b []
def jJ(pub:Nat)(b:CM)(s:XM):Fo:=
 (bif decide ((pub:Int)<((1:Nat):Int)) then(some true) else((fV).bind λa=>bif decide ((a:Int)<(pub:Int)) then(some true) else(bif decide ((s.R:Int)<((1:Nat):Int)) then(some true) else((fV).bind λc=>bif decide ((c:Int)<(s.R:Int)) then(some true) else((fV).bind λd=>some (decide ((d:Int)<=(s.S:Int)))))))).bind λf=>bif f then(some false) else((iK 37 s.S).bind λg=>(Pi s.R pub b).bind λh=>(iK pub h).bind λi=>(oQ s.R i).bind λe=>some (decide ((g:Int)=(e:Int))))
theorem G0{pub b s}:DF prog gl (jJ pub b s) 209 [uG pub,aE cY b,.agg (yy s)] bG:=
 cy func209 λK=>Nj 1100 (so [2] [(5,.ref 0 0)] [ob 0 62 (yy s)] 1) [] 30 (rv K) (Bz 33 (lc gl) λf=>Bz 41 (LI gl) λg=>Bz 42 (lc gl) λh=>Bz 43 (nK gl) λa=>rv K) λk12=>aF 8 (rx k12)<|Bz 11 (eU gl) λc=>aF 13 (rx k12)<|aF 18 (rx k12)<|Bz 22 (eU gl) λd=>aF 24 (rx k12)<|Bz 28 (eU gl) λe=>rx k12
def jK(g:A7)(o:Bp)(in_:List Bool)(s1:Bool×Int):Option ((Bool×Int)⊕(Bool⊕Bool)):=
 bif decide (s1.2<ah g.L) then(((aS in_ s1.2).bind λa=>bif(!a) then(some true) else((aS g.L s1.2).bind λb=>some (decide (b.By≠o.By)))).bind λc=>bif c then(some (.inl (s1.1,wI (s1.2+1)))) else((aS g.L s1.2).bind λd=>bif decide (o.Seq<=d.Seq) then(some (.inr (.inr false))) else((bif s1.1 then(some true) else((aS g.L s1.2).bind λe=>some (decide (e.Seq=wI (o.Seq-1))))).bind λf=>some (.inl (f,wI (s1.2+1)))))) else(some (.inr (.inl s1.1)))
def lA(g:A7)(o:Bp)(in_:List Bool):Fo:=
 (AB (jK g o in_) (false,0)).bind λc=>ma c (λa=>(bif decide (o.Seq=1) then(some true) else(some a)).bind λb=>some b) (λq=>some q)
theorem G1{g o in_}:DF prog gl (lA g o in_) 210 [.agg (aI g),.agg (aJ o),aE cO in_] bG:=
 cy func210 λK=>Nk 11101 (λc=>sp [] [(4,.ref 0 0),(7,bG c)] [ob 0 64 (aJ o)] 1) (λs1=>sp [2] [(3,.ref 0 0),(4,.ref 1 0),(7,bG s1.1),(8,iG s1.2)] [ob 0 33 (aI g),ob 1 64 (aJ o)] 2) [] K (λc=>cN 11110 (sf [] []) []<|cC 11110 (λa=>sk [] [(6,bG a)] [] 0) (λa=>rv K) λa k12=>aF 56 (rx k12)<|rx k12) λs1 k5 f k6=>aF 13 (Nj 111012210200 (sf [] []) [] 31 (rb k5) (Cd 35 eJ.ixZ 37 (eJ.fdY tZ 1) λh=>aF 40 (aP c3 k6 [])<|cC 111012210211 (λb=>sf [31] [(7,bG b)]) (λb=>rb k5) λb d=>aF 41 (rx d)<|Cd 46 eJ.ixZ 48 (eJ.fdY tZ 1) λi=>rx d) λe=>Cd 18 rO.ixZ 19 (rO.p1Y tO) λj=>aF 20 (rx e)<|Cd 25 eJ.ixZ 27 (eJ.fdY tZ 0) λk=>rx e)<|aA c2 f []
end
section
set_option maxHeartbeats 2000000
def qG(g:A7)(a:Be)(c:Int)(b:Int):Option ((Int)⊕(Unit⊕(Int×Be))):=
 bif decide (b<ah a) then((aS a c).bind λd=>(aS g.In d).bind λe=>(aS a b).bind λf=>(aS e f).bind λh=>bif h then(some (.inr (.inr (6,[])))) else(some (.inl (wI (b+1))))) else(some (.inr (.inl ())))
def qH(g:A7)(o:Bp)(a:Be)(b:Int):Option ((Int)⊕(Unit⊕(Int×Be))):=
 bif decide (b<ah a) then((AB (qG g a b) 0).bind λc=>ma c (λf=>(aS a b).bind λd=>(aS g.L d).bind λe=>bif decide (o.At<e.At) then(some (.inr (.inr (6,[])))) else(some (.inl (wI (b+1))))) (λq=>some (.inr (.inr q)))) else(some (.inr (.inl ())))
def qI(g:A7)(o:Bp)(a:Be×Int):Option ((Be×Int)⊕(Be⊕(Int×Be))):=
 bif decide (a.2<ah o.Past) then((aS o.Past a.2).bind λc=>(fC g c).bind λb=>bif decide (b<0) then(some (.inr (.inr (10,[])))) else((aT 8 a.1 ([b]:Be)).bind λd=>some (.inl (d,wI (a.2+1))))) else(some (.inr (.inl a.1)))
def vA(g:A7)(o:Bp):Option (Int×Be):=
 (qE o).bind λk=>bif decide (k≠0) then(some (k,[])) else((pV o).bind λm=>(fC g m).bind λn=>bif decide (0<=n) then(some (5,[])) else(bif decide (200<=ah g.L) then(some (3,[])) else((vz g o.By).bind λb=>bif(!b.2) then(some (17,[])) else((lz o).bind λc=>(jJ b.1.Sign c o.Sig).bind λd=>bif(!d) then(some (12,[])) else((bif decide (o.Kind=1) then(some (decide (0<ah g.L))) else(some false)).bind λe=>bif e then(some (1,[])) else((AB (qI g o) ([],0)).bind λf=>ma f (λa=>(AB (qH g o a) 0).bind λh=>ma h (λl=>(jA g a).bind λi=>(lA g o i).bind λj=>bif(!j) then(some (11,[])) else(some (0,a))) (λq=>some q)) (λq=>some q)))))))
theorem G2{g o}:DF prog gl (vA g o) 113 [.agg (aI g),.agg (aJ o)] (λr=> .tup [iG r.1,aE cZ r.2]):=
 cy func113 λK=>Bz 16 (GZ gl) λL=>aF 18 (rv K)<|Bz 22 (AI gl) λM=>Bz 23 (dX gl) λN=>aF 24 (rv K)<|aF 28 (rv K)<|Bz 33 (AN gl) λw=>aF 37 (rv K)<|Jt 41 rY (GX gl) λx=>Bz 44 (G0 gl) λy=>aF 46 (rv K)<|Nj 111111111100 (sp [] [(2,.ref 0 0),(3,.ref 1 0)] [ob 0 33 (aI g),ob 1 64 (aJ o)] 2) [] 55 (rv K) (Nk 11111111111101 (λb=>sf [55] [(10,aE cZ b)]) (λa=>so [55] [(10,.rsl 2 0 a.1.length),(11,iG a.2)] [ob 2 3 (a.1.flatMap cZ)] 3) [hc (rZ.imm [])] K (λb=>Nk 111111111111101 (λe=>sf [] []) (λf=>sf [] [(13,iG f)]) [] K (λe=>Jt 118 rO (AK gl) λz=>Bz 119 (G1 gl) λA=>aF 120 (rv K)<|rv K) λf l m h=>aF 79 (Nk 1111111111111012210201 (λi=>sf [] []) (λj=>sf [] [(14,iG j)]) [] h (λi=>Cd 108 rZ.ixZ 109 (rZ.p1Y tZ) λB=>Cd 110 eJ.ixZ 112 (eJ.fdY tZ 3) λC=>aF 113 (aP c3 h [])<|rb l) λj n p q=>aF 85 (Cd 92 rZ.ixZ 93 (rZ.p1Y tZ) λD=>Cd 94 zV.ixZ 95 (zV.p1Y Vt) λE=>Cd 98 rZ.ixZ 99 (rZ.p1Y tZ) λF=>ak λH c=>aw [AA 100 (rO.ixZ c)]<|kV (λd=>aw [AA 101 (cB (rO.p1Z tO c) d)]<|aP c3 q []) λd=>aw [AA 101 (cB (rO.p1Z tO c) d)]<|rb n)<|aA c2 p [])<|aA c2 m []) λa s t u=>aF 60 (Cd 67 ac.ixZ 68 (ac.ptZ aW) λI=>Bz 69 (dX gl) λJ=>aF 71 (aP c3 u [])<|FI (dg 75 rZ) λv=>cj s (DE rZ v))<|aA c2 t [hc (rZ.al a.1)]) λk=>aF 49 (rx k)<|rx k
def xr(g:A7)(a:List (List Bool)×Int):Option ((List (List Bool)×Int)⊕(List (List Bool))):=
 bif decide (a.2<ah g.In) then((aS g.In a.2).bind λb=>(aT 1 ([]:List Bool) b).bind λc=>((aT 1 c [false]).bind λd=>(aT 24 a.1 [d]).bind λe=>some e).bind λf=>some (.inl (f,wI (a.2+1)))) else(some (.inr a.1))
def AO(g:A7)(o:Bp):Option (A7×Int):=
 (vA g o).bind λa=>bif decide (a.1≠0) then(some (g,a.1)) else((jA g a.2).bind λl=>(aT 328 ([]:List Bp) g.L).bind λm=>(aT 328 m [o]).bind λn=>(aT 24 ([]:Bc) g.IDs).bind λb=>(pV o).bind λc=>(aT 24 b [c]).bind λd=>(aT 24 ([]:Ly) g.Up).bind λe=>(aT 24 e [a.2]).bind λf=>(AB (xr g) ([],0)).bind λh=>((aT 1 l [false]).bind λi=>(aT 24 h [i]).bind λj=>some j).bind λk=>some (⟨g.Cards,n,d,f,k⟩,0))
theorem M9{g o}:DF prog gl (AO g o) 55 [.agg (aI g),.agg (aJ o)] (λr=> .tup [.agg (aI r.1),iG r.2]):=
 cy func55 λK=>Bz 15 (G2 gl) λw=>aF 19 (rv K)<|ak λb e5=>FI (wX 32 eJ) λB=>FI (dg 35 eJ) λl=>FI (wX 41 ac) λx=>Bz 43 (AI gl) λy=>FI (dg 45 ac) λe=>FI (wX 51 nH) λz=>FI (dg 54 nH) λf=>aw [ho 24 [.agg (aI g),aE cZ w.2] [] (AK gl e5) (lO b)]<|HC 111111111101 (λc=>sp [] [(4,.ref 0 0),(8,.rsl 1 0 b.length),(9,.ref 2 0)] [ob 0 33 (bF [0,1,2,3,4] (aI xm)),ob 1 4 (b.flatMap cO),ob 2 33 [aE bv g.Cards,aE aJ l,aE aj e,aE Jc f,.rsl 3 0 c.length],ob 3 172 (c.flatMap OT)] 4) (λa=>sp [] [(2,.ref 0 0),(4,.ref 1 0),(8,.rsl 2 0 b.length),(9,.ref 3 0),(10,iG a.2)] [ob 0 33 (aI g),ob 1 33 (bF [0,1,2,3,4] (aI xm)),ob 2 4 (b.flatMap cO),ob 3 33 [aE bv g.Cards,aE aJ l,aE aj e,aE Jc f,.rsl 4 0 a.1.length],ob 4 172 (a.1.flatMap OT)] 5) [hc (el b),hc (rO.imm b),hc (eJ.al l),hc (ac.al e),hc (nH.al f),hc (zV.imm [])] (λc=>cN 111111111110 (sf [] []) [hc (el b),hc (rO.imm b),hc (el c),hc (zV.imm c)]<|cC 111111111110 (λh=>sx [8] [(9,.ref 1 0)] [ob 0 33 (bF [0,1,2,3,4] (aI xm)),ob 1 33 [aE bv g.Cards,aE aJ l,aE aj e,aE Jc f,.rsl 2 0 h.length],ob 2 172 (h.flatMap OT)] 3) (λh=>aP c0 K [hc (zV.al h)]) λh s=>FI (dg 82 rO) λi=>ak λm n=>aw [Tv 84 zV n [.rsl 5 0 i.length] rfl]<|aA c0 s [hc (el m),ZV zV n [.rsl 5 0 i.length],hc (rO.al i)] (kd:=[(2,.app (c.flatMap OT) [.rsl 5 0 i.length] (OT i) (m.flatMap OT))])) λa t u=>aF 60 (Cd 67 zV.ixZ 68 (zV.p1Y Vt) λA=>FI (wX 69 rO) λk=>cN 1111111111012210211 (so [] [(11,.rsl 5 0 k.length)] [ob 5 4 (k.flatMap cO)] 6) [hc (el b),hc (el k),hc (rO.imm b),hc (el a.1),hc (zV.imm a.1),hc (rO.imm k)]<|cC 1111111111012210211 (λd=>sx [11] [] [ob 0 33 (aI g),ob 1 33 (bF [0,1,2,3,4] (aI xm)),ob 2 4 (b.flatMap cO),ob 3 33 [aE bv g.Cards,aE aJ l,aE aj e,aE Jc f,.rsl 4 0 d.length],ob 4 172 (d.flatMap OT)] 5) (λd=>cj t [hc (el b),hc (rO.imm b),hc (el d),hc (zV.imm d)]) λd v=>FI (dg 74 rO) λj=>ak λp q=>aw [Tv 76 zV q [.rsl 7 0 j.length] rfl]<|aA c0 v [hc (el b),hc (rO.imm b),hc (el p),ZV zV q [.rsl 7 0 j.length],hc (rO.al j)] (kd:=[(2,.row),(4,.app (a.1.flatMap OT) [.rsl 7 0 j.length] (OT j) (p.flatMap OT))]))<|aA c1 u [hc (el b),hc (rO.imm b),hc (el a.1),hc (zV.imm a.1)]
def r8:Option Be:=
 some ([1,2,3,1,2,3]:Be)
theorem E9:LC prog gl (r8) 97 [] 3 cZ:=
 gc func97 λK=>mr c0 K (rZ.imm _)
def z7(n:Int):JM:=
 (aS ([6,4,3,2,5,7,8,3,6,9,11,11,13,12,10,4,3,2,6,13]:Be) (Int.tmod n 20)).bind λa=>some a
theorem Js{n}:DF prog gl (z7 n) 179 [iG n] iG:=
 cy func179 λK=>Cd 6 (rZ.ixrZ 0) 7 (rZ.p10Y tZ) λa=>rv K
def vB(l:Bc)(s1:Bc×Int)(a:Int):Option ((Int)⊕(Int)):=
 bif decide (0<a) then((aS l s1.2).bind λb=>(aS s1.1 (wI (a-1))).bind λc=>(oU b c).bind λd=>bif(!d) then(some (.inr a)) else(some (.inl (wI (a-1))))) else(some (.inr a))
def oZ(l:Bc)(s1:Bc×Int):Option ((Bc×Int)⊕Bc):=
 bif decide (s1.2<ah l) then((AB (vB l s1) (ah s1.1)).bind λa=>(tq s1.1 a).bind λb=>(aT 24 ([]:Bc) b).bind λc=>(aS l s1.2).bind λd=>(aT 24 c [d]).bind λe=>(mc s1.1 a).bind λf=>(aT 24 e f).bind λg=>some (.inl (g,wI (s1.2+1)))) else(some (.inr s1.1))
def iu(l:Bc):Option Bc:=
 (AB (oZ l) ([],0)).bind λa=>some a
theorem iO{l}:LC prog gl (iu l) 79 [aE aj l] 25 aj:=
 gc func79 λK=>HC 11101 (λd=>sp [] [(3,.rsl 0 0 d.length)] [ob 0 25 (d.flatMap aj)] 1) (λs1=>so [] [(3,.rsl 0 0 s1.1.length),(4,iG s1.2)] [ob 0 25 (s1.1.flatMap aj)] 1) [hc (ac.imm [])] (λd=>mr c0 K (ac.imm _)) λs1 k5 g=>aF 10 (HC 111012210210 (λa=>sx [] [(3,aE aj s1.1),(5,iG a)] [] 0) (λb=>sx [] [(3,aE aj s1.1),(5,iG b)] [] 0) [hc (ac.al s1.1)] (λa=>rdv 33 ac.preZI λh=>FI (wX 34 ac) λi=>Cd 38 ac.ixZ 39 (ac.ptZ aW) λj=>FI (dg 41 ac) λk=>rdv 45 ac.sufZI λm=>FI (eu 46 ac) λe=>cj k5 (DE ac e)) λb f c=>aF 16 (Cd 19 ac.ixZ 20 (ac.ptZ aW) λn=>Cd 24 ac.ixZ 25 (ac.ptZ aW) λo=>Bz 26 (oV gl) λp=>aF 27 (aA c1 c [])<|rb f)<|aA c1 c [])<|aA c1 g (DE ac s1.1)
def xt(g:A7):Option Bc:=
 (iu g.IDs).bind λa=>some a
theorem DK{g}:LC prog gl (xt g) 44 [.agg (aI g)] 25 aj:=
 gc func44 λK=>ak λa e2=>aw [ho 5 [aE aj g.IDs] [] (iO gl e2) (kF a)]<|mr c0 K (ac.imm _)
def qJ(l:Bc)(b:Ab)(s1:Int):Option ((Int)⊕(Unit⊕Bool)):=
 bif decide (s1<ah l) then((aS l s1).bind λa=>bif decide (a=b) then(some (.inr (.inr true))) else(some (.inl (wI (s1+1))))) else(some (.inr (.inl ())))
def jL(l:Bc)(a:Ab):Fo:=
 (AB (qJ l a) 0).bind λb=>ma b (λc=>some false) (λq=>some q)
theorem jM{l id_}:DF prog gl (jL l id_) 18 [aE aj l,.agg (aj id_)] bG:=
 cy func18 λK=>Nk 1101 (λc=>sg [] []) (λs1=>so [1] [(3,.ref 0 0),(5,iG s1)] [ob 0 25 (aj id_)] 1) [] K (λc=>rv K) λs1 k5 d k6=>aF 9 (Cd 14 ac.ixZ 15 (ac.ptZ aW) λb=>kV (λa=>aw [hV 17 (cV (dU b id_ rfl) a)]<|aP c3 k6 []) λa=>aw [hV 17 (cV (dU b id_ rfl) a)]<|rb k5)<|aA c2 d []
def t7(g:A7)(ids:Bc)(s1:Bc×Int)(a:Bool×Int):Option ((Bool×Int)⊕(Bool)):=
 bif decide (a.2<ah ids) then((aS ids a.2).bind λc=>(fC g c).bind λb=>(bif a.1 then(some true) else(bif decide (0<=b) then((aS g.In (EY b 0)).bind λd=>(aS d s1.2).bind λe=>some e) else(some false))).bind λf=>some (.inl (f,wI (a.2+1)))) else(some (.inr a.1))
def t8(g:A7)(ids:Bc)(s1:Bc×Int):Option ((Bc×Int)⊕Bc):=
 bif decide (s1.2<ah g.L) then((AB (t7 g ids s1) (false,0)).bind λa=>bif a then((aS g.IDs s1.2).bind λb=>(aT 24 s1.1 [b]).bind λc=>some (.inl (c,wI (s1.2+1)))) else(some (.inl (s1.1,wI (s1.2+1))))) else(some (.inr s1.1))
def r9(g:A7)(ids:Bc):Option Bc:=
 (AB (t8 g ids) ([],0)).bind λb=>(iu b).bind λa=>some a
theorem AP{g ids}:LC prog gl (r9 g ids) 78 [.agg (aI g),aE aj ids] 25 aj:=
 gc func78 λK=>HC 11101 (λe=>sg [] [(5,aE aj e)]) (λs1=>so [0] [(2,.ref 0 0),(5,.rsl 1 0 s1.1.length),(6,iG s1.2)] [ob 0 33 (aI g),ob 1 25 (s1.1.flatMap aj)] 2) [hc (ac.imm [])] (λe=>ak λf h=>aw [ho 55 [aE aj e] [] (iO gl h) (kF f)]<|mr c0 K (ac.imm _)) λs1 k5 m=>aF 14 (HC 1110122102101 (λd=>sf [] [(7,bG d)]) (λa=>sf [] [(7,bG a.1),(8,iG a.2)]) (DE ac s1.1) (λd=>aF 45 (Cd 50 ac.ixZ 51 (ac.ptZ aW) λn=>FI (dg 53 ac) λi=>cj k5 (DE ac i))<|cj k5 (DE ac s1.1)) λa j k=>aF 20 (Cd 26 ac.ixZ 27 (ac.ptZ aW) λo=>Bz 28 (dX gl) λl=>cN 1110122102101221021 (sf [] [(9,iG l)]) (DE ac s1.1)<|cC 1110122102101221021 (λb=>sf [9] [(7,bG b)]) (λb=>cj j (DE ac s1.1)) λb c=>aF 29 (aA c0 c (DE ac s1.1))<|aF 32 (Cd 38 zV.ixZ 39 (zV.p1Y Vt) λp=>Cd 41 rO.ixZ 42 (rO.p1Y tO) λq=>aA c0 c (DE ac s1.1))<|aA c0 c (DE ac s1.1))<|aA c1 k (DE ac s1.1))<|aA c1 m [hc (ac.al s1.1)]
def t9(g:A7)(ids:Bc)(s3:Bc×Int):Option ((Bc×Int)⊕Bc):=
 bif decide (s3.2<ah ids) then(((aS ids s3.2).bind λa=>(fC g a).bind λb=>bif decide (0<=b) then((aS ids s3.2).bind λc=>(jL s3.1 c).bind λd=>some (!d)) else(some false)).bind λe=>bif e then((aS ids s3.2).bind λf=>(aT 24 s3.1 [f]).bind λh=>some (.inl (h,wI (s3.2+1)))) else(some (.inl (s3.1,wI (s3.2+1))))) else(some (.inr s3.1))
def LX(g:A7)(ids:Bc):Option Bc:=
 (r9 g ids).bind λb=>(AB (t9 g ids) (b,0)).bind λc=>(iu c).bind λa=>some a
theorem ua{g ids}:LC prog gl (LX g ids) 28 [.agg (aI g),aE aj ids] 25 aj:=
 gc func28 λK=>ak λi e2=>aw [ho 9 [.agg (aI g),aE aj ids] [] (AP gl e2) (kF i)]<|HC 11101 (λb=>sg [] [(5,aE aj b)]) (λs3=>so [0] [(2,.ref 0 0),(5,.rsl 1 0 s3.1.length),(6,iG s3.2)] [ob 0 33 (aI g),ob 1 25 (s3.1.flatMap aj)] 2) (DE ac i) (λb=>ak λc d=>aw [ho 40 [aE aj b] [] (iO gl d) (kF c)]<|mr c0 K (ac.imm _)) λs3 j k6=>aF 13 (Nj 11101221020 (sf [] []) (DE ac s3.1) 31 (Cd 35 ac.ixZ 36 (ac.ptZ aW) λk=>FI (dg 38 ac) λe=>cj j (DE ac e)) (cj j (DE ac s3.1)) λa=>Cd 19 ac.ixZ 20 (ac.ptZ aW) λl=>Bz 21 (dX gl) λm=>aF 22 (Cd 27 ac.ixZ 28 (ac.ptZ aW) λf=>ak λn h=>aw [hq 29 [aE aj s3.1,.agg (aj f)] [hc (ac.al s3.1)] (jM gl h)]<|aA c0 a (DE ac s3.1))<|aA c0 a (DE ac s3.1))<|aA c1 k6 [hc (ac.al s3.1)]
def ub(g:A7)(device:Int)(s3:Int×Int):Option ((Int×Int)⊕(Int)):=
 bif decide (s3.2<ah g.L) then((aS g.L s3.2).bind λa=>bif decide (a.By=device) then(some (.inl (s3.2,wI (s3.2+1)))) else(some (.inl (s3.1,wI (s3.2+1))))) else(some (.inr s3.1))
def Si(g:A7)(device:Int)(n:Int):Option Bc:=
 (xt g).bind λj=>(AB (ub g device) ((-1),0)).bind λa=>(bif decide (Int.tmod n 37=7) then(some (decide (0<a))) else(some false)).bind λj12=>bif j12 then((aS g.L a).bind λb=>(LX g b.Past).bind λc=>some c) else((bif decide (0<Int.tmod n 3) then(some true) else(some (decide (a<0)))).bind λd=>bif d then(some j) else((aS g.IDs a).bind λe=>(u9 (wI (Int.tdiv n 3)) (ah g.IDs)).bind λf=>(aS g.IDs f).bind λh=>(LX g [e,h]).bind λi=>some i))
theorem Jv{g device n}:LC prog gl (Si g device n) 180 [.agg (aI g),iG device,iG n] 25 aj:=
 gc func180 λK=>ak λa e2=>aw [ho 11 [.agg (aI g)] [] (DK gl e2) (kF a)]<|HC 111101 (λm=>sp [2] [(3,.ref 0 0),(7,.rsl 1 0 a.length),(8,iG m)] [ob 0 33 (aI g),ob 1 25 (a.flatMap aj)] 2) (λs3=>so [0] [(3,.ref 0 0),(7,.rsl 1 0 a.length),(8,iG s3.1),(9,iG s3.2)] [ob 0 33 (aI g),ob 1 25 (a.flatMap aj)] 2) (DE ac a) (λm=>Nj 1111100 (sf [] []) (DE ac a) 34 (Cd 39 eJ.ixZ 41 (eJ.fdY Pb 4) λf=>ak λh i=>aw [ho 42 [.agg (aI g),aE aj f.Past] [] (ua gl i) (kF h)]<|mr c0 K (ac.imm _)) (Nj 11111100 (sf [34] []) (DE ac a) 49 (mr c0 K (ac.imm _)) (Cd 55 ac.ixZ 56 (ac.ptZ aW) λb=>ak λp j=>Cd 65 ac.ixZ 66 (ac.ptZ aW) λc=>ak λk l=>aw [hbb 64 (KO j),ho 68 [.agg (aI g),aE aj [b,c]] [hc (ac.al [b,c])] (ua gl l) (kF k)]<|mr c0 K (ac.imm _)) λd=>aF 45 (aA c0 d (DE ac a))<|aA c0 d (DE ac a)) λe=>aF 30 (aA c0 e (DE ac a))<|aA c0 e (DE ac a)) λs3 o k6=>aF 16 (Cd 22 eJ.ixZ 24 (eJ.fdY tZ 0) λq=>aF 26 (cj o (DE ac a))<|cj o (DE ac a))<|aA c1 k6 (DE ac a)
def vC(g:A7)(ids:Bc)(kind:Int)(s1:Ab×Bp×Int):Option ((Ab×Bp×Int)⊕((Int×Int×Nat×Bp)⊕(Ab×Bp))):=
 bif decide (0<=s1.2.2) then(((aS g.L s1.2.2).bind λa=>bif decide (a.Kind=kind) then((aS g.IDs s1.2.2).bind λb=>(jL ids b).bind λc=>some c) else(some false)).bind λj13=>bif j13 then((aS g.IDs s1.2.2).bind λd=>(aS g.L s1.2.2).bind λe=>some (.inr (.inr (d,e)))) else(some (.inl (s1.1,s1.2.1,wI (s1.2.2-1))))) else(some (.inr (.inl (s1.1.By,s1.1.Seq,s1.1.Sum,s1.2.1))))
def nS(g:A7)(ids:Bc)(kind:Int):Option (Ab×Bp):=
 (AB (vC g ids kind) (⟨0,0,0⟩,⟨0,0,0,0,[],0,0,0,0,[],⟨0,0,0⟩,0,[],[],⟨0,0,0⟩,[],0,0,[],0,[],⟨0,0⟩⟩,wI ((ah g.L)-1))).bind λa=>ma a (λb=>some (⟨0,0,0⟩,⟨0,0,0,0,[],0,0,0,0,[],⟨0,0,0⟩,0,[],[],⟨0,0,0⟩,[],0,0,[],0,[],⟨0,0⟩⟩)) (λq=>some q)
theorem vD{g ids kind}:DF prog gl (nS g ids kind) 181 [.agg (aI g),aE aj ids,iG kind] (λr=> .tup [.agg (aj r.1),.agg (aJ r.2)]):=
 cy func181 λK=>Nk 1101 (λa=>sp [] [(6,.ref 0 0),(7,.ref 1 0)] [ob 0 25 (aj (⟨a.1,a.2.1,a.2.2.1⟩:Ab)),ob 1 64 (aJ a.2.2.2)] 2) (λs1=>so [0] [(3,.ref 0 0),(6,.ref 1 0),(7,.ref 2 0),(8,iG s1.2.2)] [ob 0 33 (aI g),ob 1 25 (aj s1.1),ob 2 64 (aJ s1.2.1)] 3) [] K (λa=>rv K) λs1 k5 c k6=>aF 14 (Nj 1101221020 (sf [] []) [] 33 (Cd 37 ac.ixZ 38 (ac.ptZ aW) λd=>Cd 42 eJ.ixZ 43 (eJ.ptZ GN) λe=>aP c3 k6 []) (rb k5) λb=>Cd 20 eJ.ixZ 22 (eJ.fdY tZ 2) λf=>aF 24 (Cd 30 ac.ixZ 31 (ac.ptZ aW) λh=>Bz 32 (jM gl) λi=>rx b)<|rx b)<|aA c2 c []
end
section
set_option maxHeartbeats 2000000
def uc(n:Int)(s1:List Hb×Int):Option ((List Hb×Int)⊕(List Hb)):=
 bif decide (s1.2<n) then((aT 32 s1.1 [(⟨1,1,wU s1.2,1⟩:Hb)]).bind λa=>some (.inl (a,wI (s1.2+1)))) else(some (.inr s1.1))
def o4(n:Int):Option (List Hb):=
 (AB (uc n) ([],0)).bind λa=>some a
theorem Jw{n}:LC prog gl (o4 n) 259 [iG n] 181 cz:=
 gc func259 λK=>HC 11101 (λa=>sp [] [(3,.rsl 0 0 a.length)] [ob 0 181 (a.flatMap cz)] 1) (λs1=>so [] [(3,.rsl 0 0 s1.1.length),(4,iG s1.2)] [ob 0 181 (s1.1.flatMap cz)] 1) [hc (EA.imm [])] (λa=>mr c0 K (EA.imm _)) λs1 k5 c=>aF 7 (FI (dg 15 EA) λb=>aw [AA 12 (C8 s1.2)]<|cj k5 (DE EA b))<|aA c1 c (DE EA s1.1)
def nT(g:A7)(device:Int):JM:=
 (vz g device).bind λa=>bif(!a.2) then(some 0) else(some a.1.Member)
theorem vE{g device}:DF prog gl (nT g device) 260 [.agg (aI g),iG device] iG:=
 cy func260 λK=>Bz 10 (AN gl) λa=>aF 14 (rv K)<|rv K
def vF(n:Int)(s8:Be×Int):Option ((Be×Int)⊕Be):=
 bif decide (s8.2<=4) then((Gg n s8.2).bind λa=>bif decide (Int.tmod a 2=0) then((aT 8 s8.1 ([s8.2]:Be)).bind λb=>some (.inl (b,wI (s8.2+1)))) else(some (.inl (s8.1,wI (s8.2+1))))) else(some (.inr s8.1))
def sc(g:A7)(ids:Bc)(o:Bp)(n:Int):Option Bp:=
 (nS g ids 9).bind λb=>(bif decide (o.Kind≠9) then(some (decide (b.1=(⟨0,0,0⟩:Ab)))) else(some false):Fo).bind λt=>(bif t then(some 9) else(some o.Kind)).bind λa=>bif decide (a=9) then((AB (vF n) ([],1)).bind λs=>(bif decide (ah s=0) then(some ([1,2]:Be)) else(some s)).bind λc=>(u9 (wI (Int.tdiv n 16)) (iI 2 (ah c))).bind λj=>(o4 (ah c)).bind λk=>some ({o with Kind:=a,Path:=[],Guards:=c,Need:=wI (1+j),Wait:=Int.tmod (wI (Int.tdiv n 32)) 3,Boxes:=k,Pub:=5})) else((nT g b.1.By).bind λd=>(bif decide (a=10) then((o4 (ah b.2.Guards)).bind λl=>some (b.1.By,l)) else(some (o.By,o.Boxes))).bind λf=>(bif decide (a=11) then(some true) else(some (decide (a=13)))).bind λm=>(bif m then((u9 n (ah b.2.Guards)).bind λp=>(aS b.2.Guards p).bind λq=>some (q,wI (d+3))) else(some (f.1,o.Device))).bind λe=>(bif decide (a=11) then((o4 1).bind λr=>some r) else(some f.2)).bind λh=>(bif decide (a=13) then(some d) else(some o.Old)).bind λi=>bif decide (a=12) then(some ({o with By:=d,Kind:=a,Device:=e.2,Old:=i,Path:=[],Of:=b.1,Guards:=[],Boxes:=h})) else(some ({o with By:=e.1,Kind:=a,Device:=e.2,Old:=i,Path:=[],Of:=b.1,Guards:=[],Boxes:=h})))
theorem Fb{g ids o n}:DF prog gl (sc g ids o n) 182 [.agg (aI g),aE aj ids,.agg (bF [9,19] (aJ ({o with Path:=[],Guards:=[]}))),iG n] (λr=> .agg (bF [9] (aJ ({r with Path:=[]})))):=
 cy func182 λK=>Bz 16 (vD gl) λc=>cN 11100 (sp [3] [(4,.ref 0 0),(6,.ref 1 0),(8,.ref 2 0),(9,.ref 3 0),(10,.ref 4 0)] [ob 0 33 (aI g),ob 1 64 (bF [9,19] (aJ ({o with Path:=[],Guards:=[]}))),ob 2 64 (bF [4,9,14,15,19,22,24] (aJ ip)),ob 3 25 (aj c.1),ob 4 64 (aJ c.2)] 5) []<|cC 11100 (λu=>sf [] [(26,bG u)]) (λu=>cC 11101 (λb=>so [26] [] [ob 1 64 (bF [9,19] (aJ ({o with Kind:=b,Path:=[],Guards:=[]})))] 5) (λb=>aF 30 (HC 111101301 (λv=>sk [3] [(6,.ref 0 0),(8,.ref 1 0)] [ob 0 64 (bF [9] (aJ ({o with Kind:=b,Path:=[],Guards:=v}))),ob 1 64 (bF [4,9,14,15,19,22,24] (aJ ip))] 2) (λs8=>sk [3,8] [(6,.ref 0 0),(11,iG s8.2)] [ob 0 64 [iG o.By,iG o.Seq,iG b,iG o.At,aE aj o.Past,iG o.Device,iG o.Old,iG o.Member,iG o.Role,Iy,iG o.Epoch.By,iG o.Epoch.Seq,uG o.Epoch.Sum,iG o.N,aE cY o.Body,aE cW o.Refs,iG o.Of.By,iG o.Of.Seq,uG o.Of.Sum,.rsl 1 0 s8.1.length,iG o.Need,iG o.Wait,aE cz o.Boxes,uG o.Pub,aE bp o.Hist,uG o.Sig.R,uG o.Sig.S],ob 1 3 (s8.1.flatMap cZ),ob 2 64 (bF [4,9,14,15,19,22,24] (aJ ip))] 3) [hc (rZ.imm [])] (λv=>cN 1111013101 (sf [] [(49,bG (decide (ah v=0)))]) []<|cC 1111013101 (λf=>so [49] [] [ob 0 64 (bF [9] (aJ ({o with Kind:=b,Path:=[],Guards:=f})))] 2) (λf=>ak λB w=>Jt 69 EA (Jw gl) λC=>aw [hbb 58 (KO w)]<|rv K) λf j=>eH [49] (aA c0 j [hc (rZ.al ([1,2]:Be))])<|rx j) λs8 k12 k11=>aF 32 (ak λD x=>aw [hbb 37 (Tt x)]<|aF 39 (FI (dg 44 rZ) λy=>cj k12 (DE rZ y))<|cj k12 (DE rZ s8.1))<|aA c1 k11 [hc (rZ.al s8.1)])<|Bz 77 (vE gl) λz=>cN 111111101 (sx [4] [(6,.ref 0 0),(8,.ref 1 0),(9,.ref 2 0),(10,.ref 3 0),(12,iG z),(80,bG (decide (b=10)))] [ob 0 64 (bF [9,19] (aJ ({o with Kind:=b,Path:=[],Of:=c.1,Guards:=[]}))),ob 1 64 (bF [4,9,14,15,19,22,24] (aJ ip)),ob 2 25 (aj c.1),ob 3 64 (aJ c.2)] 4) []<|cC 111111101 (λd=>sx [9,80] [(10,.ref 2 0)] [ob 0 64 (bF [9,19] (aJ ({o with By:=d.1,Kind:=b,Path:=[],Of:=c.1,Guards:=[],Boxes:=d.2}))),ob 1 64 (bF [4,9,14,15,19,22,24] (aJ ip)),ob 2 64 (aJ c.2)] 3) (λd=>cN 1111111100 (sf [] []) []<|cC 1111111100 (λh=>sf [] [(96,bG h)]) (λh=>cC 1111111101 (λa=>sx [3,10,96] [] [ob 0 64 (bF [9,19] (aJ ({o with By:=a.1,Kind:=b,Device:=a.2,Path:=[],Of:=c.1,Guards:=[],Boxes:=d.2}))),ob 1 64 (bF [4,9,14,15,19,22,24] (aJ ip))] 2) (λa=>cN 11111111101 (sf [] [(112,bG (decide (b=11)))]) []<|cC 11111111101 (λe=>so [112] [] [ob 0 64 (bF [9,19] (aJ ({o with By:=a.1,Kind:=b,Device:=a.2,Path:=[],Of:=c.1,Guards:=[],Boxes:=e})))] 2) (λe=>cN 111111111101 (sf [] [(117,bG (decide (b=13)))]) []<|cC 111111111101 (λi=>so [117] [] [ob 0 64 (bF [9,19] (aJ ({o with By:=a.1,Kind:=b,Device:=a.2,Old:=i,Path:=[],Of:=c.1,Guards:=[],Boxes:=e})))] 2) (λi=>aF 122 (rv K)<|rv K) λi k=>eH [117] (rx k)<|rx k) λe l=>eH [112] (Jt 113 EA (Jw gl) λE=>rx l)<|rx l) λa m=>eH [96] (ak λF A=>Cd 104 rZ.ixZ 105 (rZ.p1Y tZ) λH=>aw [hbb 103 (KO A)]<|rx m)<|rx m) λh p=>aF 91 (rx p)<|rx p) λd q=>eH [80] (Jt 87 EA (Jw gl) λI=>aA c0 q [])<|aA c0 q []) λb s=>eH [26] (rx s)<|rx s) λu t=>aF 21 (aw [hV 25 (dU c.1 (⟨0,0,0⟩:Ab) rfl)]<|rx t)<|rx t
def qK(g:A7)(ids:Bc)(k:Bc)(s3:Bc×Int):Option ((Bc×Int)⊕Bc):=
 bif decide (s3.2<ah ids) then(((aS ids s3.2).bind λa=>(fC g a).bind λb=>bif decide (0<=b) then((aS ids s3.2).bind λc=>(jL k c).bind λd=>bif(!d) then((aS ids s3.2).bind λe=>(jL s3.1 e).bind λf=>some (!f)) else(some false)) else(some false)).bind λh=>bif h then((aS ids s3.2).bind λi=>(aT 24 s3.1 [i]).bind λj=>some (.inl (j,wI (s3.2+1)))) else(some (.inl (s3.1,wI (s3.2+1))))) else(some (.inr s3.1))
def qL(g:A7)(ids:Bc):Option Bc:=
 (r9 g ids).bind λb=>(AB (qK g ids b) ([],0)).bind λc=>(iu c).bind λa=>some a
theorem G3{g ids}:LC prog gl (qL g ids) 183 [.agg (aI g),aE aj ids] 25 aj:=
 gc func183 λK=>Jt 10 ac (AP gl) λj=>HC 111101 (λb=>sg [] [(6,aE aj b)]) (λs3=>so [0] [(2,.ref 0 0),(5,aE aj j),(6,.rsl 1 0 s3.1.length),(7,iG s3.2)] [ob 0 33 (aI g),ob 1 25 (s3.1.flatMap aj)] 2) [hc (ac.imm [])] (λb=>ak λc d=>aw [ho 50 [aE aj b] [] (iO gl d) (kF c)]<|mr c0 K (ac.imm _)) λs3 i k6=>aF 14 (Nj 111101221020 (sf [] []) (DE ac s3.1) 41 (Cd 45 ac.ixZ 46 (ac.ptZ aW) λk=>FI (dg 48 ac) λe=>cj i (DE ac e)) (cj i (DE ac s3.1)) λa=>Cd 20 ac.ixZ 21 (ac.ptZ aW) λl=>Bz 22 (dX gl) λm=>aF 23 (Cd 28 ac.ixZ 29 (ac.ptZ aW) λn=>Bz 30 (jM gl) λo=>aF 32 (Cd 37 ac.ixZ 38 (ac.ptZ aW) λf=>ak λp h=>aw [hq 39 [aE aj s3.1,.agg (aj f)] [hc (ac.al s3.1)] (jM gl h)]<|aA c0 a (DE ac s3.1))<|aA c0 a (DE ac s3.1))<|aA c0 a (DE ac s3.1))<|aA c1 k6 [hc (ac.al s3.1)]
def xu(ids:Bc)(device:Int)(s1:Int×Int):Option ((Int×Int)⊕(Int)):=
 bif decide (s1.2<ah ids) then((aS ids s1.2).bind λa=>bif decide (a.By=device) then((aS ids s1.2).bind λb=>some (.inl (EY s1.1 b.Seq,wI (s1.2+1)))) else(some (.inl (s1.1,wI (s1.2+1))))) else(some (.inr s1.1))
def Fc(g:A7)(ids:Bc)(device:Int):JM:=
 (AB (xu ids device) (0,0)).bind λa=>some (wI (a+1))
theorem Na{g ids device}:DF prog gl (Fc g ids device) 184 [.agg (aI g),aE aj ids,iG device] iG:=
 cy func184 λK=>HC 11101 (λa=>sg [] [(7,iG a)]) (λs1=>sf [0] [(7,iG s1.1),(8,iG s1.2)]) [] (λa=>rv K) λs1 k5 b=>aF 12 (Cd 17 ac.ixZ 19 (ac.fdY tZ 0) λc=>aF 21 (Cd 25 ac.ixZ 27 (ac.fdY tZ 1) λd=>rb k5)<|rb k5)<|aA c1 b []
def ue(g:A7)(ids:Bc)(s1:Int×Int):Option ((Int×Int)⊕(Int)):=
 bif decide (s1.2<ah ids) then((aS ids s1.2).bind λb=>(fC g b).bind λa=>bif decide (0<=a) then((aS g.L a).bind λc=>some (.inl (EY s1.1 c.At,wI (s1.2+1)))) else(some (.inl (s1.1,wI (s1.2+1))))) else(some (.inr s1.1))
def z8(g:A7)(ids:Bc):JM:=
 (AB (ue g ids) (0,0)).bind λa=>some a
theorem Jx{g ids}:DF prog gl (z8 g ids) 185 [.agg (aI g),aE aj ids] iG:=
 cy func185 λK=>HC 11101 (λa=>sg [] [(5,iG a)]) (λs1=>so [0] [(2,.ref 0 0),(5,iG s1.1),(6,iG s1.2)] [ob 0 33 (aI g)] 1) [] (λa=>rv K) λs1 k5 b=>aF 11 (Cd 17 ac.ixZ 18 (ac.ptZ aW) λc=>Bz 19 (dX gl) λd=>aF 21 (Cd 26 eJ.ixZ 28 (eJ.fdY tZ 3) λe=>rb k5)<|rb k5)<|aA c1 b []
end
section
set_option maxHeartbeats 2000000
def sd(g:A7)(n:Int)(m:Int):Option Bp:=
 (iq n 1000000).bind λj=>(iq m 1000000).bind λb=>(z7 b).bind λO=>bif decide (ah g.L=0) then(some ⟨1,1,1,0,[],0,0,0,0,[],⟨0,0,0⟩,0,[],[],⟨0,0,0⟩,[],Int.tmod j 4,0,[],0,[],⟨0,0⟩⟩) else((bif decide (ah g.L<4) then(some ⟨1,0,2,0,[],wI ((ah g.L)+1),0,0,wI (3-(wI (Int.tdiv (Int.tmod j 5) 4))),[],⟨0,0,0⟩,0,[],[],⟨0,0,0⟩,[],0,0,[],0,[],⟨0,0⟩⟩) else(some ⟨wI (1+(Int.tmod j 5)),0,O,0,[],0,0,0,0,[],⟨0,0,0⟩,0,[],[],⟨0,0,0⟩,[],0,0,[],0,[],⟨0,0⟩⟩):Option Bp).bind λa=>(Si g a.By (wI (Int.tdiv j 5))).bind λz=>(bif decide (ah g.L<4) then((xt g).bind λk=>some k) else(some z)).bind λj12=>(nS g j12 6).bind λf=>(bif decide (f.1=(⟨0,0,0⟩:Ab)) then((aS g.IDs 0).bind λe=>some (e.By,e.Seq,e.Sum)) else(some (f.1.By,f.1.Seq,f.1.Sum)):Option (Int×Int×Nat)).bind λc=>(bif decide (a.Kind=2) then((bif decide (4<=ah g.L) then(some (wI (4+(Int.tmod (wI (Int.tdiv b 20)) 3)),wI (1+(Int.tmod (wI (Int.tdiv (wI (Int.tdiv b 20)) 3)) 3)))) else(some (a.Device,a.Role))).bind λl=>some ({a with Past:=[],Device:=l.1,Role:=l.2,Path:=[],Body:=[],Refs:=[],Guards:=[],Boxes:=[],Hist:=[]},j12)) else((bif decide (a.Kind=3) then((bif decide (Int.tmod (wI (Int.tdiv b 20)) 5=1) then(some (0,wI (1+(Int.tmod (wI (Int.tdiv (wI (Int.tdiv b 20)) 5)) 3)))) else(some (wI (1+(Int.tmod (wI (Int.tdiv b 20)) 6)),a.Member))).bind λo=>some ({a with Past:=[],Device:=o.1,Member:=o.2,Path:=[],Body:=[],Refs:=[],Guards:=[],Boxes:=[],Hist:=[]},j12)) else((bif decide (a.Kind=5) then(some ({a with Past:=[],Member:=wI (1+(Int.tmod (wI (Int.tdiv b 20)) 3)),Role:=wI (1+(Int.tmod (wI (Int.tdiv (wI (Int.tdiv b 20)) 3)) 3)),Path:=[],Body:=[],Refs:=[],Guards:=[],Boxes:=[],Hist:=[]},j12)) else((bif decide (a.Kind=6) then((u9 (wI (Int.tdiv b 20)) (iI (ah g.IDs) 4)).bind λA=>(aS g.IDs A).bind λB=>(bif decide (Int.tmod (wI (Int.tdiv b 20)) 3=1) then(some ([wU (Int.tmod (wI (Int.tdiv (wI (Int.tdiv b 20)) 3)) 5),wU (Int.tmod (wI (Int.tdiv (wI (Int.tdiv b 20)) 15)) 5)]:Bq)) else(some [])).bind λC=>some ({a with Past:=[],Path:=[],Epoch:=B,N:=Int.tmod (wI (Int.tdiv (wI (Int.tdiv b 20)) 4)) 2,Body:=([wY (wI (Int.tdiv b 20)),1,2,3,4,5,6,7,8]:CM),Refs:=C,Guards:=[],Boxes:=[],Hist:=[]},j12)) else((bif decide (a.Kind=7) then(some ({a with Past:=[],Path:=[],Body:=([wY (wI (97+(Int.tmod (wI (Int.tdiv b 20)) 3)))]:CM),Refs:=[],Of:=⟨c.1,c.2.1,c.2.2⟩,Guards:=[],Boxes:=[],Hist:=[]},j12)) else((bif decide (a.Kind=8) then(some ({a with Past:=[],Path:=[],Body:=[],Refs:=[],Of:=⟨c.1,c.2.1,c.2.2⟩,Guards:=[],Boxes:=[],Hist:=[]},j12)) else((bif decide (a.Kind=9) then(some true) else((bif decide (a.Kind=11) then(some true) else((bif decide (a.Kind=13) then(some true) else((bif decide (a.Kind=12) then(some true) else(some (decide (a.Kind=10)))).bind λp=>some p)).bind λq=>some q)).bind λr=>some r)).bind λD=>(bif D then((sc g j12 ({a with Past:=[],Path:=[],Body:=[],Refs:=[],Guards:=[],Boxes:=[],Hist:=[]}) (wI (Int.tdiv b 20))).bind λh=>(bif decide (h.By≠a.By) then((Si g h.By (wI (Int.tdiv j 5))).bind λs=>some s) else(some j12)).bind λE=>some ({h with Path:=[]},E)) else(some ({a with Past:=[],Path:=[],Body:=[],Refs:=[],Guards:=[],Boxes:=[],Hist:=[]},j12)):Option (Bp×Bc)).bind λt=>some ({t.1 with Path:=[]},t.2)):Option (Bp×Bc)).bind λu=>some ({u.1 with Path:=[]},u.2)):Option (Bp×Bc)).bind λv=>some ({v.1 with Path:=[]},v.2)):Option (Bp×Bc)).bind λw=>some ({w.1 with Path:=[]},w.2)):Option (Bp×Bc)).bind λx=>some ({x.1 with Path:=[]},x.2)):Option (Bp×Bc)).bind λy=>some ({y.1 with Path:=[]},y.2)):Option (Bp×Bc)).bind λd=>(bif(!decide (d.1.Of=(⟨0,0,0⟩:Ab))) then((jL d.2 d.1.Of).bind λF=>some (!F)) else(some false):Fo).bind λH=>(bif H then((xt g).bind λI=>some I) else(some d.2)).bind λi=>(qL g i).bind λJ=>(Fc g i d.1.By).bind λK=>(z8 g i).bind λM=>some ({d.1 with Seq:=K,At:=wI (M+(Int.tmod (wI (Int.tdiv j 5)) 2)),Past:=J,Path:=[]}))
theorem Jy{g n m}:DF prog gl (sd g n m) 98 [.agg (aI g),iG n,iG m] (λr=> .agg (bF [9] (aJ ({r with Path:=[]})))):=
 cy func98 λK=>Bz 15 (iL gl) λv1=>Bz 17 (iL gl) λa=>Bz 22 (Js gl) λv5=>aF 28 (rv K)<|cN 111111101 (sp [] [(1,iG v1),(2,iG a),(3,.ref 0 0),(6,.ref 1 0),(7,.ref 2 0),(8,iG (ah g.L)),(33,bG (decide (ah g.L<4)))] [ob 0 33 (aI g),ob 1 64 (bF [4,9,14,15,19,22,24] (aJ ip)),ob 2 64 (bF [4,9,14,15,19,22,24] (aJ (⟨wI (1+(Int.tmod v1 5)),0,v5,0,[],0,0,0,0,[],⟨0,0,0⟩,0,[],[],⟨0,0,0⟩,[],0,0,[],0,[],⟨0,0⟩⟩:Bp)))] 3) []<|cC 111111101 (λc=>so [33] [] [ob 2 64 (bF [4,9,14,15,19,22,24] (aJ ({c with Past:=[],Path:=[],Body:=[],Refs:=[],Guards:=[],Boxes:=[],Hist:=[]})))] 3) (λc=>Jt 46 ac (Jv gl) λv10=>cN 11111111101 (sf [] [(9,aE aj v10),(48,bG (decide (ah g.L<4)))]) []<|cC 11111111101 (λj12=>sf [48] [(9,aE aj j12)]) (λj12=>Bz 54 (vD gl) λA=>aw [hV 59 (dU A.1 (⟨0,0,0⟩:Ab) rfl)]<|cN 1111111111101 (so [] [(10,.ref 3 0),(59,bG (decide (A.1=(⟨0,0,0⟩:Ab))))] [ob 3 25 (aj A.1)] 4) []<|cC 1111111111101 (λd=>so [59] [] [ob 3 25 (aj (⟨d.1,d.2.1,d.2.2⟩:Ab))] 4) (λd=>cN 11111111111110121 (sf [2] [(12,iG (wI (Int.tdiv a 20))),(67,iG c.Kind),(68,bG (decide (c.Kind=2)))]) []<|cC 11111111111110121 (λb=>sk [1,3,6,7] [(9,aE aj b.2)] [ob 0 33 (aI g),ob 1 64 (bF [4,9,14,15,19,22,24] (aJ ip)),ob 2 64 (bF [9] (aJ ({b.1 with Path:=[]})))] 3) (λb=>cN 1111111111111100 (sf [] []) []<|cC 1111111111111100 (λB=>sf [] [(188,bG B)]) (λB=>cC 1111111111111101 (λC=>sf [188] [(9,aE aj C)]) (λC=>Jt 193 ac (G3 gl) λv24=>Bz 199 (Na gl) λv26=>Bz 203 (Jx gl) λv28=>rv K) λC I=>eH [188] (Jt 190 ac (DK gl) λv33=>rx I)<|rx I) λB J=>kV (λD=>Bz 186 (jM gl) λv38=>aw [hV 181 (cV (dy b.1.Of (⟨0,0,0⟩:Ab) rfl) D)]<|rx J) λD=>aw [hV 181 (cV (dy b.1.Of (⟨0,0,0⟩:Ab) rfl) D)]<|rx J) λb M=>eH [68] (cC 1111111111111012131 (λi=>sx [8,10,12,67,68] [] [ob 0 33 (aI g),ob 1 64 (bF [4,9,14,15,19,22,24] (aJ ip)),ob 2 64 (bF [4,9,14,15,19,22,24] (aJ ({c with Past:=[],Device:=i.1,Role:=i.2,Path:=[],Body:=[],Refs:=[],Guards:=[],Boxes:=[],Hist:=[]})))] 3) (λi=>rx M) λi O=>aF 71 (rx O)<|rx O)<|cC 1111111111111012141 (λj=>sk [1,3,6,7] [(9,aE aj j.2)] [ob 0 33 (aI g),ob 1 64 (bF [4,9,14,15,19,22,24] (aJ ip)),ob 2 64 (bF [9] (aJ ({j.1 with Path:=[]})))] 3) (λj=>rx M) λj P=>aF 82 (cC 1111111111111012141311 (λk=>sx [8,10,12,67,68] [] [ob 0 33 (aI g),ob 1 64 (bF [4,9,14,15,19,22,24] (aJ ip)),ob 2 64 (bF [4,9,14,15,19,22,24] (aJ ({c with Past:=[],Device:=k.1,Member:=k.2,Path:=[],Body:=[],Refs:=[],Guards:=[],Boxes:=[],Hist:=[]})))] 3) (λk=>rx P) λk Q=>aF 89 (rx Q)<|rx Q)<|cC 111111111111101214141 (λl=>sk [1,3,6,7] [(9,aE aj l.2)] [ob 0 33 (aI g),ob 1 64 (bF [4,9,14,15,19,22,24] (aJ ip)),ob 2 64 (bF [9] (aJ ({l.1 with Path:=[]})))] 3) (λl=>rx P) λl R=>aF 97 (rx R)<|cC 11111111111110121414141 (λo=>sk [1,3,6,7] [(9,aE aj o.2)] [ob 0 33 (aI g),ob 1 64 (bF [4,9,14,15,19,22,24] (aJ ip)),ob 2 64 (bF [9] (aJ ({o.1 with Path:=[]})))] 3) (λo=>rx R) λo S=>aF 108 (ak λq68 e69=>ak λy70 U=>cC 1111111111111012141414131111 (λE=>sx [8,10,12,67,68] [] [ob 0 33 (aI g),ob 1 64 (bF [4,9,14,15,19,22,24] (aJ ip)),ob 2 64 (bF [4,9,19,22,24] (aJ ({c with Past:=[],Path:=[],Epoch:=y70,N:=Int.tmod (wI (Int.tdiv (wI (Int.tdiv a 20)) 4)) 2,Body:=([wY (wI (Int.tdiv a 20)),1,2,3,4,5,6,7,8]:CM),Refs:=E,Guards:=[],Boxes:=[],Hist:=[]})))] 3) (λE=>rx S) λE V=>aw [hbb 116 (KO e69),AA 117 (ac.ixZ U),AA 118 (ac.ptZ aW U),AA 125 (Iz (wI (Int.tdiv a 20)))]<|aF 130 (aw [AA 134 (C8 (Int.tmod (wI (Int.tdiv (wI (Int.tdiv a 20)) 3)) 5)),AA 138 (C8 (Int.tmod (wI (Int.tdiv (wI (Int.tdiv a 20)) 15)) 5))]<|aA c0 V [hc (rY.al ([wY (wI (Int.tdiv a 20)),1,2,3,4,5,6,7,8]:CM)),hc (rW.al ([wU (Int.tmod (wI (Int.tdiv (wI (Int.tdiv a 20)) 3)) 5),wU (Int.tmod (wI (Int.tdiv (wI (Int.tdiv a 20)) 15)) 5)]:Bq))])<|aA c0 V [hc (rY.al ([wY (wI (Int.tdiv a 20)),1,2,3,4,5,6,7,8]:CM))])<|cC 1111111111111012141414141 (λp=>sk [1,3,6,7] [(9,aE aj p.2)] [ob 0 33 (aI g),ob 1 64 (bF [4,9,14,15,19,22,24] (aJ ip)),ob 2 64 (bF [9] (aJ ({p.1 with Path:=[]})))] 3) (λp=>rx S) λp W=>aF 142 (aw [AA 148 (Iz (wI (97+(Int.tmod (wI (Int.tdiv a 20)) 3))))]<|aA c0 W [hc (rY.al ([wY (wI (97+(Int.tmod (wI (Int.tdiv a 20)) 3)))]:CM))])<|cC 111111111111101214141414141 (λq=>sk [1,3,6,7] [(9,aE aj q.2)] [ob 0 33 (aI g),ob 1 64 (bF [4,9,14,15,19,22,24] (aJ ip)),ob 2 64 (bF [9] (aJ ({q.1 with Path:=[]})))] 3) (λq=>rx W) λq X=>aF 152 (rx X)<|cN 111111111111101214141414141401 (sx [8,10,68] [(155,bG (decide (c.Kind=9)))] [ob 0 33 (aI g),ob 1 64 (bF [4,9,14,15,19,22,24] (aJ ip)),ob 2 64 (bF [4,9,14,15,19,22,24] (aJ ({c with Past:=[],Path:=[],Body:=[],Refs:=[],Guards:=[],Boxes:=[],Hist:=[]})))] 3) []<|cC 111111111111101214141414141401 (λF=>sf [67] [(155,bG F)]) (λF=>cC 11111111111110121414141414141 (λs=>so [12,155] [(9,aE aj s.2)] [ob 2 64 (bF [9] (aJ ({s.1 with Path:=[]})))] 3) (λs=>rx X) λs Y=>eH [155] (ak λv94 e95=>cC 111111111111101214141414141413111 (λH=>so [12,155] [(9,aE aj H)] [ob 2 64 (bF [9] (aJ ({v94 with Path:=[]})))] 3) (λH=>rx Y) λH Z=>aw [hf 167 (UY [.agg (aI g),aE aj j12,.agg (bF [4,9,14,15,19,22,24] (aJ ({c with Past:=[],Path:=[],Body:=[],Refs:=[],Guards:=[],Boxes:=[],Hist:=[]}))),iG (wI (Int.tdiv a 20))] (Fb gl e95))]<|aF 171 (Jt 177 ac (Jv gl) λv101=>rx Z)<|rx Z)<|rx Y) λF t=>eH [155] (rx t)<|cC 11111111111110121414141414140141 (λe=>sf [67] [(155,bG e)]) (λe=>rx t) λe u=>aF 157 (rx u)<|cC 1111111111111012141414141414014141 (λf=>sf [67] [(155,bG f)]) (λf=>rx u) λf v=>aF 158 (rx v)<|cC 111111111111101214141414141401414141 (λh=>sf [67] [(155,bG h)]) (λh=>rx v) λh w=>aF 159 (rx w)<|rx w) λd x=>eH [59] (Cd 62 ac.ixZ 63 (ac.ptZ aW) λy124=>rx x)<|rx x) λj12 y=>eH [48] (Jt 50 ac (DK gl) λv129=>rx y)<|rx y) λc z=>eH [33] (rx z)<|rx z
def uf(ids:Bc)(device:Int)(seq:Int)(s1:Int×Int):Option ((Int×Int)⊕(Int)):=
 bif decide (s1.2<ah ids) then(((aS ids s1.2).bind λa=>bif decide (a.By=device) then((aS ids s1.2).bind λb=>some (decide (b.Seq=seq))) else(some false)).bind λj13=>bif j13 then(some (.inl (wI (s1.1+1),wI (s1.2+1)))) else(some (.inl (s1.1,wI (s1.2+1))))) else(some (.inr s1.1))
def z9(ids:Bc)(device:Int)(seq:Int):JM:=
 (AB (uf ids device seq) (0,0)).bind λa=>some a
theorem Jz{ids device seq}:DF prog gl (z9 ids device seq) 160 [aE aj ids,iG device,iG seq] iG:=
 cy func160 λK=>HC 11101 (λb=>sg [] [(7,iG b)]) (λs1=>sf [] [(7,iG s1.1),(8,iG s1.2)]) [] (λb=>rv K) λs1 k5 c=>aF 12 (Nj 11101221020 (sf [] []) [] 30 (rb k5) (rb k5) λa=>Cd 17 ac.ixZ 19 (ac.fdY tZ 0) λd=>aF 21 (Cd 25 ac.ixZ 27 (ac.fdY tZ 1) λe=>rx a)<|rx a)<|aA c1 c []
def qM(ids:Bc)(device:Int)(s1:Int×Int):Option ((Int×Int)⊕(Int)):=
 bif decide (s1.2<ah ids) then((aS ids s1.2).bind λa=>(z9 ids device a.Seq).bind λb=>((aS ids s1.2).bind λc=>bif decide (c.By=device) then(bif decide (1<b) then(bif decide (s1.1=0) then(some true) else((aS ids s1.2).bind λd=>some (decide (d.Seq<s1.1)))) else(some false)) else(some false)).bind λe=>bif e then((aS ids s1.2).bind λf=>some (.inl (f.Seq,wI (s1.2+1)))) else(some (.inl (s1.1,wI (s1.2+1))))) else(some (.inr s1.1))
def qN(ids:Bc)(device:Int):JM:=
 (AB (qM ids device) (0,0)).bind λa=>some a
theorem yF{ids device}:DF prog gl (qN ids device) 88 [aE aj ids,iG device] iG:=
 cy func88 λK=>HC 11101 (λd=>sg [] [(5,iG d)]) (λs1=>sf [] [(5,iG s1.1),(6,iG s1.2)]) [] (λd=>rv K) λs1 k5 e=>aF 11 (Cd 18 ac.ixZ 20 (ac.fdY tZ 1) λf=>Bz 21 (Jz gl) λc=>cN 111012210210 (sf [] [(7,iG c)]) []<|cC 111012210210 (λb=>sf [7] [(45,bG b)]) (λb=>eH [45] (Cd 48 ac.ixZ 50 (ac.fdY tZ 1) λg=>rb k5)<|rb k5) λb a=>Cd 24 ac.ixZ 26 (ac.fdY tZ 0) λh=>aF 28 (aF 32 (aF 35 (rx a)<|Cd 39 ac.ixZ 41 (ac.fdY tZ 1) λi=>rx a)<|rx a)<|rx a)<|aA c1 e []
def AR(c:Dl)(device:Int)(s1:Int):Option ((Int)⊕(Unit⊕Int)):=
 bif decide (s1<ah c.Cards) then((aS c.Cards s1).bind λa=>bif decide (a.Device=device) then((aS c.Cards s1).bind λb=>some (.inr (.inr b.Member))) else(some (.inl (wI (s1+1))))) else(some (.inr (.inl ())))
def gE(c:Dl)(device:Int):JM:=
 (AB (AR c device) 0).bind λa=>ma a (λb=>some 0) (λq=>some q)
theorem c9{r_ device}:DF prog gl (gE r_ device) 164 [.agg (aU r_),iG device] iG:=
 cy func164 λK=>Nk 1101 (λa=>sg [] []) (λs1=>so [0] [(2,.ref 0 0),(5,iG s1)] [ob 0 150 (aU r_)] 1) [] K (λa=>rv K) λs1 k5 b k6=>aF 10 (Cd 16 bT.ixZ 18 (bT.fdY tZ 0) λc=>aF 20 (Cd 24 bT.ixZ 26 (bT.fdY tZ 1) λd=>aP c3 k6 [])<|rb k5)<|aA c2 b []
def o5(b:Dl)(n:Int)(s1:Int):Option ((Int)⊕(Unit⊕Int)):=
 bif decide (s1<ah b.L) then((aS b.L s1).bind λa=>bif decide (a.N=n) then(some (.inr (.inr s1))) else(some (.inl (wI (s1+1))))) else(some (.inr (.inl ())))
def dS(c:Dl)(n:Int):JM:=
 (AB (o5 c n) 0).bind λa=>ma a (λb=>some (-1)) (λq=>some q)
theorem dA{r_ n}:DF prog gl (dS r_ n) 168 [.agg (aU r_),iG n] iG:=
 cy func168 λK=>Nk 1101 (λa=>sg [] []) (λs1=>so [0] [(2,.ref 0 0),(5,iG s1)] [ob 0 150 (aU r_)] 1) [] K (λa=>rv K) λs1 k5 b k6=>aF 10 (Cd 16 bI.ixZ 18 (bI.fdY tZ 0) λc=>aF 20 (aP c3 k6 [])<|rb k5)<|aA c2 b []
def se(b:Dl)(n:Int):JM:=
 (dS b n).bind λa=>bif decide (a<0) then(some 0) else((aS b.L a).bind λc=>some c.Role)
theorem ug{r_ n}:DF prog gl (se r_ n) 165 [.agg (aU r_),iG n] iG:=
 cy func165 λK=>Bz 8 (dA gl) λa=>aF 10 (rv K)<|Cd 14 bI.ixZ 16 (bI.fdY tZ 1) λb=>rv K
def Fd(b:Dl)(device:Int):Fo:=
 ((fb b.In device).bind λc=>bif c then(some true) else((fb b.Gone device).bind λa=>some a)).bind λd=>some d
theorem Nb{r_ device}:DF prog gl (Fd r_ device) 256 [.agg (aU r_),iG device] bG:=
 cy func256 λK=>cN [1,0] (so [0] [(2,.ref 0 0)] [ob 0 150 (aU r_)] 1) []<|cC [1,0] (λa=>sk [] [(4,bG a)] [] 0) (λa=>rv K) λa k5=>ak λd e8=>kV (λb=>aw [hf 8 (cF (C5 gl e8) b)]<|rx k5) λb=>Bz 13 (C5 gl) λc=>aw [hf 8 (cF (C5 gl e8) b)]<|rx k5
def nW(a:Dl)(device:Int):Fo:=
 (Fd a device).bind λb=>((gE a device).bind λc=>bif decide (0<c) then(some (!b)) else(some false)).bind λd=>some d
theorem qO{r_ device}:DF prog gl (nW r_ device) 166 [.agg (aU r_),iG device] bG:=
 cy func166 λK=>Bz 8 (Nb gl) λc=>cN 1110 (so [0] [(2,.ref 0 0),(5,bG c)] [ob 0 150 (aU r_)] 1) []<|cC 1110 (λa=>sk [] [(4,bG a)] [] 0) (λa=>rv K) λa b=>Bz 11 (c9 gl) λd=>aF 12 (rx b)<|rx b
def nX(a:Dl)(device:Int)(role:Int):Option Dl:=
 (nW a device).bind λh=>bif(!h) then(some a) else((aT 8 ([]:Be) a.In).bind λi=>(aT 8 i ([device]:Be)).bind λb=>(gE ({a with In:=b}) device).bind λg=>(dS ({a with In:=b}) g).bind λc=>bif decide (c<0) then(((aT 104 ([]:List D5) a.L).bind λd=>(aT 104 d [(⟨g,role,false,⟨0,0,0⟩,[],0,0,false,0⟩:D5)]).bind λe=>some e:Option (List D5)).bind λf=>some ({a with In:=b,L:=f})) else(some ({a with In:=b})))
theorem qP{r_ device role}:DF prog gl (nX r_ device role) 171 [.agg (aU r_),iG device,iG role] (λr=> .agg (aU r)):=
 cy func171 λK=>Bz 11 (qO gl) λk=>aF 13 (rv K)<|FI (eu 18 rZ) λl=>FI (dg 21 rZ) λb=>ak λc i=>ak λj f=>aw [hq 25 [.agg (aU ({r_ with In:=b})),iG device] [hc (rZ.al b)] (c9 gl i),hq 28 [.agg (aU ({r_ with In:=b})),iG c] [hc (rZ.al b)] (dA gl f)]<|aF 29 (cN 111111013 (sp [2] [(3,.ref 0 0),(6,.ref 1 0),(8,iG c)] [ob 0 150 (aU ({r_ with In:=b})),ob 1 150 (bF [0,1,2,3,5] (aU eY))] 2) [hc (rZ.al b)]<|cC 111111013 (λa=>sp [3] [(6,.ref 2 0)] [ob 0 150 [aE bv r_.Cards,aE cZ b,aE cZ r_.Gone,.rsl 1 0 a.length,iG r_.Back,aE nJ r_.V],ob 1 231 (a.flatMap jG),ob 2 150 (bF [0,1,2,3,5] (aU eY))] 3) (λa=>aP c0 K [hc (bI.al a)]) λa g=>FI (eu 33 bI) λh=>ak λd e=>aw [Tv 38 bI e [iG c,iG role,bG false,iG 0,iG 0,uG 0,Iy,iG 0,iG 0,bG false,iG 0] rfl]<|aA c0 g [hc (el d),ZV bI e [iG c,iG role,bG false,iG 0,iG 0,uG 0,Iy,iG 0,iG 0,bG false,iG 0]] (kd:=[(1,.app (h.flatMap jG) [iG c,iG role,bG false,iG 0,iG 0,uG 0,Iy,iG 0,iG 0,bG false,iG 0] (jG (⟨c,role,false,⟨0,0,0⟩,[],0,0,false,0⟩:D5)) (d.flatMap jG))]))<|aP c0 K [hc (rZ.al b)]
def qQ(c:Dl)(d:Ab)(s1:Int):Option ((Int)⊕(Unit⊕Int)):=
 bif decide (s1<ah c.L) then(((aS c.L s1).bind λa=>bif a.Is then((aS c.L s1).bind λb=>some (decide (b.ID=d))) else(some false)).bind λj13=>bif j13 then(some (.inr (.inr s1))) else(some (.inl (wI (s1+1))))) else(some (.inr (.inl ())))
def jN(d:Dl)(a:Ab):JM:=
 (AB (qQ d a) 0).bind λb=>ma b (λc=>some (-1)) (λq=>some q)
theorem mA{r_ id_}:DF prog gl (jN r_ id_) 176 [.agg (aU r_),.agg (aj id_)] iG:=
 cy func176 λK=>Nk 1101 (λd=>sg [] []) (λs1=>sp [] [(2,.ref 0 0),(3,.ref 1 0),(5,iG s1)] [ob 0 150 (aU r_),ob 1 25 (aj id_)] 2) [] K (λd=>rv K) λs1 k5 f k6=>aF 10 (Nj 1101221020 (sf [] []) [] 28 (aP c3 k6 []) (rb k5) λc=>ak λg a=>aw [AA 16 (bI.ixZ a)]<|kV (λb=>Cd 23 bI.ixZ 25 (bI.fsZ aW jz 3 B5) λe=>aw [AA 18 (cB (bI.fdZ tO 2 a) b),hV 27 (dU e.ID id_ rfl)]<|rx c) λb=>aw [AA 18 (cB (bI.fdZ tO 2 a) b)]<|rx c)<|aA c2 f []
end
section
set_option maxHeartbeats 2000000
def uh(b:Dl)(i:Be×Bool)(c:Be)(d:List D5×List G8)(a:List G8×Int):Option ((List G8×Int)⊕(List G8)):=
 bif decide (a.2<ah b.V) then((aS b.V a.2).bind λe=>(jN ({b with In:=i.1,Gone:=c,L:=d.1}) e.Of).bind λf=>bif decide (0<=f) then((aS b.V a.2).bind λg=>(aT 48 a.1 [g]).bind λh=>some (.inl (h,wI (a.2+1)))) else(some (.inl (a.1,wI (a.2+1))))) else(some (.inr a.1))
def ui(e:Dl)(f:Int)(a:List D5×List G8×Int):Option ((List D5×List G8×Int)⊕(List D5×List G8)):=
 bif decide (a.2.2<ah e.L) then((aS e.L a.2.2).bind λb=>bif decide (b.N≠f) then((aS e.L a.2.2).bind λc=>(aT 104 a.1 [c]).bind λd=>some (.inl (d,a.2.1,wI (a.2.2+1)))) else(some (.inl (a.1,a.2.1,wI (a.2.2+1))))) else(some (.inr (a.1,a.2.1)))
def uj(b:Dl)(device:Int)(i:Int)(a:Be×Bool×Int):Option ((Be×Bool×Int)⊕(Be×Bool)):=
 bif decide (a.2.2<ah b.In) then((aS b.In a.2.2).bind λc=>bif decide (c≠device) then((aS b.In a.2.2).bind λd=>(aT 8 a.1 ([d]:Be)).bind λe=>(bif a.2.1 then(some true) else((aS b.In a.2.2).bind λf=>(gE b f).bind λg=>some (decide (g=i)))).bind λh=>some (.inl (e,h,wI (a.2.2+1)))) else(some (.inl (a.1,a.2.1,wI (a.2.2+1))))) else(some (.inr (a.1,a.2.1)))
def sh(a:Dl)(device:Int):Option Dl:=
 (fb a.In device).bind λh=>bif(!h) then(some a) else((gE a device).bind λg=>(AB (uj a device g) ([],false,0)).bind λd=>(aT 8 ([]:Be) a.Gone).bind λe=>(aT 8 e ([device]:Be)).bind λb=>bif d.2 then(some ({a with In:=d.1,Gone:=b})) else((AB (ui a g) ([],[],0)).bind λc=>(AB (uh a d b c) (c.2,0)).bind λf=>some ⟨a.Cards,d.1,b,c.1,a.Back,f⟩))
theorem AS{r_ device}:DF prog gl (sh r_ device) 172 [.agg (aU r_),iG device] (λr=> .agg (aU r)):=
 cy func172 λK=>Bz 16 (C5 gl) λD=>aF 17 (rv K)<|Bz 21 (c9 gl) λs=>HC 11111101 (λf=>so [0] [(2,.ref 0 0),(4,.ref 1 0),(5,iG s),(6,aE cZ f.1),(7,bG f.2)] [ob 0 150 (aU r_),ob 1 150 (bF [0,1,2,3,5] (aU eY))] 2) (λg=>so [0] [(2,.ref 0 0),(4,.ref 1 0),(5,iG s),(6,.rsl 2 0 g.1.length),(7,bG g.2.1),(8,iG g.2.2)] [ob 0 150 (aU r_),ob 1 150 (bF [0,1,2,3,5] (aU eY)),ob 2 3 (g.1.flatMap cZ)] 3) [hc (rZ.imm [])] (λf=>FI (eu 61 rZ) λt=>FI (dg 64 rZ) λc=>aF 66 (aP c0 K [hc (rZ.al c)])<|HC 11111111111101 (λb=>sp [2,4] [(9,aE jG b.1),(10,.rsl 2 0 b.2.length)] [ob 0 150 (aU ({r_ with In:=f.1,Gone:=c})),ob 2 312 (b.2.flatMap nJ)] 3) (λa=>so [1,6,7] [(9,.rsl 2 0 a.1.length),(10,.rsl 3 0 a.2.1.length),(11,iG a.2.2)] [ob 0 150 (aU ({r_ with In:=f.1,Gone:=c})),ob 2 231 (a.1.flatMap jG),ob 3 312 (a.2.1.flatMap nJ)] 4) [hc (rZ.al c),hc (bI.imm []),hc (bV.imm [])] (λb=>HC 1111111111111101 (λi=>sx [9] [(10,aE nJ i)] [ob 0 150 (aU ({r_ with In:=f.1,Gone:=c,L:=b.1})),ob 1 150 (bF [0,1,2,3,5] (aU eY))] 2) (λd=>so [9] [(10,.rsl 2 0 d.1.length),(12,iG d.2)] [ob 0 150 (aU ({r_ with In:=f.1,Gone:=c,L:=b.1})),ob 2 312 (d.1.flatMap nJ)] 3) (DE bV b.2) (λi=>rv K) λd j o=>aF 97 (Cd 104 bV.ixZ 106 (bV.fsZ aW jz 0 B5) λu=>Bz 107 (mA gl) λv=>aF 108 (Cd 113 bV.ixZ 114 (bV.ptZ Pd) λw=>FI (dg 116 bV) λp=>cj j (DE bV p))<|cj j (DE bV d.1))<|aA c1 o [hc (bV.al d.1)]) λa k q=>aF 72 (Cd 78 bI.ixZ 80 (bI.fdY tZ 0) λx=>aF 82 (Cd 87 bI.ixZ 88 (bI.ptZ LG) λy=>FI (dg 90 bI) λl=>cj k [hc (el l),hc (el a.2.1),hc (bI.imm l),hc (bV.imm a.2.1)])<|cj k [hc (el a.1),hc (el a.2.1),hc (bI.imm a.1),hc (bV.imm a.2.1)])<|aA c1 q [hc (bI.al a.1),hc (el a.2.1),hc (bV.imm a.2.1)]) λg m k9=>aF 26 (Cd 32 rZ.ixZ 33 (rZ.p1Y tZ) λz=>aF 35 (Cd 40 rZ.ixZ 41 (rZ.p1Y tZ) λA=>FI (dg 43 rZ) λe=>cN 1111110122102131 (so [] [(6,.rsl 2 0 e.length)] [ob 2 3 (e.flatMap cZ)] 3) (DE rZ e)<|cC 1111110122102131 (λh=>sf [] [(7,bG h)]) (λh=>cj m (DE rZ e)) λh n=>aF 44 (aA c0 n (DE rZ e))<|Cd 50 rZ.ixZ 51 (rZ.p1Y tZ) λB=>Bz 52 (c9 gl) λC=>aA c0 n (DE rZ e))<|cj m (DE rZ g.1))<|aA c1 k9 [hc (rZ.al g.1)]
def o6(l:List D5)(at_:Int)(m:D5):Option (List D5):=
 (aT 104 ([]:List D5) l).bind λa=>(ji a at_ m).bind λb=>some b
theorem JA{l at_ m}:LC prog gl (o6 l at_ m) 173 [aE jG l,iG at_,.agg (jG m)] 231 jG:=
 gc func173 λK=>FI (wX 10 bI) λb=>ak λa e4=>aw [AA 14 (bI.ixsZ 1 e4),hw 14 (a.flatMap jG) (bI.putZ e4)]<|mr c0 K (bI.imm _) _ (hZ e4)
def ni(b:Dl)(c:List D5)(a:List G8×Int):Option ((List G8×Int)⊕(List G8)):=
 bif decide (a.2<ah b.V) then((aS b.V a.2).bind λd=>(jN ({b with L:=c}) d.Of).bind λe=>bif decide (0<=e) then((aS b.V a.2).bind λf=>(aT 48 a.1 [f]).bind λg=>some (.inl (g,wI (a.2+1)))) else(some (.inl (a.1,wI (a.2+1))))) else(some (.inr a.1))
def o7(a:Dl)(o:Bp)(e:Ab):Option Dl:=
 (gE a o.By).bind λf=>(dS a f).bind λc=>bif decide (c<0) then(some a) else((aS a.L c).bind λg=>(aS a.L c).bind λh=>(o6 a.L c (⟨g.N,h.Role,true,e,o.Guards,o.Need,o.Wait,false,0⟩:D5)).bind λb=>(AB (ni a b) ([],0)).bind λd=>some ({a with L:=b,V:=d}))
theorem Df{r_ o id_}:DF prog gl (o7 r_ o id_) 174 [.agg (aU r_),.agg (aJ o),.agg (aj id_)] (λr=> .agg (aU r)):=
 cy func174 λK=>Bz 14 (c9 gl) λj=>Bz 15 (dA gl) λk=>aF 17 (rv K)<|Cd 25 bI.ixZ 27 (bI.fdY tZ 0) λl=>Cd 31 bI.ixZ 33 (bI.fdY tZ 1) λm=>Jt 42 bI (JA gl) λb=>HC 11111101 (λc=>sp [] [(3,.ref 0 0),(6,.ref 1 0),(8,aE nJ c)] [ob 0 150 (aU ({r_ with L:=b})),ob 1 150 (bF [0,1,2,3,5] (aU eY))] 2) (λa=>sp [] [(3,.ref 0 0),(6,.ref 1 0),(8,.rsl 2 0 a.1.length),(9,iG a.2)] [ob 0 150 (aU ({r_ with L:=b})),ob 1 150 (bF [0,1,2,3,5] (aU eY)),ob 2 312 (a.1.flatMap nJ)] 3) [hc (bV.imm [])] (λc=>rv K) λa d e=>aF 48 (Cd 55 bV.ixZ 57 (bV.fsZ aW jz 0 B5) λg=>Bz 58 (mA gl) λh=>aF 59 (Cd 64 bV.ixZ 65 (bV.ptZ Pd) λi=>FI (dg 67 bV) λf=>cj d (DE bV f))<|cj d (DE bV a.1))<|aA c1 e [hc (bV.al a.1)]
def nY(b:Dl)(o:Bp):Option (Int×Int):=
 (jN b o.Of).bind λa=>bif decide (a<0) then(some ((-1),25)) else((aS b.L a).bind λc=>(fb c.Guards o.By).bind λd=>bif(!d) then(some ((-1),14)) else(some (a,0)))
theorem vG{r_ o}:DF prog gl (nY r_ o) 257 [.agg (aU r_),.agg (aJ o)] (λr=> .tup [iG r.1,iG r.2]):=
 cy func257 λK=>Bz 10 (mA gl) λa=>aF 12 (rv K)<|Cd 16 bI.ixZ 18 (bI.fdY Vs 6) λb=>Bz 21 (C5 gl) λc=>aF 22 (rv K)<|rv K
def nj(b:Dl)(o:Bp)(a:Int×List G8×Int):Option ((Int×List G8×Int)⊕(Int×List G8)):=
 bif decide (a.2.2<ah b.V) then(((aS b.V a.2.2).bind λc=>bif decide (c.Of=o.Of) then((aS b.V a.2.2).bind λd=>bif decide (d.By=o.By) then((aS b.V a.2.2).bind λe=>some (decide (e.Device=o.Device))) else(some false)) else(some false)).bind λf=>bif f then((aS b.V a.2.2).bind λg=>some (.inl (iI a.1 g.At,a.2.1,wI (a.2.2+1)))) else((aS b.V a.2.2).bind λh=>(aT 48 a.2.1 [h]).bind λi=>some (.inl (a.1,i,wI (a.2.2+1))))) else(some (.inr (a.1,a.2.1)))
def o8(a:Dl)(o:Bp):Option Dl:=
 (nY a o).bind λd=>bif decide (d.2≠0) then(some a) else((AB (nj a o) (o.At,[],0)).bind λc=>(aT 48 c.2 [{o with At:=c.1}]).bind λb=>some ({a with V:=b}))
theorem Dg{r_ o}:DF prog gl (o8 r_ o) 175 [.agg (aU r_),.agg (aJ o)] (λr=> .agg (aU r)):=
 cy func175 λK=>Bz 13 (vG gl) λm=>aF 17 (rv K)<|HC 11111101 (λe=>sp [] [(2,.ref 0 0),(4,.ref 1 0),(7,.ref 2 0),(8,.rsl 3 0 e.2.length)] [ob 0 150 (aU r_),ob 1 150 (bF [0,1,2,3,5] (aU eY)),ob 2 312 (nJ ({o with At:=e.1})),ob 3 312 (e.2.flatMap nJ)] 4) (λa=>sp [] [(2,.ref 0 0),(4,.ref 1 0),(7,.ref 2 0),(8,.rsl 3 0 a.2.1.length),(9,iG a.2.2)] [ob 0 150 (aU r_),ob 1 150 (bF [0,1,2,3,5] (aU eY)),ob 2 312 (nJ ({o with At:=a.1})),ob 3 312 (a.2.1.flatMap nJ)] 4) [hc (bV.imm [])] (λe=>FI (dg 87 bV) λf=>aP c0 K [hc (bV.al f)]) λa k8 h=>aF 32 (Nj 11111101221020 (sf [] []) (DE bV a.2.1) 65 (Cd 71 bV.ixZ 73 (bV.fdY tZ 5) λi=>cj k8 (DE bV a.2.1)) (Cd 80 bV.ixZ 81 (bV.ptZ Pd) λj=>FI (dg 83 bV) λg=>cj k8 (DE bV g)) λb=>Cd 38 bV.ixZ 40 (bV.fsZ aW jz 0 B5) λd=>kV (λc=>Cd 48 bV.ixZ 50 (bV.fdY tZ 3) λk=>aw [hV 43 (cV (dU d.Of o.Of rfl) c)]<|aF 54 (Cd 59 bV.ixZ 61 (bV.fdY tZ 4) λl=>aA c0 b (DE bV a.2.1))<|aA c0 b (DE bV a.2.1)) λc=>aw [hV 43 (cV (dU d.Of o.Of rfl) c)]<|aA c0 b (DE bV a.2.1))<|aA c1 h (DE bV a.2.1)
def AT(b:Be)(a:Dl×Int):Option ((Dl×Int)⊕(Dl)):=
 bif decide (a.2<ah b) then((aS b a.2).bind λc=>(sh a.1 c).bind λd=>some (.inl (d,wI (a.2+1)))) else(some (.inr a.1))
def Pj(b:Dl)(o:Bp)(a:Be×Int):Option ((Be×Int)⊕Be):=
 bif decide (a.2<ah b.In) then((aS b.In a.2).bind λc=>(gE b c).bind λd=>bif decide (d=o.Member) then((aS b.In a.2).bind λe=>(aT 8 a.1 ([e]:Be)).bind λf=>some (.inl (f,wI (a.2+1)))) else(some (.inl (a.1,wI (a.2+1))))) else(some (.inr a.1))
def DM(a:Dl)(o:Bp)(E:Ab):Option Dl:=
 (gE a o.By).bind λF=>(dS a F).bind λd=>bif decide (o.Kind=1) then((bif decide (0<ah a.In) then(some true) else(bif decide (0<ah a.Gone) then(some true) else((gE a o.By).bind λm=>some (decide (m=0))))).bind λH=>bif H then(some a) else((nX a o.By 3).bind λI=>some ({I with Back:=o.Need}))) else(bif decide (o.Kind=2) then((nX a o.Device o.Role).bind λn=>some n) else(bif decide (o.Kind=3) then((bif decide (o.Device=0) then((AB (Pj a o) ([],0)).bind λp=>some (.inl p)) else(some (.inl ([o.Device]:Be))):Option (Be⊕Dl)).bind λq=>ma q (λe=>(AB (AT e) (a,0)).bind λr=>some r) some) else(bif decide (o.Kind=5) then((dS a o.Member).bind λb=>bif decide (0<=b) then((aS a.L b).bind λs=>(o6 a.L b ({s with Role:=o.Role})).bind λt=>some ({a with L:=t})) else(some a)) else(bif decide (o.Kind=9) then((o7 a o E).bind λu=>some u) else(bif decide (o.Kind=11) then((o8 a o).bind λv=>some v) else(bif decide (o.Kind=12) then((bif decide (0<=d) then((aS a.L (EY d 0)).bind λw=>bif w.Is then((aS a.L (EY d 0)).bind λx=>some (decide (x.ID=o.Of))) else(some false)) else(some false)).bind λy=>bif y then((aS a.L d).bind λf=>(o6 a.L d ({f with Objected:=true,Last:=EY f.Last o.At})).bind λz=>some ({a with L:=z})) else(some a)) else(bif decide (o.Kind=13) then((jN a o.Of).bind λc=>(bif decide (0<=c) then((fb a.In o.Old).bind λg=>bif g then((gE a o.Old).bind λh=>(aS a.L (EY c 0)).bind λi=>bif decide (h=i.N) then((gE a o.Device).bind λj=>(aS a.L (EY c 0)).bind λk=>some (decide (j=k.N))) else(some false)) else(some false)) else(some false)).bind λA=>bif A then((gE a o.Device).bind λB=>(se a B).bind λC=>(nX a o.Device C).bind λD=>(sh D o.Old).bind λl=>some l) else(some a)) else(some a))))))))
theorem AU{r_ o id_}:DF prog gl (DM r_ o id_) 92 [.agg (aU r_),.agg (aJ o),.agg (aj id_)] (λr=> .agg (aU r)):=
 cy func92 λK=>Bz 19 (c9 gl) λW=>Bz 20 (dA gl) λy=>aF 24 (Nj 1110121300 (sp [] [(3,.ref 0 0),(4,.ref 1 0),(6,.ref 2 0)] [ob 0 150 (aU r_),ob 1 64 (aJ o),ob 2 150 (bF [0,1,2,3,5] (aU eY))] 3) [] 41 (rv K) (Bz 46 (qP gl) λX=>rv K) λk11=>aF 28 (rx k11)<|aF 34 (rx k11)<|Bz 39 (c9 gl) λz=>rx k11)<|aF 51 (Bz 57 (qP gl) λA=>rv K)<|aF 59 (cN 111012141413101 (sp [] [(3,.ref 0 0),(4,.ref 1 0),(6,.ref 2 0),(8,aE cZ ([o.Device]:Be)),(65,bG (decide (o.Device=0)))] [ob 0 150 (aU r_),ob 1 64 (aJ o),ob 2 150 (bF [0,1,2,3,5] (aU eY))] 3) [hc (rZ.al ([o.Device]:Be))]<|rdM 111012141413101 (λc=>sk [3] [(6,.ref 1 0),(8,aE cZ c)] [ob 0 150 (aU r_),ob 1 150 (bF [0,1,2,3,5] (aU eY))] 2) (λc=>HC 111012141413111 (λg=>so [8] [] [ob 0 150 (aU g)] 2) (λd=>so [] [(10,iG d.2)] [ob 0 150 (aU d.1)] 2) [] (λg=>rv K) λd k l=>aF 94 (Cd 100 rZ.ixZ 101 (rZ.p1Y tZ) λB=>Bz 102 (AS gl) λC=>rb k)<|aA c1 l []) λD h E=>eH [65] (HC 111012141413101311 (λi=>sk [3] [(6,.ref 1 0),(8,aE cZ i)] [ob 0 150 (aU r_),ob 1 150 (bF [0,1,2,3,5] (aU eY))] 2) (λb=>so [65] [(8,.rsl 3 0 b.1.length),(9,iG b.2)] [ob 3 3 (b.1.flatMap cZ)] 4) [hc (rZ.imm [])] (λi=>aA c4 h []) λb j m=>aF 70 (Cd 77 rZ.ixZ 78 (rZ.p1Y tZ) λF=>Bz 79 (c9 gl) λH=>aF 82 (Cd 87 rZ.ixZ 88 (rZ.p1Y tZ) λI=>FI (dg 90 rZ) λn=>cj j (DE rZ n))<|cj j (DE rZ b.1))<|aA c1 m [hc (rZ.al b.1)])<|aA c4 h [])<|aF 104 (Bz 108 (dA gl) λJ=>aF 110 (Cd 114 bI.ixZ 115 (bI.ptZ LG) λL=>Jt 123 bI (JA gl) λM=>rv K)<|rv K)<|aF 126 (Bz 130 (Df gl) λN=>rv K)<|aF 132 (Bz 135 (Dg gl) λO=>rv K)<|aF 137 (Nj 111012141414141414130 (sp [] [(3,.ref 0 0),(4,.ref 1 0),(6,.ref 2 0),(7,iG y)] [ob 0 150 (aU r_),ob 1 64 (aJ o),ob 2 150 (bF [0,1,2,3,5] (aU eY))] 3) [] 160 (Cd 164 bI.ixZ 165 (bI.ptZ LG) λP=>Jt 177 bI (JA gl) λQ=>rv K) (rv K) λe=>aF 139 (Cd 145 bI.ixZ 147 (bI.fdY tO 2) λR=>aF 148 (Cd 154 bI.ixZ 156 (bI.fsZ aW jz 3 B5) λp=>aw [hV 159 (dU p.ID o.Of rfl)]<|rx e)<|rx e)<|rx e)<|aF 180 (Bz 184 (mA gl) λq=>cN 111012141414141414141310 (sp [] [(3,.ref 0 0),(4,.ref 1 0),(6,.ref 2 0),(14,iG q)] [ob 0 150 (aU r_),ob 1 64 (aJ o),ob 2 150 (bF [0,1,2,3,5] (aU eY))] 3) []<|cC 111012141414141414141310 (λf=>sf [14] [(221,bG f)]) (λf=>eH [221] (Bz 229 (c9 gl) λS=>Bz 230 (ug gl) λU=>Bz 231 (qP gl) λV=>Bz 235 (AS gl) λs=>rv K)<|rv K) λf a=>aF 186 (Bz 192 (C5 gl) λt=>aF 193 (Bz 198 (c9 gl) λu=>Cd 203 bI.ixZ 205 (bI.fdY tZ 0) λv=>aF 207 (Bz 212 (c9 gl) λw=>Cd 217 bI.ixZ 219 (bI.fdY tZ 0) λx=>rx a)<|rx a)<|rx a)<|rx a)<|rv K
def AV(cards:LT):Option Dl:=
 some ⟨cards,[],[],[],0,[]⟩
theorem DN{cards}:DF prog gl (AV cards) 161 [aE bv cards] (λr=> .agg (aU r)):=
 cy func161 λK=>rv K
def o9(e:Dl)(o:Bp)(m:Int)(a:Bool):JM:=
 bif decide (o.Device≠0) then((fb e.In o.Device).bind λf=>bif(!f) then(some 17) else((bif(!a) then((gE e o.Device).bind λb=>some (decide (b≠m))) else(some false)).bind λg=>bif g then(some 14) else(some 0))) else((dS e o.Member).bind λc=>bif decide (c<0) then(some 16) else((bif(!a) then(some (decide (o.Member≠m))) else(some false)).bind λd=>bif d then(some 14) else(some 0)))
theorem Dh{r_ o m rules}:DF prog gl (o9 r_ o m rules) 167 [.agg (aU r_),.agg (aJ o),iG m,bG rules] iG:=
 cy func167 λK=>aF 11 (Bz 16 (C5 gl) λd=>aF 17 (rv K)<|Ab1 11013100 (so [0,1] [(4,.ref 0 0),(5,.ref 1 0)] [ob 0 150 (aU r_),ob 1 64 (aJ o)] 2) [] 27 (rv K) (rv K) λk8=>aF 19 (Bz 24 (c9 gl) λb=>rx k8)<|rx k8)<|Bz 31 (dA gl) λc=>aF 32 (rv K)<|Ab1 111100 (so [0,1] [(5,.ref 0 0)] [ob 0 64 (aJ o)] 1) [] 40 (rv K) (rv K) λa=>aF 34 (rx a)<|rx a
def pa(l:Be)(s1:Be×Int)(a:Int):Option ((Int)⊕(Int)):=
 (bif decide (a<ah s1.1) then((aS s1.1 a).bind λb=>(aS l s1.2).bind λc=>some (decide (b<=c))) else(some false)).bind λd=>bif d then(some (.inl (wI (a+1)))) else(some (.inr a))
def pb(l:Be)(s1:Be×Int):Option ((Be×Int)⊕Be):=
 bif decide (s1.2<ah l) then((AB (pa l s1) 0).bind λa=>(tq s1.1 a).bind λb=>(aT 8 ([]:Be) b).bind λc=>(aS l s1.2).bind λd=>(aT 8 c ([d]:Be)).bind λe=>(mc s1.1 a).bind λf=>(aT 8 e f).bind λg=>some (.inl (g,wI (s1.2+1)))) else(some (.inr s1.1))
def lg(l:Be):Option Be:=
 (AB (pb l) ([],0)).bind λa=>some a
theorem vH{l}:LC prog gl (lg l) 170 [aE cZ l] 3 cZ:=
 gc func170 λK=>HC 11101 (λd=>sp [] [(3,.rsl 0 0 d.length)] [ob 0 3 (d.flatMap cZ)] 1) (λs1=>so [] [(3,.rsl 0 0 s1.1.length),(4,iG s1.2)] [ob 0 3 (s1.1.flatMap cZ)] 1) [hc (rZ.imm [])] (λd=>mr c0 K (rZ.imm _)) λs1 k5 h=>aF 10 (HC 111012210210 (λa=>sx [] [(3,aE cZ s1.1),(5,iG a)] [] 0) (λb=>sx [] [(3,aE cZ s1.1),(5,iG b)] [] 0) [hc (rZ.al s1.1)] (λa=>rdv 33 rZ.preZI λi=>FI (wX 34 rZ) λj=>Cd 38 rZ.ixZ 39 (rZ.p1Y tZ) λk=>FI (dg 41 rZ) λm=>rdv 45 rZ.sufZI λn=>FI (eu 46 rZ) λe=>cj k5 (DE rZ e)) λb f g=>Nj 1110122102102200 (sf [] []) [] 27 (rb f) (aA c1 g []) λc=>aF 16 (Cd 20 rZ.ixZ 21 (rZ.p1Y tZ) λo=>Cd 24 rZ.ixZ 25 (rZ.p1Y tZ) λp=>rx c)<|rx c)<|aA c1 h (DE rZ s1.1)
end
section
set_option maxHeartbeats 2000000
def PL(b:Dl)(device:Int)(h:D5)(a:Be×Int):Option ((Be×Int)⊕Be):=
 bif decide (a.2<ah b.V) then(((aS b.V a.2).bind λc=>bif decide (c.Of=h.ID) then((aS b.V a.2).bind λd=>some (decide (d.Device=device))) else(some false)).bind λe=>bif e then((aS b.V a.2).bind λf=>(aT 8 a.1 ([f.At]:Be)).bind λg=>some (.inl (g,wI (a.2+1)))) else(some (.inl (a.1,wI (a.2+1))))) else(some (.inr a.1))
def Ff(g:Dl)(a:Int)(device:Int):Option (Int×Int):=
 (dS g a).bind λh=>bif decide (h<0) then(some (0,4)) else((aS g.L h).bind λb=>bif(!b.Is) then(some (0,4)) else((AB (PL g device b) ([],0)).bind λi=>(lg i).bind λc=>bif decide (ah c<b.Need) then(some (0,26)) else((bif b.Objected then((aS c 0).bind λd=>some (decide (d<=b.Last))) else(some false)).bind λe=>bif e then(some (0,28)) else((aS c (wI (b.Need-1))).bind λf=>some (wI (f+b.Wait),0)))))
theorem Nc{r_ a device}:DF prog gl (Ff r_ a device) 258 [.agg (aU r_),iG a,iG device] (λr=> .tup [iG r.1,iG r.2]):=
 cy func258 λK=>Bz 14 (dA gl) λp=>aF 16 (rv K)<|Cd 20 bI.ixZ 21 (bI.ptZ LG) λg=>aF 24 (rv K)<|HC 111111101 (λk=>sp [] [(9,.ref 0 0),(10,aE cZ k)] [ob 0 231 (jG g)] 1) (λb=>sp [2] [(3,.ref 0 0),(9,.ref 1 0),(10,.rsl 2 0 b.1.length),(11,iG b.2)] [ob 0 150 (aU r_),ob 1 231 (jG g),ob 2 3 (b.1.flatMap cZ)] 3) [hc (rZ.imm [])] (λk=>Jt 61 rZ (vH gl) λh=>aF 66 (rv K)<|Nj 111111111100 (sf [] [(10,aE cZ h)]) [] 76 (rv K) (Cd 81 rZ.ixZ 82 (rZ.p1Y tZ) λl=>rv K) λd=>aF 68 (Cd 73 rZ.ixZ 74 (rZ.p1Y tZ) λm=>rx d)<|rx d) λb k11 i=>aF 29 (Nj 111111101221020 (sf [] []) (DE rZ b.1) 50 (Cd 55 bV.ixZ 57 (bV.fdY tZ 5) λn=>FI (dg 59 rZ) λj=>cj k11 (DE rZ j)) (cj k11 (DE rZ b.1)) λe=>Cd 35 bV.ixZ 37 (bV.fsZ aW jz 0 B5) λf=>kV (λc=>Cd 45 bV.ixZ 47 (bV.fdY tZ 4) λo=>aw [hV 40 (cV (dU f.Of g.ID rfl) c)]<|aA c0 e (DE rZ b.1)) λc=>aw [hV 40 (cV (dU f.Of g.ID rfl) c)]<|aA c0 e (DE rZ b.1))<|aA c1 i [hc (rZ.al b.1)]
def mB(a:Dl)(o:Bp):JM:=
 (nY a o).bind λd=>bif decide (d.2≠0) then(some d.2) else((aS a.L d.1).bind λc=>(bif decide (o.Kind=11) then((gE a o.Device).bind λe=>some (decide (e≠c.N))) else(some false)).bind λk=>bif k then(some 16) else((bif decide (o.Kind=13) then((fb a.In o.Old).bind λf=>bif(!f) then(some true) else((gE a o.Old).bind λg=>bif decide (g≠c.N) then(some true) else((gE a o.Device).bind λh=>some (decide (h≠c.N))))) else(some false)).bind λl=>bif l then(some 17) else((nW a o.Device).bind λi=>bif(!i) then(some 17) else(bif decide (o.Kind=11) then(some 0) else((Ff a c.N o.Device).bind λb=>(bif decide (b.2=0) then(some (decide (o.At<b.1))) else(some false)).bind λj=>bif j then(some 27) else(some b.2))))))
theorem AW{r_ o}:DF prog gl (mB r_ o) 169 [.agg (aU r_),.agg (aJ o)] iG:=
 cy func169 λK=>Bz 14 (vG gl) λl=>aF 18 (rv K)<|Cd 23 bI.ixZ 25 (bI.fdY tZ 0) λf=>Nj 1111100 (sp [] [(2,.ref 0 0),(3,.ref 1 0),(7,iG f.N)] [ob 0 150 (aU r_),ob 1 64 (aJ o)] 2) [] 36 (rv K) (Nj 11111100 (sf [36] []) [] 63 (rv K) (Bz 67 (qO gl) λg=>aF 69 (rv K)<|aF 72 (rv K)<|Bz 78 (Nc gl) λc=>cN 1111111111100 (sk [] [(3,.ref 0 0),(9,iG c.1),(10,iG c.2)] [ob 0 64 (aJ o)] 1) []<|cC 1111111111100 (λb=>sk [10] [(88,bG b)] [] 0) (λb=>eH [88] (rv K)<|rv K) λb d=>aF 82 (rx d)<|rx d) λa=>aF 39 (Bz 45 (C5 gl) λh=>aF 46 (rx a)<|Bz 51 (c9 gl) λi=>aF 54 (rx a)<|Bz 59 (c9 gl) λj=>rx a)<|rx a) λe=>aF 28 (Bz 33 (c9 gl) λk=>rx e)<|rx e
def TG(d:Dl)(o:Bp)(a:Int):Option ((Int)⊕(Unit⊕Int)):=
 bif decide (a<ah o.Guards) then((aS o.Guards a).bind λb=>(fb d.In b).bind λc=>bif(!c) then(some (.inr (.inr 17))) else(some (.inl (wI (a+1))))) else(some (.inr (.inl ())))
def AX(a:Dl)(o:Bp)(y:Ab):JM:=
 (gE a o.By).bind λc=>bif decide (o.Kind=1) then(bif decide (c=0) then(some 17) else((bif decide (0<ah a.In) then(some true) else(some (decide (0<ah a.Gone)))).bind λx=>bif x then(some 5) else(some 0))) else((fb a.In o.By).bind λe=>bif(!e) then(some 15) else((se a c).bind λb=>bif decide (o.Kind=2) then((nW a o.Device).bind λf=>bif(!f) then(some 17) else((bif(!(decide (b=3))) then((gE a o.Device).bind λg=>some (decide (g≠c))) else(some false)).bind λh=>bif h then(some 14) else(some 0))) else(bif decide (o.Kind=3) then((o9 a o c (decide (b=3))).bind λi=>some i) else(bif decide (o.Kind=5) then(bif(!(decide (b=3))) then(some 14) else((dS a o.Member).bind λj=>bif decide (j<0) then(some 16) else(some 0))) else(bif decide (o.Kind=6) then((se a c).bind λk=>bif decide (k<2) then(some 14) else(some 0)) else(bif decide (o.Kind=8) then((bif(!(decide (b=3))) then((gE a o.Of.By).bind λl=>some (decide (l≠c))) else(some false)).bind λm=>bif m then(some 14) else(some 0)) else(bif decide (o.Kind=9) then((AB (TG a o) 0).bind λn=>ma n (λw=>some 0) (λq=>some q)) else((bif decide (o.Kind=10) then(some true) else(some (decide (o.Kind=12)))).bind λp=>bif p then((dS a c).bind λd=>bif decide (d<0) then(some 25) else(((aS a.L d).bind λr=>bif(!r.Is) then(some true) else((aS a.L d).bind λs=>some (!decide (s.ID=o.Of)))).bind λt=>bif t then(some 25) else(some 0))) else((bif decide (o.Kind=11) then(some true) else(some (decide (o.Kind=13)))).bind λu=>bif u then((mB a o).bind λv=>some v) else(some 0))))))))))
theorem DO{r_ o id_}:DF prog gl (AX r_ o id_) 90 [.agg (aU r_),.agg (aJ o),.agg (aj id_)] iG:=
 cy func90 λK=>Bz 15 (c9 gl) λj=>aF 18 (aF 20 (rv K)<|Ab1 111013100 (sp [] [(3,.ref 0 0)] [ob 0 150 (aU r_)] 1) [] 30 (rv K) (rv K) λk8=>aF 24 (rx k8)<|rx k8)<|Bz 35 (C5 gl) λq=>aF 36 (rv K)<|Bz 39 (ug gl) λb=>aF 44 (Bz 48 (qO gl) λr=>aF 50 (rv K)<|Ab1 11111101213110 (sp [] [(3,.ref 0 0),(4,.ref 1 0),(7,iG j),(8,bG (decide (b=3)))] [ob 0 150 (aU r_),ob 1 64 (aJ o)] 2) [] 60 (rv K) (rv K) λc=>aF 52 (Bz 57 (c9 gl) λs=>rx c)<|rx c)<|aF 62 (Bz 67 (Dh gl) λt=>rv K)<|aF 69 (aF 71 (rv K)<|Bz 75 (dA gl) λu=>aF 76 (rv K)<|rv K)<|aF 78 (Bz 81 (ug gl) λv=>aF 82 (rv K)<|rv K)<|aF 84 (Ab1 11111101214141414130 (sp [] [(3,.ref 0 0),(4,.ref 1 0),(7,iG j),(8,bG (decide (b=3)))] [ob 0 150 (aU r_),ob 1 64 (aJ o)] 2) [] 95 (rv K) (rv K) λd=>aF 86 (Bz 92 (c9 gl) λw=>rx d)<|rx d)<|aF 97 (Nk 1111110121414141414131 (λe=>sg [] []) (λf=>sp [] [(3,.ref 0 0),(4,.ref 1 0),(10,iG f)] [ob 0 150 (aU r_),ob 1 64 (aJ o)] 2) [] K (λe=>rv K) λf k l m=>aF 102 (Cd 110 rZ.ixZ 111 (rZ.p1Y tZ) λx=>Bz 112 (C5 gl) λy=>aF 113 (aP c3 m [])<|rb k)<|aA c2 l [])<|Nj 11111101214141414141401 (sp [] [(3,.ref 0 0),(4,.ref 1 0),(7,iG j),(42,iG o.Kind),(114,bG (decide (o.Kind=10)))] [ob 0 150 (aU r_),ob 1 64 (aJ o)] 2) [] 114 (Bz 119 (dA gl) λn=>aF 121 (rv K)<|Ab1 11111101214141414141413110 (sg [3,4] [(11,iG n)]) [] 139 (rv K) (rv K) λg=>Cd 125 bI.ixZ 127 (bI.fdY tO 2) λz=>aF 128 (rx g)<|Cd 133 bI.ixZ 135 (bI.fsZ aW jz 3 B5) λp=>aw [hV 138 (dy p.ID o.Of rfl)]<|rx g) (cN 1111110121414141414141401 (sf [7,114] [(140,bG (decide (o.Kind=11)))]) []<|cC 1111110121414141414141401 (λa=>sf [42] [(140,bG a)]) (λa=>eH [140] (Bz 145 (AW gl) λA=>rv K)<|rv K) λa h=>eH [140] (rx h)<|rx h) λi=>eH [114] (rx i)<|rx i
def xx(g:A7)(a:Be)(at_:Int)(s3:Dl×Int):Option ((Dl×Int)⊕(Dl)):=
 bif decide (s3.2<ah a) then((aS g.In at_).bind λb=>(aS a s3.2).bind λc=>(aS b c).bind λd=>bif d then((aS a s3.2).bind λe=>(aS g.L e).bind λf=>(aS a s3.2).bind λh=>(aS g.IDs h).bind λi=>(DM s3.1 f i).bind λj=>some (.inl (j,wI (s3.2+1)))) else(some (.inl (s3.1,wI (s3.2+1))))) else(some (.inr s3.1))
def Fg(g:A7)(a:Be)(at_:Int):Option Dl:=
 (AV g.Cards).bind λb=>(AB (xx g a at_) (b,0)).bind λc=>some c
theorem G5{g some_ at_ r}(h:Fg g some_ at_=some r):OU prog gl 250 [.agg (aI g),.rsl 0 0 some_.length,iG at_] [ob 0 3 (some_.flatMap cZ)] 1 1 (.agg (aU r)) [ob 0 3 (some_.flatMap cZ)]:=
 Yx (λr:Dl=> .agg (aU r)) (λr:Dl=>[ob 0 3 (some_.flatMap cZ)]) func250 h (λi hi=>by match i,hi with|0,_=>exact⟨_,rfl⟩) λK=>ak λw e2=>aw [hf 11 (DN gl e2)]<|rdL 11101 1110122 (λl=>sp [] [(6,.ref 1 0),(7,.ref 2 0)] [ob 1 150 (bF [0,1,2,3,5] (aU eY)),ob 2 150 (aU l)] 3) (λs3=>so [0] [(3,.ref 1 0),(6,.ref 2 0),(7,.ref 3 0),(8,iG s3.2)] [ob 1 33 (aI g),ob 2 150 (bF [0,1,2,3,5] (aU eY)),ob 3 150 (aU s3.1)] 4) [hc (el some_),hc (rZ.imm some_)] (ρ:=rI 4) (kd:=[(0,.row)]) (λl=>rdU c0 K [hc (rZ.imm some_)] [(0,0)] [(0,.row)]) λs3 m k6=>aF 15 (ak λn c=>ak λo e16=>ak λp a=>aw [AA 21 (zV.ixZ c),AA 22 (zV.p1Z Vt c),AA 25 (rZ.ixrZ 0 e16),AA 26 (rZ.p10Z tZ e16),AA 27 (rO.ixZ a)]<|kV (λb=>ak λq d=>ak λs e=>ak λt f=>ak λu j=>ak λv k=>aw [AA 28 (cB (rO.p1Z tO a) b),AA 34 (rZ.ixrZ 0 d),AA 35 (rZ.p10Z tZ d),AA 36 (eJ.ixZ e),AA 37 (eJ.ptZ GN e),AA 42 (rZ.ixrZ 0 f),AA 43 (rZ.p10Z tZ f),AA 44 (ac.ixZ j),AA 45 (ac.ptZ aW j),hf 46 (AU gl k)]<|cj m [hc (el some_),hc (rZ.imm some_)] (ρ:=rI 4) (kd:=[(0,.row)])) λb=>aw [AA 28 (cB (rO.p1Z tO a) b)]<|cj m [hc (el some_),hc (rZ.imm some_)] (ρ:=rI 4) (kd:=[(0,.row)]))<|aA c1 k6 [hc (rZ.imm some_)] (ρ:=[(0,0),(1,2),(2,3)]) (kd:=[(0,.row)])
def um(g:A7)(l:JS)(s1:Be×Int):Option ((Be×Int)⊕Be):=
 bif decide (s1.2<ah l.Row) then((aS l.Row s1.2).bind λa=>(aS l.Void a).bind λb=>bif b then(some (.inl (s1.1,wI (s1.2+1)))) else((Fg g s1.1 a).bind λc=>(aS g.L a).bind λd=>(aS g.IDs a).bind λe=>(AX c d e).bind λf=>bif decide (f=0) then((aT 8 s1.1 ([a]:Be)).bind λh=>some (.inl (h,wI (s1.2+1)))) else(some (.inl (s1.1,wI (s1.2+1)))))) else(some (.inr s1.1))
def Sm(g:A7)(l:JS):Option Be:=
 (AB (um g l) ([],0)).bind λa=>some a
theorem AY{g l}:LC prog gl (Sm g l) 162 [.agg (aI g),.agg (fU l)] 3 cZ:=
 gc func162 λK=>HC 11101 (λd=>sp [] [(5,.rsl 0 0 d.length)] [ob 0 3 (d.flatMap cZ)] 1) (λs1=>sp [] [(2,.ref 0 0),(3,.ref 1 0),(5,.rsl 2 0 s1.1.length),(6,iG s1.2)] [ob 0 33 (aI g),ob 1 225 (fU l),ob 2 3 (s1.1.flatMap cZ)] 3) [hc (rZ.imm [])] (λd=>mr c0 K (rZ.imm _)) λs1 k5 h=>aF 12 (Cd 18 rZ.ixZ 19 (rZ.p1Y tZ) λj=>ak λk a=>aw [AA 23 (rO.ixZ a)]<|kV (λb=>aw [AA 24 (cB (rO.p1Z tO a) b)]<|cj k5 (DE rZ s1.1)) λb=>ak λm e=>Cd 32 eJ.ixZ 33 (eJ.ptZ GN) λn=>Cd 37 ac.ixZ 38 (ac.ptZ aW) λo=>Bz 39 (DO gl) λp=>aw [AA 24 (cB (rO.p1Z tO a) b),hz 28 [2] (wS (i:=2) (c:=3) aH (G5 gl e) (aG 20 _ aH) (rZ.imm s1.1) B5 (by rfl) (CJ (aG 20 _ aH) (w5 (CJ (aG 20 _ aH) (wZ)))))]<|aF 40 (FI (dg 44 rZ) λf=>cj k5 (DE rZ f))<|cj k5 (DE rZ s1.1))<|aA c1 h (DE rZ s1.1)
def qR(g:A7)(a:Ab):JM:=
 (fC g a).bind λb=>some b
theorem yG{g id_}:DF prog gl (qR g id_) 106 [.agg (aI g),.agg (aj id_)] iG:=
 cy func106 λK=>Bz 7 (dX gl) λa=>rv K
def iP(g:A7)(s1:Be×Int)(a:Int×Int):Option ((Int×Int)⊕(Int)):=
 (aS g.Up s1.2).bind λb=>bif decide (a.2<ah b) then((aS g.Up s1.2).bind λc=>(aS c a.2).bind λd=>(aS s1.1 d).bind λe=>some (.inl (EY a.1 (wI (1+e)),wI (a.2+1)))) else(some (.inr a.1))
def pd(g:A7)(s1:Be×Int):Option ((Be×Int)⊕Be):=
 bif decide (s1.2<ah g.L) then((AB (iP g s1) (1,0)).bind λa=>(aT 8 s1.1 ([a]:Be)).bind λb=>some (.inl (b,wI (s1.2+1)))) else(some (.inr s1.1))
def nZ(g:A7):Option Be:=
 (AB (pd g) ([],0)).bind λa=>some a
theorem Fh{g}:LC prog gl (nZ g) 105 [.agg (aI g)] 3 cZ:=
 gc func105 λK=>HC 11101 (λc=>sp [] [(3,.rsl 0 0 c.length)] [ob 0 3 (c.flatMap cZ)] 1) (λs1=>sp [] [(1,.ref 0 0),(3,.rsl 1 0 s1.1.length),(4,iG s1.2)] [ob 0 33 (aI g),ob 1 3 (s1.1.flatMap cZ)] 2) [hc (rZ.imm [])] (λc=>mr c0 K (rZ.imm _)) λs1 k5 h=>aF 11 (HC 1110122102101 (λb=>sf [] [(5,iG b)]) (λa=>sf [] [(5,iG a.1),(6,iG a.2)]) (DE rZ s1.1) (λb=>FI (dg 41 rZ) λd=>cj k5 (DE rZ d)) λa e f=>Cd 18 nH.ixZ 19 (nH.p1Y Vs) λi=>aF 21 (Cd 29 nH.ixZ 30 (nH.p1Y Vs) λj=>Cd 32 rZ.ixZ 33 (rZ.p1Y tZ) λk=>Cd 34 (rZ.ixrZ 1) 35 (rZ.p10Y tZ) λl=>cj e (DE rZ s1.1))<|aA c1 f (DE rZ s1.1))<|aA c1 h (DE rZ s1.1)
def vI(g:A7)(l:Be)(i:Int)(k:Int):Fo:=
 (aS l i).bind λd=>(aS l k).bind λe=>bif decide (d≠e) then((aS l i).bind λf=>(aS l k).bind λh=>some (decide (f<h))) else((aS g.IDs i).bind λa=>(aS g.IDs k).bind λb=>(oU a b).bind λc=>some c)
theorem G6{g l i k}:DF prog gl (vI g l i k) 107 [.agg (aI g),aE cZ l,iG i,iG k] bG:=
 cy func107 λK=>Cd 11 rZ.ixZ 12 (rZ.p1Y tZ) λd=>Cd 15 rZ.ixZ 16 (rZ.p1Y tZ) λe=>aF 17 (Cd 20 rZ.ixZ 21 (rZ.p1Y tZ) λf=>Cd 24 rZ.ixZ 25 (rZ.p1Y tZ) λh=>rv K)<|Cd 30 ac.ixZ 31 (ac.ptZ aW) λa=>Cd 35 ac.ixZ 36 (ac.ptZ aW) λb=>Bz 37 (oV gl) λc=>rv K
def qS(g:A7)(e:Be)(a:Bc×Int):Option ((Bc×Int)⊕Bc):=
 bif decide (a.2<ah e) then((aS e a.2).bind λb=>(aS g.IDs b).bind λc=>(aT 24 a.1 [c]).bind λd=>some (.inl (d,wI (a.2+1)))) else(some (.inr a.1))
def qT(g:A7)(f:Be)(s3:Be×Int)(b:Int)(a:Int):Option ((Int)⊕(Int)):=
 (bif decide (a<ah s3.1) then((aS s3.1 a).bind λc=>(vI g f c b).bind λd=>some d) else(some false)).bind λe=>bif e then(some (.inl (wI (a+1)))) else(some (.inr a))
def qU(g:A7)(ids:Bc)(j:Be)(s3:Be×Int):Option ((Be×Int)⊕Be):=
 bif decide (s3.2<ah ids) then((aS ids s3.2).bind λc=>(qR g c).bind λa=>bif decide (a<0) then(some (.inl (s3.1,wI (s3.2+1)))) else((AB (qT g j s3 a) 0).bind λb=>(tq s3.1 b).bind λd=>(aT 8 ([]:Be) d).bind λe=>(aT 8 e ([a]:Be)).bind λf=>(mc s3.1 b).bind λh=>(aT 8 f h).bind λi=>some (.inl (i,wI (s3.2+1))))) else(some (.inr s3.1))
def n8(g:A7)(ids:Bc):Option Bc:=
 (nZ g).bind λb=>(AB (qU g ids b) ([],0)).bind λc=>(AB (qS g c) ([],0)).bind λa=>some a
theorem G7{g ids}:LC prog gl (n8 g ids) 50 [.agg (aI g),aE aj ids] 25 aj:=
 gc func50 λK=>Jt 14 rZ (Fh gl) λp=>HC 111101 (λn=>sp [] [(2,.ref 0 0),(6,aE cZ n)] [ob 0 33 (aI g)] 1) (λs3=>so [0] [(2,.ref 0 0),(5,aE cZ p),(6,aE cZ s3.1),(7,iG s3.2)] [ob 0 33 (aI g)] 1) [] (λn=>HC 11111101 (λb=>sp [] [(11,.rsl 0 0 b.length)] [ob 0 25 (b.flatMap aj)] 1) (λa=>so [] [(11,.rsl 1 0 a.1.length),(12,iG a.2)] [ob 1 25 (a.1.flatMap aj)] 2) [hc (ac.imm [])] (λb=>mr c0 K (ac.imm _)) λa h i=>aF 62 (Cd 70 rZ.ixZ 71 (rZ.p1Y tZ) λq=>Cd 72 ac.ixZ 73 (ac.ptZ aW) λr=>FI (dg 75 ac) λj=>cj h (DE ac j))<|aA c1 i (DE ac a.1)) λs3 o k6=>aF 18 (Cd 24 ac.ixZ 25 (ac.ptZ aW) λs=>Bz 26 (yG gl) λc=>aF 28 (rb o)<|HC 111101221021110 (λd=>sf [] [(8,iG c),(9,iG d)]) (λe=>sf [] [(8,iG c),(9,iG e)]) [] (λd=>rdv 48 rZ.preZI λt=>FI (wX 49 rZ) λu=>FI (dg 53 rZ) λv=>rdv 57 rZ.sufZI λw=>FI (eu 58 rZ) λk=>cj o [hc (rZ.al k)]) λe l m=>Nj 1111012210211102200 (sf [] []) [] 42 (rb l) (aA c1 m []) λf=>aF 32 (Cd 38 rZ.ixZ 39 (rZ.p1Y tZ) λx=>Bz 41 (G6 gl) λy=>rx f)<|rx f)<|aA c1 k6 []
def LJ(o:Bp):JM:=
 bif decide (o.Kind=1) then(some o.By) else((bif decide (o.Kind=2) then(some true) else(some (decide (o.Kind=13)))).bind λa=>bif a then(some o.Device) else(some 0))
theorem Pk{o}:DF prog gl (LJ o) 177 [.agg (aJ o)] iG:=
 cy func177 λK=>aF 5 (rv K)<|Nj 11100 (sp [] [(1,.ref 0 0)] [ob 0 64 (aJ o)] 1) [] 15 (rv K) (rv K) λk5=>aF 10 (rx k5)<|rx k5
end
section
set_option maxHeartbeats 2000000
def nk(g:A7)(i:Bc)(s3:Be×Int):Option ((Be×Int)⊕Be):=
 bif decide (s3.2<ah i) then((aS i s3.2).bind λb=>(qR g b).bind λc=>(aS g.L c).bind λd=>(LJ d).bind λa=>(bif decide (0<a) then((fb s3.1 a).bind λe=>some (!e)) else(some false)).bind λf=>bif f then((aT 8 s3.1 ([a]:Be)).bind λh=>some (.inl (h,wI (s3.2+1)))) else(some (.inl (s3.1,wI (s3.2+1))))) else(some (.inr s3.1))
def jn(g:A7)(ids:Bc):Option Be:=
 (n8 g ids).bind λa=>(AB (nk g a) ([],0)).bind λb=>some b
theorem Di{g ids}:LC prog gl (jn g ids) 93 [.agg (aI g),aE aj ids] 3 cZ:=
 gc func93 λK=>Jt 11 ac (G7 gl) λh=>HC 111101 (λc=>sp [] [(6,.rsl 0 0 c.length)] [ob 0 3 (c.flatMap cZ)] 1) (λs3=>sp [] [(2,.ref 0 0),(5,aE aj h),(6,.rsl 1 0 s3.1.length),(7,iG s3.2)] [ob 0 33 (aI g),ob 1 3 (s3.1.flatMap cZ)] 2) [hc (rZ.imm [])] (λc=>mr c0 K (rZ.imm _)) λs3 f k6=>aF 15 (Cd 23 ac.ixZ 24 (ac.ptZ aW) λi=>Bz 25 (yG gl) λj=>Cd 26 eJ.ixZ 27 (eJ.ptZ GN) λk=>Bz 28 (Pk gl) λa=>Nj 1111012210210 (sf [] [(8,iG a)]) (DE rZ s3.1) 36 (FI (dg 40 rZ) λd=>cj f (DE rZ d)) (cj f (DE rZ s3.1)) λb=>aF 30 (ak λl e=>aw [hq 34 [aE cZ s3.1,iG a] [hc (rZ.al s3.1)] (C5 gl e)]<|aA c0 b (DE rZ s3.1))<|aA c0 b (DE rZ s3.1))<|aA c1 k6 (DE rZ s3.1)
def un(ids:Bc)(s1:Bc×Int):Option ((Bc×Int)⊕Bc):=
 bif decide (s1.2<ah ids) then((aS ids s1.2).bind λb=>(qN ids b.By).bind λa=>(bif decide (0<a) then((aS ids s1.2).bind λc=>some (decide (a<=c.Seq))) else(some false)).bind λd=>bif d then((aS ids s1.2).bind λe=>(aT 24 s1.1 [e]).bind λf=>some (.inl (f,wI (s1.2+1)))) else(some (.inl (s1.1,wI (s1.2+1))))) else(some (.inr s1.1))
def vJ(ids:Bc):Option Bc:=
 (AB (un ids) ([],0)).bind λb=>(iu b).bind λa=>some a
theorem JC{ids}:LC prog gl (vJ ids) 312 [aE aj ids] 25 aj:=
 gc func312 λK=>HC 11101 (λc=>sg [] [(3,aE aj c)]) (λs1=>so [] [(3,.rsl 0 0 s1.1.length),(4,iG s1.2)] [ob 0 25 (s1.1.flatMap aj)] 1) [hc (ac.imm [])] (λc=>ak λd e=>aw [ho 38 [aE aj c] [] (iO gl e) (kF d)]<|mr c0 K (ac.imm _)) λs1 k5 h=>aF 9 (Cd 15 ac.ixZ 17 (ac.fdY tZ 0) λi=>Bz 18 (yF gl) λf=>cN 111012210210 (sf [] [(5,iG f)]) (DE ac s1.1)<|cC 111012210210 (λa=>sf [5] [(29,bG a)]) (λa=>eH [29] (Cd 33 ac.ixZ 34 (ac.ptZ aW) λj=>FI (dg 36 ac) λg=>cj k5 (DE ac g))<|cj k5 (DE ac s1.1)) λa b=>aF 20 (Cd 24 ac.ixZ 26 (ac.fdY tZ 1) λk=>aA c0 b (DE ac s1.1))<|aA c0 b (DE ac s1.1))<|aA c1 h [hc (ac.al s1.1)]
def uo(g:A7)(b:Bc)(a:List Bool×List Bool×Int):Option ((List Bool×List Bool×Int)⊕(List Bool×List Bool)):=
 bif decide (a.2.2<ah b) then((aS b a.2.2).bind λd=>(fC g d).bind λc=>(ji a.1 c true).bind λe=>(ji a.2.1 c true).bind λf=>some (.inl (e,f,wI (a.2.2+1)))) else(some (.inr (a.1,a.2.1)))
def uq(g:A7)(e:Bc)(a:Be×Int):Option ((Be×Int)⊕Be):=
 bif decide (a.2<ah e) then((aS e a.2).bind λb=>(fC g b).bind λc=>(aT 8 a.1 ([c]:Be)).bind λd=>some (.inl (d,wI (a.2+1)))) else(some (.inr a.1))
def Aa(g:A7)(ids:Bc):Option JS:=
 (n8 g ids).bind λd=>(rP 1 (false:Bool) (ah g.L)).bind λe=>(rP 1 (false:Bool) (ah g.L)).bind λf=>(rP 1 (false:Bool) (ah g.L)).bind λh=>(AB (uq g d) ([],0)).bind λb=>(vJ ids).bind λc=>(AB (uo g c) (e,f,0)).bind λa=>some ⟨b,a.1,a.2,h⟩
theorem JE{g ids r}(h:Aa g ids=some r):OU prog gl 251 [.agg (aI g),aE aj ids] [] 0 0 (.agg [.rsl 0 0 r.Row.length,.rsl 1 0 r.Void.length,.rsl 2 0 r.Fork.length,.rsl 3 0 r.Decided.length]) [ob 0 3 (r.Row.flatMap cZ),ob 1 4 (r.Void.flatMap cO),ob 2 4 (r.Fork.flatMap cO),ob 3 4 (r.Decided.flatMap cO)]:=
 Yx (λr:JS=> .agg [.rsl 0 0 r.Row.length,.rsl 1 0 r.Void.length,.rsl 2 0 r.Fork.length,.rsl 3 0 r.Decided.length]) (λr:JS=>[ob 0 3 (r.Row.flatMap cZ),ob 1 4 (r.Void.flatMap cO),ob 2 4 (r.Fork.flatMap cO),ob 3 4 (r.Decided.flatMap cO)]) func251 h (λi hi=>absurd hi (Nat.not_lt_zero i)) λK=>Jt 13 ac (G7 gl) λt=>FI (hmk 17 rO) λe=>FI (hmk 22 rO) λf=>FI (hmk 27 rO) λb=>HC 111111101 (λa=>so [0] [(2,.ref 0 0),(4,.ref 1 0),(5,.ref 2 0)] [ob 0 33 (aI g),ob 1 225 (bF [0,1,2,3] (fU AC)),ob 2 225 [.rsl 3 0 a.length,.rsl 4 0 e.length,.rsl 5 0 f.length,.rsl 6 0 b.length],ob 3 3 (a.flatMap cZ),ob 4 4 (e.flatMap cO),ob 5 4 (f.flatMap cO),ob 6 4 (b.flatMap cO)] 7) (λl=>so [0] [(2,.ref 0 0),(4,.ref 1 0),(5,.ref 2 0),(6,aE aj t),(7,iG l.2)] [ob 0 33 (aI g),ob 1 225 (bF [0,1,2,3] (fU AC)),ob 2 225 [.rsl 3 0 l.1.length,.rsl 4 0 e.length,.rsl 5 0 f.length,.rsl 6 0 b.length],ob 3 3 (l.1.flatMap cZ),ob 4 4 (e.flatMap cO),ob 5 4 (f.flatMap cO),ob 6 4 (b.flatMap cO)] 7) [hc (el e),hc (el f),hc (el b),hc (rZ.imm []),hc (rO.imm e),hc (rO.imm f),hc (rO.imm b)] (λa=>Jt 47 ac (JC gl) λp=>HC 11111111101 (λd=>sk [] [(4,.ref 0 0),(5,.ref 1 0)] [ob 0 225 (bF [0,1,2,3] (fU AC)),ob 1 225 [.rsl 2 0 a.length,.rsl 3 0 d.1.length,.rsl 4 0 d.2.length,.rsl 5 0 b.length],ob 2 3 (a.flatMap cZ),ob 3 4 (d.1.flatMap cO),ob 4 4 (d.2.flatMap cO),ob 5 4 (b.flatMap cO)] 6) (λc=>so [1] [(8,aE aj p),(9,iG c.2.2)] [ob 2 225 [.rsl 3 0 a.length,.rsl 4 0 c.1.length,.rsl 5 0 c.2.1.length,.rsl 6 0 b.length],ob 4 4 (c.1.flatMap cO),ob 5 4 (c.2.1.flatMap cO)] 7) [hc (el a),hc (el e),hc (el f),hc (el b),hc (rZ.imm a),hc (rO.imm e),hc (rO.imm f),hc (rO.imm b)] (λd=>rdU c0 K [hc (el a),hc (el d.1),hc (el d.2),hc (el b),hc (rZ.imm a),hc (rO.imm d.1),hc (rO.imm d.2),hc (rO.imm b)] [(0,2),(1,3),(2,4),(3,5)] [(0,.row),(1,.row),(2,.row),(3,.row)]) λc q s=>aF 51 (Cd 57 ac.ixZ 58 (ac.ptZ aW) λu=>Bz 59 (dX gl) λv=>ak λm j=>ak λn k=>aw [AA 63 (rO.ixsZ 4 j),hw 63 (m.flatMap cO) (rO.putZ j),AA 67 (rO.ixsZ 5 k),hw 67 (n.flatMap cO) (rO.putZ k)]<|cj q [hc (el a),hc (hZ j),hc (hZ k),hc (el b),hc (rZ.imm a),hc (rO.imm m),hc (rO.imm n),hc (rO.imm b)])<|aA c1 s [hc (el a),hc (el c.1),hc (el c.2.1),hc (el b),hc (rZ.imm a),hc (rO.imm c.1),hc (rO.imm c.2.1),hc (rO.imm b)]) λl k13 k12=>aF 32 (Cd 40 ac.ixZ 41 (ac.ptZ aW) λw=>Bz 42 (dX gl) λx=>FI (dg 44 rZ) λo=>cj k13 [hc (el o),hc (el e),hc (el f),hc (el b),hc (rZ.imm o),hc (rO.imm e),hc (rO.imm f),hc (rO.imm b)])<|aA c1 k12 [hc (el l.1),hc (el e),hc (el f),hc (el b),hc (rZ.imm l.1),hc (rO.imm e),hc (rO.imm f),hc (rO.imm b)]
def NQ(g:A7)(l:JS)(at_:Int):Fo:=
 (aS g.L at_).bind λa=>((aS l.Void at_).bind λc=>bif(!c) then((aS l.Decided at_).bind λb=>bif(!b) then(bif decide (a.Kind=3) then(some true) else(bif decide (a.Kind=13) then(some true) else(some (decide (a.Kind=12))))) else(some false)) else(some false)).bind λd=>some d
theorem lC{g l at_}:DF prog gl (NQ g l at_) 254 [.agg (aI g),.agg (fU l),iG at_] bG:=
 cy func254 λK=>Cd 11 eJ.ixZ 13 (eJ.fdY tZ 2) λc=>cN 1110 (sp [2] [(4,.ref 0 0),(7,iG c.Kind)] [ob 0 225 (fU l)] 1) []<|cC 1110 (λb=>sk [] [(6,bG b)] [] 0) (λb=>rv K) λb a=>Cd 17 rO.ixZ 18 (rO.p1Y tO) λe=>aF 19 (Cd 24 rO.ixZ 25 (rO.p1Y tO) λd=>aF 27 (aF 30 (rx a)<|aF 34 (rx a)<|rx a)<|rx a)<|rx a
def n9(g:A7)(c:Int)(y:Int):Fo:=
 (aS g.L c).bind λa=>(aS g.L y).bind λb=>(bif decide (c=y) then(some true) else((aS g.In c).bind λd=>(aS d y).bind λe=>bif e then(some true) else((aS g.In y).bind λf=>(aS f c).bind λh=>some h))).bind λl=>bif l then(some false) else((bif decide (a.Kind=3) then(some (decide (a.Device≠0))) else(some false)).bind λm=>bif m then(some (decide (b.By=a.Device))) else(bif decide (a.Kind=3) then((nT g b.By).bind λi=>some (decide (i=a.Member))) else(bif decide (a.Kind=13) then((bif decide (b.By=a.Old) then(bif decide (b.Kind≠12) then(some true) else(some (!decide (b.Of=a.Of)))) else(some false)).bind λj=>some j) else((bif decide (a.Kind=12) then(bif decide (b.Kind=13) then(bif decide (a.Of=b.Of) then(some (decide (a.At<=b.At))) else(some false)) else(some false)) else(some false)).bind λk=>some k))))
theorem mC{g x_ y}:DF prog gl (n9 g x_ y) 253 [.agg (aI g),iG x_,iG y] bG:=
 cy func253 λK=>Cd 12 eJ.ixZ 13 (eJ.ptZ GN) λf=>Cd 17 eJ.ixZ 18 (eJ.ptZ GN) λh=>cN 111100 (so [0] [(3,.ref 0 0),(7,.ref 1 0),(8,.ref 2 0)] [ob 0 33 (aI g),ob 1 64 (aJ f),ob 2 64 (aJ h)] 3) []<|cC 111100 (λj=>sf [1,2] [(41,bG j)]) (λj=>eH [41] (rv K)<|Nj 1111100 (sf [41] []) [] 49 (rv K) (aF 57 (Bz 61 (vE gl) λk=>rv K)<|aF 67 (cN 11111110130 (sk [] [(7,.ref 0 0),(8,.ref 1 0)] [ob 0 64 (aJ f),ob 1 64 (aJ h)] 2) []<|cC 11111110130 (λb=>sk [] [(6,bG b)] [] 0) (λb=>rv K) λb c=>aF 72 (aF 76 (rx c)<|aw [hV 82 (dy h.Of f.Of rfl)]<|rx c)<|rx c)<|cN 111111110 (sk [] [(7,.ref 0 0),(8,.ref 1 0)] [ob 0 64 (aJ f),ob 1 64 (aJ h)] 2) []<|cC 111111110 (λd=>sk [] [(6,bG d)] [] 0) (λd=>rv K) λd a=>aF 87 (aF 92 (aw [hV 98 (dU f.Of h.Of rfl)]<|aF 99 (rx a)<|rx a)<|rx a)<|rx a) λi=>aF 44 (rx i)<|rx i) λj e=>aF 21 (rx e)<|Cd 26 zV.ixZ 27 (zV.p1Y Vt) λl=>Cd 29 rO.ixZ 30 (rO.p1Y tO) λm=>aF 31 (rx e)<|Cd 36 zV.ixZ 37 (zV.p1Y Vt) λn=>Cd 39 rO.ixZ 40 (rO.p1Y tO) λo=>rx e
def qV(g:A7)(l:JS)(h:Int)(y:Int)(s2:Int):Option ((Int)⊕(Unit⊕Bool)):=
 bif decide (s2<ah l.Row) then((aS l.Row s2).bind λa=>(bif decide (a=h) then((n9 g y a).bind λb=>some b) else((aS g.In h).bind λc=>(aS c a).bind λd=>bif d then((n9 g y a).bind λe=>some e) else(some false))).bind λf=>bif f then(some (.inr (.inr true))) else(some (.inl (wI (s2+1))))) else(some (.inr (.inl ())))
def qW(g:A7)(l:JS)(a:Int)(y:Int):Fo:=
 bif decide (a=y) then(some false) else((AB (qV g l a y) 0).bind λb=>ma b (λc=>some false) (λq=>some q))
theorem yI{g l x_ y}:DF prog gl (qW g l x_ y) 255 [.agg (aI g),.agg (fU l),iG x_,iG y] bG:=
 cy func255 λK=>aF 13 (rv K)<|Nk 11101 (λc=>sg [] []) (λs2=>so [0,1] [(4,.ref 0 0),(5,.ref 1 0),(9,iG s2)] [ob 0 33 (aI g),ob 1 225 (fU l)] 2) [] K (λc=>rv K) λs2 k6 k5 e=>aF 18 (Cd 24 rZ.ixZ 25 (rZ.p1Y tZ) λd=>cN 111012210210 (sf [] [(10,iG d)]) []<|cC 111012210210 (λa=>sf [10] [(44,bG a)]) (λa=>eH [44] (aP c3 e [])<|rb k6) λa b=>aF 28 (Bz 43 (mC gl) λf=>rx b)<|Cd 33 zV.ixZ 34 (zV.p1Y Vt) λh=>Cd 36 rO.ixZ 37 (rO.p1Y tO) λi=>aF 38 (Bz 43 (mC gl) λj=>rx b)<|rx b)<|aA c2 k5 []
def ph(a:Be)(device:Int)(s1:Int):Option ((Int)⊕(Unit⊕Int)):=
 bif decide (s1<ah a) then((aS a s1).bind λb=>bif decide (b=device) then(some (.inr (.inr s1))) else(some (.inl (wI (s1+1))))) else(some (.inr (.inl ())))
def oa(a:Be)(device:Int):JM:=
 (AB (ph a device) 0).bind λb=>ma b (λc=>some (ah a)) (λq=>some q)
theorem vK{a device}:DF prog gl (oa a device) 313 [aE cZ a,iG device] iG:=
 cy func313 λK=>Nk 1101 (λb=>sf [1] []) (λs1=>sf [] [(5,iG s1)]) [] K (λb=>rv K) λs1 k5 c k6=>aF 9 (Cd 14 rZ.ixZ 15 (rZ.p1Y tZ) λd=>aF 17 (aP c3 k6 [])<|rb k5)<|aA c2 c []
def ut(g:A7)(l:JS)(b:Int)(a:Bool×Int):Option ((Bool×Int)⊕(Bool)):=
 bif decide (a.2<ah l.Row) then(((aS l.Row a.2).bind λc=>(NQ g l c).bind λd=>bif d then((aS l.Row a.2).bind λe=>(qW g l b e).bind λf=>some f) else(some false)).bind λh=>bif h then(some (.inl (false,wI (a.2+1)))) else(some (.inl (a.1,wI (a.2+1))))) else(some (.inr a.1))
def uu(g:A7)(l:JS)(a:Be)(s1:Int×Int):Option ((Int×Int)⊕(Int⊕Int)):=
 bif decide (s1.2<ah l.Row) then((aS l.Row s1.2).bind λb=>(NQ g l b).bind λc=>bif(!c) then(some (.inl (s1.1,wI (s1.2+1)))) else((AB (ut g l b) (true,0)).bind λd=>bif d then(some (.inr (.inr b))) else((bif decide (s1.1<0) then(some true) else((aS g.L b).bind λe=>(oa a e.By).bind λf=>(aS g.L (EY s1.1 0)).bind λh=>(oa a h.By).bind λi=>some (decide (f<i)))).bind λj=>bif j then(some (.inl (b,wI (s1.2+1)))) else(some (.inl (s1.1,wI (s1.2+1))))))) else(some (.inr (.inl s1.1)))
def vL(g:A7)(l:JS)(a:Be):JM:=
 (AB (uu g l a) ((-1),0)).bind λc=>ma c (λb=>some b) (λq=>some q)
theorem AZ{g l a}:DF prog gl (vL g l a) 252 [.agg (aI g),.agg (fU l),aE cZ a] iG:=
 cy func252 λK=>Nk 11101 (λd=>sg [] [(7,iG d)]) (λs1=>sp [2] [(3,.ref 0 0),(4,.ref 1 0),(7,iG s1.1),(8,iG s1.2)] [ob 0 33 (aI g),ob 1 225 (fU l)] 2) [] K (λd=>rv K) λs1 k5 n k6=>aF 16 (Cd 22 rZ.ixZ 23 (rZ.p1Y tZ) λe=>Bz 27 (lC gl) λo=>aF 28 (rb k5)<|HC 111012210211101 (λf=>sf [] [(9,iG e),(10,bG f)]) (λb=>sf [] [(9,iG e),(10,bG b.1),(11,iG b.2)]) [] (λf=>aF 55 (aP c3 k6 [])<|Nj 1110122102111110 (sf [10] []) [] 78 (rb k5) (rb k5) λh=>aF 58 (rx h)<|Cd 64 eJ.ixZ 66 (eJ.fdY tZ 0) λp=>Bz 67 (vK gl) λq=>Cd 73 eJ.ixZ 75 (eJ.fdY tZ 0) λr=>Bz 76 (vK gl) λs=>rx h) λb i m=>aF 33 (Nj 111012210211101221020 (sf [] []) [] 54 (rb i) (rb i) λj=>Cd 41 rZ.ixZ 42 (rZ.p1Y tZ) λt=>ak λu k=>kV (λc=>Cd 51 rZ.ixZ 52 (rZ.p1Y tZ) λv=>Bz 53 (yI gl) λw=>aw [hf 43 (cF (lC gl k) c)]<|rx j) λc=>aw [hf 43 (cF (lC gl k) c)]<|rx j)<|aA c1 m [])<|aA c2 n []
end
section
set_option maxHeartbeats 2000000
def ng(b:Be)(a:List Bool×Int):Option ((List Bool×Int)⊕(List Bool)):=
 bif decide (a.2<ah b) then((aS b a.2).bind λc=>(ji a.1 c true).bind λd=>some (.inl (d,wI (a.2+1)))) else(some (.inr a.1))
def nh(g:A7)(d:JS)(c:List Bool×List Bool×Int)(a:Be×Int):Option ((Be×Int)⊕Be):=
 bif decide (a.2<ah d.Row) then((aS d.Row a.2).bind λb=>((n9 g c.2.2 b).bind λe=>bif e then(some true) else((NQ g ({d with Void:=c.1,Decided:=c.2.1}) b).bind λf=>bif f then((qW g ({d with Void:=c.1,Decided:=c.2.1}) c.2.2 b).bind λh=>some h) else(some false)):Fo).bind λi=>bif i then((aT 8 a.1 ([b]:Be)).bind λj=>some (.inl (j,wI (a.2+1)))) else(some (.inl (a.1,wI (a.2+1))))) else(some (.inr a.1))
def tw(g:A7)(d:JS)(k:Be)(a:List Bool×List Bool×Int):Option ((List Bool×List Bool×Int)⊕(List Bool×List Bool)):=
 bif decide (0<=a.2.2) then((Sm g ({d with Void:=a.1,Decided:=a.2.1})).bind λe=>(fb e a.2.2).bind λf=>(AB (nh g d a) ([],0)).bind λh=>(bif(!f) then(some ([a.2.2]:Be)) else(some h)).bind λi=>(ji a.2.1 a.2.2 true).bind λb=>(AB (ng i) (a.1,0)).bind λc=>(vL g ({d with Void:=c,Decided:=b}) k).bind λj=>some (.inl (c,b,j))) else(some (.inr (a.1,a.2.1)))
def oR(g:A7)(ids:Bc):Option JS:=
 (Aa g ids).bind λa=>(jn g ids).bind λb=>(vL g a b).bind λd=>(AB (tw g a b) (a.Void,a.Decided,d)).bind λc=>some ({a with Void:=c.1,Decided:=c.2})
theorem Db{g ids}:DF prog gl (oR g ids) 163 [.agg (aI g),aE aj ids] (λr=> .agg (fU r)):=
 cy func163 λK=>ak λe e2=>Jt 18 rZ (Di gl) λz=>ak λQ e6=>aw [hz 15 [] (Ts (c:=2) aH (JE gl e2) (eB aH) rn4 (rZ.imm e.Row) (rO.imm e.Void) (rO.imm e.Fork) (rO.imm e.Decided)),hq 22 [.agg (aI g),.agg (fU e),aE cZ z] [hc (rZ.al e.Row),hc (rO.al e.Void),hc (rO.al e.Fork),hc (rO.al e.Decided)] (AZ gl e6)]<|HC 111110 (λA=>sp [] [(4,.ref 0 0),(5,.ref 1 0)] [ob 0 225 (bF [0,1,2,3] (fU AC)),ob 1 225 (fU ({e with Void:=A.1,Decided:=A.2}))] 2) (λa=>sp [] [(2,.ref 0 0),(4,.ref 1 0),(5,.ref 2 0),(6,aE cZ z),(7,iG a.2.2)] [ob 0 33 (aI g),ob 1 225 (bF [0,1,2,3] (fU AC)),ob 2 225 [aE cZ e.Row,.rsl 3 0 a.1.length,aE cO e.Fork,.rsl 4 0 a.2.1.length],ob 3 4 (a.1.flatMap cO),ob 4 4 (a.2.1.flatMap cO)] 5) [hc (rZ.al e.Row),hc (el e.Void),hc (rO.al e.Fork),hc (el e.Decided),hc (rO.imm e.Void),hc (rO.imm e.Decided)] (λA=>rv K) λa k11 B=>aF 24 (ak λj C=>ak λk D=>aw [ho 27 [.agg (aI g),.agg (fU ({e with Void:=a.1,Decided:=a.2.1}))] [hc (rO.al a.1),hc (rO.al a.2.1)] (AY gl C) (lZ j),hq 29 [aE cZ j,iG a.2.2] [hc (rZ.al j)] (C5 gl D)]<|HC 11111022121101 (λs=>sf [] [(8,bG k),(9,aE cZ s)]) (λb=>so [] [(8,bG k),(9,.rsl 5 0 b.1.length),(10,iG b.2)] [ob 5 3 (b.1.flatMap cZ)] 6) [hc (el a.1),hc (el a.2.1),hc (rO.imm a.1),hc (rO.imm a.2.1),hc (rZ.imm [])] (λs=>cN 111110221211101 (sf [8] [(64,bG (!k))]) [hc (el a.1),hc (el a.2.1),hc (rO.imm a.1),hc (rO.imm a.2.1)]<|cC 111110221211101 (λl=>sf [64] [(9,aE cZ l)]) (λl=>ak λd m=>aw [AA 70 (rO.ixsZ 4 m),hw 70 (d.flatMap cO) (rO.putZ m)]<|HC 11111022121111101 (λf=>so [7,9] [] [ob 2 225 [aE cZ e.Row,.rsl 3 0 f.length,aE cO e.Fork,.rsl 4 0 d.length],ob 3 4 (f.flatMap cO),ob 4 4 (d.flatMap cO)] 5) (λh=>so [7] [(12,iG h.2)] [ob 2 225 [aE cZ e.Row,.rsl 3 0 h.1.length,aE cO e.Fork,.rsl 4 0 d.length],ob 3 4 (h.1.flatMap cO),ob 4 4 (d.flatMap cO)] 5) [hc (el a.1),hc (hZ m),hc (rO.imm a.1),hc (rO.imm d)] (λf=>ak λL E=>aw [hq 87 [.agg (aI g),.agg (fU ({e with Void:=f,Decided:=d})),aE cZ z] [hc (rO.al f),hc (rO.al d)] (AZ gl E)]<|cj k11 [hc (el f),hc (el d),hc (rO.imm f),hc (rO.imm d)]) λh F H=>aF 74 (Cd 81 rZ.ixZ 82 (rZ.p1Y tZ) λM=>ak λt n=>aw [AA 83 (rO.ixsZ 3 n),hw 83 (t.flatMap cO) (rO.putZ n)]<|cj F [hc (hZ n),hc (el d),hc (rO.imm t),hc (rO.imm d)])<|aA c1 H [hc (el h.1),hc (el d),hc (rO.imm h.1),hc (rO.imm d)]) λl u=>eH [64] (aA c0 u [hc (rZ.al ([a.2.2]:Be)),hc (el a.1),hc (el a.2.1),hc (rO.imm a.1),hc (rO.imm a.2.1)])<|aA c0 u [hc (el a.1),hc (el a.2.1),hc (rO.imm a.1),hc (rO.imm a.2.1)]) λb v I=>aF 34 (Cd 40 rZ.ixZ 41 (rZ.p1Y tZ) λi=>Nj 111110221211012210210 (sf [] [(11,iG i)]) [hc (el b.1),hc (el a.1),hc (el a.2.1),hc (rO.imm a.1),hc (rO.imm a.2.1),hc (rZ.imm b.1)] 58 (FI (dg 62 rZ) λw=>cj v [hc (el w),hc (el a.1),hc (el a.2.1),hc (rO.imm a.1),hc (rO.imm a.2.1),hc (rZ.imm w)]) (cj v [hc (el b.1),hc (el a.1),hc (el a.2.1),hc (rO.imm a.1),hc (rO.imm a.2.1),hc (rZ.imm b.1)]) λo=>ak λN x=>kV (λp=>aw [hf 45 (cF (mC gl x) p)]<|aA c0 o [hc (el b.1),hc (el a.1),hc (el a.2.1),hc (rO.imm a.1),hc (rO.imm a.2.1),hc (rZ.imm b.1)]) λp=>ak λO y=>aw [hf 45 (cF (mC gl x) p)]<|kV (λq=>ak λP J=>aw [hq 50 [.agg (aI g),.agg (fU ({e with Void:=a.1,Decided:=a.2.1})),iG i] [hc (rO.al a.1),hc (rO.al a.2.1)] (cF (lC gl y) q),hq 56 [.agg (aI g),.agg (fU ({e with Void:=a.1,Decided:=a.2.1})),iG a.2.2,iG i] [hc (rO.al a.1),hc (rO.al a.2.1)] (yI gl J)]<|aA c0 o [hc (el b.1),hc (el a.1),hc (el a.2.1),hc (rO.imm a.1),hc (rO.imm a.2.1),hc (rZ.imm b.1)]) λq=>aw [hq 50 [.agg (aI g),.agg (fU ({e with Void:=a.1,Decided:=a.2.1})),iG i] [hc (rO.al a.1),hc (rO.al a.2.1)] (cF (lC gl y) q)]<|aA c0 o [hc (el b.1),hc (el a.1),hc (el a.2.1),hc (rO.imm a.1),hc (rO.imm a.2.1),hc (rZ.imm b.1)])<|aA c1 I [hc (rZ.al b.1),hc (el a.1),hc (el a.2.1),hc (rO.imm a.1),hc (rO.imm a.2.1)])<|aA c1 B [hc (rO.al a.1),hc (rO.al a.2.1)]
def tQ(g:A7)(b:Be)(a:Dl×Int):Option ((Dl×Int)⊕(Dl)):=
 bif decide (a.2<ah b) then((aS b a.2).bind λc=>(aS g.L c).bind λd=>(aS b a.2).bind λe=>(aS g.IDs e).bind λf=>(DM a.1 d f).bind λh=>some (.inl (h,wI (a.2+1)))) else(some (.inr a.1))
def zY(g:A7)(ids:Bc):Option Dl:=
 (AV g.Cards).bind λa=>(oR g ids).bind λb=>(Sm g b).bind λc=>(AB (tQ g c) (a,0)).bind λd=>some d
theorem Jh{g ids}:DF prog gl (zY g ids) 89 [.agg (aI g),aE aj ids] (λr=> .agg (aU r)):=
 cy func89 λK=>Bz 10 (DN gl) λk=>Bz 14 (Db gl) λl=>Jt 15 rZ (AY gl) λd=>HC 111101 (λc=>sp [] [(4,.ref 0 0),(5,.ref 1 0)] [ob 0 150 (bF [0,1,2,3,5] (aU eY)),ob 1 150 (aU c)] 2) (λa=>sp [] [(2,.ref 0 0),(4,.ref 1 0),(5,.ref 2 0),(6,aE cZ d),(7,iG a.2)] [ob 0 33 (aI g),ob 1 150 (bF [0,1,2,3,5] (aU eY)),ob 2 150 (aU a.1)] 3) [] (λc=>rv K) λa k11 b=>aF 19 (Cd 27 rZ.ixZ 28 (rZ.p1Y tZ) λe=>Cd 29 eJ.ixZ 30 (eJ.ptZ GN) λf=>Cd 35 rZ.ixZ 36 (rZ.p1Y tZ) λh=>Cd 37 ac.ixZ 38 (ac.ptZ aW) λi=>Bz 39 (AU gl) λj=>rb k11)<|aA c1 b []
def lu(b:Dl):Option Be:=
 (lg b.In).bind λa=>some a
theorem Dc{r_}:LC prog gl (lu r_) 91 [.agg (aU r_)] 3 cZ:=
 gc func91 λK=>ak λa e2=>aw [ho 5 [aE cZ r_.In] [] (vH gl e2) (lZ a)]<|mr c0 K (rZ.imm _)
def qm(b:Be)(c:Be)(a:Be×Int):Option ((Be×Int)⊕Be):=
 bif decide (a.2<ah b) then((aS b a.2).bind λd=>(fb c d).bind λe=>bif(!e) then((aS b a.2).bind λf=>(aT 8 a.1 ([f]:Be)).bind λg=>some (.inl (g,wI (a.2+1)))) else(some (.inl (a.1,wI (a.2+1))))) else(some (.inr a.1))
def qn(c:Be)(b:Be)(a:Be×Int):Option ((Be×Int)⊕Be):=
 bif decide (a.2<ah b) then((aS b a.2).bind λd=>(fb c d).bind λe=>bif e then((aS b a.2).bind λf=>(aT 8 a.1 ([f]:Be)).bind λg=>some (.inl (g,wI (a.2+1)))) else(some (.inl (a.1,wI (a.2+1))))) else(some (.inr a.1))
def qo(g:A7)(o:Bp):Option Be:=
 (LX g o.Past).bind λd=>(qN d o.By).bind λj=>(bif decide (0<j) then(some (decide (j<=o.Seq))) else(some false)).bind λl=>bif l then(some []) else((zY g d).bind λk=>(pV o).bind λa=>(AX k o a).bind λe=>bif decide (e≠0) then(some []) else((DM k o a).bind λf=>(lu f).bind λb=>(jn g d).bind λc=>(AB (qn b c) ([],0)).bind λh=>(AB (qm b c) (h,0)).bind λi=>some i))
theorem GU{g o}:LC prog gl (qo g o) 39 [.agg (aI g),.agg (aJ o)] 3 cZ:=
 gc func39 λK=>Jt 17 ac (ua gl) λs=>Bz 21 (yF gl) λt=>cN 111100 (sp [] [(2,.ref 0 0),(3,.ref 1 0),(5,aE aj s),(6,iG t)] [ob 0 33 (aI g),ob 1 64 (aJ o)] 2) []<|cC 111100 (λm=>sf [6] [(29,bG m)]) (λm=>eH [29] (mr c0 K (rZ.imm _))<|Bz 32 (Jh gl) λD=>Bz 34 (AI gl) λu=>Bz 38 (DO gl) λv=>aF 39 (mr c0 K (rZ.imm _))<|Bz 43 (AU gl) λw=>Jt 44 rZ (Dc gl) λf=>Jt 47 rZ (Di gl) λh=>HC 1111111111101 (λc=>sk [] [(9,aE cZ f),(10,aE cZ h),(11,.rsl 0 0 c.length)] [ob 0 3 (c.flatMap cZ)] 1) (λa=>sk [] [(9,aE cZ f),(10,aE cZ h),(11,.rsl 0 0 a.1.length),(12,iG a.2)] [ob 0 3 (a.1.flatMap cZ)] 1) [hc (rZ.imm [])] (λc=>HC 11111111111101 (λd=>sp [] [(11,.rsl 0 0 d.length)] [ob 0 3 (d.flatMap cZ)] 1) (λb=>so [] [(11,.rsl 0 0 b.1.length),(13,iG b.2)] [ob 0 3 (b.1.flatMap cZ)] 1) (DE rZ c) (λd=>mr c0 K (rZ.imm _)) λb i n=>aF 70 (Cd 76 rZ.ixZ 77 (rZ.p1Y tZ) λx=>Bz 78 (C5 gl) λy=>aF 79 (Cd 83 rZ.ixZ 84 (rZ.p1Y tZ) λz=>FI (dg 86 rZ) λp=>cj i (DE rZ p))<|cj i (DE rZ b.1))<|aA c1 n (DE rZ b.1)) λa j q=>aF 51 (Cd 57 rZ.ixZ 58 (rZ.p1Y tZ) λA=>ak λB k=>kV (λe=>Cd 63 rZ.ixZ 64 (rZ.p1Y tZ) λC=>FI (dg 66 rZ) λr=>aw [hf 59 (cF (C5 gl k) e)]<|cj j (DE rZ r)) λe=>aw [hf 59 (cF (C5 gl k) e)]<|cj j (DE rZ a.1))<|aA c1 q (DE rZ a.1)) λm l=>aF 23 (rx l)<|rx l
def AE(n:Int)(s1:Int):Option ((Int)⊕(Int)):=
 bif decide (wI (2*s1)<n) then(some (.inl (wI (2*s1)))) else(some (.inr s1))
def zZ(n:Int):JM:=
 (AB (AE n) 1).bind λa=>some a
theorem Ji{n}:DF prog gl (zZ n) 96 [iG n] iG:=
 cy func96 λK=>HC 1110 (λa=>sg [] [(3,iG a)]) (λs1=>sf [] [(3,iG s1)]) [] (λa=>rv K) λs1 k5 b=>aF 7 (rb k5)<|aA c1 b []
def KF:Nat->Be->Option Ly
 |0,_=>none
 |nn+1,leaves=>
 bif decide (ah leaves=0) then(some []) else(bif decide (ah leaves=1) then(some [leaves]) else((zZ (ah leaves)).bind λd=>(tq leaves d).bind λe=>(KF nn e).bind λf=>(aT 24 [leaves] f).bind λg=>(mc leaves d).bind λa=>(KF nn a).bind λb=>(aT 24 g b).bind λc=>some c))
theorem qp:∀(nn:Nat) {leaves:Be},LC prog gl (KF nn leaves) 194 [aE cZ leaves] 22 Jc
 |0,_=>λ_ h=>by cases h
 |nn+1,leaves=>gc func194 λK=>aF 7 (mr c0 K (nH.imm _))<|aF 12 (mr c0 K (nH.imm _))<|ak λg e4=>ak λi e6=>ak λj e8=>ak λk a=>ak λd b=>ak λe c=>ak λf e16=>aw [hf 16 (Ji gl e4),AA 20 (rZ.preZI e6),hf 21 ((qp nn e8).fn nH.sz (nH.len _) (nH.imm _)),eu 22 nH a,AA 26 (rZ.sufZI b),hf 27 ((qp nn c).fn nH.sz (nH.len _) (nH.imm _)),eu 28 nH e16]<|mr c0 K (nH.imm _)
def z0(a:Be):Option Ly:=KF (a.length+1) a
theorem Jj{leaves}:LC prog gl (z0 leaves) 194 [aE cZ leaves] 22 Jc:=qp gl _
def AF(device:Int)(e:Ly)(s3:Ly×Int):Option ((Ly×Int)⊕Ly):=
 bif decide (0<=s3.2) then((aS e s3.2).bind λa=>(fb a device).bind λb=>bif b then((aS e s3.2).bind λc=>(aT 24 s3.1 [c]).bind λd=>some (.inl (d,wI (s3.2-1)))) else(some (.inl (s3.1,wI (s3.2-1))))) else(some (.inr s3.1))
def NN(a:Be)(device:Int):Option Ly:=
 (z0 a).bind λb=>(AB (AF device b) ([],wI ((ah b)-1))).bind λc=>some c
theorem Jl{leaves device}:LC prog gl (NN leaves device) 108 [aE cZ leaves,iG device] 22 Jc:=
 gc func108 λK=>Jt 9 nH (Jj gl) λe=>HC 111101 (λb=>sp [] [(6,.rsl 0 0 b.length)] [ob 0 22 (b.flatMap Jc)] 1) (λs3=>so [0] [(5,aE Jc e),(6,.rsl 0 0 s3.1.length),(7,iG s3.2)] [ob 0 22 (s3.1.flatMap Jc)] 1) [hc (nH.imm [])] (λb=>mr c0 K (nH.imm _)) λs3 d k6=>aF 14 (Cd 19 nH.ixZ 20 (nH.p1Y Vs) λf=>ak λg e16=>kV (λa=>Cd 26 nH.ixZ 27 (nH.p1Y Vs) λh=>FI (dg 29 nH) λc=>aw [hf 22 (cF (C5 gl e16) a)]<|cj d (DE nH c)) λa=>aw [hf 22 (cF (C5 gl e16) a)]<|cj d (DE nH s3.1))<|aA c1 k6 (DE nH s3.1)
def jm(g:A7)(o:Bp):Option Ly:=
 (E7 o.Kind).bind λb=>bif(!b) then(some []) else((qo g o).bind λa=>(fb a o.By).bind λc=>bif(!c) then(some []) else((NN a o.By).bind λd=>some d))
theorem E6{g o}:LC prog gl (jm g o) 51 [.agg (aI g),.agg (aJ o)] 22 Jc:=
 gc func51 λK=>Bz 9 (NP gl) λd=>aF 11 (mr c0 K (nH.imm _))<|Jt 14 rZ (GU gl) λe=>Bz 18 (C5 gl) λf=>aF 19 (mr c0 K (nH.imm _))<|ak λb a=>aw [hz 23 [] (SC (c:=2) aH (Jl gl a) (eB aH) (nH.imm b))]<|mr c0 K (nH.imm _)
def lw(g:A7×Int)(b:Int)(c:Bool)(a:List E1×Int):Option ((List E1×Int)⊕(List E1)):=
 (bif decide (a.2<b) then(bif c then(some (decide (a.2<5))) else(some false)) else(some false)).bind λd=>bif d then(((aT 32 a.1 [(⟨wU (wI ((wI (1000+(wI (10*g.2))))+a.2)),[]⟩:E1)]).bind λe=>some e:Option (List E1)).bind λf=>some (.inl (f,wI (a.2+1)))) else(some (.inr a.1))
def ly(l:Be)(most:Int)(a:A7×Int):Option ((A7×Int)⊕(A7)):=
 (bif decide (a.2<most) then(bif decide (a.2<4) then(some true) else(some (decide (wI (2*a.2)<ah l)))) else(some false)).bind λf=>bif f then((bif decide (wI (2*a.2)<ah l) then((aS l (wI (2*a.2))).bind λg=>some g) else(some 0)).bind λh=>(bif decide (wI ((wI (2*a.2))+1)<ah l) then((aS l (wI ((wI (2*a.2))+1))).bind λi=>some i) else(some 0)).bind λc=>(sd a.1 h c).bind λb=>(jm a.1 ({b with Path:=[]})).bind λd=>(iq c 31).bind λj=>(bif decide (j=30) then(some (wI ((ah d)+1))) else(some (ah d))).bind λk=>(E7 b.Kind).bind λm=>(AB (lw a k m) ([],0)).bind λn=>(nR ({b with Path:=n})).bind λo=>(AO a.1 o).bind λe=>bif decide (e.2=0) then(some (.inl (e.1,wI (a.2+1)))) else(some (.inl (a.1,wI (a.2+1))))) else(some (.inr a.1))
def vq(l:Be)(most:Int):Option A7:=
 (r8).bind λa=>(ql a).bind λb=>(Jf b).bind λc=>(AB (ly l most) (c,0)).bind λd=>some d
theorem Jm{l most}:DF prog gl (vq l most) 42 [aE cZ l,iG most] (λr=> .agg (aI r)):=
 cy func42 λK=>Jt 15 rZ (E9 gl) λE=>Jt 16 bT (GQ gl) λF=>Bz 17 (M8 gl) λH=>HC 11101 (λz=>sp [] [(4,.ref 0 0),(5,.ref 1 0)] [ob 0 33 (bF [0,1,2,3,4] (aI xm)),ob 1 33 (aI z)] 2) (λc=>so [] [(4,.ref 0 0),(5,.ref 1 0),(6,iG c.2)] [ob 0 33 (bF [0,1,2,3,4] (aI xm)),ob 1 33 (aI c.1)] 2) [] (λz=>rv K) λc k11 q=>Nj 111012200 (sf [] []) [] 31 (cN 11101221021101 (sf [31] [(7,iG 0),(8,iG 0),(38,bG (decide (wI (2*c.2)<ah l)))]) []<|cC 11101221021101 (λe=>sf [38] [(7,iG e)]) (λe=>cN 111012210211101 (sf [] [(49,bG (decide (wI ((wI (2*c.2))+1)<ah l)))]) []<|cC 111012210211101 (λf=>sf [49] [(8,iG f)]) (λf=>Bz 59 (Jy gl) λa=>ak λs t=>Bz 65 (iL gl) λu=>aw [hf 62 (UY [.agg (aI c.1),.agg (bF [9] (aJ ({a with Path:=[]})))] (nH.fo (E6 gl t)))]<|cN 111012210211111101 (so [7,8] [(9,.ref 2 0),(10,iG (ah s)),(66,bG (decide (u=30)))] [ob 2 64 (bF [9] (aJ ({a with Path:=[]})))] 3) []<|cC 111012210211111101 (λg=>sf [66] [(10,iG g)]) (λg=>Bz 71 (NP gl) λv=>HC 11101221021111111101 (λj=>so [10] [] [ob 2 64 (aJ ({a with Path:=j}))] 3) (λb=>so [] [(11,bG v),(12,iG b.2)] [ob 2 64 [iG a.By,iG a.Seq,iG a.Kind,iG a.At,aE aj a.Past,iG a.Device,iG a.Old,iG a.Member,iG a.Role,.rsl 3 0 b.1.length,iG a.Epoch.By,iG a.Epoch.Seq,uG a.Epoch.Sum,iG a.N,aE cY a.Body,aE cW a.Refs,iG a.Of.By,iG a.Of.Seq,uG a.Of.Sum,aE cZ a.Guards,iG a.Need,iG a.Wait,aE cz a.Boxes,uG a.Pub,aE bp a.Hist,uG a.Sig.R,uG a.Sig.S],ob 3 70 (b.1.flatMap bY)] 4) [hc (bZ.imm [])] (λj=>Bz 99 (E8 gl) λA=>Bz 100 (M9 gl) λB=>aF 104 (rb k11)<|rb k11) λb w x=>Nj 111012210211111111012200 (sf [] []) (DE bZ b.1) 81 (cN 1110122102111111110122102 (sf [81] []) (DE bZ b.1)<|cC 1110122102111111110122102 (λd=>so [] [] [ob 2 64 [iG a.By,iG a.Seq,iG a.Kind,iG a.At,aE aj a.Past,iG a.Device,iG a.Old,iG a.Member,iG a.Role,.rsl 3 0 d.length,iG a.Epoch.By,iG a.Epoch.Seq,uG a.Epoch.Sum,iG a.N,aE cY a.Body,aE cW a.Refs,iG a.Of.By,iG a.Of.Seq,uG a.Of.Sum,aE cZ a.Guards,iG a.Need,iG a.Wait,aE cz a.Boxes,uG a.Pub,aE bp a.Hist,uG a.Sig.R,uG a.Sig.S],ob 3 70 (d.flatMap bY)] 4) (λd=>cj w (DE bZ d)) λd y=>ak λk m=>aw [AA 91 (C8 (wI ((wI (1000+(wI (10*c.2))))+b.2))),Tv 94 bZ m [uG (wU (wI ((wI (1000+(wI (10*c.2))))+b.2))),Iy] rfl]<|aA c0 y [hc (el k),ZV bZ m [uG (wU (wI ((wI (1000+(wI (10*c.2))))+b.2))),Iy]] (kd:=[(3,.app (b.1.flatMap bY) [uG (wU (wI ((wI (1000+(wI (10*c.2))))+b.2))),Iy] (bY (⟨wU (wI ((wI (1000+(wI (10*c.2))))+b.2)),[]⟩:E1)) (k.flatMap bY))])) (aA c1 x [hc (bZ.al b.1)]) λh=>aF 74 (aF 77 (aA c0 h (DE bZ b.1))<|aA c0 h (DE bZ b.1))<|aA c0 h (DE bZ b.1)) λg n=>eH [66] (rx n)<|rx n) λf o=>eH [49] (Cd 54 rZ.ixZ 55 (rZ.p1Y tZ) λC=>rx o)<|rx o) λe p=>eH [38] (Cd 42 rZ.ixZ 43 (rZ.p1Y tZ) λD=>rx p)<|rx p) (aA c1 q []) λi=>aF 20 (aF 23 (rx i)<|rx i)<|rx i
end
structure EH where
 commit:Ab
 n:Int
 deriving DecidableEq
structure Aj8 where
 device:Int
 keys:FM EH Nat
structure AkM where
 b:CM
def FR(x:JM):Int:=x.getD 0
theorem H7(m:JJ)(k:Ab):∀σ,bL prog σ 108 true (FM.g ga iG m) (.agg (aj k))=some (.tup [iG (FR (m.get k)),bG (m.get k).isSome]):=FM.look (et:=3) jt aH aH m k rfl
structure Ow where
 a0:Nat
 a1:Nat
 a2:Nat
 a3:Nat
 deriving DecidableEq
def FSq(x:Ow):Bn:=[uG x.a0,uG x.a1,uG x.a2,uG x.a3]
theorem aap:fg prog 113=some true:=aH
theorem aaq:bw prog 113=some 4:=aH
structure CO where
 o:Bp
 id:Ab
 past:Ow
 level:Int
def d7(x:CO):Bn:=[iG x.o.By,iG x.o.Seq,iG x.o.Kind,iG x.o.At,aE aj x.o.Past,iG x.o.Device,iG x.o.Old,iG x.o.Member,iG x.o.Role,aE bY x.o.Path,iG x.o.Epoch.By,iG x.o.Epoch.Seq,uG x.o.Epoch.Sum,iG x.o.N,aE cY x.o.Body,aE cW x.o.Refs,iG x.o.Of.By,iG x.o.Of.Seq,uG x.o.Of.Sum,aE cZ x.o.Guards,iG x.o.Need,iG x.o.Wait,aE cz x.o.Boxes,uG x.o.Pub,aE bp x.o.Hist,uG x.o.Sig.R,uG x.o.Sig.S,iG x.id.By,iG x.id.Seq,uG x.id.Sum,uG x.past.a0,uG x.past.a1,uG x.past.a2,uG x.past.a3,iG x.level]
structure Aj where
 cards:LT
 at_:JJ
 nodes:List CO
def Ag(x:Aj):Bn:=[aE bv x.cards,FM.g ga iG x.at_,aE d7 x.nodes]
theorem az:AH prog 109 115 35 d7:=⟨aH,aH,B5,λ_=>rfl,λ_=>rfl⟩
structure AaY where
 Graph:Aj
def Nh(x:AaY):Bn:=[.ptr (Ag x.Graph) 0]
structure Bh where
 Device:Int
 Seq:Int
 deriving DecidableEq
def Bt(x:Bh):Bn:=[iG x.Device,iG x.Seq]
theorem Hj:fg prog 123=some true:=aH
def DV(x:Option DL):DL:=x.getD ⟨0,0,0,0,0⟩
theorem AaZ(m:FM Int DL)(k:Int):∀σ,bL prog σ 139 false (FM.g JO (λx=> .agg (bv x)) m) (iG k)=some ((λx=> .agg (bv x)) (DV (m.get k))):=FM.look1 (et:=78) Pp aH aH m k rfl
def Ht(x:Fo):Bool:=x.getD false
theorem Su(m:FM Int Bool)(k:Int):∀σ,bL prog σ 138 false (FM.g JO bG m) (iG k)=some (bG (Ht (m.get k))):=FM.look1 (et:=4) Pp aH aH m k rfl
structure CY where
 by_:Int
 device:Int
 deriving DecidableEq
def M0(x:CY):Bn:=[iG x.by_,iG x.device]
def Hk(x:CY):List Value:=[.int .i64 x.by_,.int .i64 x.device]
theorem UC(d:Nat)(i j:CY):bt prog (Op.equalIn (d+3) 210 (.agg (Hk i).toArray) (.agg (Hk j).toArray))=some (decide (i=j)):=by obtain⟨a0,a1⟩:=i;obtain⟨b0,b1⟩:=j;unfold Hk;rw[xV (fs:= #[⟨ "by",3,0,false, "", "huddle/roll",0⟩,⟨ "device",3,1,false, "", "huddle/roll",8⟩]) aH aH];simp only[Array.toList];rw[uJ (k:= .i64) (k':= .i64) (a:=a0) (b:=b0) B5 aH aH aH];rw[uJ (k:= .i64) (k':= .i64) (a:=a1) (b:=b1) B5 aH aH aH];simp only[CY.mk.injEq];by_cases h0:a0=b0<;>by_cases h1:a1=b1<;>simp[h0,h1,Op.eqFields,bz]
def BU(x:CY):Value:= .agg (Hk x).toArray
theorem K3:Md prog 210 BU:=Qw (d:= .struct #[⟨ "by",3,0,false, "", "huddle/roll",0⟩,⟨ "device",3,1,false, "", "huddle/roll",8⟩]) aH (λb k=>by cases b<;>(show _=_;kernel_rfl)) (λa b=>rfl) (λa b=>UC 9997 a b)
def LL(x:JM):Int:=x.getD 0
theorem Sv(m:FM CY Int)(k:CY):∀σ,bL prog σ 204 true (FM.g BU iG m) (.agg (M0 k))=some (.tup [iG (LL (m.get k)),bG (m.get k).isSome]):=FM.look (et:=3) K3 aH aH m k rfl
structure CA where
 id:Ab
 guards:Be
 need:Int
 wait:Int
 vouches:FM CY Int
 objected:Bool
 last:Int
def O9(x:CA):Bn:=[iG x.id.By,iG x.id.Seq,uG x.id.Sum,aE cZ x.guards,iG x.need,iG x.wait,FM.g BU iG x.vouches,bG x.objected,iG x.last]
structure Az where
 role:Int
 guard:Option CA
def Fw(x:Az):Bn:=[iG x.role,npG O9 x.guard]
structure Ad where
 cards:FM Int DL
 in_:FM Int Bool
 was:FM Int Bool
 members:FM Int Az
 back:Int
def CB(x:Ad):Bn:=[FM.g JO (λx=> .agg (bv x)) x.cards,FM.g JO bG x.in_,FM.g JO bG x.was,FM.g JO (λx=> .ptr (Fw x) 0) x.members,iG x.back]
def Bb(x:Fo):Bool:=x.getD false
theorem Sw(m:FM Ab Bool)(k:Ab):∀σ,bL prog σ 296 false (FM.g ga bG m) (.agg (aj k))=some (bG (Bb (m.get k))):=FM.look1 (et:=4) jt aH aH m k rfl
structure AQ where
 g:Aj
 row:Bc
 void:FM Ab Bool
 fork:FM Ab Bool
def BG(x:AQ):Bn:=[.ptr (Ag x.g) 0,aE aj x.row,FM.g ga bG x.void,FM.g ga bG x.fork]
theorem Bi:AH prog 121 123 2 Bt:=⟨aH,aH,B5,λ_=>rfl,λ_=>rfl⟩
abbrev JD:=List CO
end Go.Proofs.YtghphhhpagagbaaGreatDoor
