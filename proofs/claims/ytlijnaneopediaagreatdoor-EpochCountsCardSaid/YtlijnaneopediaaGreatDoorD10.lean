/- Texts. -/
import Derived.Test.YtlijnaneopediaaGreatDoorD2
namespace Go.Proofs.YtlijnaneopediaaGreatDoor
set_option linter.unusedSectionVars false
set_option linter.unusedVariables false
set_option linter.unusedSimpArgs false
open Go.RowKit Tryz
variable (gl:Cd)
variable {c i j k n nn p:Nat}{L:Bq}{f fid:FuncId}{gs:Bj}{r:G}{fn:Func}{ex:Exit}{s s1 st:St}{t t2:Bn}{fr:Fr}{ps:Array Tmp}{a b bd:Code}{pe:Option Code}{o:Ob}{P:Br}
section
set_option maxHeartbeats 2000000
attribute [local irreducible] Tr dz Gp
def ng(b:Bk)(a:List Bool×Int):Option ((List Bool×Int)⊕(List Bool)):=
 bif a.2<ah b then((aS b a.2).bind λc=>(ji a.1 c true).bind λd=>some (.inl (d,wI (a.2+1))))else(some (.inr a.1))
def nh(g:A7)(v1:JP)(c:List Bool×List Bool×Int)(a:Bk×Int):Option ((Bk×Int)⊕Bk):=
 bif a.2<ah v1.Row then((aS v1.Row a.2).bind λb=>((n9 g c.2.2 b).bind λd=>bif d then(some true)else((N7 g ({v1 with Void:=c.1,Decided:=c.2.1}) b).bind λe=>bif e then((qW g ({v1 with Void:=c.1,Decided:=c.2.1}) c.2.2 b).bind λf=>some f)else(some false)):Fm).bind λh=>bif h then((aT 8 a.1 ([b]:Bk)).bind λi=>some (.inl (i,wI (a.2+1))))else(some (.inl (a.1,wI (a.2+1)))))else(some (.inr a.1))
def tw(g:A7)(v1:JP)(j:Bk)(a:List Bool×List Bool×Int):Option ((List Bool×List Bool×Int)⊕(List Bool×List Bool)):=
 bif 0<=a.2.2 then((Qi g ({v1 with Void:=a.1,Decided:=a.2.1})).bind λd=>(fb d a.2.2).bind λe=>(AH (nh g v1 a) ([],0)).bind λf=>(bif(!e)then(some ([a.2.2]:Bk))else(some f)).bind λh=>(ji a.2.1 a.2.2 true).bind λb=>(AH (ng h) (a.1,0)).bind λc=>(vL g ({v1 with Void:=c,Decided:=b}) j).bind λi=>some (.inl (c,b,i)))else(some (.inr (a.1,a.2.1)))
def oR(g:A7)(ids:A3):Option JP:=
 (Aa g ids).bind λv1=>(jn g ids).bind λa=>(vL g v1 a).bind λc=>(AH (tw g v1 a) (v1.Void,v1.Decided,c)).bind λb=>some ({v1 with Void:=b.1,Decided:=b.2})
theorem Db{g ids}:DC prog gl (oR g ids) 110 [.agg (aI g),aE aj ids] (λr=> .agg (fU r)):=
 cy func110 λK=>ak λv1 e2=>JJ 18 rZ (Di gl) λy=>ak λP e6=>aw [hz 15 [] (Ts (c:=2) aH (JE gl e2) (eB aH) rn4 (rZ.imm v1.Row) (rO.imm v1.Void) (rO.imm v1.Fork) (rO.imm v1.Decided)),hq 22 [.agg (aI g),.agg (fU v1),aE cZ y] [hc (rZ.al v1.Row),hc (rO.al v1.Void),hc (rO.al v1.Fork),hc (rO.al v1.Decided)] (AZ gl e6)]<|Jb 111110 (λz=>sp [] [(4,.ref 0 0),(5,.ref 1 0)] [ob 0 157 (bF [0,1,2,3] (fU AC)),ob 1 157 (fU ({v1 with Void:=z.1,Decided:=z.2}))] 2) (λa=>sp [] [(2,.ref 0 0),(4,.ref 1 0),(5,.ref 2 0),(6,aE cZ y),(7,iG a.2.2)] [ob 0 30 (aI g),ob 1 157 (bF [0,1,2,3] (fU AC)),ob 2 157 [aE cZ v1.Row,.rsl 3 0 a.1.length,aE cO v1.Fork,.rsl 4 0 a.2.1.length],ob 3 4 (a.1.flatMap cO),ob 4 4 (a.2.1.flatMap cO)] 5) [hc (rZ.al v1.Row),hc (el v1.Void),hc (rO.al v1.Fork),hc (el v1.Decided),hc (rO.imm v1.Void),hc (rO.imm v1.Decided)] (λz=>rv K) λa k11 A=>aF 24 (ak λi B=>ak λj C=>aw [ho 27 [.agg (aI g),.agg (fU ({v1 with Void:=a.1,Decided:=a.2.1}))] [hc (rO.al a.1),hc (rO.al a.2.1)] (AY gl B) (lZ i),hq 29 [aE cZ i,iG a.2.2] [hc (rZ.al i)] (Dq gl C)]<|Jb 11111022121101 (λq=>sf [] [(8,bG j),(9,aE cZ q)]) (λb=>so [] [(8,bG j),(9,.rsl 5 0 b.1.length),(10,iG b.2)] [ob 5 3 (b.1.flatMap cZ)] 6) [hc (el a.1),hc (el a.2.1),hc (rO.imm a.1),hc (rO.imm a.2.1),hc (rZ.imm [])] (λq=>cN 111110221211101 (sf [8] [(64,bG (!j))]) [hc (el a.1),hc (el a.2.1),hc (rO.imm a.1),hc (rO.imm a.2.1)]<|cC 111110221211101 (λk=>sf [64] [(9,aE cZ k)]) (λk=>ak λd l=>aw [Az 70 (rO.ixsZ 4 l),hw 70 (d.flatMap cO) (rO.putZ l)]<|Jb 11111022121111101 (λe=>so [7,9] [] [ob 2 157 [aE cZ v1.Row,.rsl 3 0 e.length,aE cO v1.Fork,.rsl 4 0 d.length],ob 3 4 (e.flatMap cO),ob 4 4 (d.flatMap cO)] 5) (λf=>so [7] [(12,iG f.2)] [ob 2 157 [aE cZ v1.Row,.rsl 3 0 f.1.length,aE cO v1.Fork,.rsl 4 0 d.length],ob 3 4 (f.1.flatMap cO),ob 4 4 (d.flatMap cO)] 5) [hc (el a.1),hc (hZ l),hc (rO.imm a.1),hc (rO.imm d)] (λe=>ak λJ D=>aw [hq 87 [.agg (aI g),.agg (fU ({v1 with Void:=e,Decided:=d})),aE cZ y] [hc (rO.al e),hc (rO.al d)] (AZ gl D)]<|cj k11 [hc (el e),hc (el d),hc (rO.imm e),hc (rO.imm d)]) λf E F=>aF 74 (CD 81 rZ.ixZ 82 (rZ.p1Y tZ) λL=>ak λs m=>aw [Az 83 (rO.ixsZ 3 m),hw 83 (s.flatMap cO) (rO.putZ m)]<|cj E [hc (hZ m),hc (el d),hc (rO.imm s),hc (rO.imm d)])<|aA c1 F [hc (el f.1),hc (el d),hc (rO.imm f.1),hc (rO.imm d)]) λk t=>eH [64] (aA c0 t [hc (rZ.al ([a.2.2]:Bk)),hc (el a.1),hc (el a.2.1),hc (rO.imm a.1),hc (rO.imm a.2.1)])<|aA c0 t [hc (el a.1),hc (el a.2.1),hc (rO.imm a.1),hc (rO.imm a.2.1)]) λb u H=>aF 34 (CD 40 rZ.ixZ 41 (rZ.p1Y tZ) λh=>Om 111110221211012210210 (sf [] [(11,iG h)]) [hc (el b.1),hc (el a.1),hc (el a.2.1),hc (rO.imm a.1),hc (rO.imm a.2.1),hc (rZ.imm b.1)] 58 (Ge (dg 62 rZ) λv=>cj u [hc (el v),hc (el a.1),hc (el a.2.1),hc (rO.imm a.1),hc (rO.imm a.2.1),hc (rZ.imm v)]) (cj u [hc (el b.1),hc (el a.1),hc (el a.2.1),hc (rO.imm a.1),hc (rO.imm a.2.1),hc (rZ.imm b.1)]) λn=>ak λM w=>kV (λo=>aw [hf 45 (cF (mC gl w) o)]<|aA c0 n [hc (el b.1),hc (el a.1),hc (el a.2.1),hc (rO.imm a.1),hc (rO.imm a.2.1),hc (rZ.imm b.1)]) λo=>ak λN x=>aw [hf 45 (cF (mC gl w) o)]<|kV (λp=>ak λO I=>aw [hq 50 [.agg (aI g),.agg (fU ({v1 with Void:=a.1,Decided:=a.2.1})),iG h] [hc (rO.al a.1),hc (rO.al a.2.1)] (cF (lC gl x) p),hq 56 [.agg (aI g),.agg (fU ({v1 with Void:=a.1,Decided:=a.2.1})),iG a.2.2,iG h] [hc (rO.al a.1),hc (rO.al a.2.1)] (yI gl I)]<|aA c0 n [hc (el b.1),hc (el a.1),hc (el a.2.1),hc (rO.imm a.1),hc (rO.imm a.2.1),hc (rZ.imm b.1)]) λp=>aw [hq 50 [.agg (aI g),.agg (fU ({v1 with Void:=a.1,Decided:=a.2.1})),iG h] [hc (rO.al a.1),hc (rO.al a.2.1)] (cF (lC gl x) p)]<|aA c0 n [hc (el b.1),hc (el a.1),hc (el a.2.1),hc (rO.imm a.1),hc (rO.imm a.2.1),hc (rZ.imm b.1)])<|aA c1 H [hc (rZ.al b.1),hc (el a.1),hc (el a.2.1),hc (rO.imm a.1),hc (rO.imm a.2.1)])<|aA c1 A [hc (rO.al a.1),hc (rO.al a.2.1)]
def tQ(g:A7)(b:Bk)(a:C7×Int):Option ((C7×Int)⊕(C7)):=
 bif a.2<ah b then((aS b a.2).bind λc=>(aS g.L c).bind λd=>(aS b a.2).bind λe=>(aS g.IDs e).bind λf=>(DM a.1 d f).bind λh=>some (.inl (h,wI (a.2+1))))else(some (.inr a.1))
def zY(g:A7)(ids:A3):Option C7:=
 (AV g.Cards).bind λv1=>(oR g ids).bind λa=>(Qi g a).bind λb=>(AH (tQ g b) (v1,0)).bind λc=>some c
theorem Jh{g ids}:DC prog gl (zY g ids) 49 [.agg (aI g),aE aj ids] (λr=> .agg (aU r)):=
 cy func49 λK=>BW 10 (DN gl) λv1=>BW 14 (Db gl) λk=>JJ 15 rZ (AY gl) λd=>Jb 111101 (λc=>sp [] [(4,.ref 0 0),(5,.ref 1 0)] [ob 0 88 (bF [0,1,2,3,5] (aU eY)),ob 1 88 (aU c)] 2) (λa=>sp [] [(2,.ref 0 0),(4,.ref 1 0),(5,.ref 2 0),(6,aE cZ d),(7,iG a.2)] [ob 0 30 (aI g),ob 1 88 (bF [0,1,2,3,5] (aU eY)),ob 2 88 (aU a.1)] 3) [] (λc=>rv K) λa k11 b=>aF 19 (CD 27 rZ.ixZ 28 (rZ.p1Y tZ) λe=>CD 29 eJ.ixZ 30 (eJ.ptZ GN) λf=>CD 35 rZ.ixZ 36 (rZ.p1Y tZ) λh=>CD 37 ac.ixZ 38 (ac.ptZ aW) λi=>BW 39 (AU gl) λj=>rb k11)<|aA c1 b []
def lu(a:C7):Option Bk:=
 (lg a.In).bind λv1=>some v1
theorem Dc{r_}:LP prog gl (lu r_) 126 [.agg (aU r_)] 3 cZ:=
 gc func126 λK=>ak λv1 e2=>aw [ho 5 [aE cZ r_.In] [] (vH gl e2) (lZ v1)]<|mr c0 K (rZ.imm _)
def qm(b:Bk)(c:Bk)(a:Bk×Int):Option ((Bk×Int)⊕Bk):=
 bif a.2<ah b then((aS b a.2).bind λd=>(fb c d).bind λe=>bif(!e)then((aS b a.2).bind λf=>(aT 8 a.1 ([f]:Bk)).bind λg=>some (.inl (g,wI (a.2+1))))else(some (.inl (a.1,wI (a.2+1)))))else(some (.inr a.1))
def qn(c:Bk)(b:Bk)(a:Bk×Int):Option ((Bk×Int)⊕Bk):=
 bif a.2<ah b then((aS b a.2).bind λd=>(fb c d).bind λe=>bif e then((aS b a.2).bind λf=>(aT 8 a.1 ([f]:Bk)).bind λg=>some (.inl (g,wI (a.2+1))))else(some (.inl (a.1,wI (a.2+1)))))else(some (.inr a.1))
def qo(g:A7)(o:Bi):Option Bk:=
 (Lm g o.Past).bind λv1=>(qN v1 o.By).bind λi=>(bif 0<i then(some (decide (i<=o.Seq)))else(some false)).bind λk=>bif k then(some [])else((zY g v1).bind λj=>(pV o).bind λa=>(AX j o a).bind λd=>bif d≠0 then(some [])else((DM j o a).bind λe=>(lu e).bind λb=>(jn g v1).bind λc=>(AH (qn b c) ([],0)).bind λf=>(AH (qm b c) (f,0)).bind λh=>some h))
theorem GU{g o}:LP prog gl (qo g o) 60 [.agg (aI g),.agg (aJ o)] 3 cZ:=
 gc func60 λK=>JJ 17 ac (ua gl) λv1=>BW 21 (yF gl) λs=>cN 111100 (sp [] [(2,.ref 0 0),(3,.ref 1 0),(5,aE aj v1),(6,iG s)] [ob 0 30 (aI g),ob 1 63 (aJ o)] 2) []<|cC 111100 (λm=>sf [6] [(29,bG m)]) (λm=>eH [29] (mr c0 K (rZ.imm _))<|BW 32 (Jh gl) λC=>BW 34 (AI gl) λt=>BW 38 (DO gl) λu=>aF 39 (mr c0 K (rZ.imm _))<|BW 43 (AU gl) λv=>JJ 44 rZ (Dc gl) λf=>JJ 47 rZ (Di gl) λh=>Jb 1111111111101 (λc=>sk [] [(9,aE cZ f),(10,aE cZ h),(11,.rsl 0 0 c.length)] [ob 0 3 (c.flatMap cZ)] 1) (λa=>sk [] [(9,aE cZ f),(10,aE cZ h),(11,.rsl 0 0 a.1.length),(12,iG a.2)] [ob 0 3 (a.1.flatMap cZ)] 1) [hc (rZ.imm [])] (λc=>Jb 11111111111101 (λd=>sp [] [(11,.rsl 0 0 d.length)] [ob 0 3 (d.flatMap cZ)] 1) (λb=>so [] [(11,.rsl 0 0 b.1.length),(13,iG b.2)] [ob 0 3 (b.1.flatMap cZ)] 1) (DE rZ c) (λd=>mr c0 K (rZ.imm _)) λb i n=>aF 70 (CD 76 rZ.ixZ 77 (rZ.p1Y tZ) λw=>BW 78 (Dq gl) λx=>aF 79 (CD 83 rZ.ixZ 84 (rZ.p1Y tZ) λy=>Ge (dg 86 rZ) λp=>cj i (DE rZ p))<|cj i (DE rZ b.1))<|aA c1 n (DE rZ b.1)) λa j q=>aF 51 (CD 57 rZ.ixZ 58 (rZ.p1Y tZ) λz=>ak λA k=>kV (λe=>CD 63 rZ.ixZ 64 (rZ.p1Y tZ) λB=>Ge (dg 66 rZ) λr=>aw [hf 59 (cF (Dq gl k) e)]<|cj j (DE rZ r)) λe=>aw [hf 59 (cF (Dq gl k) e)]<|cj j (DE rZ a.1))<|aA c1 q (DE rZ a.1)) λm l=>aF 23 (rx l)<|rx l
def AE(n:Int)(s1:Int):Option ((Int)⊕(Int)):=
 bif wI (2*s1)<n then(some (.inl (wI (2*s1))))else(some (.inr s1))
def zZ(n:Int):JI:=
 (AH (AE n) 1).bind λa=>some a
theorem Ji{n}:DC prog gl (zZ n) 324 [iG n] iG:=
 cy func324 λK=>Jb 1110 (λa=>sg [] [(3,iG a)]) (λs1=>sf [] [(3,iG s1)]) [] (λa=>rv K) λs1 k5 b=>aF 7 (rb k5)<|aA c1 b []
def KF:Nat->Bk->Option M2
 |0,_=>none
 |nn+1,leaves=>
 bif ah leaves=0 then(some [])else(bif ah leaves=1 then(some [leaves])else((zZ (ah leaves)).bind λd=>(tq leaves d).bind λe=>(KF nn e).bind λf=>(aT 24 [leaves] f).bind λg=>(mc leaves d).bind λa=>(KF nn a).bind λb=>(aT 24 g b).bind λc=>some c))
theorem qp:∀(nn:Nat) {leaves:Bk},LP prog gl (KF nn leaves) 234 [aE cZ leaves] 22 Jc
 |0,_=>λ_ h=>by cases h
 |nn+1,leaves=>gc func234 λK=>aF 7 (mr c0 K (nH.imm _))<|aF 12 (mr c0 K (nH.imm _))<|ak λg e4=>ak λi e6=>ak λj e8=>ak λk a=>ak λd b=>ak λe c=>ak λf e16=>aw [hf 16 (Ji gl e4),Az 20 (rZ.preZI e6),hf 21 ((qp nn e8).fn nH.sz (nH.len _) (nH.imm _)),Hj 22 nH a,Az 26 (rZ.sufZI b),hf 27 ((qp nn c).fn nH.sz (nH.len _) (nH.imm _)),Hj 28 nH e16]<|mr c0 K (nH.imm _)
def z0(a:Bk):Option M2:=KF (a.length+1) a
theorem Jj{leaves}:LP prog gl (z0 leaves) 234 [aE cZ leaves] 22 Jc:=qp gl _
def AF(device:Int)(v1:M2)(s3:M2×Int):Option ((M2×Int)⊕M2):=
 bif 0<=s3.2 then((aS v1 s3.2).bind λa=>(fb a device).bind λb=>bif b then((aS v1 s3.2).bind λc=>(aT 24 s3.1 [c]).bind λd=>some (.inl (d,wI (s3.2-1))))else(some (.inl (s3.1,wI (s3.2-1)))))else(some (.inr s3.1))
def N4(a:Bk)(device:Int):Option M2:=
 (z0 a).bind λv1=>(AH (AF device v1) ([],wI ((ah v1)-1))).bind λb=>some b
theorem Jl{leaves device}:LP prog gl (N4 leaves device) 145 [aE cZ leaves,iG device] 22 Jc:=
 gc func145 λK=>JJ 9 nH (Jj gl) λv1=>Jb 111101 (λb=>sp [] [(6,.rsl 0 0 b.length)] [ob 0 22 (b.flatMap Jc)] 1) (λs3=>so [0] [(5,aE Jc v1),(6,.rsl 0 0 s3.1.length),(7,iG s3.2)] [ob 0 22 (s3.1.flatMap Jc)] 1) [hc (nH.imm [])] (λb=>mr c0 K (nH.imm _)) λs3 d k6=>aF 14 (CD 19 nH.ixZ 20 (nH.p1Y Vs) λe=>ak λf e16=>kV (λa=>CD 26 nH.ixZ 27 (nH.p1Y Vs) λg=>Ge (dg 29 nH) λc=>aw [hf 22 (cF (Dq gl e16) a)]<|cj d (DE nH c)) λa=>aw [hf 22 (cF (Dq gl e16) a)]<|cj d (DE nH s3.1))<|aA c1 k6 (DE nH s3.1)
def jm(g:A7)(o:Bi):Option M2:=
 (Gu o.Kind).bind λv1=>bif(!v1)then(some [])else((qo g o).bind λa=>(fb a o.By).bind λb=>bif(!b)then(some [])else((N4 a o.By).bind λc=>some c))
theorem E6{g o}:LP prog gl (jm g o) 73 [.agg (aI g),.agg (aJ o)] 22 Jc:=
 gc func73 λK=>BW 9 (oX gl) λv1=>aF 11 (mr c0 K (nH.imm _))<|JJ 14 rZ (GU gl) λd=>BW 18 (Dq gl) λe=>aF 19 (mr c0 K (nH.imm _))<|ak λb a=>aw [hz 23 [] (UM (c:=2) aH (Jl gl a) (eB aH) (nH.imm b))]<|mr c0 K (nH.imm _)
end
section
set_option maxHeartbeats 2000000
attribute [local irreducible] Tr dz Gp
theorem Ahi:fg prog 55=some false:=aH
def M6(g:A7)(v1:A3)(s3:A3×Int):Option ((A3×Int)⊕A3):=
 bif s3.2<ah v1 then((aS v1 s3.2).bind λc=>(fC g c).bind λa=>bif a<0 then(some (.inl (s3.1,wI (s3.2+1))))else((aS g.L a).bind λd=>(jm g d).bind λb=>(bif 0<ah b then((aS g.L a).bind λe=>some (decide (ah b=ah e.Path)))else(some false)).bind λf=>bif f then((aS v1 s3.2).bind λh=>(aT 24 s3.1 [h]).bind λi=>some (.inl (i,wI (s3.2+1))))else(some (.inl (s3.1,wI (s3.2+1))))))else(some (.inr s3.1))
def JU(g:A7)(ids:A3):Option A3:=
 (n8 g ids).bind λv1=>(AH (M6 g v1) ([],0)).bind λa=>some a
theorem XW{g ids}:LP prog gl (JU g ids) 55 [.agg (aI g),aE aj ids] 36 aj:=
 gc func55 λK=>ak λv1 e2=>aw [hf 12 (ac.fo (G7 gl e2))]<|rdL 111101 11110122 (λi=>sp [] [(6,.rsl 0 0 i.length)] [ob 0 36 (i.flatMap aj)] 1) (λs3=>sp [] [(2,.ref 0 0),(5,aE aj v1),(6,.rsl 1 0 s3.1.length),(7,iG s3.2)] [ob 0 30 (aI g),ob 1 36 (s3.1.flatMap aj)] 2) [hc (ac.imm [])] (λi=>mr c0 K (ac.imm _)) λs3 j k6=>aF 16 (ak λo b=>ak λk e16=>aw [Az 22 (ac.ixZ b),Az 23 (ac.ptZ aW b),hf 24 (dX gl e16)]<|aF 26 (cj j [hc (el s3.1),hc (ac.imm s3.1)])<|ak λp c=>ak λl m=>aw [Az 31 (eJ.ixZ c),Az 32 (eJ.ptZ GN c),hf 33 (nH.fo (E6 gl m))]<|cN 111101221021110 (sf [] [(8,iG k),(9,iG (ah l))]) [hc (el s3.1),hc (ac.imm s3.1)]<|cC 111101221021110 (λa=>sf [8,9] [(47,bG a)]) (λa=>eH [47] (ak λq d=>ak λe n=>aw [Az 51 (ac.ixZ d),Az 52 (ac.ptZ aW d),dg 54 ac n]<|cj j [hc (el e),hc (ac.imm e)])<|cj j [hc (el s3.1),hc (ac.imm s3.1)]) λa f=>aF 36 (ak λr h=>aw [Az 42 (eJ.ixZ h),Az 44 (eJ.fdZ Ahi 9 h)]<|aA c0 f [hc (el s3.1),hc (ac.imm s3.1)])<|aA c0 f [hc (el s3.1),hc (ac.imm s3.1)])<|aA c1 k6 [hc (el s3.1),hc (ac.imm s3.1)]
def Aac(g:A7)(commit:Ab):Option M2:=
 (fC g commit).bind λv1=>bif v1<0 then(some [])else((aS g.L v1).bind λa=>(jm g a).bind λb=>some b)
end
structure EQ where
 commit:Ab
 n:Int
 deriving DecidableEq
structure Akz where
 device:Int
 keys:FM EQ Nat
structure Ale where
 b:CO
def FR(x:JI):Int:=x.getD 0
theorem H7(m:IX)(k:Ab):∀σ,bL prog σ 102 true (FM.g ga iG m) (.agg (aj k))=some (.tup [iG (FR (m.get k)),bG (m.get k).isSome]):=FM.look (et:=3) jt aH aH m k rfl
structure OR where
 a0:Nat
 a1:Nat
 a2:Nat
 a3:Nat
 deriving DecidableEq
def FSq(x:OR):Bj:=[uG x.a0,uG x.a1,uG x.a2,uG x.a3]
theorem aap:fg prog 107=some true:=aH
theorem aaq:bw prog 107=some 4:=aH
structure CY where
 o:Bi
 id:Ab
 past:OR
 level:Int
def d7(x:CY):Bj:=[iG x.o.By,iG x.o.Seq,iG x.o.Kind,iG x.o.At,aE aj x.o.Past,iG x.o.Device,iG x.o.Old,iG x.o.Member,iG x.o.Role,aE bY x.o.Path,iG x.o.Epoch.By,iG x.o.Epoch.Seq,uG x.o.Epoch.Sum,iG x.o.N,aE cY x.o.Body,aE cW x.o.Refs,iG x.o.Of.By,iG x.o.Of.Seq,uG x.o.Of.Sum,aE cZ x.o.Guards,iG x.o.Need,iG x.o.Wait,aE cz x.o.Boxes,uG x.o.Pub,aE bp x.o.Hist,uG x.o.Sig.R,uG x.o.Sig.S,iG x.id.By,iG x.id.Seq,uG x.id.Sum,uG x.past.a0,uG x.past.a1,uG x.past.a2,uG x.past.a3,iG x.level]
structure Aj where
 cards:Mj
 at_:IX
 nodes:List CY
def Ag(x:Aj):Bj:=[aE bv x.cards,FM.g ga iG x.at_,aE d7 x.nodes]
theorem az:A9 prog 103 109 35 d7:=⟨aH,aH,B5,λ_=>rfl,λ_=>rfl⟩
structure Abd where
 Graph:Aj
def Np(x:Abd):Bj:=[.ptr (Ag x.Graph) 0]
structure Bf where
 Device:Int
 Seq:Int
 deriving DecidableEq
def Bu(x:Bf):Bj:=[iG x.Device,iG x.Seq]
theorem Hs:fg prog 165=some true:=aH
def DV(x:Option DP):DP:=x.getD ⟨0,0,0,0,0⟩
theorem Abe(m:FM Int DP)(k:Int):∀σ,bL prog σ 116 false (FM.g JM (λx=> .agg (bv x)) m) (iG k)=some ((λx=> .agg (bv x)) (DV (m.get k))):=FM.look1 (et:=127) PC aH aH m k rfl
def Hf(x:Fm):Bool:=x.getD false
theorem Sx(m:FM Int Bool)(k:Int):∀σ,bL prog σ 115 false (FM.g JM bG m) (iG k)=some (bG (Hf (m.get k))):=FM.look1 (et:=4) PC aH aH m k rfl
structure C4 where
 by_:Int
 device:Int
 deriving DecidableEq
def M5(x:C4):Bj:=[iG x.by_,iG x.device]
def Ht(x:C4):List Value:=[.int .i64 x.by_,.int .i64 x.device]
theorem Uy(d:Nat)(i j:C4):bt prog (Op.equalIn (d+3) 195 (.agg (Ht i).toArray) (.agg (Ht j).toArray))=some (decide (i=j)):=by obtain⟨a0,a1⟩:=i;obtain⟨b0,b1⟩:=j;unfold Ht;rw[xV (fs:= #[⟨ "by",3,0,false, "", "huddle/roll",0⟩,⟨ "device",3,1,false, "", "huddle/roll",8⟩]) aH aH];simp only[Array.toList];rw[uJ (k:= .i64) (k':= .i64) (a:=a0) (b:=b0) B5 aH aH aH];rw[uJ (k:= .i64) (k':= .i64) (a:=a1) (b:=b1) B5 aH aH aH];simp only[C4.mk.injEq];by_cases h0:a0=b0<;>by_cases h1:a1=b1<;>simp[h0,h1,Op.eqFields,bz]
def BX(x:C4):Value:= .agg (Ht x).toArray
theorem KX:Mw prog 195 BX:=Qw (d:= .struct #[⟨ "by",3,0,false, "", "huddle/roll",0⟩,⟨ "device",3,1,false, "", "huddle/roll",8⟩]) aH (λb k=>by cases b<;>(show _=_;kernel_rfl)) (λa b=>rfl) (λa b=>Uy 9997 a b)
def LO(x:JI):Int:=x.getD 0
theorem SA(m:FM C4 Int)(k:C4):∀σ,bL prog σ 189 true (FM.g BX iG m) (.agg (M5 k))=some (.tup [iG (LO (m.get k)),bG (m.get k).isSome]):=FM.look (et:=3) KX aH aH m k rfl
structure CA where
 id:Ab
 guards:Bk
 need:Int
 wait:Int
 vouches:FM C4 Int
 objected:Bool
 last:Int
def Pv(x:CA):Bj:=[iG x.id.By,iG x.id.Seq,uG x.id.Sum,aE cZ x.guards,iG x.need,iG x.wait,FM.g BX iG x.vouches,bG x.objected,iG x.last]
structure AA where
 role:Int
 guard:Option CA
def Fv(x:AA):Bj:=[iG x.role,npG Pv x.guard]
structure Ad where
 cards:FM Int DP
 in_:FM Int Bool
 was:FM Int Bool
 members:FM Int AA
 back:Int
def CB(x:Ad):Bj:=[FM.g JM (λx=> .agg (bv x)) x.cards,FM.g JM bG x.in_,FM.g JM bG x.was,FM.g JM (λx=> .ptr (Fv x) 0) x.members,iG x.back]
def AB(x:Fm):Bool:=x.getD false
theorem N9(m:FM Ab Bool)(k:Ab):∀σ,bL prog σ 231 false (FM.g ga bG m) (.agg (aj k))=some (bG (AB (m.get k))):=FM.look1 (et:=4) jt aH aH m k rfl
structure Bb where
 g:Aj
 row:A3
 void:FM Ab Bool
 fork:FM Ab Bool
def BB(x:Bb):Bj:=[.ptr (Ag x.g) 0,aE aj x.row,FM.g ga bG x.void,FM.g ga bG x.fork]
theorem Bg:A9 prog 163 165 2 Bu:=⟨aH,aH,B5,λ_=>rfl,λ_=>rfl⟩
abbrev IH:=List CY
section
set_option maxHeartbeats 2000000
attribute [local irreducible] Tr dz Gp
def fm(a:Bk)(s1:Int):Option ((Int)⊕(Unit⊕Int)):=
 bif s1<ah a then((aS a s1).bind λb=>bif b≠0 then(some (.inr (.inr b)))else(some (.inl (wI (s1+1)))))else(some (.inr (.inl ())))
def iy(a:Bk):JI:=
 (AH (fm a) 0).bind λb=>ma b (λc=>some 0) (λq=>some q)
theorem FT{vals}:DC prog gl (iy vals) 224 [aE cZ vals] iG:=
 cy func224 λK=>OY 11101 (λa=>sg [] [(3,iG 0)]) (λs1=>sg [] [(3,iG 0),(6,aE cZ vals),(7,iG (ah vals)),(8,iG s1)]) [] K (λa=>rv K) λs1 k5 b k6=>aF 9 (CD 10 rZ.ixZ 11 (rZ.p1Y tZ) λc=>aF 14 (aP c3 k6 [])<|rb k5)<|aA c2 b []
def Fw(a:Int):Fm:=
 some (decide (a≠a))
theorem dw{x_}:DC prog gl (Fw x_) 306 [iG x_] bG:=
 cy func306 λK=>rv K
def f8(a:Int)(y:Int):JI:=
 (Fw a).bind λv1=>(Fw y).bind λb=>bif v1 then(bif b then(some 0)else(some (-1)))else(bif b then(some 1)else(bif a<y then(some (-1))else(bif y<a then(some 1)else(some 0))))
theorem mQ{x_ y}:DC prog gl (f8 x_ y) 215 [iG x_,iG y] iG:=
 cy func215 λK=>ak λv1 e2=>ak λc e4=>aw [hf 10 (dw gl e4)]<|kV (λb5=>aw [hf 8 (cF (dw gl e2) b5)]<|kV (λa=>aw [hf 10 (cF (dw gl e4) a)]<|rv K) λa=>aw [hf 10 (cF (dw gl e4) a)]<|rv K) λb5=>aw [hf 8 (cF (dw gl e2) b5)]<|kV (λb=>aw [hf 10 (cF (dw gl e4) b)]<|rv K) λb=>aw [hf 10 (cF (dw gl e4) b)]<|aF 16 (rv K)<|aF 19 (rv K)<|rv K
def g9(a:Nat):Fm:=
 some (decide ((a:Int)≠(a:Int)))
theorem cH{x_}:DC prog gl (g9 x_) 325 [uG x_] bG:=
 cy func325 λK=>rv K
def fQ(a:Nat)(y:Nat):JI:=
 (g9 a).bind λv1=>(g9 y).bind λb=>bif v1 then(bif b then(some 0)else(some (-1)))else(bif b then(some 1)else(bif (a:Int)<(y:Int)then(some (-1))else(bif (y:Int)<(a:Int)then(some 1)else(some 0))))
theorem rG{x_ y}:DC prog gl (fQ x_ y) 236 [uG x_,uG y] iG:=
 cy func236 λK=>ak λv1 e2=>ak λc e4=>aw [hf 10 (cH gl e4)]<|kV (λb5=>aw [hf 8 (cF (cH gl e2) b5)]<|kV (λa=>aw [hf 10 (cF (cH gl e4) a)]<|rv K) λa=>aw [hf 10 (cF (cH gl e4) a)]<|rv K) λb5=>aw [hf 8 (cF (cH gl e2) b5)]<|kV (λb=>aw [hf 10 (cF (cH gl e4) b)]<|rv K) λb=>aw [hf 10 (cF (cH gl e4) b)]<|aF 16 (rv K)<|aF 19 (rv K)<|rv K
def pE(a:Ab)(b:Ab):Fm:=
 (f8 a.By b.By).bind λv1=>(f8 a.Seq b.Seq).bind λc=>(fQ a.Sum b.Sum).bind λd=>(iy ([v1,c,d]:Bk)).bind λe=>some (decide (e<0))
theorem Nr{a b}:DC prog gl (pE a b) 161 [.agg (aj a),.agg (aj b)] bG:=
 cy func161 λK=>BW 9 (mQ gl) λv1=>BW 14 (mQ gl) λc=>BW 19 (rG gl) λd=>ak λe e8=>aw [hq 21 [aE cZ ([v1,c,d]:Bk)] [hc (rZ.al ([v1,c,d]:Bk))] (FT gl e8)]<|rv K
def wz(a:EQ)(b:EQ):JI:=
 (pE a.commit b.commit).bind λv1=>bif v1 then(some (-1))else((pE b.commit a.commit).bind λc=>bif c then(some 1)else(some (wI (a.n-b.n))))
def Fe(g:Aj)(a:Ab):JI:=
 bif(g.at_.get a).isSome then((aS g.nodes (FR (g.at_.get a))).bind λb=>some b.level)else(some 0)
theorem HD{g id_}:DC prog gl (Fe g id_) 211 [.ptr (Ag g) 0,.agg (aj id_)] iG:=
 cy func211 λK=>aw [hm 13 (H7 g.at_ id_)]<|aF 15 (CD 22 az.ixZ 24 (az.fdY tZ 34) λa=>rv K)<|rv K
def iX(s:OR)(n:Int):Fm:=
 (aS ([s.a0,s.a1,s.a2,s.a3]:Bq) (wI (Int.tdiv n 64))).bind λa=>(wJ (Int.tmod n 64)).bind λb=>some (decide (((bD (Jq a b) 1:Nat):Int)=((1:Nat):Int)))
def Ko{α:Type}(s:List α)(f:α->Fm)(s1:Int):Option ((Int)⊕(Unit⊕Int)):=
 bif s1<ah s then((aS s s1).bind λa=>(f a).bind λb=>bif b then(some (.inr (.inr s1)))else(some (.inl (wI (s1+1)))))else(some (.inr (.inl ())))
def Vx{α:Type}(s:List α)(f:α->Fm):JI:=
 (AH (Ko s f) 0).bind λa=>ma a (λb=>some (-1)) (λq=>some q)
def Ace(P:Br)(gl:Cd){α:Type}(c a:α->Bj)(F:FuncId):Prop:=∀⦃s:List α⦄ ⦃f:α->Fm⦄ ⦃fi_f:FuncId⦄ ⦃fa_f fc_f:Bj⦄,R1 P gl fi_f fa_f fc_f a (λx:Bool=>bG x) f->DC P gl (Vx s f) F [aE c s,.clo (.func fi_f) fa_f fc_f] iG
theorem pF:Ace prog gl cZ (λx=>[iG x]) 371:=λs f fi_f fa_f fc_f a=>
 cy func371 λK=>OY 1101 (λg=>sg [] []) (λs1=>sf [] [(7,iG (ah s)),(8,iG s1)]) [hc (a.im)] K (λg=>rv K) λs1 k5 h k6=>aF 9 (CD 14 rZ.ixZ 15 (rZ.p1Y tZ) λd=>ak λi e=>kV (λb=>aw [hz 16 [] (cS (a.cs (c:=0) e (aY (aG 20 (iG d) aH) (bf))) b)]<|aP c3 k6 []) λb=>aw [hz 16 [] (cS (a.cs (c:=0) e (aY (aG 20 (iG d) aH) (bf))) b)]<|cj k5 [hc (a.im)])<|aA c2 h []
def Abf{α:Type}(s:List α)(f:α->Fm):Fm:=
 (Vx s f).bind λv1=>some (decide (0<=v1))
def Acf(P:Br)(gl:Cd){α:Type}(c a:α->Bj)(F:FuncId):Prop:=∀⦃s:List α⦄ ⦃f:α->Fm⦄ ⦃fi_f:FuncId⦄ ⦃fa_f fc_f:Bj⦄,R1 P gl fi_f fa_f fc_f a (λx:Bool=>bG x) f->DC P gl (Abf s f) F [aE c s,.clo (.func fi_f) fa_f fc_f] bG
theorem ml:Acf prog gl cZ (λx=>[iG x]) 328:=λs f fi_f fa_f fc_f a=>
 cy func328 λK=>ak λv1 e2=>aw [hz 7 [] (jf (c:=0) aH (pF gl (a) e2) (aY (aG 20 (aE cZ s) aH) (aY (a.im) (bf))))]<|rv K
def cU(s:A3):Option A3:=aT 24 [] s
theorem jY{s:A3}:LP prog gl (cU s) 51 [aE aj s] 36 aj:=λr h=>by
 unfold cU at h;refine OW func51 ?_;refine pO 1100 (s0 8 gl [(0,aE aj s)] [] 0 0) [] [] ?_;refine IA 0 3 4 26 36 rfl (E7 aH) (E7 aH) λb hb=>?_;cases b
 .exact EI [Hj 7 ac h] (ac.imm _)
 .obtain rfl:=ac.isNil (hb rfl);obtain rfl:=mV h;exact EI [] (ac.imm [])
def Fi(s:CO):Option CO:=aT 1 [] s
theorem tj{s:CO}:LP prog gl (Fi s) 164 [aE cY s] 5 cY:=λr h=>by
 unfold Fi at h;refine OW func164 ?_;refine pO 1100 (s0 8 gl [(0,aE cY s)] [] 0 0) [] [] ?_;refine IA 0 3 4 56 5 rfl (E7 aH) (E7 aH) λb hb=>?_;cases b
 .exact EI [Hj 7 rY h] (rY.imm _)
 .obtain rfl:=rY.isNil (hb rfl);obtain rfl:=mV h;exact EI [] (rY.imm [])
def dK(s:Bq):Option Bq:=aT 8 [] s
theorem p9{s:Bq}:LP prog gl (dK s) 165 [aE cW s] 34 cW:=λr h=>by
 unfold dK at h;refine OW func165 ?_;refine pO 1100 (s0 8 gl [(0,aE cW s)] [] 0 0) [] [] ?_;refine IA 0 3 4 57 34 rfl (E7 aH) (E7 aH) λb hb=>?_;cases b
 .exact EI [Hj 7 rW h] (rW.imm _)
 .obtain rfl:=rW.isNil (hb rfl);obtain rfl:=mV h;exact EI [] (rW.imm [])
def fF(s:Bk):Option Bk:=aT 8 [] s
theorem uK{s:Bk}:LP prog gl (fF s) 139 [aE cZ s] 3 cZ:=λr h=>by
 unfold fF at h;refine OW func139 ?_;refine pO 1100 (s0 8 gl [(0,aE cZ s)] [] 0 0) [] [] ?_;refine IA 0 3 4 22 3 rfl (E7 aH) (E7 aH) λb hb=>?_;cases b
 .exact EI [Hj 7 rZ h] (rZ.imm _)
 .obtain rfl:=rZ.isNil (hb rfl);obtain rfl:=mV h;exact EI [] (rZ.imm [])
def dx(s:List Hh):Option (List Hh):=aT 32 [] s
theorem uM{s:List Hh}:LP prog gl (dx s) 166 [aE cz s] 220 cz:=λr h=>by
 unfold dx at h;refine OW func166 ?_;refine pO 1100 (s0 8 gl [(0,aE cz s)] [] 0 0) [] [] ?_;refine IA 0 3 4 58 220 rfl (E7 aH) (E7 aH) λb hb=>?_;cases b
 .exact EI [Hj 7 EO h] (EO.imm _)
 .obtain rfl:=EO.isNil (hb rfl);obtain rfl:=mV h;exact EI [] (EO.imm [])
def gt(s:List Fp):Option (List Fp):=aT 32 [] s
theorem tk{s:List Fp}:LP prog gl (gt s) 167 [aE bY s] 122 bY:=λr h=>by
 unfold gt at h;refine OW func167 ?_;refine pO 1100 (s0 8 gl [(0,aE bY s)] [] 0 0) [] [] ?_;refine IA 0 3 4 55 122 rfl (E7 aH) (E7 aH) λb hb=>?_;cases b
 .exact EI [Hj 7 bZ h] (bZ.imm _)
 .obtain rfl:=bZ.isNil (hb rfl);obtain rfl:=mV h;exact EI [] (bZ.imm [])
def fu(s:List DR):Option (List DR):=aT 48 [] s
theorem qb{s:List DR}:LP prog gl (fu s) 168 [aE bp s] 211 bp:=λr h=>by
 unfold fu at h;refine OW func168 ?_;refine pO 1100 (s0 8 gl [(0,aE bp s)] [] 0 0) [] [] ?_;refine IA 0 3 4 59 211 rfl (E7 aH) (E7 aH) λb hb=>?_;cases b
 .exact EI [Hj 7 bH h] (bH.imm _)
 .obtain rfl:=bH.isNil (hb rfl);obtain rfl:=mV h;exact EI [] (bH.imm [])
def jC(b:List DR)(a:List DR×Int):Option ((List DR×Int)⊕(List DR)):=
 bif a.2<ah b then((aS a.1 a.2).bind λc=>(Fi c.Body).bind λd=>(aS a.1 a.2).bind λe=>(ji a.1 a.2 ({e with Body:=d})).bind λf=>some (.inl (f,wI (a.2+1))))else(some (.inr a.1))
def jD(b:List Fp)(a:List Fp×Int):Option ((List Fp×Int)⊕(List Fp)):=
 bif a.2<ah b then((aS a.1 a.2).bind λc=>(dx c.Boxes).bind λd=>(aS a.1 a.2).bind λe=>(ji a.1 a.2 ({e with Boxes:=d})).bind λf=>some (.inl (f,wI (a.2+1))))else(some (.inr a.1))
def pG(o:Bi):Option Bi:=
 (cU o.Past).bind λv1=>(Fi o.Body).bind λe=>(dK o.Refs).bind λf=>(fF o.Guards).bind λg=>(dx o.Boxes).bind λh=>(gt o.Path).bind λa=>(fu o.Hist).bind λb=>(AH (jD a) (a,0)).bind λc=>(AH (jC b) (b,0)).bind λd=>some ({o with Past:=v1,Path:=c,Body:=e,Refs:=f,Guards:=g,Boxes:=h,Hist:=d})
theorem Ds{o}:DC prog gl (pG o) 78 [.agg (aJ o)] (λr=> .agg (aJ r)):=
 cy func78 λK=>JJ 7 ac (jY gl) λv1=>JJ 10 rY (tj gl) λl=>JJ 13 rW (p9 gl) λm=>JJ 16 rZ (uK gl) λn=>JJ 19 EO (uM gl) λp=>ak λe q=>ak λa s=>aw [hz 27 [] (UM (c:=2) aH (tk gl q) (eB aH) (bZ.imm e)),hz 30 [] (UM (c:=3) aH (qb gl s) (eB aH) (bH.imm a))]<|Jb 111101 (λf=>sp [] [(1,.ref 0 0),(2,.ref 2 0)] [ob 0 63 [iG o.By,iG o.Seq,iG o.Kind,iG o.At,aE aj v1,iG o.Device,iG o.Old,iG o.Member,iG o.Role,aE bY f,iG o.Epoch.By,iG o.Epoch.Seq,uG o.Epoch.Sum,iG o.N,aE cY l,aE cW m,iG o.Of.By,iG o.Of.Seq,uG o.Of.Sum,aE cZ n,iG o.Need,iG o.Wait,aE cz p,uG o.Pub,.rsl 1 0 a.length,uG o.Sig.R,uG o.Sig.S],ob 1 211 (a.flatMap bp),ob 2 63 (bF [4,9,14,15,19,22,24] (aJ ip))] 3) (λb=>sp [] [(1,.ref 0 0),(2,.ref 3 0),(35,iG (ah e)),(36,iG b.2)] [ob 0 63 [iG o.By,iG o.Seq,iG o.Kind,iG o.At,aE aj v1,iG o.Device,iG o.Old,iG o.Member,iG o.Role,.rsl 1 0 b.1.length,iG o.Epoch.By,iG o.Epoch.Seq,uG o.Epoch.Sum,iG o.N,aE cY l,aE cW m,iG o.Of.By,iG o.Of.Seq,uG o.Of.Sum,aE cZ n,iG o.Need,iG o.Wait,aE cz p,uG o.Pub,.rsl 2 0 a.length,uG o.Sig.R,uG o.Sig.S],ob 1 122 (b.1.flatMap bY),ob 2 211 (a.flatMap bp),ob 3 63 (bF [4,9,14,15,19,22,24] (aJ ip))] 4) [hc (el e),hc (el a),hc (bZ.imm e),hc (bH.imm a)] (λf=>Jb 1111101 (λi=>sx [] [(2,.ref 1 0)] [ob 0 63 (aJ ({o with Past:=v1,Path:=f,Body:=l,Refs:=m,Guards:=n,Boxes:=p,Hist:=i})),ob 1 63 (bF [4,9,14,15,19,22,24] (aJ ip))] 2) (λd=>so [] [(54,iG (ah a)),(55,iG d.2)] [ob 0 63 [iG o.By,iG o.Seq,iG o.Kind,iG o.At,aE aj v1,iG o.Device,iG o.Old,iG o.Member,iG o.Role,aE bY f,iG o.Epoch.By,iG o.Epoch.Seq,uG o.Epoch.Sum,iG o.N,aE cY l,aE cW m,iG o.Of.By,iG o.Of.Seq,uG o.Of.Sum,aE cZ n,iG o.Need,iG o.Wait,aE cz p,uG o.Pub,.rsl 1 0 d.1.length,uG o.Sig.R,uG o.Sig.S],ob 1 211 (d.1.flatMap bp)] 3) (DE bH a) (λi=>rv K) λd t u=>aF 56 (CD 64 (bH.ixrZ 1) 66 (bH.fd0Y tLY 3) λB=>JJ 67 rY (tj gl) λv=>ak λC w=>ak λj g=>aw [hw 69 (j.flatMap bp) (bH.putF g w 3 1 (gs:=[aE cY v]) rfl B5 rfl),Az 68 (bH.ixsZ 1 g)]<|cj t [hc (hZ g),hc (bH.imm j)])<|aA c1 u [hc (bH.al d.1)]) λb x y=>aF 37 (CD 45 (bZ.ixrZ 1) 47 (bZ.fd0Y E3 1) λD=>JJ 48 EO (uM gl) λz=>ak λE A=>ak λk h=>aw [hw 50 (k.flatMap bY) (bZ.putF h A 1 1 (gs:=[aE cz z]) rfl B5 rfl),Az 49 (bZ.ixsZ 1 h)]<|cj x [hc (hZ h),hc (el a),hc (bZ.imm k),hc (bH.imm a)])<|aA c1 y [hc (bZ.al b.1),hc (el a),hc (bH.imm a)]
def Fj(s:Mj):Option Mj:=aT 40 [] s
theorem tn{s:Mj}:LP prog gl (Fj s) 97 [aE bv s] 127 bv:=λr h=>by
 unfold Fj at h;refine OW func97 ?_;refine pO 1100 (s0 8 gl [(0,aE bv s)] [] 0 0) [] [] ?_;refine IA 0 3 4 24 127 rfl (E7 aH) (E7 aH) λb hb=>?_;cases b
 .exact EI [Hj 7 bT h] (bT.imm _)
 .obtain rfl:=bT.isNil (hb rfl);obtain rfl:=mV h;exact EI [] (bT.imm [])
def KY(f:Abd)(a:Ab)(b:Ab):JI:=
 (pE a b).bind λv1=>(bif v1 then(some (-1))else((pE b a).bind λc=>(bif c then(some 1)else(some 0)).bind λd=>some d)).bind λg=>(Fe f.Graph a).bind λh=>(Fe f.Graph b).bind λi=>(f8 h i).bind λj=>(iy ([j,g]:Bk)).bind λe=>some e
theorem R9{r_ a b}:DC prog gl (KY r_ a b) 129 [.agg (Np r_),.agg (aj a),.agg (aj b)] iG:=
 cy func129 λK=>BW 11 (Nr gl) λv1=>cN 111021 (sp [] [(3,.ref 0 0),(4,.ref 1 0),(5,.ref 2 0),(7,iG 0),(8,bG v1)] [ob 0 178 (Np r_),ob 1 36 (aj a),ob 2 36 (aj b)] 3) []<|cC 111021 (λe=>sf [8] [(7,iG e)]) (λe=>BW 19 (HD gl) λl=>BW 23 (HD gl) λm=>BW 24 (mQ gl) λi=>ak λj h=>aw [hq 27 [aE cZ ([i,e]:Bk)] [hc (rZ.al ([i,e]:Bk))] (FT gl h)]<|rv K) λe k13=>eH [8] (rx k13)<|ak λk f=>cC 11102141 (λc=>sf [8] [(7,iG c)]) (λc=>rx k13) λc g=>kV (λd=>aw [hf 15 (cF (Nr gl f) d)]<|rx g) λd=>aw [hf 15 (cF (Nr gl f) d)]<|rx g
def Un(a:Bf)(b:Bf):JI:=
 (f8 a.Device b.Device).bind λv1=>some v1
theorem Vz{a b}:DC prog gl (Un a b) 214 [.agg (Bu a),.agg (Bu b)] iG:=
 cy func214 λK=>BW 9 (mQ gl) λv1=>rv K
end
section
set_option maxHeartbeats 2000000
attribute [local irreducible] Tr dz Gp
theorem gS:Ace prog gl aj (λx=>[.agg (aj x)]) 112:=λs f fi_f fa_f fc_f a=>
 cy func112 λK=>OY 1101 (λg=>sg [] []) (λs1=>sf [] [(7,iG (ah s)),(8,iG s1)]) [hc (a.im)] K (λg=>rv K) λs1 k5 h k6=>aF 9 (CD 14 ac.ixZ 15 (ac.ptZ aW) λd=>ak λi e=>kV (λb=>aw [hz 16 [] (cS (a.cs (c:=0) e (aY (aG 20 (.agg (aj d)) aH) (bf))) b)]<|aP c3 k6 []) λb=>aw [hz 16 [] (cS (a.cs (c:=0) e (aY (aG 20 (.agg (aj d)) aH) (bf))) b)]<|cj k5 [hc (a.im)])<|aA c2 h []
def Uo(a:Ad)(device:Int):JI:=
 some ((DV (a.cards.get device)).Member)
theorem Pw{r_ device}:DC prog gl (Uo r_ device) 135 [.ptr (CB r_) 0,iG device] iG:=
 cy func135 λK=>aw [hm 10 (Abe r_.cards device)]<|rv K
def Uq(b:Int)(y:Int):Fm:=
 ((Fw b).bind λc=>bif c then((Fw y).bind λa=>bif(!a)then(some true)else(some (decide (b<y))))else(some (decide (b<y)))).bind λd=>some d
theorem VA{x_ y}:DC prog gl (Uq x_ y) 299 [iG x_,iG y] bG:=
 cy func299 λK=>cN [1,0] (sf [] []) []<|cC [1,0] (λa=>sg [] [(4,bG a)]) (λa=>rv K) λa k5=>ak λd e8=>kV (λb=>BW 9 (dw gl) λc=>aw [hf 6 (cF (dw gl e8) b)]<|aF 11 (rx k5)<|rx k5) λb=>aw [hf 6 (cF (dw gl e8) b)]<|rx k5
def Px(a:Ad)(device:Int):Fm:=
 ((Uo a device).bind λb=>bif 0<b then(some (!(Hf (a.was.get device))))else(some false)).bind λc=>some c
theorem SB{r_ device}:DC prog gl (Px r_ device) 136 [.ptr (CB r_) 0,iG device] bG:=
 cy func136 λK=>cN [1,0] (sf [] []) []<|cC [1,0] (λa=>sg [] [(4,bG a)]) (λa=>rv K) λa k5=>BW 7 (Pw gl) λb=>aF 8 (aw [hm 15 (Sx r_.was device)]<|rx k5)<|rx k5
def aaa{α:Type}[DecidableEq α](s:List α)(v:α)(s1:Int):Option ((Int)⊕(Unit⊕Int)):=
 bif s1<ah s then((aS s s1).bind λa=>bif v=a then(some (.inr (.inr s1)))else(some (.inl (wI (s1+1)))))else(some (.inr (.inl ())))
def ixT{α:Type}[DecidableEq α](s:List α)(v:α):JI:=
 (AH (aaa s v) 0).bind λa=>ma a (λb=>some (-1)) (λq=>some q)
theorem Sb{s v}:DC prog gl (ixT s v) 217 [aE cZ s,iG v] iG:=
 cy func217 λK=>OY 1101 (λa=>sg [] []) (λs1=>sf [] [(7,iG (ah s)),(8,iG s1)]) [] K (λa=>rv K) λs1 k5 b k6=>aF 9 (CD 14 rZ.ixZ 15 (rZ.p1Y tZ) λc=>aF 16 (aP c3 k6 [])<|rb k5)<|aA c2 b []
def Acg{α:Type}[DecidableEq α](s:List α)(v:α):Fm:=
 (ixT s v).bind λv1=>some (decide (0<=v1))
theorem DH{s v}:DC prog gl (Acg s v) 123 [aE cZ s,iG v] bG:=
 cy func123 λK=>BW 7 (Sb gl) λv1=>rv K
def VB(kind:Int):Fm:=
 (bif kind=3 then(some true)else(bif kind=13 then(some true)else(some (decide (kind=12))))).bind λa=>some a
theorem XS{kind}:DC prog gl (VB kind) 229 [iG kind] bG:=
 cy func229 λK=>cN [1,0] (sf [] []) []<|cC [1,0] (λa=>sg [] [(2,bG a)]) (λa=>rv K) λa k3=>aF 4 (rx k3)<|aF 8 (rx k3)<|rx k3
def SC(a:Ab)(a1:Bb):Fm:=
 some (AB (a1.void.get a))
theorem PA{id_ a1}:DC prog gl (SC id_ a1) 230 [.agg (aj id_),.ptr [.ptr (BB a1) 0] 0] bG:=
 cy func230 λK=>aw [hm 9 (N9 a1.void id_)]<|rv K
theorem PB{s v}:DC prog gl (ixT s v) 276 [aE aj s,.agg (aj v)] iG:=
 cy func276 λK=>OY 1101 (λc=>sg [] []) (λs1=>so [1] [(3,.ref 0 0),(7,iG (ah s)),(8,iG s1)] [ob 0 36 (aj v)] 1) [] K (λc=>rv K) λs1 k5 d k6=>aF 9 (CD 14 ac.ixZ 15 (ac.ptZ aW) λb=>kV (λa=>aw [hV 16 (cV (dU v b rfl) a)]<|aP c3 k6 []) λa=>aw [hV 16 (cV (dU v b rfl) a)]<|rb k5)<|aA c2 d []
theorem Jm{s v}:DC prog gl (Acg s v) 180 [aE aj s,.agg (aj v)] bG:=
 cy func180 λK=>BW 7 (PB gl) λv1=>rv K
def ij(g:Aj)(device:Int)(s1:DP×Int):Option ((DP×Int)⊕(DP⊕(DP×Bool))):=
 bif s1.2<ah g.cards then((aS g.cards s1.2).bind λa=>bif a.Device=device then(some (.inr (.inr (a,true))))else(some (.inl (s1.1,wI (s1.2+1)))))else(some (.inr (.inl s1.1)))
def hY(g:Aj)(device:Int):Option (DP×Bool):=
 (AH (ij g device) (⟨0,0,0,0,0⟩,0)).bind λa=>ma a (λb=>some (⟨0,0,0,0,0⟩,false)) (λq=>some q)
theorem uN{g device}:DC prog gl (hY g device) 80 [.ptr (Ag g) 0,iG device] (λr=> .tup [.agg (bv r.1),bG r.2]):=
 cy func80 λK=>OY 1101 (λa=>sp [] [(4,.ref 0 0)] [ob 0 127 (bv a)] 1) (λs1=>so [0] [(4,.ref 0 0),(11,aE bv g.cards),(12,iG (ah g.cards)),(13,iG s1.2)] [ob 0 127 (bv s1.1)] 1) [] K (λa=>rv K) λs1 k5 b k6=>aF 14 (CD 15 bT.ixZ 16 (bT.ptZ E2) λc=>aF 20 (aP c3 k6 [])<|rb k5)<|aA c2 b []
theorem kP:Acf prog gl aj (λx=>[.agg (aj x)]) 53:=λs f fi_f fa_f fc_f a=>
 cy func53 λK=>ak λv1 e2=>aw [hz 7 [] (jf (c:=0) aH (gS gl (a) e2) (aY (aG 20 (aE aj s) aH) (aY (a.im) (bf))))]<|rv K
def Kp(a:DP)(b:DP):JI:=
 some (wI (a.Device-b.Device))
theorem Dt{a b}:DC prog gl (Kp a b) 99 [.agg (bv a),.agg (bv b)] iG:=
 cy func99 λK=>rv K
def FV(n:Int)(low:Int)(a:Int):Fm:=
 (bif low<=n then(some (decide (n<=a)))else(some false)).bind λb=>some b
theorem eE{n low a}:DC prog gl (FV n low a) 237 [iG n,iG low,iG a] bG:=
 cy func237 λK=>cN [1,0] (sf [] []) []<|cC [1,0] (λb=>sg [] [(6,bG b)]) (λb=>rv K) λb k3=>aF 9 (rx k3)<|rx k3
def Kq(n:Nat):Fm:=
 some (decide ((n:Int)<((2305843009213693951:Nat):Int)))
theorem Ak{n}:DC prog gl (Kq n) 247 [uG n] bG:=
 cy func247 λK=>rv K
def Al(a:Ab):Fm:=
 ((FV a.By 1 12).bind λd=>bif d then((FV a.Seq 1 2147483647).bind λb=>bif b then((Kq a.Sum).bind λc=>some c)else(some false))else(some false)).bind λe=>some e
theorem pH{id_}:DC prog gl (Al id_) 238 [.agg (aj id_)] bG:=
 cy func238 λK=>cN [1,0] (sp [] [(1,.ref 0 0)] [ob 0 36 (aj id_)] 1) []<|cC [1,0] (λa=>sk [] [(2,bG a)] [] 0) (λa=>rv K) λa k5=>ak λe e8=>kV (λb=>BW 9 (eE gl) λc=>aw [hf 5 (cF (eE gl e8) b)]<|aF 10 (BW 14 (Ak gl) λd=>rx k5)<|rx k5) λb=>aw [hf 5 (cF (eE gl e8) b)]<|rx k5
def rJ(n:Nat):Fm:=
 (bif ((1:Nat):Int)<=(n:Int)then(some (decide ((n:Int)<((2305843009213693951:Nat):Int))))else(some false)).bind λa=>some a
theorem iz{n}:DC prog gl (rJ n) 239 [uG n] bG:=
 cy func239 λK=>cN [1,0] (sf [] []) []<|cC [1,0] (λa=>sg [] [(2,bG a)]) (λa=>rv K) λa k3=>aF 4 (rx k3)<|rx k3
theorem pI:Ace prog gl cz (λx=>[.agg (cz x)]) 370:=λs f fi_f fa_f fc_f a=>
 cy func370 λK=>OY 1101 (λg=>sg [] []) (λs1=>sf [] [(7,iG (ah s)),(8,iG s1)]) [hc (a.im)] K (λg=>rv K) λs1 k5 h k6=>aF 9 (CD 14 EO.ixZ 15 (EO.ptZ UL) λd=>ak λi e=>kV (λb=>aw [hz 16 [] (cS (a.cs (c:=0) e (aY (aG 20 (.agg (cz d)) aH) (bf))) b)]<|aP c3 k6 []) λb=>aw [hz 16 [] (cS (a.cs (c:=0) e (aY (aG 20 (.agg (cz d)) aH) (bf))) b)]<|cj k5 [hc (a.im)])<|aA c2 h []
theorem Mh:Acf prog gl cz (λx=>[.agg (cz x)]) 326:=λs f fi_f fa_f fc_f a=>
 cy func326 λK=>ak λv1 e2=>aw [hz 7 [] (jf (c:=0) aH (pI gl (a) e2) (aY (aG 20 (aE cz s) aH) (aY (a.im) (bf))))]<|rv K
end
section
attribute [local irreducible] Tr dz Gp
section
variable {P:Br} {α σ X V:Type} {A:List HP} {r:α} [M:Mix P] {fn:Func} {Q:Exit->St->Prop} {Bs:List (St->Prop)} {m:Bool} {p:Bq} {st:St}
theorem rdN{step:σ->Option (σ⊕(X⊕V))}{s0:σ}{F:X->Option α}{rs:V->α}{Z:V->Prop}(b:Bq)(S:σ->St->St)(O:List HP)(K:∀q,r=rs q->Z q)(h:∀{B:St->Prop} {v:σ⊕(X⊕V)} (s:σ),(∀s',v= .inl s'->B (S s' st))->(∀q,v= .inr (.inr q)->Z q)->RD [] (step s) v (Gp P fn Q (Bs++[B]) false b (S s st)))(hF:∀x,F x=none)(vs:List Bn:=[])(ρ:DD:=[])(kd:List (Nat×Rk):=[])(k:Yy P fn Bs m p b A O vs ρ kd (S s0 st) st:=by exact⟨⟨aH,aH⟩,λ_=>aH⟩):RD A ((AH step s0).bind λx=>ma x F λq=>some (rs q)) r (Gp P fn Q Bs m p st):=λh0=>by obtain⟨x,e1,h1⟩:=bS h0;refine pN (λs=>S s st) b e1 A O (λB s v hv h5 h4=>h s h5 (λz hz=>?_) hv) vs ρ kd k.1 k.2;have:=h4 _ hz;subst this;exact K z (Bo h1).symm
end
def PD(n:Int)(s1:Int):Option ((Int)⊕(Int)):=
 bif wI (2*s1)<n then(some (.inl (wI (s1*2))))else(some (.inr s1))
def SF(n:Int):JI:=
 (AH (PD n) 1).bind λa=>some a
theorem Abj{n}:DC prog gl (SF n) 368 [iG n] iG:=
 cy func368 λK=>Jb 1110 (λa=>sg [] [(3,iG a)]) (λs1=>sf [] [(3,iG s1)]) [] (λa=>rv K) λs1 k5 b=>aF 7 (rb k5)<|aA c1 b []
def Ns(a:Bk):Option (Bk×Bk):=
 bif ah a<2 then(some ([],[]))else((SF (ah a)).bind λc=>(tq a c).bind λd=>(fF d).bind λe=>(mc a c).bind λf=>(fF f).bind λb=>some (e,b))
theorem Abk{leaves}:DC prog gl (Ns leaves) 318 [aE cZ leaves] (λr=> .tup [aE cZ r.1,aE cZ r.2]):=
 cy func318 λK=>aF 7 (rv K)<|BW 10 (Abj gl) λb=>rdv 13 rZ.preZI λc=>JJ 14 rZ (uK gl) λd=>rdv 17 rZ.sufZI λe=>JJ 18 rZ (uK gl) λa=>rv K
def PE(device:Int)(c:Bk×M2×M2):Option ((Bk×M2×M2)⊕(Unit⊕(M2×M2))):=
 (fF c.1).bind λd=>(aT 24 c.2.1 [d]).bind λb=>(Ns c.1).bind λa=>bif ah a.2=0 then(some (.inr (.inr (b,c.2.2))))else((Acg a.1 device).bind λe=>bif e then((aT 24 c.2.2 [a.2]).bind λf=>some (.inl (a.1,b,f)))else((aT 24 c.2.2 [a.1]).bind λg=>some (.inl (a.2,b,g))))
def PG(a:Bk)(device:Int):Option (M2×M2):=
 (Acg a device).bind λv1=>bif(!v1)then(some ([],[]))else((AH (PE device) (a,[],[])).bind λb=>ma b (λc=>none) (λq=>some q))
theorem Abl{leaves device}:DC prog gl (PG leaves device) 225 [aE cZ leaves,iG device] (λr=> .tup [aE Jc r.1,aE Jc r.2]):=
 cy func225 λK=>BW 10 (DH gl) λv1=>aF 11 (rv K)<|rdN 11122 (λb=>so [] [(0,aE cZ b.1),(4,.rsl 0 0 b.2.1.length),(5,.rsl 1 0 b.2.2.length)] [ob 0 22 (b.2.1.flatMap Jc),ob 1 22 (b.2.2.flatMap Jc)] 2) [hc (nH.imm []),hc (nH.imm [])] K (λb k8 k9=>JJ 14 rZ (uK gl) λg=>Ge (dg 16 nH) λa=>BW 19 (Abk gl) λh=>aF 30 (aP c3 k9 [hc (nH.al a),hc (nH.al b.2.2)])<|ak λi d=>kV (λc=>Ge (dg 41 nH) λe=>aw [hf 36 (cF (DH gl d) c)]<|cj k8 [hc (el a),hc (el e),hc (nH.imm a),hc (nH.imm e)]) λc=>Ge (dg 26 nH) λf=>aw [hf 36 (cF (DH gl d) c)]<|cj k8 [hc (el a),hc (el f),hc (nH.imm a),hc (nH.imm f)]) (λ_=>rfl) [22,22] [(0,0),(1,1)] [(0,.row),(1,.row)]
end
abbrev XI{K V:Type}(kv:K->Value)(vg:V->G)(m:FM K V):List (Value×G×Nat):=m.es.map λe=>(kv e.1,vg e.2.1,e.2.2)
abbrev Nh{K V:Type}(t:Bn)(kv:K->Value)(vg:V->G)(m:FM K V):Ob:=⟨t,[],some (.map (XI kv vg m) m.clk)⟩
def C6{K V:Type}[DecidableEq K](m:FM K V)(k:K)(p:V):FM K V:=match bu k (m.es.map (·.1)) with
 |none=>⟨m.es++[(k,p,m.clk)],m.clk+1⟩
 |some j=>⟨m.es.set j (k,p,(m.es[j]?.map (·.2.2)).getD 0),m.clk⟩
def Si{K V:Type}[DecidableEq K](m:FM K V)(k:K):FM K V:=match bu k (m.es.map (·.1)) with
 |none=>m
 |some j=>⟨m.es.eraseIdx j,m.clk⟩
structure FxOk {K V:Type} (m:FM K V):Prop where
 nd:(m.es.map (·.2.2)).Nodup
 lt:∀e∈m.es,e.2.2<m.clk
structure RT {K V:Type} (m:FM K V):Prop extends FxOk m where
 kd:(m.es.map (·.1)).Nodup
theorem AcA{K:Type}[DecidableEq K]{k:K}:∀{l:List K} {j:Nat},bu k l=some j->l[j]?=some k
 |[],j,h=>by cases h
 |x::r,j,h=>by
  unfold bu at h;split at h
  .grind
  .rw[DF] at h;obtain⟨n,h,rfl⟩:=h;simpa using AcA h
theorem SP{K:Type}[DecidableEq K]{k:K}:∀{l:List K},bu k l=none->k∉l
 |[],h=>aC
 |x::r,h=>by
  unfold bu at h;split at h
  .cases h
  .rename_i hne;rw[Option.map_eq_none_iff] at h;simp[hne,SP h]
section
variable {P:Br} {K V:Type} [DecidableEq K] {kt et t t':Bn} {kv:K->Value} {vg:V->G} {m:FM K V} {σ:aQ} {i:Nat} {k:K} {gk:G}
theorem PO:(XI kv vg m).map (·.1)=(m.es.map (·.1)).map kv:=by rw[It,It];rfl
theorem QN(h:ag σ i=some (Nh t' kv vg m)):Lo σ (.mref i)=some (i,t',XI kv vg m,m.clk):=by unfold Lo;simp only[h]
theorem SW(KT:Mw P kt kv){ok:Bool}(ht:pB P t=some (kt,et))(hk:cD gk=some (kv k))(h:ag σ i=some (Nh t' kv vg m)):bL P σ t ok (.mref i) gk=bL P σ t ok (m.g kv vg) gk:=by unfold bL FM.g;rw[ht,hk];dsimp only;rw[QN h];dsimp only;rw[show(m.es.map λe=>kv e.1)=(m.es.map (·.1)).map kv by rw[It];rfl,KT.chk,KT.chk,PO,KT.key];grind
theorem Af1(KT:Mw P kt kv)(hs:∀k,Instr.sameBits 10000 (kv k) (kv k)=true)(ht:pB P t=some (kt,et))(hk:cD gk=some (kv k))(h:ag σ i=some (Nh t' kv vg m))(p:V):dZ P σ t (.mref i) gk (vg p)=some (i,Nh t' kv vg (C6 m k p)):=by
 unfold dZ;rw[ht,hk,QN h];dsimp only;rw[KT.chk,ax,PO,KT.key];unfold C6;cases hk:bu k (m.es.map (·.1)) with
 |none=>grind
 |some j=>have hj:=AcA hk;grind [List.map_set]
theorem Aar{α β:Type}(f:α->β):∀(l:List α) (j:Nat),(l.eraseIdx j).map f=(l.map f).eraseIdx j
 |[],_=>rfl
 |x::r,0=>rfl
 |x::r,j+1=>by rw[List.eraseIdx_cons_succ,Fa,Fa,List.eraseIdx_cons_succ,Aar f r j]
theorem AlN(KT:Mw P kt kv)(ht:pB P t=some (kt,et))(hk:cD gk=some (kv k))(h:ag σ i=some (Nh t' kv vg m)):FN P σ t (.mref i) gk=some (i,Nh t' kv vg (Si m k)):=by unfold FN;rw[ht,hk,QN h];dsimp only;rw[KT.chk,ax,PO,KT.key];grind [Si,Aar]
def AhK(m:FM K V)(k:K):Nat:=match bu k (m.es.map (·.1)) with
 |none=>m.clk
 |some j=>(m.es[j]?.map (·.2.2)).getD 0
theorem MJ(h:bu k (m.es.map (·.1))=some j):∃e,m.es[j]?=some e/\e.1=k/\m.get k=some e.2.1:=by grind [FM.get,fz]
theorem S7(h:bu k (m.es.map (·.1))=none):m.get k=none:=by grind [FM.get,fz]
theorem AjP(KT:Mw P kt kv)(hs:∀k,Instr.sameBits 10000 (kv k) (kv k)=true)(ht:pB P t=some (kt,et)){v0:V}(hz:((P.info? et).bind (·.zero)).map db=some (vg v0))(hk:cD gk=some (kv k))(h:ag σ i=some (Nh t' kv vg m)):
  ov P σ t (.mref i) gk=some (i,Nh t' kv vg (C6 m k ((m.get k).getD v0)),.tup [vg ((m.get k).getD v0),iG (AhK m k:Nat)]):=by
 unfold ov
 rw[ht,hk,QN h]
 dsimp only
 rw[KT.chk,ax,PO,KT.key]
 unfold C6 AhK
 cases hk:bu k (m.es.map (·.1)) with
 |none=>
  grind [DF,S7]
 |some j=>
  obtain⟨e,he,rfl,hg⟩:=MJ hk
  grind [List.map_set]
theorem Wz:∀{es:List (K×V×Nat)} {j:Nat} {e:K×V×Nat},(es.map (·.2.2)).Nodup->es[j]?=some e->(es.map λe=>(kv e.1,vg e.2.1,e.2.2)).findIdx? (λx=>(x.2.2:Int)==(e.2.2:Int))=some j
 |[],j,e,_,h=>by simp at h
 |x::r,0,e,_,h=>by grind
 |x::r,j+1,e,hd,h=>by
  rw[Fa,LE] at hd;rw[List.getElem?_cons_succ] at h;have hne:x.2.2≠e.2.2:=by grind
  rw[Fa,List.findIdx?_cons,BU cq,Wz hd.2 h];rfl
theorem AjQ(hm:FxOk m){v0:V}(h:ag σ i=some (Nh t' kv vg (C6 m k v0)))(v:V):jX σ (.mref i) (iG (AhK m k:Nat)) (vg v)=some (i,Nh t' kv vg (C6 m k v)):=by
 unfold jX;rw[QN h];dsimp only;unfold C6 AhK at*;cases hk:bu k (m.es.map (·.1)) with
 |none=>
  dsimp only;have hx:(m.es++[(k,v0,m.clk)])[m.es.length]?=some (k,v0,m.clk):=aC;have:=Wz (kv:=kv) (vg:=vg) (es:=m.es++[(k,v0,m.clk)]) (by rw[List.map_append,List.nodup_append];grind [FxOk]) hx
  rw[this];dsimp only;rw[Nl,hx,Option.map_some];dsimp only;rw[<-List.map_set (f:=λe:K×V×Nat=>(kv e.1,vg e.2.1,e.2.2)) (a:=(k,v,m.clk))];grind
 |some j=>
  obtain⟨e,he,rfl,hg⟩:=MJ hk;have hlt:=(cr he).1;dsimp only;rw[he];simp only[Option.map_some,M1];have hx:(m.es.set j (e.1,v0,e.2.2))[j]?=some (e.1,v0,e.2.2):=by simp[hlt]
  have hd:((m.es.set j (e.1,v0,e.2.2)).map (·.2.2)).Nodup:=by grind [List.map_set,FxOk.nd]
  rw[Wz hd hx];grind [List.map_set,List.set_set]
theorem QO(hi:∀v,bB (vg v)):∀e∈XI kv vg m,bB e.2.1:=by grind
end
section
variable {K V:Type} [DecidableEq K] {m:FM K V} {k:K}
theorem Aeb:∀{es:List (K×V×Nat)} {k:K},k∉es.map (·.1)->es.find? (λe=>decide (e.1=k))=none
 |[],k,_=>rfl
 |x::r,k,h=>by grind
theorem BA(p:V)(x:K):(C6 m k p).get x=if x=k then some p else m.get x:=by
 unfold C6;cases hk:bu k (m.es.map (·.1)) with
 |none=>
  unfold FM.get;dsimp only;rw[List.find?_append];split
  .rename_i e;subst e;rw[Aeb (SP hk)];simp
  grind
 |some j=>
  obtain⟨e,he,rfl,hg⟩:=MJ hk;have key:∀{es:List (K×V×Nat)} {j:Nat} (n:Nat),bu e.1 (es.map (·.1))=some j->((es.set j (e.1,p,n)).find? (λq=>decide (q.1=x))).map (·.2.1)=if x=e.1 then some p else(es.find? λq=>decide (q.1=x)).map (·.2.1):=by
   intro es;induction es with
   |nil=>intro j n h;cases h
   |cons y r ih=>intro j n h;rw[Fa,bu] at h;grind [DF]
  exact key _ hk
theorem Q1(p:V):(C6 m k p).es.map (·.1)=if k∈m.es.map (·.1)then m.es.map (·.1)else m.es.map (·.1)++[k]:=by
 unfold C6;cases hk:bu k (m.es.map (·.1)) with
 |none=>rw[BU (SP hk)];simp
 |some j=>have hj:=AcA hk;rw[Bz (bO hj)];dsimp only;rw[List.map_set];apply List.ext_getElem?;grind
theorem Ow(h:RT m)(p:V):RT (C6 m k p):=by
 refine⟨⟨?_,?_⟩,?_⟩
 .unfold C6;cases hk:bu k (m.es.map (·.1)) with
  |none=>dsimp only;rw[List.map_append,List.nodup_append];refine⟨h.nd,aC,λa ha b hb=>?_⟩;obtain⟨e,he,rfl⟩:=Fl.1 ha;simp at hb;subst hb;have:=h.lt e he;omega
  |some j=>grind [RT,MJ,List.map_set,FxOk.nd]
 .unfold C6;cases hk:bu k (m.es.map (·.1)) with
  |none=>
   intro e he;dsimp only at he⊢;rcases Jo.1 he with he|he
   .have:=h.lt e he;omega
   grind
  |some j=>
   obtain⟨e,he,rfl,_⟩:=MJ hk;intro x hx;dsimp only at hx⊢;rcases List.mem_or_eq_of_mem_set hx with hx|rfl
   .exact h.lt x hx
   .rw[he];exact h.lt e (bO he)
 grind [Q1,RT.kd]
theorem NP(h:RT m)(x:K):(Si m k).get x=if x=k then none else m.get x:=by
 unfold Si;cases hk:bu k (m.es.map (·.1)) with
 |none=>grind [S7]
 |some j=>
  have key:∀{es:List (K×V×Nat)} {j:Nat},(es.map (·.1)).Nodup->bu k (es.map (·.1))=some j->((es.eraseIdx j).find? (λq=>decide (q.1=x))).map (·.2.1)=if x=k then none else(es.find? λq=>decide (q.1=x)).map (·.2.1):=by
   intro es;induction es with
   |nil=>intro j _ h;cases h
   |cons y r ih=>intro j hd h;rw[Fa,LE] at hd;grind [bu,DF]
  exact key h.kd hk
theorem AbD{e:K×V×Nat}(h:e∈(Si m k).es):e∈m.es:=by grind [Si,List.mem_of_mem_eraseIdx]
theorem UT(h:RT m):RT (Si m k):=by grind [RT,FxOk,Si,List.eraseIdx_sublist]
theorem GL{v:V}(h:m.get k=some v):∃n,(k,v,n)∈m.es:=by grind [FM.get,DF]
theorem JH(h:RT m){v:V}{n:Nat}(he:(k,v,n)∈m.es):m.get k=some v:=by
 unfold FM.get;have key:∀{es:List (K×V×Nat)},(es.map (·.1)).Nodup->(k,v,n)∈es->es.find? (λe=>decide (e.1=k))=some (k,v,n):=by intro es;induction es<;>grind
 rw[key h.kd he];rfl
end
inductive Ab5 (P:Br) (c:Code) (e:Exit) (s:St):Nat->St->Prop
 |last {st:St} (he:e≠ .normal) (h:Tr P c st (λe' s'=>e'=e/\s'=s)):Ab5 P c e s 0 st
 |more {k:Nat} {st s1 s2:St} (h:Tr P c st (λe' s'=>e'= .normal/\s'=s1)) (hl:Le P s1 s2) (hr:Ab5 P c e s k s2):Ab5 P c e s (k+1) st
def jg(P:Br)(gl:Cd)(f:FuncId)(gs:Bj)(σ:aQ)(c:Nat)(r:G)(σ':aQ)(c':Nat):Prop:=
 aK P f=true/\∃fn body,P.funcs[f]?=some fn/\fn.body=some body/\gs.length<=fn.ntmps/\
  Tr P body ⟨fn.ntmps,gl,bQ 0 gs,σ,c,c,false⟩ (λe s=>(e= .normal\/e= .ret)/\s.gl=gl/\(∀k o,ag σ' k=some o->ag s.σ k=some o)/\s.c=c'/\∃a,fn.results.toList.mapM (jV P s)=some a/\r=iU a)
section
variable {ops:Array Oper} {K:St->Prop} {ty:Bn} {pos:String} {af:Array Edge} {rest:Iu} {n:Nat} {gl:Cd} {fr:Fr} {σ:aQ} {c p d j:Nat} {bars:Bq} {rr:Bool}
end
section
variable {P:Br} {ops:Array Oper} {K:St->Prop} {op:Op} {ty:Bn} {pos:String} {af:Array Edge} {rest:Iu} {n:Nat} {gl:Cd} {fr:Fr} {σ:aQ} {c p d j:Nat} {bars:Bq} {rr:Bool} {gq:Option (Nat×Bool)}
end
def vi(L:Bq)(i:Nat):Fs:=L.findIdx? (Nat.beq · i)
def G4(L:Bq)(c:Nat)(k:Nat):Fs:=match L[k]? with
 |some i=>some i
 |none=>some (c+(k-L.length))
theorem QX(h:vi L i=some k):L[k]?=some i:=by grind [vi,List.findIdx?_eq_some_iff_getElem,bc]
def Xx(P:Br)(gl:Cd)(f:FuncId)(gs:Bj)(σ:aQ)(c:Nat){ι:Type}(r:ι->G)(σ':ι->aQ)(c':ι->Nat):Prop:=
 aK P f=true/\∃fn body,P.funcs[f]?=some fn/\fn.body=some body/\gs.length<=fn.ntmps/\
  Tr P body ⟨fn.ntmps,gl,bQ 0 gs,σ,c,c,false⟩ (λe s=>(e= .normal\/e= .ret)/\s.gl=gl/\∃x,(∀k o,ag (σ' x) k=some o->ag s.σ k=some o)/\s.c=c' x/\∃a,fn.results.toList.mapM (jV P s)=some a/\r x=iU a)
theorem MC{o:Oper}{st:St}{f:Dk}{xs:Array Dk}{ats:Array Bn}{fid:FuncId}{fst cap:Bj}(L:Bq){gs0:Bj}{σ0:aQ}{ι:Type}{r:ι->G}{σ1:ι->aQ}{c1:ι->Nat}(ho:o.op= .call {callee:= .value f,args:=xs,argTypes:=ats})(hd:Ly o st.n)(hf:aB st f= .clo (.func fid) fst cap)
  (hM:Xx P st.gl fid gs0 σ0 L.length r σ1 c1) (hL:∀(k i:Nat),L[k]?=some i->i<st.c) (hnd:L.Nodup) (hgs:gs0=(fst++xs.toList.map (aB st)++cap).map (qg (vi L) 20))
  (hin:∀(k i:Nat),L[k]?=some i->∃o o0,ag st.σ i=some o/\ag σ0 k=some o0/\MB (vi L) o o0) (h0:∀k o,ag σ0 k=some o->k<L.length)
  (τ:ι->aQ) (y:∀x i o,ag (τ x) i=some o->(∃k p,G4 L st.c k=some i/\ag (σ1 x) k=some p/\MB (G4 L st.c) p o)\/(ag st.σ i=some o/\i∉L)):
  th P o st (λs'=>∃x,s'={st with σ:=τ x,c:=st.c+(c1 x-L.length)}.put o.dst (qg (G4 L st.c) 20 (r x))):=by
 obtain⟨hc,fn,body,hfn,hb,hn,hT⟩:=hM
 intro cx a w K R ⟨β,h⟩ A
 obtain⟨vs,hrun,hsz,hv⟩:=lQ h ho hf hc
 refine h.loose.oper (λc hc=>by rw[ho] at hc;cases hc) ?_
 unfold Oper.wp
 rw[hrun]
 have hlive:∀i o,ag st.σ i=some o->∃x,β i=some x:=λi o ho=>by
  rcases(h.ob i o ho).at with h1|⟨b,C,_,h1,_⟩
  .exact⟨_,h1⟩
  .exact⟨_,h1⟩
 have hbound:∀i o,ag st.σ i=some o->i<st.c:=λi ob ho=>by
  rcases HU i st.c with hlt|hge
  .exact hlt
  .obtain⟨x,hx⟩:=hlive i ob ho;rw[h.fresh i hge] at hx;cases hx
 obtain⟨d,J⟩:∃d:Bm,d=λk=>match L[k]? with|some i=>β i|none=>none:=⟨_,rfl⟩
 have b0:∀{k i:Nat},L[k]?=some i->d k=β i:=λ{k i} hk=>by rw[J];simp only[hk]
 have b0n:∀{k:Nat},L.length<=k->d k=none:=λ{k} hk=>by rw[J];simp only[List.getElem?_eq_none hk]
 have hk0:∀{k:Nat} {o0:Ob},ag σ0 k=some o0->∃i o,L[k]?=some i/\i∈L/\ag st.σ i=some o/\MB (vi L) o o0:=λ{k o0} hk=>by have hlt:=h0 k o0 hk;have hi:L[k]?=some (L[k]'hlt):=Ef hlt;grind
 have hmem:∀{i:Nat},i∈L->∃k o0,L[k]?=some i/\ag σ0 k=some o0:=λ{i} hi=>by obtain⟨k,hk⟩:=He hi;obtain⟨o,o0,_,g2,_⟩:=hin k i hk;exact⟨k,o0,hk,g2⟩
 obtain⟨Hid,m⟩:∃Hid:Ft,Hid=λb=>cx.S0 b\/∃i ob C,ag st.σ i=some ob/\β i=some (some (b,C))/\i∉L:=⟨_,rfl⟩
 have hav0:∀b,Av Hid d σ0 b↔Av cx.S0 β st.σ b:=λb=>by
  rw[m];constructor
  .rintro((hb|⟨i,ob,C,h1,h2,_⟩)|⟨k,ob,C,h1,h2⟩)
   .exact .inl hb
   .exact .inr ⟨i,ob,C,h1,h2⟩
   .obtain⟨i,o,g1,_,g2,_⟩:=hk0 h1;rw[b0 g1] at h2;exact .inr ⟨i,o,C,g2,h2⟩
  .rintro(hb|⟨i,ob,C,h1,h2⟩)
   .exact .inl (.inl hb)
   .by_cases hi:i∈L
    .obtain⟨k,o0,g1,g2⟩:=hmem hi;exact .inr ⟨k,o0,C,g2,(b0 g1).trans h2⟩
    .exact .inl (.inr ⟨i,ob,C,h1,h2,hi⟩)
 have kin:∀i k,vi L i=some k->d k=β i:=λi k hk=>b0 (QX hk)
 have hlivS:∀b,GG d σ0 b->∃i o C,i∈L/\ag st.σ i=some o/\β i=some (some (b,C)):=λb ⟨k,ob,C,h1,h2⟩=>by grind
 have hsz0:vs.size=gs0.length:=by grind
 have hv0:∀(i:Nat) (g:G) (u:Value),gs0[i]?=some g->vs[i]?=some u->RV d (Av Hid d σ0) w g u:=λi g u hg hu=>by
  rw[hgs,Nl] at hg;cases hx:(fst++xs.toList.map (aB st)++cap)[i]? with
  |none=>grind
  |some x=>rw[hx] at hg;simp only[Option.map_some,Fk] at hg;subst hg;exact IG kin 20 x u ((hv i x u hx hu).step (λ_ _ x=>x) (λb _ hb=>(hav0 b).1 hb) (Ba.refl _ _))
 have hfront:Bw P ⟨w,GG d σ0,Hid,d,Fence.wide,9⟩ ⟨fn.ntmps,st.gl,bQ 0 gs0,σ0,L.length,L.length,false⟩ {tmps:=vs++Array.replicate (fn.ntmps-vs.size) undef,defers:=[]} w d:={
  size:=by grind
  defers:= .nil rfl
  loose:=lP
  rnd:=λ_=>rfl
  fr:=λi=>Ca hsz0 hn hv0 i
  ob:=λk o0 hk=>by obtain⟨i,o,g1,_,g2,q⟩:=hk0 hk;exact U8 kin ((h.ob i o g2).step (λ_ _ x=>x) (λb _ hb=>(hav0 b).1 hb) (Ba.refl _ _) (λ_ _ _=>rfl)) q (b0 g1)
  inj:=λk1 k2 p B b C D h1 h2 h3 h4=>by obtain⟨i1,q1,g1,_,g2,_⟩:=hk0 h1;obtain⟨W,X,e1,_,e2,_⟩:=hk0 h2;grind [Bw.inj,List.getElem?_inj]
  own:=λk o0 b C h1 h2=> .inl ⟨k,o0,C,h1,h2⟩
  sep:=λk o0 b C h1 h2 hx=>by
   obtain⟨i,o,g1,g0,g2,_⟩:=hk0 h1;rw[b0 g1] at h2;have hx':Hid b:=hx;rw[m] at hx';rcases hx' with hx|⟨j,ob,D,e1,e2,e3⟩
   .exact h.sep i o b C g2 h2 hx
   .have:=h.inj i j o ob b C D g2 e1 h2 e2;subst this;exact e3 g0
  fresh:=λk hk=>b0n hk
  glob:=λg l hl=>(h.glob g l hl).sub λb _ hb=>(hav0 b).1 hb
  keep:=Ba.refl _ _
  old:=λb hb=>by
   have hx':Hid b:=hb;rw[m] at hx';rcases hx' with hb|⟨i,ob,C,h1,h2,_⟩
   .exact h.keep.lt (h.old b hb)
   .exact h.lt h1 h2
  pin:=λk x hx=>⟨(by
   rcases HU k L.length with h'|h'
   .exact h'
   .have hx':d k=some x:=hx;rw[b0n h'] at hx';cases hx'),hx⟩}
 refine rq (cx:=⟨w,GG d σ0,Hid,d,Fence.wide,9⟩) hfn hb hT rfl rfl ⟨d,hfront⟩ ?_
 rintro e s a' w' ⟨he,hgl,t,z,hsc,U,F,H⟩ ⟨O,hr⟩
 replace y:=y t
 replace A:=λs' (hs:s'={st with σ:=τ t,c:=st.c+(c1 t-L.length)}.put o.dst (qg (G4 L st.c) 20 (r t)))=>A s' ⟨t,hs⟩
 generalize r t=r at H A
 generalize σ1 t=σ1 at z y
 generalize c1 t=c1 at hsc A
 generalize τ t=τ at y A
 obtain⟨v,hres,N⟩:=mP hr F
 obtain⟨β2,M⟩:∃β2:Bm,β2=λi=>if i<st.c then β i else O (L.length+(i-st.c)):=⟨_,rfl⟩
 have b2:∀{i:Nat},i<st.c->β2 i=β i:=λ{i} hi=>by rw[M];simp only[hi,if_true]
 have key:∀k i,G4 L st.c k=some i->β2 i=O k:=λk i hk=>by
  unfold G4 at hk;cases hx:L[k]? with
  |some j=>grind
  |none=>grind
 have hext:∀i x,β i=some x->β2 i=some x:=λi x hx=>by
  rcases HU i st.c with h'|h'
  .rw[b2 h'];exact hx
  .rw[h.fresh i h'] at hx;cases hx
 have hblk:∀i o b C,ag st.σ i=some o->β2 i=some (some (b,C))->β i=some (some (b,C)):=λi o b C ho hb=>by rw[b2 (hbound i o ho)] at hb;exact hb
 have hav:∀b,Av cx.S0 β2 τ b->Av Hid O s.σ b:=by rintro b (hb|⟨i,ob,C,h1,h2⟩);all_goals grind
 have hAo:∀b,b<w.heap.size->Av cx.S0 β2 τ b->Av cx.S0 β st.σ b:=by grind
 have hkp:Ba (Av cx.S0 β st.σ) w w':=hr.keep.mono λb _ hb=>by obtain⟨i,o,E,_,q,I⟩:=hlivS b hb;exact .inr ⟨i,o,E,q,I⟩
 have hframe:∀i o b C,ag st.σ i=some o->i∉L->β i=some (some (b,C))->w'.heap[b]?=w.heap[b]? :=λi o b C ho hn hb=>hr.keep.block b (h.lt ho hb) (λhl=>by obtain⟨j,B,E,g1,q,I⟩:=hlivS b hl;have:=h.inj i j o B b C E ho q hb I;subst this;exact hn g1)
 have hback:Bw P cx {st with σ:=τ,c:=st.c+(c1-L.length)} a w' β2:={
  size:=h.size
  defers:=h.defers.keep hr.keep (λD hD hl=>by obtain⟨j,B,E,g1,q,I⟩:=hlivS D hl;exact h.not_marks q I hD)
  loose:=h.loose
  rnd:=h.rnd
  fr:=λi=>(h.fr i).step hext hAo hkp
  ob:=λi o ho=>by
   rcases y i o ho with⟨k,p,g1,g2,q⟩|⟨g1,g2⟩
   .exact U8 key ((hr.ob k p (z k p g2)).step (λ_ _ x=>x) (λb _ hb=>hav b hb) (Ba.refl _ _) (λ_ _ _=>rfl)) q (key k i g1)
   .exact(h.ob i o g1).step hext hAo hkp (λb C hb=>hframe i o b C g1 g2 hb)
  inj:=λi j o V b C D hi hj hbi Q=>by
   rcases y i o hi with⟨k,p,g1,g2,q⟩|⟨g1,g2⟩<;>rcases y j V hj with⟨k',S,e1,e2,e3⟩|⟨e1,e2⟩
   .grind
   all_goals grind
  own:=λi o b C hi hbi=>by
   rcases y i o hi with⟨k,p,g1,g2,q⟩|⟨g1,g2⟩
   .rw[key k i g1] at hbi;rcases hr.own k p b C (z k p g2) hbi with hb|hb
    .grind [Bw.own]
    .have:=h.keep.size;have hb':w.heap.size<=b:=hb;right;omega
   grind
  sep:=λi o b C hi hbi hx=>by
   rcases y i o hi with⟨k,p,g1,g2,q⟩|⟨g1,g2⟩
   .rw[key k i g1] at hbi;exact hr.sep k p b C (z k p g2) hbi (by rw[m];exact .inl hx)
   .exact h.sep i o b C g1 (hblk i o b C g1 hbi) hx
  fresh:=λi hi=>by have hi':st.c+(c1-L.length)<=i:=hi;rw[M];simp only;rw[BU aa];exact hr.fresh _ (by rw[hsc];omega)
  glob:=λg l hl=>(hr.glob g l (by rw[hgl];exact hl)).sub λb _ hb=>hav b hb
  keep:=h.keep.then hr.keep (λb hb hl=>by
   obtain⟨j,B,E,_,e3,e4⟩:=hlivS b hl;rcases h.own j B b E e3 e4 with h1|h1
   .exact h1
   .omega)
  old:=h.old
  pin:=λi x hx=>⟨(h.pin i x hx).1,hext i x (h.pin i x hx).2⟩}
 have hval:RV β2 (Av cx.S0 β2 τ) w' (qg (G4 L st.c) 20 r) v:=by rw[H];exact IG key 20 _ v (N.step (λ_ _ x=>x) (λb _ hb=>hav b hb) (Ba.refl _ _))
 exact⟨he,v,hres,A _ rfl _ _ ⟨β2,hback.put o.dst hd hval⟩⟩
theorem jg.F{gl:Cd}{f:FuncId}{gs:Bj}{σ0:aQ}{c:Nat}{r:G}{σ1:aQ}{c1:Nat}(h:jg P gl f gs σ0 c r σ1 c1):Xx P gl f gs σ0 c (ι:=Unit) (λ_=>r) (λ_=>σ1) (λ_=>c1):=by obtain⟨hc,fn,body,hfn,hb,hn,hT⟩:=h;constructor<;>grind
theorem MD{o:Oper}{st:St}{f:Dk}{xs:Array Dk}{ats:Array Bn}{fid:FuncId}{fst cap:Bj}(L:Bq){gs0:Bj}{σ0:aQ}{r:G}{σ1:aQ}{c1:Nat}(ho:o.op= .call {callee:= .value f,args:=xs,argTypes:=ats})(hd:Ly o st.n)(hf:aB st f= .clo (.func fid) fst cap)
  (hM:jg P st.gl fid gs0 σ0 L.length r σ1 c1) (hL:∀(k i:Nat),L[k]?=some i->i<st.c) (hnd:L.Nodup) (hgs:gs0=(fst++xs.toList.map (aB st)++cap).map (qg (vi L) 20))
  (hin:∀(k i:Nat),L[k]?=some i->∃o o0,ag st.σ i=some o/\ag σ0 k=some o0/\MB (vi L) o o0) (h0:∀k o,ag σ0 k=some o->k<L.length)
  (τ:aQ) (e:∀i o,ag τ i=some o->(∃k b,G4 L st.c k=some i/\ag σ1 k=some b/\MB (G4 L st.c) b o)\/(ag st.σ i=some o/\i∉L)):
  th P o st (λs'=>s'={st with σ:=τ,c:=st.c+(c1-L.length)}.put o.dst (qg (G4 L st.c) 20 r)):=by
 have:=MC (o:=o) (st:=st) (ι:=Unit) (r:=λ_=>r) (σ1:=λ_=>σ1) (c1:=λ_=>c1) L ho hd hf hM.F hL hnd hgs hin h0 (λ_=>τ) λ_=>e
 exact λcx a w K R h d=>this cx a w K R h λs' ⟨_,hs⟩=>d s' hs
section
variable {P:Br} [M:Mix P] {c:Code} {K:List Kf} {st:St} {Q:Exit->St->Prop}
def Ok(P:Br)(fn:Func)(gl:Cd)(r:G)(σ1:aQ)(c1:Nat)(e:Exit)(s:St):Prop:=(e= .normal\/e= .ret)/\s.gl=gl/\(∀k o,ag σ1 k=some o->ag s.σ k=some o)/\s.c=c1/\∃a,fn.results.toList.mapM (jV P s)=some a/\r=iU a
theorem sMc{gl:Cd}{σ0 σ1:aQ}{c0 c1:Nat}(hf:P.funcs[f]?=some fn)(h:Tr P (ai fn) ⟨fn.ntmps,gl,bQ 0 gs,σ0,c0,c0,false⟩ (dz P [] (Ok P fn gl r σ1 c1)))(hc:aK P f=true:=by kernel_rfl)(hb:fn.body.isSome=true:=by kernel_rfl)(hn:Nat.ble gs.length fn.ntmps=true:=by kernel_rfl):jg P gl f gs σ0 c0 r σ1 c1:=by
 obtain⟨body,hb'⟩:=Vm.1 hb;refine⟨hc,fn,body,hf,hb',E7 hn,?_⟩;have e:ai fn=body:=by grind [ai]
 rw[e] at h;exact Tr.leQ h
theorem Wo{gl:Cd}{σ1:aQ}{c1:Nat}{S0:St}{gs:Bj}(he:tc ex=true)(hr:vR P S0 fn.results.toList=some gs)(hg:S0.gl=gl)(a:S0.σ=σ1)(hc:S0.c=c1)(h:iU gs=r):Ok P fn gl r σ1 c1 ex S0:=by constructor<;>grind [eO,gh]
def w6(κ:Nat->Fs)(σ σ0:aQ):Nat->Bq->Prop
 |_,[]=>True
 |k,i::L=>(match ag σ i,ag σ0 k with|some o,some o0=>MB κ o o0|_,_=>False)/\w6 κ σ σ0 (k+1) L
def EJ(κ:Nat->Fs)(σ1:aQ):List (Nat×Ob)->Prop
 |[]=>True
 |(k,o)::U=>(match ag σ1 k with|some a=>MB κ a o|none=>False)/\EJ κ σ1 U
theorem w6.get{κ:Nat->Fs}{σ σ0:aQ}:∀{L:Bq} {a:Nat},w6 κ σ σ0 a L->∀(k i:Nat),L[k]?=some i->∃o o0,ag σ i=some o/\ag σ0 (a+k)=some o0/\MB κ o o0
 |[],_,_,_,_,h=>by cases h
 |j::L,a,h,0,i,hi=>by simp at hi;subst hi;have h1:=h.1;grind
 |j::L,a,h,k+1,i,hi=>by have:=w6.get h.2 k i (by grind);grind
theorem EJ.get{κ:Nat->Fs}{σ1:aQ}:∀{U:List (Nat×Ob)},EJ κ σ1 U->∀q∈U,∃a,ag σ1 q.1=some a/\MB κ a q.2
 |[],_,q,hq=>by cases hq
 |(k,o)::U,h,q,hq=>by
  rcases EH.1 hq with rfl|hq
  .have h1:=h.1;grind
  .exact EJ.get h.2 q hq
def KQ(L:Bq)(c:Nat)(U:List (Nat×Ob)):aQ:=U.map λq=>((G4 L c q.1).getD 0,some q.2)
theorem Gl(L:Bq)(c k:Nat):∃i,G4 L c k=some i:=by unfold G4;cases L[k]? <;>grind
theorem YM{gl:Cd}{gs0 gs:Bj}{σ0 σ1 σR:aQ}{r g:G}{c1 c c':Nat}(L:Bq)(U:List (Nat×Ob))(hM:jg P gl fid gs0 σ0 L.length r σ1 c1)
  (hin:w6 (vi L) σR σ0 0 L) (d:EJ (G4 L c) σ1 U) (hlt:L.all (λi=>Nat.blt i c)=true:=by kernel_rfl) (hnd:decide L.Nodup=true:=by kernel_rfl) (hgs:gs.map (qg (vi L) 20)=gs0:=by kernel_rfl)
  (hk0:σ0.all (λq=>Nat.blt q.1 L.length)=true:=by kernel_rfl) (hcov:(List.range L.length).all (λk=>U.any λq=>Nat.beq q.1 k)=true:=by kernel_rfl) (hg:qg (G4 L c) 20 r=g:=by kernel_rfl) (hc:c+(c1-L.length)=c':=by kernel_rfl) (hR:σR.all (λq=>q.2.isSome)=true:=by kernel_rfl):oJ P gl fid gs σR c g (KQ L c U) c':=by
 intro o st y xs ats fst cap ho hd hf a hgl hq hsc
 have j:=hin.get
 have hgetR:∀i o,ag σR i=some o->ag st.σ i=some o:=λi o hh=>by
  have:∀l:aQ,(∀q∈l,q∈σR)->ag l i=some o->ag st.σ i=some o:=by
   intro l;induction l with
   |nil=>intro _ h;cases h
   |cons q t ih=>grind
  grind
 have key:=MD (o:=o) (st:=st) (f:=y) (xs:=xs) (ats:=ats) (fid:=fid) (fst:=fst) (cap:=cap) L (gs0:=gs0) (σ0:=σ0) (r:=r) (σ1:=σ1) (c1:=c1) ho hd hf (by rw[hgl];exact hM) (λk i hk=>by
   have:=Hd.1 hlt i (bO hk);simp_all) (DS hnd) (by rw[a,hgs]) (by grind) (λk o hkk=>by
   have:∀l:aQ,(∀q∈l,q∈σ0)->ag l k=some o->k<L.length:=by
    intro l;induction l with
    |nil=>intro _ h;cases h
    |cons q t ih=>
     intro hs h;rw[show(q::t:aQ)=(q.1,q.2)::t from rfl,Bc] at h;split at h
     .rename_i e;subst e;exact E7 (Hd.1 hk0 q (by grind))
     grind
   grind) (KQ L c U++st.σ) (λi o hh=>by
   have:∀l:List (Nat×Ob),(∀q∈l,q∈U)->ag (KQ L c l++st.σ) i=some o->(∃q∈U,G4 L c q.1=some i/\q.2=o)\/(ag st.σ i=some o/\∀q∈l,G4 L c q.1≠some i):=by
    intro l;induction l with
    |nil=>intro _ h;exact .inr ⟨h,(by grind)⟩
    |cons q t ih=>intro hs h;obtain⟨m,hi'⟩:=Gl L c q.1;rw[show KQ L c (q::t)++st.σ=((G4 L c q.1).getD 0,some q.2)::(KQ L c t++st.σ) from rfl,hi',M1,Bc] at h;grind
   rcases this U (λ_ h=>h) hh with⟨q,b,h1,rfl⟩|⟨h1,h2⟩
   .grind [EJ.get]
   .refine .inr ⟨h1,λhi=>?_⟩;obtain⟨k,hk⟩:=He hi;have hkl:=(cr hk).1;obtain⟨q,b,he⟩:=List.any_eq_true.1 (Hd.1 hcov k (List.mem_range.2 hkl));refine h2 q b ?_;rw[bc he];unfold G4;rw[hk])
 grind [th.gs]
end
section
variable {P:Br} [M:Mix P] {c:Code} {K:List Kf} {st:St} {Q:Exit->St->Prop} {fn:Func} {Bs:List (St->Prop)} {m:Bool} {p:Bq}
def YN:Code->Bool
 | .rangeFunc _ _ _ _=>true
 |_=>false
def rfG:Code->Dk
 | .rangeFunc g _ _ _=>g
 |_=> .tmp 0
def Dy:Code->Array Tmp
 | .rangeFunc _ ps _ _=>ps
 |_=> #[]
def Dz:Code->Code
 | .rangeFunc _ _ a _=>a
 |_=> .skip
def DA:Code->Code
 | .rangeFunc _ _ _ b=>b
 |_=> .skip
theorem sRf{fst cap:Bj}(fn:Func)(hfn:P.funcs[fid]?=some fn)(hg:aB st (rfG c)= .clo (.func fid) fst cap)(h:Tr P (ai fn) ⟨fn.ntmps,st.gl,bQ 0 (fst++[G.yld st.c]++cap),(st.c,some ⟨0,[],some (.loop .ready none st.n st.fr (Dy c) (Dz c) (DA c))⟩)::st.σ,st.c+1,st.c+1,false⟩ (dz P [] (sI P st Q)))
  (hi:YN c=true:=by kernel_rfl) (hr:st.r=false:=by kernel_rfl) (hc:aK P fid=true:=by kernel_rfl) (hb:fn.body.isSome=true:=by kernel_rfl) (hn:Nat.ble (fst++[G.yld st.c]++cap).length fn.ntmps=true:=by kernel_rfl) (hres:fn.results.toList=[]:=by kernel_rfl):Tr P c st Q:=by
 obtain⟨d,hb'⟩:=Vm.1 hb
 have e:ai fn=d:=by grind [ai]
 rw[e] at h
 cases c with
 |rangeFunc g ps a b=>exact wx hr hg hc hfn hb' (E7 hn) hres (Tr.leQ h)
 |_=>cases hi
theorem QW(he:tc ex=true)(hgl:s.gl=st.gl)(ho:ag s.σ st.c=some ⟨t,[],some (.loop .ready none n fr ps a b)⟩)(h:Q .normal {st with σ:=(st.c,none)::(st.c,some ⟨t,[],some (.loop .exhausted none n fr ps a b)⟩)::s.σ,c:=s.c}):sI P st Q ex s:=
 by constructor<;>grind [eO]
def YO:Code->Bool
 | .region _ _ false=>true
 |_=>false
def pZ:Code->Iu
 | .region _ ops _=>ops.toList
 |_=>[]
def YP(o:Oper):Dk:=match o.op with
 | .call {callee:= .value f,.. }=>f
 |_=> .tmp 0
def Tw(o:Oper):List Dk:=match o.op with
 | .call {callee:= .value _,args:=xs,.. }=>xs.toList
 |_=>[]
def oIs(o:Oper):Bool:=match o.op with
 | .call {callee:= .value _,.. }=>true
 |_=>false
def qd(P:Br)(ops:Array Oper)(hs:List Hn)(l:Iu)(st:St):Option (Prop×Bq×St):=(TH P ops hs l st).map λ(ps,u,s)=>(TE ps True,u,s)
theorem Mz{ops:Array Oper}{hs:List Hn}{l:Iu}{C:Prop}{u:Bq}(h:qd P ops hs l st=some (C,u,s1))(hC:C):D8 P ops (λs=>s=s1) l st:=by obtain⟨⟨ps,u,s⟩,hr,e⟩:=DF.1 h;cases e;exact QI l st _ _ _ hr (Gr hC).1 rfl
theorem As{ops:Array Oper}{a K2:St->Prop}:∀(l l2:Iu) (st:St),D8 P ops a l st->(∀s,a s->vU P ops K2 l2 s)->vU P ops K2 (l++l2) st
 |[],l2,st,h,hk=>hk st h
 |o::r,l2,st,h,hk=>by
  rcases h with⟨hw,s1,hg,hr⟩|⟨hw,hd,hr⟩
  .exact .inl ⟨hw,hg.gsn.eqv λs hs=>⟨s,by rw[hs];exact As r l2 s1 hr hk,Xh.refl _⟩⟩
  .exact .inr ⟨hw,hd,As r l2 _ hr hk⟩
def MA(P:Br)(st:St)(i:Nat)(S:Option Code->Q9->Bn->St->Prop)(bd:Code)(e:Exit)(s:St):Prop:=e= .normal/\s.gl=st.gl/\∃t' a h b d f g,ag s.σ i=some ⟨t',[],some (.loop .ready a h b d f g)⟩/\Tr P bd {s with σ:=(i,some ⟨t',[],some (.loop .busy a h b d f g)⟩)::s.σ} (Pm P st i S)
def qOf:Q9->Option Code
 | .loop _ q _ _ _ _ _=>q
 |_=>none
def Tx(b:aQ)(c2:Nat)(a:Q9)(t2:Bn)(j:Option Code)(x:Q9)(t:Bn)(s:St):Prop:=j=qOf a/\x=a/\t=t2/\s.σ=b/\s.c=c2
theorem Wp{S:Option Code->Q9->Bn->St->Prop}(he:ex= .normal)(hgl:s.gl=st.gl)(ho:ag s.σ i=some ⟨t,[],some (.loop .ready pe n fr ps a b)⟩)(h:Tr P bd {s with σ:=(i,some ⟨t,[],some (.loop .busy pe n fr ps a b)⟩)::s.σ} (dz P [] (Pm P st i S))):MA P st i S bd ex s:=
 ⟨he,hgl,t,pe,n,fr,ps,a,b,ho,Tr.leQ h⟩
theorem jy{σ2:aQ}{c2:Nat}{d:Q9}{ls:LoopState}(he:ex= .normal)(hgl:s.gl=st.gl)(ho:ag s.σ i=some ⟨t2,[],some (.loop ls pe n fr ps a b)⟩)(e: .loop .ready none n fr ps a b=d)(f:s.σ=σ2)(hc:s.c=c2):Pm P st i (Tx σ2 c2 d t2) ex s:=
 ⟨hgl,none,t2,ls,pe,n,fr,ps,a,b,by rw[he];rfl,ho,by rw[<-e];rfl,e,rfl,f,hc⟩
theorem sYd(j i:Nat){s3:St}{o:Oper}(k:aQ)(c2:Nat)(e:Q9)(r y u z:List HP)
  (hob:ag s1.σ i=some ⟨t,[],some (.loop .ready pe n fr ps a b)⟩)
  (h:Tr P a ⟨n,s1.gl,xU (ps.toList.zip ((Tw o).map (aB s1))) fr,s1.σ,s1.c,s1.c,true⟩ (dz P [] (MA P s1 i (Tx k c2 e t2) b)))
  (h3:dz P K Q .normal s3)
  (e1:TF r (qd P (pZ c).toArray (bK r) ((pZ c).take j) st) s1:=by exact⟨aH,aH⟩)
  (A:(pZ c)[j]?=some o:=by kernel_rfl)
  (e2:TF u (qd P (pZ c).toArray (bK u) ((pZ c).drop (j+1)) ({s1 with σ:=(i,some ⟨t2,[],some e⟩)::k,c:=c2}.put o.dst (.lit (.bool (qOf e).isNone)))) s3:=by exact⟨aH,aH⟩)
  (hi:YO c=true:=by kernel_rfl) (hw:ce s1 (pZ c).toArray o=some true:=by kernel_rfl) (d:oIs o=true:=by kernel_rfl) (hd:pj s1.n o.dst=true:=by kernel_rfl) (hf:aB s1 (YP o)= .yld i:=by kernel_rfl)
  (hsz:Nat.beq (Tw o).length ps.size=true:=by kernel_rfl) (g:ps.toList.all (λp=>Nat.blt p n)=true:=by kernel_rfl):Tr P c st (dz P K Q):=by
 cases c with
 |region id ops draw=>
  cases draw with
  |true=>cases hi
  |false=>
   have hl:(pZ (.region id ops false)).toArray=ops:=Array.toArray_toList
   rw[hl] at e1 e2 hw
   have hsplit:ops.toList=ops.toList.take j++(o::ops.toList.drop (j+1)):=by grind [List.drop_eq_getElem_cons,Pp]
   have key:Tr P (.region id ops.toList.toArray false) st (dz P K Q):=by
    refine lG ?_;rw[Array.toArray_toList];rw[hsplit];refine As _ _ _ (Mz e1.2 (kA e1.1)) λs hs=>?_;rw[hs];obtain⟨l,op,ty,pos,v,gd⟩:=o;cases op with
    |call cl=>
     obtain⟨q,xs,ats⟩:=cl;cases q with
     |value f=>
      refine .inl ⟨hw,?_⟩;have hy:=Em (P:=P) (o:=⟨l,.call {callee:= .value f,args:=xs,argTypes:=ats},ty,pos,v,gd⟩) (st:=s1) (f:=f) (xs:=xs) (ats:=ats) (i:=i) (n:=n) (t:=t) (pe:=pe) (fr:=fr) (ps:=ps) (az9:=a) (bd:=b) (S:=Tx k c2 e t2) rfl (eN hd) hf hob (bc hsz) (λp hp=>E7 (Hd.1 g p hp)) (Tr.leQ h);refine hy.eqv λs hs=>⟨s,?_,Xh.refl _⟩;obtain⟨B,x,t',s',⟨rfl,rfl,rfl,w,hc⟩,rfl⟩:=hs;rw[w,hc];have:=As (K2:=dz P K Q .normal) _ [] _ (Mz e2.2 (kA e2.1)) λs hs=>by rw[hs];exact h3
      grind
     |_=>cases d
    |_=>cases d
   grind
 |_=>cases hi
def Gm(P:Br)(hs:List Hn)(m:Code⊕Exit)(K:List Kf)(vs:List Bn)(ρ:DD)(kd:List (Nat×Rk))(J st:St):Option (Prop×Bq×Ll×Exit×St):=match sy P hs 1000000 1000 m K st with
 |some (C,u,.fin e s)=>match Iw P vs ρ kd J s with
  |some (L,s')=>some (C,u,L,e,s')
  |none=>none
 |_=>none
theorem C9(a:Exit)(J:St)(A O:List HP)(h:Q a J)(vs:List Bn:=[])(ρ:DD:=[])(kd:List (Nat×Rk):=[])(hk:TF A (Gm P (bK A) (Lv m p (ai fn)) (bE p (ai fn) Bs []) vs ρ kd J st) (pR O,a,J):=by exact⟨aH,aH⟩):Gp P fn Q Bs m p st:=by
 obtain⟨C,u,hC,e⟩:=hk.out;unfold Gp;unfold Gm at e;split at e;rotate_left
 .cases e
 rename_i b d x s1 h1;split at e;rotate_left
 .cases e
 rename_i L s' h2;simp only[Fk,Fu] at e;obtain⟨rfl,rfl,rfl,rfl,rfl⟩:=e;exact oK M.mx (out:= .fin x s1) ⟨_,sR h2 (wR O),h⟩ 1000 _ _ _ _ _ h1 hC
theorem pP{gl:Cd}{gs:Bj}{σ0 σ1:aQ}{c0 c1:Nat}{r:G}(hf:P.funcs[f]?=some fn)(h:Gp P fn (Ok P fn gl r σ1 c1) [] false [] ⟨fn.ntmps,gl,bQ 0 gs,σ0,c0,c0,false⟩)(hc:aK P f=true:=by kernel_rfl)(hb:fn.body.isSome=true:=by kernel_rfl)(hn:Nat.ble gs.length fn.ntmps=true:=by kernel_rfl):jg P gl f gs σ0 c0 r σ1 c1:=sMc hf h hc hb hn
theorem mt{gl:Cd}{r:G}{σ1:aQ}{c1:Nat}(a:Exit)(J:St)(gs:Bj)(A O:List HP)(hg:J.gl=gl:=by rfl)(b:J.σ=σ1:=by rfl)(hc:J.c=c1:=by rfl)(hr:iU gs=r:=by rfl)(vs:List Bn:=[])(ρ:DD:=[])(kd:List (Nat×Rk):=[])(he:tc a=true:=by rfl)(hx:vR P J fn.results.toList=some gs:=by kernel_rfl)(hk:TF A (Gm P (bK A) (Lv m p (ai fn)) (bE p (ai fn) Bs []) vs ρ kd J st) (pR O,a,J):=by exact⟨aH,aH⟩):Gp P fn (Ok P fn gl r σ1 c1) Bs m p st:=
 C9 a J A O (Wo he hx hg b hc hr) vs ρ kd hk
def fnB(fn:Func)(c:Code):Func:={fn with body:=some c}
theorem Xt{fst cap:Bj}(a:Func)(hfn:P.funcs[fid]?=some a)(h:Gp P a (sI P st (dz P (bE p (ai fn) Bs []) Q)) [] false [] ⟨a.ntmps,st.gl,bQ 0 (fst++[G.yld st.c]++cap),(st.c,some ⟨0,[],some (.loop .ready none st.n st.fr (Dy (bq p (ai fn))) (Dz (bq p (ai fn))) (DA (bq p (ai fn))))⟩)::st.σ,st.c+1,st.c+1,false⟩)
  (hg:aB st (rfG (bq p (ai fn)))= .clo (.func fid) fst cap:=by kernel_rfl) (hi:YN (bq p (ai fn))=true:=by kernel_rfl) (hr:st.r=false:=by kernel_rfl) (hc:aK P fid=true:=by kernel_rfl) (hb:a.body.isSome=true:=by kernel_rfl) (hn:Nat.ble (fst++[G.yld st.c]++cap).length a.ntmps=true:=by kernel_rfl) (hres:a.results.toList=[]:=by kernel_rfl):Gp P fn Q Bs false p st:=sRf (c:=bq p (ai fn)) a hfn hg h hi hr hc hb hn hres
theorem Xu{s:St}(h:Gp P fn Q Bs true p {st with σ:=(st.c,none)::(st.c,some ⟨t,[],some (.loop .exhausted none n fr ps a b)⟩)::s.σ,c:=s.c})(ho:ag s.σ st.c=some ⟨t,[],some (.loop .ready none n fr ps a b)⟩)(hgl:s.gl=st.gl:=by rfl)(he:tc ex=true:=by rfl):sI P st (dz P (bE p (ai fn) Bs []) Q) ex s:=QW he hgl ho h
theorem Xv{S:Option Code->Q9->Bn->St->Prop}(fn:Func)(h:Gp P (fnB fn bd) (Pm P st i S) [] false [] {s with σ:=(i,some ⟨t,[],some (.loop .busy pe n fr ps a b)⟩)::s.σ})(ho:ag s.σ i=some ⟨t,[],some (.loop .ready pe n fr ps a b)⟩)(hgl:s.gl=st.gl:=by rfl)(he:ex= .normal:=by rfl):MA P st i S bd ex s:=Wp he hgl ho h
def CK(c:Code)(j:Nat):Oper:=((pZ c)[j]?).getD ⟨none,.assign (.tmp 0),0, "",#[],none⟩
theorem Xw(j i:Nat){s1 s3:St}{t t2:Bn}{pe:Option Code}{n:Nat}{fr:Fr}{ps:Array Tmp}{a b:Code}(l:aQ)(c2:Nat)(d:Q9)(e f:List HP)
  (h:Gp P (fnB fn a) (MA P s1 i (Tx l c2 d t2) b) [] false [] ⟨n,s1.gl,xU (ps.toList.zip ((Tw (CK (bq p (ai fn)) j)).map (aB s1))) fr,s1.σ,s1.c,s1.c,true⟩)
  (h3:Gp P fn Q Bs true p s3)
  (hob:ag s1.σ i=some ⟨t,[],some (.loop .ready pe n fr ps a b)⟩:=by kernel_rfl)
  (e1:TF e (qd P (pZ (bq p (ai fn))).toArray (bK e) ((pZ (bq p (ai fn))).take j) st) s1:=by exact⟨aH,aH⟩)
  (o:(pZ (bq p (ai fn)))[j]?=some (CK (bq p (ai fn)) j):=by kernel_rfl)
  (e2:TF f (qd P (pZ (bq p (ai fn))).toArray (bK f) ((pZ (bq p (ai fn))).drop (j+1)) ({s1 with σ:=(i,some ⟨t2,[],some d⟩)::l,c:=c2}.put (CK (bq p (ai fn)) j).dst (.lit (.bool (qOf d).isNone)))) s3:=by exact⟨aH,aH⟩)
  (hi:YO (bq p (ai fn))=true:=by kernel_rfl) (hw:ce s1 (pZ (bq p (ai fn))).toArray (CK (bq p (ai fn)) j)=some true:=by kernel_rfl) (g:oIs (CK (bq p (ai fn)) j)=true:=by kernel_rfl) (hd:pj s1.n (CK (bq p (ai fn)) j).dst=true:=by kernel_rfl) (hf:aB s1 (YP (CK (bq p (ai fn)) j))= .yld i:=by kernel_rfl)
  (hsz:Nat.beq (Tw (CK (bq p (ai fn)) j)).length ps.size=true:=by kernel_rfl) (k:ps.toList.all (λp=>Nat.blt p n)=true:=by kernel_rfl):Gp P fn Q Bs false p st:=
 sYd (c:=bq p (ai fn)) j i l c2 d e [] f [] hob h h3 e1 o e2 hi hw g hd hf hsz k
def hmc(d:Nat)(L:Bq)(c:Nat)(σR:aQ)(gs:Bj)(U:List (Nat×Ob)){gl:Cd}{fid:FuncId}{gs0:Bj}{σ0 σ1:aQ}{r:G}{c1:Nat}(hM:jg P gl fid gs0 σ0 L.length r σ1 c1)
  (hin:w6 (vi L) σR σ0 0 L) (a:EJ (G4 L c) σ1 U) (hlt:L.all (λi=>Nat.blt i c)=true:=by kernel_rfl) (hnd:decide L.Nodup=true:=by kernel_rfl) (hgs:gs.map (qg (vi L) 20)=gs0:=by kernel_rfl)
  (hk0:σ0.all (λq=>Nat.blt q.1 L.length)=true:=by kernel_rfl) (hcov:(List.range L.length).all (λk=>U.any λq=>Nat.beq q.1 k)=true:=by kernel_rfl) (hR:σR.all (λq=>q.2.isSome)=true:=by kernel_rfl):HP:=
 hz d L (P:=P) (gl:=gl) (f:=fid) (gs:=gs) (σR:=σR) (c:=c) (g:=qg (G4 L c) 20 r) (U:=KQ L c U) (c':=c+(c1-L.length)) (YM L U hM hin a hlt hnd hgs hk0 hcov rfl rfl hR)
def YQ(P:Br)(hs:List Hn)(cut:Nat)(m:Code⊕Exit)(K:List Kf)(a:Bq)(st:St):Option (Prop×Bq×St×Code×List Kf):=match sy P hs cut 1000 m K st with
 |some (C,u,.ct c' K' s)=>some (C,u,{s with fr:=a.map λk=>(k,aD s.fr k)},c',K')
 |_=>none
theorem IB{fr:Fr}{d:Nat}:∀a:Bq,aD (a.map λk=>(k,aD fr k)) d=aD fr d\/aD (a.map λk=>(k,aD fr k)) d= .junk
 |[]=> .inr rfl
 |k::r=>by
  rw[Fa,aO];split
  .grind
  .exact IB r
theorem UZ(b:Bq):Le P s {s with fr:=b.map λk=>(k,aD s.fr k)}:=by rintro cx a w ⟨β,r⟩;refine⟨β,{r with fr:=λi=>?_}⟩;grind [IB,RV]
theorem YR(q:Bq)(J:St)(A:List HP)(kk:Gp P fn Q Bs false q J)
  (hk:TF A (YQ P (bK A) (wT (bq q (ai fn))) (Lv m p (ai fn)) (bE p (ai fn) Bs []) (xb J) st) (J,bq q (ai fn),bE q (ai fn) Bs []):=by exact⟨aH,aH⟩):Gp P fn Q Bs m p st:=by
 obtain⟨C,u,hC,e⟩:=hk.out
 generalize hks:xb J=ks at e
 unfold Gp
 unfold YQ at e
 split at e
 rotate_left
 .cases e
 rename_i a d c K' s1 h1
 simp only[Fk,Fu] at e
 obtain⟨rfl,rfl,b,rfl,rfl⟩:=e
 refine oK M.mx (out:= .ct (bq q (ai fn)) (bE q (ai fn) Bs []) s1) (Tr.le kk ?_) 1000 _ _ _ _ _ h1 hC
 grind [UZ]
def Gn(P:Br)(hs:List Hn)(m:Code⊕Exit)(K:List Kf)(a:Bq)(st:St):Option (Prop×Bq×Exit×St):=match sy P hs 1000000 1000 m K st with
 |some (C,u,.fin e s)=>some (C,u,e,{s with fr:=a.map λk=>(k,aD s.fr k)})
 |_=>none
theorem dFf(a:Exit)(J:St)(A:List HP)(h:Q a J)
  (hk:TF A (Gn P (bK A) (Lv m p (ai fn)) (bE p (ai fn) Bs []) (xb J) st) (a,J):=by exact⟨aH,aH⟩):Gp P fn Q Bs m p st:=by
 obtain⟨C,u,hC,e⟩:=hk.out
 generalize hks:xb J=ks at e
 unfold Gp
 unfold Gn at e
 split at e
 rotate_left
 .cases e
 rename_i b f x s1 h1
 simp only[Fk,Fu] at e
 obtain⟨rfl,rfl,rfl,d⟩:=e
 refine oK M.mx (out:= .fin x s1) ⟨J,?_,h⟩ 1000 _ _ _ _ _ h1 hC
 grind [UZ]
theorem dEf{gl:Cd}{σ1:aQ}{c1:Nat}(a:Exit)(J:St)(gs:Bj)(A:List HP)(b:∀k o,ag σ1 k=some o->ag J.σ k=some o)(hg:J.gl=gl:=by rfl)(hc:J.c=c1:=by rfl)(hr:iU gs=r:=by rfl)(he:tc a=true:=by rfl)(hx:vR P J fn.results.toList=some gs:=by kernel_rfl)
  (hk:TF A (Gn P (bK A) (Lv m p (ai fn)) (bE p (ai fn) Bs []) (xb J) st) (a,J):=by exact⟨aH,aH⟩):Gp P fn (Ok P fn gl r σ1 c1) Bs m p st:=
 dFf a J A ⟨eO he,hg,b,hc,gs,gh hx,hr.symm⟩ hk
end
def oI(κ:Nat->Fs)(σ1:aQ):aQ->Prop
 |[]=>True
 |(k,some o)::U=>(match ag σ1 k with|some a=>MB κ a o|none=>False)/\oI κ σ1 U
 |(_,none)::U=>oI κ σ1 U
theorem oI.get{κ:Nat->Fs}{σ1:aQ}:∀{U:aQ},oI κ σ1 U->∀k o,(k,some o)∈U->∃a,ag σ1 k=some a/\MB κ a o
 |[],_,k,o,hq=>by cases hq
 |(k,some o)::U,h,k',o',hq=>by
  rcases EH.1 hq with e|hq
  .cases e;have h1:=h.1;split at h1
   .rename_i a e1;exact⟨a,e1,h1⟩
   .exact h1.elim
  .exact oI.get h.2 k' o' hq
 |(_,none)::U,h,k',o',hq=>by
  rcases EH.1 hq with e|hq
  .cases e
  .exact oI.get (U:=U) h k' o' hq
def zO(L:Bq)(c:Nat)(U:aQ):aQ:=U.map λq=>((G4 L c q.1).getD 0,q.2)
theorem YS{gl:Cd}{gs0 gs:Bj}{σ0 σ1 σR:aQ}{r g:G}{c1 c c':Nat}(L:Bq)(U:aQ)(hM:jg P gl fid gs0 σ0 L.length r σ1 c1)
  (hin:w6 (vi L) σR σ0 0 L) (b:oI (G4 L c) σ1 U) (hlt:L.all (λi=>Nat.blt i c)=true:=by kernel_rfl) (hnd:decide L.Nodup=true:=by kernel_rfl) (hgs:gs.map (qg (vi L) 20)=gs0:=by kernel_rfl)
  (hk0:σ0.all (λq=>Nat.blt q.1 L.length)=true:=by kernel_rfl) (hcov:(List.range L.length).all (λk=>U.any λq=>Nat.beq q.1 k)=true:=by kernel_rfl) (hg:qg (G4 L c) 20 r=g:=by kernel_rfl) (hc:c+(c1-L.length)=c':=by kernel_rfl) (hR:σR.all (λq=>q.2.isSome)=true:=by kernel_rfl):oJ P gl fid gs σR c g (zO L c U) c':=by
 intro o st y xs ats fst cap ho hd hf d hgl hq hsc
 have j:=hin.get
 have hgetR:∀i o,ag σR i=some o->ag st.σ i=some o:=λi o hh=>by
  have:∀l:aQ,(∀q∈l,q∈σR)->ag l i=some o->ag st.σ i=some o:=by
   intro l;induction l with
   |nil=>intro _ h;cases h
   |cons q t ih=>
    intro hs h;rw[show(q::t:aQ)=(q.1,q.2)::t from rfl,Bc] at h;split at h
    .rename_i e;subst e;rw[hq q (hs q aC)];exact h
    .exact ih (λx hx=>hs x (by simp[hx])) h
  exact this σR (λ_ h=>h) hh
 have key:=MD (o:=o) (st:=st) (f:=y) (xs:=xs) (ats:=ats) (fid:=fid) (fst:=fst) (cap:=cap) L (gs0:=gs0) (σ0:=σ0) (r:=r) (σ1:=σ1) (c1:=c1) ho hd hf (by rw[hgl];exact hM) (λk i hk=>by
   have:=Hd.1 hlt i (bO hk);rw[hsc];exact E7 this) (DS hnd) (by rw[d,hgs]) (λk i hk=>by
   obtain⟨o,o0,h1,h2,h3⟩:=j k i hk;rw[Nat.zero_add] at h2;exact⟨o,o0,hgetR i o h1,h2,h3⟩) (λk o hkk=>by
   have:∀l:aQ,(∀q∈l,q∈σ0)->ag l k=some o->k<L.length:=by
    intro l;induction l with
    |nil=>intro _ h;cases h
    |cons q t ih=>
     intro hs h;rw[show(q::t:aQ)=(q.1,q.2)::t from rfl,Bc] at h;split at h
     .rename_i e;subst e;exact E7 (Hd.1 hk0 q (hs q aC))
     .exact ih (λx hx=>hs x (by simp[hx])) h
   exact this σ0 (λ_ h=>h) hkk) (zO L c U++st.σ) (λi o hh=>by
   have:∀l:aQ,(∀q∈l,q∈U)->ag (zO L c l++st.σ) i=some o->(∃k,(k,some o)∈U/\G4 L c k=some i)\/(ag st.σ i=some o/\∀q∈l,G4 L c q.1≠some i):=by
    intro l;induction l with
    |nil=>intro _ h;exact .inr ⟨h,λq hq=>by cases hq⟩
    |cons q t ih=>
     intro hs h;obtain⟨n,hi'⟩:=Gl L c q.1;rw[show zO L c (q::t)++st.σ=((G4 L c q.1).getD 0,q.2)::(zO L c t++st.σ) from rfl,hi',M1,Bc] at h;split at h
     .rename_i e;subst e;exact .inl ⟨q.1,by rw[<-h];exact hs q aC,hi'⟩
     .rename_i hne;rcases ih (λx hx=>hs x (by simp[hx])) h with h|⟨h,h2⟩
      .exact .inl h
      .refine .inr ⟨h,λx hx=>?_⟩;rcases EH.1 hx with rfl|hx
       .rw[hi'];intro e;cases e;exact hne rfl
       .exact h2 x hx
   rcases this U (λ_ h=>h) hh with⟨k,a,h1⟩|⟨h1,h2⟩
   .obtain⟨m,e1,e2⟩:=b.get k o a;exact .inl ⟨k,m,by rw[hsc];exact h1,e1,by rw[hsc];exact e2⟩
   .refine .inr ⟨h1,λhi=>?_⟩;obtain⟨k,hk⟩:=He hi;have hkl:=(cr hk).1;obtain⟨q,a,he⟩:=List.any_eq_true.1 (Hd.1 hcov k (List.mem_range.2 hkl));refine h2 q a ?_;rw[bc he];unfold G4;rw[hk])
 have:=key.gs (st':={st with σ:=zO L c U++st.σ,c:=c'}.put o.dst g) λs hs=>by rw[hs,hsc,hg,hc]
 exact this
def tN(d:Nat)(L:Bq)(c:Nat)(σR:aQ)(gs:Bj)(U:aQ){gl:Cd}{fid:FuncId}{gs0:Bj}{σ0 σ1:aQ}{r:G}{c1:Nat}(hM:jg P gl fid gs0 σ0 L.length r σ1 c1)
  (hin:w6 (vi L) σR σ0 0 L) (a:oI (G4 L c) σ1 U) (hlt:L.all (λi=>Nat.blt i c)=true:=by kernel_rfl) (hnd:decide L.Nodup=true:=by kernel_rfl) (hgs:gs.map (qg (vi L) 20)=gs0:=by kernel_rfl)
  (hk0:σ0.all (λq=>Nat.blt q.1 L.length)=true:=by kernel_rfl) (hcov:(List.range L.length).all (λk=>U.any λq=>Nat.beq q.1 k)=true:=by kernel_rfl) (hR:σR.all (λq=>q.2.isSome)=true:=by kernel_rfl):HP:=
 hz d L (P:=P) (gl:=gl) (f:=fid) (gs:=gs) (σR:=σR) (c:=c) (g:=qg (G4 L c) 20 r) (U:=zO L c U) (c':=c+(c1-L.length)) (YS L U hM hin a hlt hnd hgs hk0 hcov rfl rfl hR)
structure R2 (P:Br) (w:World) (β:Bm) (S:Ft) (σ0:aQ) (p:Nat) (r:G) (σ1:aQ) (v:Value) (w':World) (β':Bm):Prop where
 pin:∀i ob,i<p->ag σ0 i=some ob->β' i=β i
 rs:RS P β' S σ1 w'
 old:∀b,GG β' σ1 b->GG β σ0 b\/w.heap.size<=b
 val:RV β' (Av S β' σ1) w' r v
 keep:Ba (GG β σ0) w w'
def SE(P:Br)(gl:Cd)(f:FuncId)(gs:Bj)(σ0:aQ)(c0 p:Nat)(r:G)(σ1:aQ):Prop:=
 ∀(w:World) (β:Bm) (S:Ft) (vs:Array Value),(∀b,S b->b<w.heap.size)->(∀i,c0<=i->β i=none)->Gls gl (Av S β σ0) w->RS P β S σ0 w->vs.size=gs.length->(∀(i:Nat) (g:G) (u:Value),gs[i]?=some g->vs[i]?=some u->RV β (Av S β σ0) w g u)->
  Calls P f vs w λe w'=>∃v a,e= .returned v/\R2 P w β S σ0 p r σ1 v w' a
theorem AdQ{gl:Cd}{c:Code}{σ0 σ1:aQ}{c0:Nat}(hf:P.funcs[f]?=some fn)(hb:fn.body=some c)(hn:gs.length<=fn.ntmps)(h:Tr P c ⟨fn.ntmps,gl,bQ 0 gs,σ0,c0,p,false⟩ (zE P fn r σ1)):SE P gl f gs σ0 c0 p r σ1:=by
 intro w β S vs hS hβ hG hR hsz s;have hlive:∀i o,ag σ0 i=some o->∃x,β i=some x:=by grind [RS,RO.at]
 refine rq (cx:=⟨w,GG β σ0,S,λi=>if i<p then β i else none,Fence.wide,9⟩) hf hb h rfl rfl ⟨β,?_⟩ ?_
 .constructor<;>try grind [D7.nil,lP,RS.ob,RS.inj,RS.sep,Ba.refl]
  .exact λ_=>rfl
  .exact λi=>by
    show RV _ _ w (aD (bQ 0 gs) i) _;rw[px];simp only[Nat.zero_le,if_true,Nat.sub_zero];cases hg:gs[i]? with
    |none=>exact .junk _
    |some g=>
     have hlt:=(cr hg).1;have hu:vs[i]?=some (vs[i]'aa):=by grind
     have e:(vs++Array.replicate (fn.ntmps-vs.size) undef).getD i undef=vs[i]'aa:=by rw[Array.getD_eq_getD_getElem?,Array.getElem?_append_left aa,hu];rfl
     grind
  .exact λi o b C ho hb=> .inl ⟨i,o,C,ho,hb⟩
  .exact hG
 .rintro e st' a' w' ⟨he,t,ρ,hgs,d,hinj,hw,hst⟩ ⟨l,hr⟩;obtain⟨v,hres,hv⟩:=mP hr hgs;have hp':∀i ob,i<p->ag σ0 i=some ob->i<st'.p/\l i=β i:=by grind
  obtain⟨c',k⟩:∃c',∀q∈ρ,q.1<c':=by refine⟨(ρ.map (·.1)).foldr (λa b=>max (a+1) b) 0,λq hq=>?_⟩;clear hinj hw hst d;induction ρ<;>grind
  have hw':=Bw.weaken (st:=st') (st':=⟨st'.n,st'.gl,[],σ1,c',st'.p,st'.r⟩) ρ rfl rfl rfl d hinj k HQ hst rfl hr;have hpost:R2 P w β S σ0 p r σ1 v w' (λi=>(dq ρ i).bind l):={
   pin:=by grind
   rs:=⟨hw'.ob,hw'.inj,hw'.sep⟩
   old:=by rintro b ⟨i,ob,C,ho,hb⟩;grind
   val:=(hw _ _ _ l hr v hv).step (by grind) (λb _ hb=>by
    rcases hb with hb|⟨i,m,C,h1,h2⟩
    .exact .inl hb
    .obtain⟨j,ob,h3,h4,_⟩:=hst i m h1;grind) (Ba.refl _ _)
   keep:=hr.keep}
  grind
def kO(σ0:aQ)(L:Bq)(p nn c k:Nat):Fs:=bif Nat.blt k p then(match ag σ0 k with|some _=>L[k]? |none=>none)else bif Nat.blt k (p+nn)then some (c+(k-p))else none
theorem Aix{σ0:aQ}{ob:Ob}(h:k<p)(ho:ag σ0 k=some ob):kO σ0 L p nn c k=L[k]? :=by unfold kO;rw[show Nat.blt k p=true from Re h,ho];rfl
theorem Ajm{σ0:aQ}(h:k<p)(e:kO σ0 L p nn c k=some i):L[k]?=some i/\∃ob,ag σ0 k=some ob:=by unfold kO at e;rw[show Nat.blt k p=true from Re h,ax] at e;grind
theorem Ali{σ0:aQ}(h:p<=k)(e:kO σ0 L p nn c k=some i):i=c+(k-p)/\k<p+nn:=by
 unfold kO at e;rw[show Nat.blt k p=false from by cases hb:Nat.blt k p with|false=>rfl|true=>exact absurd (E7 hb) aa] at e;cases hb:Nat.blt k (p+nn) with
 |false=>grind
 |true=>simp_all
theorem Ajn{o:Oper}{st:St}{f:Dk}{xs:Array Dk}{ats:Array Bn}{fid:FuncId}{fst cap:Bj}(L:Bq)(p nn:Nat){gs0:Bj}{σ0:aQ}{σ1:aQ}(ho:o.op= .call {callee:= .value f,args:=xs,argTypes:=ats})(hd:Ly o st.n)(hf:aB st f= .clo (.func fid) fst cap)(hc:aK P fid=true)
  (hM:SE P st.gl fid gs0 σ0 L.length p r σ1) (hL:∀(k i:Nat),L[k]?=some i->i<st.c) (hnd:L.Nodup) (hgs:gs0=(fst++xs.toList.map (aB st)++cap).map (qg (vi L) 20))
  (hin:∀k o0,ag σ0 k=some o0->∃i o,L[k]?=some i/\ag st.σ i=some o/\MB (vi L) o o0)
  (τ:aQ) (s:∀i o,ag τ i=some o->(∃k d,kO σ0 L p nn st.c k=some i/\ag σ1 k=some d/\MB (kO σ0 L p nn st.c) d o)\/(ag st.σ i=some o/\i∉L)):
  GS P o st ({st with σ:=τ,c:=st.c+nn}.put o.dst (qg (kO σ0 L p nn st.c) 20 r)):=by
 intro cx a w K R ⟨β,h⟩ z
 obtain⟨vs,hrun,hsz,hv⟩:=lQ h ho hf hc
 refine h.loose.oper (by grind) ?_
 unfold Oper.wp
 rw[hrun]
 have hlive:∀i o,ag st.σ i=some o->∃x,β i=some x:=by grind [RO.at]
 have hbound:∀i o,ag st.σ i=some o->i<st.c:=by grind
 obtain⟨m,F⟩:∃m:Bm,m=λk=>match L[k]? with|some i=>β i|none=>none:=⟨_,rfl⟩
 have b0:∀{k i:Nat},L[k]?=some i->m k=β i:=by grind
 have b0n:∀{k:Nat},L.length<=k->m k=none:=by grind
 obtain⟨Hid,y⟩:∃Hid:Ft,Hid=λb=>cx.S0 b\/∃i ob C,ag st.σ i=some ob/\β i=some (some (b,C))/\i∉L:=⟨_,rfl⟩
 have hlivS:∀b,GG m σ0 b->∃i o C,i∈L/\ag st.σ i=some o/\β i=some (some (b,C)):=λb ⟨k,ob,C,h1,h2⟩=>by grind
 have hav0:∀b,Av Hid m σ0 b->Av cx.S0 β st.σ b:=by grind
 have kin:∀i k,vi L i=some k->m k=β i:=by grind [QX]
 have hRS:RS P m Hid σ0 w:={
  ob:=λk o0 hk=>by obtain⟨i,o,g1,g2,q⟩:=hin k o0 hk;exact U8 kin ((h.ob i o g2).step (by grind) (by grind) (Ba.refl _ _) (by grind)) q (b0 g1)
  inj:=λk1 k2 d A b C D h1 h2 h3 h4=>by obtain⟨i1,q1,g1,g2,_⟩:=hin k1 d h1;obtain⟨J,N,e1,e2,_⟩:=hin k2 A h2;grind [List.getElem?_inj]
  sep:=by grind}
 have hsz0:vs.size=gs0.length:=by grind
 refine(hM w m Hid vs (λb hb=>?_) (by grind) (λg l hl=>(by grind [IV.sub])) hRS hsz0 (λi g u hg hu=>?_)).mono ?_
 .grind [Bw.lt]
 .rw[hgs,Nl] at hg
  cases hx:(fst++xs.toList.map (aB st)++cap)[i]? with
  |none=>grind
  |some x=>
   rw[hx] at hg
   simp only[Option.map_some,Fk] at hg
   subst hg
   exact IG kin 20 x u ((hv i x u hx hu).step (by grind) (by grind) (Ba.refl _ _))
 rintro e w' ⟨v,t,rfl,M⟩
 obtain⟨β2,H⟩:∃β2:Bm,β2=λi=>if i<st.c then β i else if i<st.c+nn then t (p+(i-st.c))else none:=⟨_,rfl⟩
 have b2:∀{i:Nat},i<st.c->β2 i=β i:=by grind
 have key:∀k i,kO σ0 L p nn st.c k=some i->β2 i=t k:=λk i hk=>by
  rcases HU k p with hp|hp
  .obtain⟨hk,ob,ho⟩:=Ajm hp hk;grind [R2.pin]
  .obtain⟨rfl,h2⟩:=Ali hp hk;grind
 have kfn:∀{k i j:Nat},kO σ0 L p nn st.c k=some i->kO σ0 L p nn st.c k=some j->i=j:=by grind
 have hext:∀i x,β i=some x->β2 i=some x:=by grind
 have hblk:∀i o b C,ag st.σ i=some o->β2 i=some (some (b,C))->β i=some (some (b,C)):=by grind
 have hav:∀b,Av cx.S0 β2 τ b->Av Hid t σ1 b:=by grind
 have hAo:∀b,b<w.heap.size->Av cx.S0 β2 τ b->Av cx.S0 β st.σ b:=by
  intro b hlt hb;rcases hav b hb with hb|hb
  .grind
  .rcases M.old b hb with hb|hb
   all_goals grind
 have hkp:Ba (Av cx.S0 β st.σ) w w':=by grind [R2,Ba.mono]
 have hframe:∀i o b C,ag st.σ i=some o->i∉L->β i=some (some (b,C))->w'.heap[b]?=w.heap[b]? :=by grind [R2,Bw.lt]
 have hback:Bw P cx {st with σ:=τ,c:=st.c+nn} a w' β2:={
  size:=h.size
  defers:=by grind [R2,D7.keep,Bw.not_marks]
  loose:=h.loose
  rnd:=h.rnd
  fr:=by grind [RV.step]
  ob:=λi o ho=>by
   rcases s i o ho with⟨k,d,g1,g2,q⟩|⟨g1,g2⟩
   .exact U8 key ((M.rs.ob k d g2).step (by grind) (by grind) (Ba.refl _ _) (by grind)) q (key k i g1)
   grind [RO.step]
  inj:=λi j o I b C D hi hj hbi B=>by
   rcases s i o hi with⟨k,d,g1,g2,q⟩|⟨g1,g2⟩<;>rcases s j I hj with⟨k',E,e1,e2,e3⟩|⟨e1,e2⟩
   .grind [R2,RS.inj]
   all_goals grind [R2,RS.sep]
  own:=λi o b C hi hbi=>by
   rcases s i o hi with⟨k,d,g1,g2,q⟩|⟨g1,g2⟩
   .rw[key k i g1] at hbi;rcases M.old b ⟨k,d,C,g2,hbi⟩ with hb|hb
    all_goals grind
   grind
  sep:=by grind [R2,RS.sep]
  fresh:=by grind
  glob:=by grind [IV.stepC,Ba.cells]
  keep:=by grind [R2,Ba.then]
  old:=h.old
  pin:=by grind}
 have hval:RV β2 (Av cx.S0 β2 τ) w' (qg (kO σ0 L p nn st.c) 20 r) v:=IG key 20 _ v (M.val.step (by grind) (by grind) (Ba.refl _ _))
 exact z _ _ ⟨β2,hback.put o.dst hd hval⟩
def InP(κ:Nat->Fs)(L:Bq)(σR σ0:aQ):Prop:=∀k o0,ag σ0 k=some o0->∃i o,L[k]?=some i/\ag σR i=some o/\MB κ o o0
def Abi(κ:Nat->Fs)(σ1 U:aQ):Prop:=∀i o,ag U i=some o->∃k a,κ k=some i/\ag σ1 k=some a/\MB κ a o
theorem VG{σR σ:aQ}(hq:∀q∈σR,ag σ q.1=q.2)(h:ag σR i=some o):ag σ i=some o:=by
 induction σR with
 |nil=>cases h
 |cons q t ih=>grind
def Aci(L:Bq):aQ:=L.map λi=>(i,none)
theorem AdR{U σ:aQ}(h:ag (U++(Aci L++σ)) i=some o):ag U i=some o\/(ag σ i=some o/\i∉L):=by
 induction U with
 |nil=>right;unfold Aci at h;induction L<;>grind
 |cons q t ih=>grind
theorem Ajp{gl:Cd}{gs0 gs:Bj}{σ0 σ1 σR:aQ}{r g:G}{c c':Nat}(L:Bq)(p nn:Nat)(U:aQ)(hM:SE P gl fid gs0 σ0 L.length p r σ1)(hc:aK P fid=true)
  (hin:InP (vi L) L σR σ0) (a:Abi (kO σ0 L p nn c) σ1 U) (hlt:L.all (λi=>Nat.blt i c)=true:=by kernel_rfl) (hnd:decide L.Nodup=true:=by kernel_rfl) (hgs:gs.map (qg (vi L) 20)=gs0:=by kernel_rfl)
  (hg:qg (kO σ0 L p nn c) 20 r=g:=by kernel_rfl) (d:c+nn=c':=by kernel_rfl):oJ P gl fid gs σR c g (U++Aci L) c':=by
 intro o st y xs ats fst cap ho hd hf b hgl hq hsc
 subst hsc
 have key:=Ajn (o:=o) (st:=st) (f:=y) (xs:=xs) (ats:=ats) (fid:=fid) (fst:=fst) (cap:=cap) L p nn ho hd hf hc (by rw[hgl];exact hM) (λk i hk=>E7 (Hd.1 hlt i (bO hk))) (DS hnd) (by rw[b,hgs]) (λk o0 hk=>by
   obtain⟨i,o,h1,h2,h3⟩:=hin k o0 hk;grind [VG]) (U++(Aci L++st.σ)) (λi o hh=>by
   rcases AdR hh with h|h
   .exact .inl (a i o h)
   .exact .inr h)
 grind
def hfm(d:Nat)(L:Bq)(p nn c:Nat)(σR:aQ)(gs:Bj)(U:aQ){gl:Cd}{fid:FuncId}{gs0:Bj}{σ0 σ1:aQ}{r:G}(hM:SE P gl fid gs0 σ0 L.length p r σ1)
  (hin:InP (vi L) L σR σ0) (a:Abi (kO σ0 L p nn c) σ1 U) (hc:aK P fid=true:=by kernel_rfl) (hlt:L.all (λi=>Nat.blt i c)=true:=by kernel_rfl) (hnd:decide L.Nodup=true:=by kernel_rfl) (hgs:gs.map (qg (vi L) 20)=gs0:=by kernel_rfl):HP:=
 hz d L (P:=P) (gl:=gl) (f:=fid) (gs:=gs) (σR:=σR) (c:=c) (g:=qg (kO σ0 L p nn c) 20 r) (U:=U++Aci L) (c':=c+nn) (by grind [Ajp])
theorem dFP{gl:Cd}{σ0 σ1:aQ}{c0 p:Nat}{r:G}(hf:P.funcs[f]?=some fn)(h:Gp P fn (zE P fn r σ1) [] false [] ⟨fn.ntmps,gl,bQ 0 gs,σ0,c0,p,false⟩)(hb:fn.body.isSome=true:=by kernel_rfl)(hn:Nat.ble gs.length fn.ntmps=true:=by kernel_rfl):SE P gl f gs σ0 c0 p r σ1:=
 AdQ hf (c:=ai fn) (by unfold ai;cases hx:fn.body<;>grind) (E7 hn) (Tr.leQ (by exact h))
theorem Y2{st:St}{clock:Nat}{l:Bj}{es:List (Value×G×Nat)}{vs:Bj}(ho:ag st.σ i=some ⟨t,l,some (.map es clock)⟩)(hl:vs.length=es.length)(hi:∀(j:Nat) (e:Value×G×Nat) (g:G),es[j]?=some e->vs[j]?=some g->ve P st e.2.1 g):ve P st (.mref i) (.mp (es.map (·.1)) vs (es.map (·.2.2)) clock):=λcx a w β r v hv=>by
 obtain⟨b,C,hb,rfl⟩:=hv.mref_form;rcases r.ob i _ ho with⟨_,_,h3⟩|⟨b',x,o,h1,h2,h3,h4,h5⟩|⟨b',C',cur,h1,_⟩
 .grind
 .cases h1;have c:=hb;rw[h3] at hb;cases hb;obtain⟨ents,rfl,e2,e3⟩:=h5;refine .mp _ _ _ _ _ ents (r.sep i _ _ _ ho c) (r.lt ho c) h4 aa ?_ ?_ λj g e hg he=>?_
  .apply List.ext_getElem?;grind
  .apply List.ext_getElem?;grind
  .have hlt:=(cr hg).1;obtain⟨⟨k,d,n⟩,hj⟩:∃q,es[j]?=some q:=⟨_,Ef aa⟩;obtain⟨e',h6,h7,h8,h9⟩:=e3 j k d n hj;rw[he] at h6;cases h6;exact hi j _ g hj hg cx a w β r _ h9
 .cases h1
theorem Ot{K V:Type}{kv:K->Value}{vg vf:V->G}{m:FM K V}(ho:ag st.σ i=some ⟨t,[],some (.map (m.es.map λe=>(kv e.1,vg e.2.1,e.2.2)) m.clk)⟩)(h:∀e∈m.es,ve P st (vg e.2.1) (vf e.2.1)):ve P st (.mref i) (m.g kv vf):=by
 have:=Y2 (P:=P) (vs:=m.es.map λe=>vf e.2.1) ho aC λj e g h1 h2=>by rw[Nl,DF] at h1 h2;obtain⟨x,hx,rfl⟩:=h1;obtain⟨y,hy,rfl⟩:=h2;rw[hx] at hy;cases hy;exact h x (bO hx)
 rw[It,It] at this;exact this
theorem Ou{gl:Cd}{gs gs':Bj}{σR:aQ}{g:G}{c:Nat}(hc:aK P fid=true)(hF:ba P gl fid gs' g)(hr:XL g)(hl:gs'.length=gs.length)(hz:∀st:St,(∀i o,ag σR i=some o->ag st.σ i=some o)->∀(i:Nat) (x y:G),gs[i]?=some x->gs'[i]?=some y->ve P st x y):oJ P gl fid gs σR c g [] c:=λo st y xs ats fst cap ho hd hx hgs hgl b a=>by subst hgs;subst hgl;subst a;exact Ai ho hd hx hc hl (by grind [VG]) hF hr
abbrev tRl:Bn:=119
abbrev tMc:Bn:=116
abbrev Y3:Bn:=115
abbrev V2:Bn:=117
abbrev tMv:Bn:=189
abbrev tMe:Bn:=188
abbrev tGu:Bn:=191
abbrev Acs:G:= .lit (.pointer none)
abbrev cdG(x:DP):G:= .agg (bv x)
def nM(k:Int):Nat:=4+k.toNat
abbrev Wf(f:Nat->Nat)(m:FM Int AA):List (Value×G×Nat):=m.es.map λe=>(JM e.1,.ref (f (nM e.1)) 0,e.2.2)
def gpG(f:Nat->Nat)(k:Nat)(x:AA):G:=match x.guard with
 |none=>Acs
 |some _=> .ref (f (7+k)) 0
def guC(f:Nat->Nat)(k:Nat)(x:CA):Bj:=[iG x.id.By,iG x.id.Seq,uG x.id.Sum,aE cZ x.guards,iG x.need,iG x.wait,.mref (f (10+k)),bG x.objected,iG x.last]
def roM(f:Nat->Nat)(R:Ad)(k:Nat):Option Ob:=(R.members.get (k:Int)).map λx=>⟨tMe,[iG x.role,gpG f k x],none⟩
def roG(f:Nat->Nat)(R:Ad)(k:Nat):Option Ob:=((R.members.get (k:Int)).bind (·.guard)).map λx=>⟨tGu,guC f k x,none⟩
def roV(R:Ad)(k:Nat):Option Ob:=((R.members.get (k:Int)).bind (·.guard)).map λx=>Nh tMv BX iG x.vouches
abbrev roR(f:Nat->Nat)(R:Ad):Ob:=⟨tRl,[.mref (f 1),.mref (f 2),.mref (f 3),.mref (f 4),iG R.back],none⟩
abbrev Sf(f:Nat->Nat)(R:Ad):Ob:=⟨V2,[],some (.map (Wf f R.members) R.members.clk)⟩
def Bv(f:Nat->Nat)(R:Ad):Nat->Option Ob
 |0=>some (roR f R)
 |1=>some (Nh tMc JM cdG R.cards)
 |2=>some (Nh Y3 JM bG R.in_)
 |3=>some (Nh Y3 JM bG R.was)
 |4=>some (Sf f R)
 |5=>roM f R 1
 |6=>roM f R 2
 |7=>roM f R 3
 |8=>roG f R 1
 |9=>roG f R 2
 |10=>roG f R 3
 |11=>roV R 1
 |12=>roV R 2
 |13=>roV R 3
 |_=>none
abbrev BG(f:Nat->Nat)(R:Ad):aQ:=[(f 0,some (roR f R)),(f 1,some (Nh tMc JM cdG R.cards)),(f 2,some (Nh Y3 JM bG R.in_)),(f 3,some (Nh Y3 JM bG R.was)),(f 4,some (Sf f R)),(f 5,roM f R 1),(f 6,roM f R 2),(f 7,roM f R 3),(f 8,roG f R 1),(f 9,roG f R 2),(f 10,roG f R 3),(f 11,roV R 1),(f 12,roV R 2),(f 13,roV R 3)]
structure Bh (R:Ad):Prop where
 ci:RT R.in_
 cw:RT R.was
 cm:RT R.members
 m3:∀e∈R.members.es,1<=e.1/\e.1<=3
 c3:∀d,0<=(DV (R.cards.get d)).Member/\(DV (R.cards.get d)).Member<=3
 cv:∀k x g,R.members.get k=some x->x.guard=some g->RT g.vouches
 gm:∀k x g,R.members.get k=some x->x.guard=some g->(DV (R.cards.get g.id.By)).Member=k
 gN:∀k x g,R.members.get k=some x->x.guard=some g->1<=g.need/\g.need<=1000000
 vb:∀k x g,R.members.get k=some x->x.guard=some g->∀e∈g.vouches.es,1<=e.1.by_/\e.1.by_<=6
 i6:∀e∈R.in_.es,1<=e.1/\e.1<=6
 c6:∀d,0<(DV (R.cards.get d)).Member->1<=d/\d<=6
 gn:∀k x g,R.members.get k=some x->x.guard=some g->g.guards.length<=1000000
theorem Bh.mem{R:Ad}(h:Bh R){e:Int×AA×Nat}(he:e∈R.members.es):R.members.get e.1=some e.2.1/\(e.1=1\/e.1=2\/e.1=3):=by grind [Bh,JH]
def Rls(f:Nat->Nat)(R:Ad)(σ:aQ):Prop:=∀k ob,Bv f R k=some ob->ag σ (f k)=some ob
theorem DY{f:Nat->Nat}{R:Ad}{k:Nat}{ob:Ob}(h:Bv f R k=some ob):k<14:=by
 rcases HU k 14 with h1|h1
 .exact h1
 .exact absurd h (by obtain⟨j,rfl⟩:∃j,k=j+14:=⟨k-14,aa⟩;intro e;cases e)
theorem Nw:∀{l l':Bj},l'.length=l.length->(∀p∈l.zip l',ve P st p.1 p.2)->∀(j:Nat) (g g':G),l[j]?=some g->l'[j]?=some g'->ve P st g g':=λ{l l'} _ h j g g' h1 h2=>h (g,g') (bO (i:=j) (by grind))
theorem AfC{f:Nat->Nat}{R:Ad}(hR:Bh R)(h:Rls f R st.σ):ve P st (.ref (f 0) 0) (.ptr (CB R) 0):=by
 have hv:∀k:Nat,k=1\/k=2\/k=3->∀x g,R.members.get (k:Int)=some x->x.guard=some g->ve P st (.ref (f (7+k)) 0) (.ptr (Pv g) 0):=λk hk x g hx hg=>by
  have h1:ag st.σ (f (7+k))=some ⟨tGu,guC f k g,none⟩:=by refine h (7+k) _ ?_;rcases hk with rfl|rfl|rfl<;>(show(Option.bind _ _).map _=_;grind)
  have h2:ag st.σ (f (10+k))=some (Nh tMv BX iG g.vouches):=by refine h (10+k) _ ?_;rcases hk with rfl|rfl|rfl<;>(show(Option.bind _ _).map _=_;grind)
  refine Mb h1 (Dx _) (Nw rfl λp hp=>?_);simp only[guC,Pv,List.zip_cons_cons,List.zip_nil_right,EH,Lu,or_false] at hp;rcases hp with rfl|rfl|rfl|rfl|rfl|rfl|rfl|rfl|rfl
  .exact jB (mN _)
  .exact jB (mN _)
  .exact jB (mN _)
  .exact jB (FC _ _)
  .exact jB (mN _)
  .exact jB (mN _)
  .exact Ot h2 λe _=>jB (mN _)
  all_goals grind [jB,mN]
 refine Mb (h 0 _ rfl) (Dx _) (Nw rfl λp hp=>?_);simp only[CB,List.zip_cons_cons,List.zip_nil_right,EH,Lu,or_false] at hp;rcases hp with rfl|rfl|rfl|rfl|rfl
 .exact Ot (h 1 _ rfl) λe _=>jB (L6 λg hg=>by simp only[bv,EH,Lu,or_false] at hg;rcases hg with rfl|rfl|rfl|rfl|rfl<;>exact mN _)
 .exact Ot (h 2 _ rfl) λe _=>jB (mN _)
 .exact Ot (h 3 _ rfl) λe _=>jB (mN _)
 .have h4:=h 4 _ rfl;have:=Y2 (P:=P) (st:=st) (vs:=R.members.es.map λe=> .ptr (Fv e.2.1) 0) h4 aC λj e g h1 h2=>by
   rw[Nl,DF] at h1 h2;obtain⟨x,hx,rfl⟩:=h1;obtain⟨y,hy,rfl⟩:=h2;rw[hx] at hy;cases hy;obtain⟨m1,m2⟩:=hR.mem (bO hx);obtain⟨k,hk,a⟩:∃k:Nat,x.1=(k:Int)/\(k=1\/k=2\/k=3):=by grind
   rw[hk] at m1;have hn:nM x.1=4+k:=by unfold nM;omega
   have h5:ag st.σ (f (4+k))=some ⟨tMe,[iG x.2.1.role,gpG f k x.2.1],none⟩:=by refine h (4+k) _ ?_;rcases a with rfl|rfl|rfl<;>(show Option.map _ _=_;rw[m1];rfl)
   show ve P st (.ref (f (nM x.1)) 0) _;rw[hn];refine Mb h5 (Dx _) (Nw rfl λp hp=>?_);grind [Fv,List.zip_cons_cons,List.zip_nil_right,jB,mN,gpG,npG]
  unfold FM.g;rw[It,It] at this;exact this
 .exact jB (mN _)
theorem PL{κ:Nat->Fs}{f f':Nat->Nat}{R:Ad}(hκ:∀k,(∃ob,Bv f R k=some ob)->κ (f k)=some (f' k))(hR:Bh R)(k:Nat):XU κ (Bv f R k) (Bv f' R k):=λa h=>by
 have hk:=DY h;have hr:∀k,(∃ob,Bv f R k=some ob)->qg κ 20 (.ref (f k) 0)= .ref (f' k) 0:=λk hk=>by simp only[qg,hκ k hk]
 have hm:∀k,(∃ob,Bv f R k=some ob)->qg κ 20 (.mref (f k))= .mref (f' k):=λk hk=>by simp only[qg,hκ k hk]
 have pm:∀(k:Nat) x,k=1\/k=2\/k=3->R.members.get (k:Int)=some x->∃ob,Bv f R (4+k)=some ob:=λk x hk hx=>by rcases hk with rfl|rfl|rfl<;>exact⟨_,(by show Option.map _ _=_;rw[hx];rfl)⟩
 have pg:∀(k:Nat) x,k=1\/k=2\/k=3->(R.members.get (k:Int)).bind (·.guard)=some x->(∃ob,Bv f R (7+k)=some ob)/\∃ob,Bv f R (10+k)=some ob:=λk x hk hx=>by rcases hk with rfl|rfl|rfl<;>exact⟨⟨_,(by show Option.map _ _=_;rw[hx];rfl)⟩,⟨_,(by show Option.map _ _=_;rw[hx];rfl)⟩⟩
 have hmem:∀k,k=1\/k=2\/k=3->XU κ (roM f R k) (roM f' R k):=λk hk a h=>by
  unfold roM at h⊢;rw[DF] at h;obtain⟨x,hx,rfl⟩:=h;rw[hx];refine⟨_,rfl,rfl,.inl ?_⟩;show[iG x.role,gpG f' k x]=[iG x.role,qg κ 20 (gpG f k x)];unfold gpG;cases hg:x.guard with
  |none=>rfl
  |some g=>grind
 have hgu:∀k,k=1\/k=2\/k=3->XU κ (roG f R k) (roG f' R k):=λk hk a h=>by unfold roG at h⊢;rw[DF] at h;obtain⟨x,hx,rfl⟩:=h;rw[hx];refine⟨_,rfl,rfl,.inl ?_⟩;show guC f' k x=(guC f k x).map (qg κ 20);unfold guC;simp only[Fa,List.map_nil,hm (10+k) (pg k x hk hx).2];rfl
 have hvo:∀k,XU κ (roV R k) (roV R k):=λk a h=>by refine⟨a,h,rfl,?_⟩;unfold roV at h;rw[DF] at h;obtain⟨x,hx,rfl⟩:=h;exact⟨rfl,rfl,rfl,.inr ⟨rfl,QO λv=>mN _⟩⟩
 match k,hk with
 |0,_=>cases h;refine⟨_,rfl,rfl,.inl ?_⟩;simp only[Fa,List.map_nil,hm 1 ⟨_,rfl⟩,hm 2 ⟨_,rfl⟩,hm 3 ⟨_,rfl⟩,hm 4 ⟨_,rfl⟩];rfl
 |1,_=>cases h;exact⟨_,rfl,rfl,rfl,rfl,rfl,.inr (by grind [L6,bv,mN])⟩
 |2,_=>cases h;exact⟨_,rfl,rfl,rfl,rfl,rfl,.inr ⟨rfl,QO λv=>mN _⟩⟩
 |3,_=>cases h;exact⟨_,rfl,rfl,rfl,rfl,rfl,.inr ⟨rfl,QO λv=>mN _⟩⟩
 |4,_=>cases h;refine⟨_,rfl,rfl,rfl,rfl,rfl,.inl ?_⟩;rw[It];refine List.map_congr_left λe he=>?_;obtain⟨h1,h2⟩:=hR.mem he;show _=(_,qg κ 20 (.ref (f (nM e.1)) 0),_);rw[hr (nM e.1) (by rcases h2 with h2|h2|h2<;>rw[h2] at h1⊢<;>exact pm _ _ aC h1)]
 |5,_=>exact hmem 1 aa a h
 |6,_=>exact hmem 2 aa a h
 |7,_=>exact hmem 3 aa a h
 |8,_=>exact hgu 1 aa a h
 |9,_=>exact hgu 2 aa a h
 |10,_=>exact hgu 3 aa a h
 |11,_=>exact hvo 1 a h
 |12,_=>exact hvo 2 a h
 |13,_=>exact hvo 3 a h
theorem LA{f:Nat->Nat}{g:Nat->Option Ob}:∀{l:Bq} {k:Nat},(∀a∈l,∀b∈l,f a=f b->a=b)->k∈l->ag (l.map λk=>(f k,g k)) (f k)=g k
 |[],k,_,h=>by cases h
 |x::r,k,hi,h=>by
  rw[Fa,Bc];split
  .grind
  .rename_i hne;rcases EH.1 h with rfl|h
   .exact absurd rfl hne
   .exact LA (by grind) h
theorem LB{f:Nat->Nat}{g:Nat->Option Ob}{i:Nat}{o:Ob}:∀{l:Bq},ag (l.map λk=>(f k,g k)) i=some o->∃k∈l,f k=i/\g k=some o
 |[],h=>by cases h
 |x::r,h=>by
  rw[Fa,Bc] at h;split at h
  .grind
  .obtain⟨k,h1,h2⟩:=LB h;grind
abbrev L0:Bq:=[0,1,2,3,4,5,6,7,8,9,10,11,12,13]
abbrev Xi(f:Nat->Nat):Bq:=L0.map f
abbrev f0:Nat->Nat:=λk=>k
theorem Hw(f:Nat->Nat)(R:Ad):BG f R=(List.range 14).map λk=>(f k,Bv f R k):=rfl
theorem JX{R:Ad}:ag (BG f0 R) k=some o↔Bv f0 R k=some o:=by
 constructor
 .intro h;rw[Hw] at h;obtain⟨k',_,e,h⟩:=LB h;grind
 .intro h;rw[Hw];have:=LA (f:=f0) (g:=Bv f0 R) (l:=List.range 14) (k:=k) (λa _ b _ e=>e) (List.mem_range.2 (DY h));exact this.trans h
theorem Abu{f:Nat->Nat}(h:k<14):(Xi f)[k]?=some (f k):=by
 rw[Nl,show L0[k]?=some k from by have:=List.getElem?_range (n:=14) h;exact this];rfl
theorem Acu{f:Nat->Nat}(hd:(Xi f).Nodup){a b:Nat}(ha:a<14)(hb:b<14)(e:f a=f b):a=b:=(List.getElem?_inj ha hd).1 (by grind [Abu])
theorem AjE(hd:L.Nodup){k i:Nat}(h:L[k]?=some i):vi L i=some k:=by unfold vi;rw[List.findIdx?_eq_some_iff_getElem];obtain⟨hk,e⟩:=cr h;refine⟨hk,by rw[e];exact Nat.beq_refl i,λj hj hb=>?_⟩;have a:=(List.getElem?_inj aa hd).1 ((Ef (l:=L) (i:=j) aa).trans ((congrArg some (bc hb)).trans h.symm));omega
theorem AiF{f:Nat->Nat}(hd:(Xi f).Nodup){R:Ad}(hR:Bh R):InP (vi (Xi f)) (Xi f) (BG f R) (BG f0 R):=λk o0 h=>by rw[JX] at h;have hk:=DY h;obtain⟨o,h1,h2⟩:=PL (κ:=vi (Xi f)) (f:=f) (f':=f0) (by grind [AjE,Abu,DY]) hR k o0 h;refine⟨_,o,Abu hk,?_,h2⟩;rw[Hw,LA (by grind [Acu]) (List.mem_range.2 hk)];exact h1
theorem AjF{f:Nat->Nat}{R:Ad}(hR:Bh R)(c:Nat):Abi (kO (BG f0 R) (Xi f) 14 0 c) (BG f0 R) (BG f R):=λi o h0=>by
 rw[Hw] at h0;obtain⟨k,hk,e,h⟩:=LB h0;subst e;have hκ:∀k,(∃ob,Bv f0 R k=some ob)->kO (BG f0 R) (Xi f) 14 0 c (f0 k)=some (f k):=by grind [Aix,DY,JX,Abu]
 obtain⟨a,h1,h2⟩:=PL hκ hR k o h;grind [JX]
def fW(f:Nat->Nat)(c k:Nat):Nat:=bif Nat.blt k 5 then f k else c+(k-5)
theorem Ahx{f:Nat->Nat}{R R':Ad}(hR:Bh R')(c:Nat):Abi (kO (BG f0 R) (Xi f) 5 9 c) (BG f0 R') (BG (fW f c) R'):=λi o h0=>by
 rw[Hw] at h0;obtain⟨k,hk,e,h⟩:=LB h0;subst e;have hκ:∀k,(∃ob,Bv f0 R' k=some ob)->kO (BG f0 R) (Xi f) 5 9 c (f0 k)=some (fW f c k):=λk ⟨ob,h⟩=>by
  have hk:=DY h;unfold fW;rcases HU k 5 with h5|h5
  .rw[show Nat.blt k 5=true from Re h5,ax];have:∃ob,Bv f0 R k=some ob:=by
    match k,h5 with
    |0,_=>exact⟨_,rfl⟩
    |1,_=>exact⟨_,rfl⟩
    |2,_=>exact⟨_,rfl⟩
    |3,_=>exact⟨_,rfl⟩
    |4,_=>exact⟨_,rfl⟩
   grind [Aix,JX,Abu]
  .have e:Nat.blt k 5=false:=by
    cases hb:Nat.blt k 5 with
    |false=>rfl
    |true=>exact absurd (E7 hb) aa
   rw[e,AQ];unfold kO;rw[show Nat.blt (f0 k) 5=false from e,show Nat.blt (f0 k) (5+9)=true from Re hk];rfl
 obtain⟨a,h1,h2⟩:=PL hκ hR k o h;grind [JX]
def hrr(d:Nat)(f:Nat->Nat)(c:Nat)(args:Bj){gl:Cd}{fid:FuncId}{args0:Bj}{R:Ad}{r:G}(hR:Bh R)(hM:SE P gl fid (.ref 0 0::args0) (BG f0 R) 14 14 r (BG f0 R))(hc:aK P fid=true:=by kernel_rfl)(hlt:(Xi f).all (λi=>Nat.blt i c)=true:=by kernel_rfl)(hnd:decide (Xi f).Nodup=true:=by kernel_rfl)(hgs:(G.ref (f 0) 0::args).map (qg (vi (Xi f)) 20)= .ref 0 0::args0:=by kernel_rfl):HP:=
 hfm d (Xi f) 14 0 c (BG f R) (.ref (f 0) 0::args) (BG f R) hM (AiF (DS hnd) hR) (AjF hR c) hc hlt hnd hgs
def hrw(d:Nat)(f:Nat->Nat)(c:Nat)(args:Bj){gl:Cd}{fid:FuncId}{args0:Bj}{R R':Ad}{r:G}(hR:Bh R)(a:Bh R')(hM:SE P gl fid (.ref 0 0::args0) (BG f0 R) 14 5 r (BG f0 R'))(hc:aK P fid=true:=by kernel_rfl)(hlt:(Xi f).all (λi=>Nat.blt i c)=true:=by kernel_rfl)(hnd:decide (Xi f).Nodup=true:=by kernel_rfl)(hgs:(G.ref (f 0) 0::args).map (qg (vi (Xi f)) 20)= .ref 0 0::args0:=by kernel_rfl):HP:=
 hfm d (Xi f) 5 9 c (BG f R) (.ref (f 0) 0::args) (BG (fW f c) R') hM (AiF (DS hnd) hR) (Ahx a c) hc hlt hnd hgs
def hrl(d:Nat)(f:Nat->Nat)(c:Nat){args:Bj}{gl:Cd}{fid:FuncId}{R:Ad}{g:G}(hR:Bh R)(hF:ba P gl fid (.ptr (CB R) 0::args) g)(ha:∀x∈args,bB x)(hg:XL g)(hnd:decide (Xi f).Nodup=true:=by kernel_rfl)(hc:aK P fid=true:=by kernel_rfl):HP:=
 hz d (Xi f) (P:=P) (gl:=gl) (f:=fid) (gs:= .ref (f 0) 0::args) (σR:=BG f R) (c:=c) (g:=g) (U:=[]) (c':=c) (Ou hc hF hg rfl λst h i x y h1 h2=>by
  have hs:Rls f R st.σ:=λk ob ho=>h _ _ (by rw[Hw,LA (by grind [Acu]) (List.mem_range.2 (DY ho))];exact ho)
  cases i<;>grind [AfC,jB])
section
variable {P:Br} {l:Iu} {cx:Cx} {Q:Exit->Act->World->Prop}
theorem Aex{L:Array Bool}(hi:i<L.size):(L.setIfInBounds i true).getD j false=if i=j then true else L.getD j false:=by simp only[Array.getD_eq_getD_getElem?,Array.getElem?_setIfInBounds];grind
abbrev Dn:=Nat->Bool
def dn(L:Array Bool):Dn:=λi=>L.getD i false
def Dn.add(D:Dn)(j:Nat):Dn:=λi=>if j=i then true else D i
theorem PS{I:Dn->St->Prop}(hg:∀(j:Nat) (o:Oper),l[j]?=some o->o.guard=none)
  (c:∀(j:Nat) (o:Oper),l[j]?=some o->∀e∈o.after,Region.binds .any e=true->e.on<j)
  (hs:∀(D:Dn) (s:St) (j:Nat) (o:Oper),I D s->l[j]?=some o->D j=false->(∀e∈o.after,Region.binds .any e=true->D e.on=true)->th P o s (λs'=>I (D.add j) s'))
  (hq:∀D s a w,I D s->(∀j,j<l.length->D j=true)->mh P cx s a w->Q .normal a w):
  ∀(fuel:Nat) (L:Array Bool) (a:Act) (w:World) (s:St),L.toList.count false<=fuel->L.size=l.length->I (dn L) s->mh P cx s a w->wpAnyIn cx.F cx.nn P .any l.toArray Q fuel L a w:=by
 have empty:∀(L:Array Bool),L.size=l.length->Region.ready .any l.toArray L=[]->∀j,j<l.length->L.getD j false=true:=by
  intro L hsz hr j;induction j using Nat.strongRecOn with
  |_ j ih=>
   intro hj;cases h:L.getD j false with
   |true=>rfl
   |false=>
    have:j∈Region.ready .any l.toArray L:=by rw[mem_ready];have ho:l[j]?=some (l[j]'hj):=Ef hj;grind
    grind
 intro fuel
 induction fuel with
 |zero=>
  intro L a w s hc hsz hI R
  have hall:∀j,j<l.length->L.getD j false=true:=by
   intro j hj;have hs:j<L.size:=by grind
   have h0:L.toList.count false=0:=aa;rw[List.count_eq_zero] at h0;cases h:L.getD j false with
   |true=>rfl
   |false=>simp[hs] at h;grind
  refine⟨?_,hq _ s a w hI hall R⟩
  cases hr:Region.ready .any l.toArray L with
  |nil=>rfl
  |cons x xs=>
   have hx:x∈Region.ready .any l.toArray L:=by rw[hr];simp
   grind [mem_ready]
 |succ fuel ih=>
  intro L a w s hc hsz hI R
  refine⟨λhr=>hq _ s a w hI (empty L hsz hr) R,λj hj=>?_⟩
  obtain⟨h1,o,ho',hr⟩:=mem_ready.1 hj
  have ho:l[j]?=some o:=by grind
  have hjl:=(cr ho).1
  have hs':j<L.size:=by grind
  have hL:L.getD j false=false:=by grind
  have hcnt:(L.setIfInBounds j true).toList.count false<=fuel:=by have:=YD L.toList j (by simp_all);grind
  have hD:dn (L.setIfInBounds j true)=(dn L).add j:=by funext i;exact Aex hs'
  unfold wpOpIn
  simp only[ho']
  obtain⟨β,rb⟩:=R
  have hw:ce s l.toArray o=some true:=by grind [ce]
  rw[Bz (cT rb hw)]
  refine hs (dn L) s j o hI ho hL hr cx a w _ Q ⟨β,rb⟩ λs' b a' w' r'=>?_
  exact ih _ a' w' s' hcnt (by simp[hsz]) (by rw[hD];exact b) r'
theorem XK{id:Nat}{Q:Exit->St->Prop}(hm:P.follows .mixedOrders=true)(I:Dn->St->Prop)(hg:∀(j:Nat) (o:Oper),l[j]?=some o->o.guard=none)
  (b:∀(j:Nat) (o:Oper),l[j]?=some o->∀e∈o.after,Region.binds .any e=true->e.on<j) (h0:I (λ_=>false) st)
  (hs:∀(D:Dn) (s:St) (j:Nat) (o:Oper),I D s->l[j]?=some o->D j=false->(∀e∈o.after,Region.binds .any e=true->D e.on=true)->th P o s (λs'=>I (D.add j) s'))
  (hq:∀D s,I D s->(∀j,j<l.length->D j=true)->Q .normal s):Tr P (.region id l.toArray true) st Q:=λcx a w R ⟨β,r⟩ k=>by
 refine wpIn_region_any hm ?_
 have hr:Bw P cx st a {w with drawn:=w.drawn+1} β:=by grind [Bw.world,Ba]
 have hno:dn (Array.replicate l.toArray.size false)=λ_=>false:=by funext i;show(Array.replicate l.toArray.size false).getD i false=false;rw[Array.getD_eq_getD_getElem?];grind
 refine PS (cx:=cx) (I:=I) hg b hs (by grind) _ _ _ _ st ?_ aC (by grind) ⟨β,hr⟩
 simp
end
end Go.Proofs.YtlijnaneopediaaGreatDoor
