/- Texts. -/
import Derived.Test.YtghphhhpagagbaaGreatDoorD2
namespace Go.Proofs.YtghphhhpagagbaaGreatDoor
set_option linter.unusedSectionVars false
set_option linter.unusedVariables false
set_option linter.unusedSimpArgs false
open Go.RowKit Tryz
variable (gl:CB)
variable {c i j k n nn p:Nat}{L:Bq}{f fid:FuncId}{gs:Bn}{r:G}{fn:Func}{ex:Exit}{s s1 st:St}{t t2:Bo}{fr:Fr}{ps:Array Tmp}{a b bd:Code}{pe:Option Code}{o:Ob}{P:Br}
section
set_option maxHeartbeats 2000000
attribute [local irreducible] Tr dz Gp
def ng(b:Bk)(a:List Bool×Int):Option ((List Bool×Int)⊕(List Bool)):=
 bif a.2<ah b then((aS b a.2).bind λc=>(ji a.1 c true).bind λd=>some (.inl (d,wI (a.2+1))))else(some (.inr a.1))
def nh(g:A7)(d:JR)(c:List Bool×List Bool×Int)(a:Bk×Int):Option ((Bk×Int)⊕Bk):=
 bif a.2<ah d.Row then((aS d.Row a.2).bind λb=>((n9 g c.2.2 b).bind λe=>bif e then(some true)else((Nu g ({d with Void:=c.1,Decided:=c.2.1}) b).bind λf=>bif f then((qW g ({d with Void:=c.1,Decided:=c.2.1}) c.2.2 b).bind λh=>some h)else(some false)):Fl).bind λi=>bif i then((aT 8 a.1 ([b]:Bk)).bind λj=>some (.inl (j,wI (a.2+1))))else(some (.inl (a.1,wI (a.2+1)))))else(some (.inr a.1))
def tw(g:A7)(d:JR)(k:Bk)(a:List Bool×List Bool×Int):Option ((List Bool×List Bool×Int)⊕(List Bool×List Bool)):=
 bif 0<=a.2.2 then((R6 g ({d with Void:=a.1,Decided:=a.2.1})).bind λe=>(fb e a.2.2).bind λf=>(AA (nh g d a) ([],0)).bind λh=>(bif(!f)then(some ([a.2.2]:Bk))else(some h)).bind λi=>(ji a.2.1 a.2.2 true).bind λb=>(AA (ng i) (a.1,0)).bind λc=>(vL g ({d with Void:=c,Decided:=b}) k).bind λj=>some (.inl (c,b,j)))else(some (.inr (a.1,a.2.1)))
def oR(g:A7)(ids:Bc):Option JR:=
 (Aa g ids).bind λa=>(jn g ids).bind λb=>(vL g a b).bind λd=>(AA (tw g a b) (a.Void,a.Decided,d)).bind λc=>some ({a with Void:=c.1,Decided:=c.2})
theorem Db{g ids}:DF prog gl (oR g ids) 163 [.agg (aI g),aE aj ids] (λr=> .agg (fU r)):=
 cy func163 λK=>ak λe e2=>Jq 18 rZ (Di gl) λz=>ak λQ e6=>aw [hz 15 [] (Ts (c:=2) aH (JE gl e2) (eB aH) rn4 (rZ.imm e.Row) (rO.imm e.Void) (rO.imm e.Fork) (rO.imm e.Decided)),hq 22 [.agg (aI g),.agg (fU e),aE cZ z] [hc (rZ.al e.Row),hc (rO.al e.Void),hc (rO.al e.Fork),hc (rO.al e.Decided)] (AZ gl e6)]<|I3 111110 (λA=>sp [] [(4,.ref 0 0),(5,.ref 1 0)] [ob 0 225 (bF [0,1,2,3] (fU AC)),ob 1 225 (fU ({e with Void:=A.1,Decided:=A.2}))] 2) (λa=>sp [] [(2,.ref 0 0),(4,.ref 1 0),(5,.ref 2 0),(6,aE cZ z),(7,iG a.2.2)] [ob 0 33 (aI g),ob 1 225 (bF [0,1,2,3] (fU AC)),ob 2 225 [aE cZ e.Row,.rsl 3 0 a.1.length,aE cO e.Fork,.rsl 4 0 a.2.1.length],ob 3 4 (a.1.flatMap cO),ob 4 4 (a.2.1.flatMap cO)] 5) [hc (rZ.al e.Row),hc (el e.Void),hc (rO.al e.Fork),hc (el e.Decided),hc (rO.imm e.Void),hc (rO.imm e.Decided)] (λA=>rv K) λa k11 B=>aF 24 (ak λj C=>ak λk D=>aw [ho 27 [.agg (aI g),.agg (fU ({e with Void:=a.1,Decided:=a.2.1}))] [hc (rO.al a.1),hc (rO.al a.2.1)] (AY gl C) (lZ j),hq 29 [aE cZ j,iG a.2.2] [hc (rZ.al j)] (Dx gl D)]<|I3 11111022121101 (λs=>sf [] [(8,bG k),(9,aE cZ s)]) (λb=>so [] [(8,bG k),(9,.rsl 5 0 b.1.length),(10,iG b.2)] [ob 5 3 (b.1.flatMap cZ)] 6) [hc (el a.1),hc (el a.2.1),hc (rO.imm a.1),hc (rO.imm a.2.1),hc (rZ.imm [])] (λs=>cN 111110221211101 (sf [8] [(64,bG (!k))]) [hc (el a.1),hc (el a.2.1),hc (rO.imm a.1),hc (rO.imm a.2.1)]<|cC 111110221211101 (λl=>sf [64] [(9,aE cZ l)]) (λl=>ak λd m=>aw [AB 70 (rO.ixsZ 4 m),hw 70 (d.flatMap cO) (rO.putZ m)]<|I3 11111022121111101 (λf=>so [7,9] [] [ob 2 225 [aE cZ e.Row,.rsl 3 0 f.length,aE cO e.Fork,.rsl 4 0 d.length],ob 3 4 (f.flatMap cO),ob 4 4 (d.flatMap cO)] 5) (λh=>so [7] [(12,iG h.2)] [ob 2 225 [aE cZ e.Row,.rsl 3 0 h.1.length,aE cO e.Fork,.rsl 4 0 d.length],ob 3 4 (h.1.flatMap cO),ob 4 4 (d.flatMap cO)] 5) [hc (el a.1),hc (hZ m),hc (rO.imm a.1),hc (rO.imm d)] (λf=>ak λL E=>aw [hq 87 [.agg (aI g),.agg (fU ({e with Void:=f,Decided:=d})),aE cZ z] [hc (rO.al f),hc (rO.al d)] (AZ gl E)]<|cj k11 [hc (el f),hc (el d),hc (rO.imm f),hc (rO.imm d)]) λh F H=>aF 74 (B5 81 rZ.ixZ 82 (rZ.p1Y tZ) λM=>ak λt n=>aw [AB 83 (rO.ixsZ 3 n),hw 83 (t.flatMap cO) (rO.putZ n)]<|cj F [hc (hZ n),hc (el d),hc (rO.imm t),hc (rO.imm d)])<|aA c1 H [hc (el h.1),hc (el d),hc (rO.imm h.1),hc (rO.imm d)]) λl u=>eH [64] (aA c0 u [hc (rZ.al ([a.2.2]:Bk)),hc (el a.1),hc (el a.2.1),hc (rO.imm a.1),hc (rO.imm a.2.1)])<|aA c0 u [hc (el a.1),hc (el a.2.1),hc (rO.imm a.1),hc (rO.imm a.2.1)]) λb v I=>aF 34 (B5 40 rZ.ixZ 41 (rZ.p1Y tZ) λi=>Np 111110221211012210210 (sf [] [(11,iG i)]) [hc (el b.1),hc (el a.1),hc (el a.2.1),hc (rO.imm a.1),hc (rO.imm a.2.1),hc (rZ.imm b.1)] 58 (Gd (dg 62 rZ) λw=>cj v [hc (el w),hc (el a.1),hc (el a.2.1),hc (rO.imm a.1),hc (rO.imm a.2.1),hc (rZ.imm w)]) (cj v [hc (el b.1),hc (el a.1),hc (el a.2.1),hc (rO.imm a.1),hc (rO.imm a.2.1),hc (rZ.imm b.1)]) λo=>ak λN x=>kV (λp=>aw [hf 45 (cF (mC gl x) p)]<|aA c0 o [hc (el b.1),hc (el a.1),hc (el a.2.1),hc (rO.imm a.1),hc (rO.imm a.2.1),hc (rZ.imm b.1)]) λp=>ak λO y=>aw [hf 45 (cF (mC gl x) p)]<|kV (λq=>ak λP J=>aw [hq 50 [.agg (aI g),.agg (fU ({e with Void:=a.1,Decided:=a.2.1})),iG i] [hc (rO.al a.1),hc (rO.al a.2.1)] (cF (lC gl y) q),hq 56 [.agg (aI g),.agg (fU ({e with Void:=a.1,Decided:=a.2.1})),iG a.2.2,iG i] [hc (rO.al a.1),hc (rO.al a.2.1)] (yI gl J)]<|aA c0 o [hc (el b.1),hc (el a.1),hc (el a.2.1),hc (rO.imm a.1),hc (rO.imm a.2.1),hc (rZ.imm b.1)]) λq=>aw [hq 50 [.agg (aI g),.agg (fU ({e with Void:=a.1,Decided:=a.2.1})),iG i] [hc (rO.al a.1),hc (rO.al a.2.1)] (cF (lC gl y) q)]<|aA c0 o [hc (el b.1),hc (el a.1),hc (el a.2.1),hc (rO.imm a.1),hc (rO.imm a.2.1),hc (rZ.imm b.1)])<|aA c1 I [hc (rZ.al b.1),hc (el a.1),hc (el a.2.1),hc (rO.imm a.1),hc (rO.imm a.2.1)])<|aA c1 B [hc (rO.al a.1),hc (rO.al a.2.1)]
def tQ(g:A7)(b:Bk)(a:C5×Int):Option ((C5×Int)⊕(C5)):=
 bif a.2<ah b then((aS b a.2).bind λc=>(aS g.L c).bind λd=>(aS b a.2).bind λe=>(aS g.IDs e).bind λf=>(DM a.1 d f).bind λh=>some (.inl (h,wI (a.2+1))))else(some (.inr a.1))
def zY(g:A7)(ids:Bc):Option C5:=
 (AV g.Cards).bind λa=>(oR g ids).bind λb=>(R6 g b).bind λc=>(AA (tQ g c) (a,0)).bind λd=>some d
theorem Jh{g ids}:DF prog gl (zY g ids) 89 [.agg (aI g),aE aj ids] (λr=> .agg (aU r)):=
 cy func89 λK=>BB 10 (DN gl) λk=>BB 14 (Db gl) λl=>Jq 15 rZ (AY gl) λd=>I3 111101 (λc=>sp [] [(4,.ref 0 0),(5,.ref 1 0)] [ob 0 150 (bF [0,1,2,3,5] (aU eY)),ob 1 150 (aU c)] 2) (λa=>sp [] [(2,.ref 0 0),(4,.ref 1 0),(5,.ref 2 0),(6,aE cZ d),(7,iG a.2)] [ob 0 33 (aI g),ob 1 150 (bF [0,1,2,3,5] (aU eY)),ob 2 150 (aU a.1)] 3) [] (λc=>rv K) λa k11 b=>aF 19 (B5 27 rZ.ixZ 28 (rZ.p1Y tZ) λe=>B5 29 eJ.ixZ 30 (eJ.ptZ GN) λf=>B5 35 rZ.ixZ 36 (rZ.p1Y tZ) λh=>B5 37 ac.ixZ 38 (ac.ptZ aW) λi=>BB 39 (AU gl) λj=>rb k11)<|aA c1 b []
def lu(b:C5):Option Bk:=
 (lg b.In).bind λa=>some a
theorem Dc{r_}:LU prog gl (lu r_) 91 [.agg (aU r_)] 3 cZ:=
 gc func91 λK=>ak λa e2=>aw [ho 5 [aE cZ r_.In] [] (vH gl e2) (lZ a)]<|mr c0 K (rZ.imm _)
def qm(b:Bk)(c:Bk)(a:Bk×Int):Option ((Bk×Int)⊕Bk):=
 bif a.2<ah b then((aS b a.2).bind λd=>(fb c d).bind λe=>bif(!e)then((aS b a.2).bind λf=>(aT 8 a.1 ([f]:Bk)).bind λg=>some (.inl (g,wI (a.2+1))))else(some (.inl (a.1,wI (a.2+1)))))else(some (.inr a.1))
def qn(c:Bk)(b:Bk)(a:Bk×Int):Option ((Bk×Int)⊕Bk):=
 bif a.2<ah b then((aS b a.2).bind λd=>(fb c d).bind λe=>bif e then((aS b a.2).bind λf=>(aT 8 a.1 ([f]:Bk)).bind λg=>some (.inl (g,wI (a.2+1))))else(some (.inl (a.1,wI (a.2+1)))))else(some (.inr a.1))
def qo(g:A7)(o:Bp):Option Bk:=
 (Lu g o.Past).bind λd=>(qN d o.By).bind λj=>(bif 0<j then(some (decide (j<=o.Seq)))else(some false)).bind λl=>bif l then(some [])else((zY g d).bind λk=>(pV o).bind λa=>(AX k o a).bind λe=>bif e≠0 then(some [])else((DM k o a).bind λf=>(lu f).bind λb=>(jn g d).bind λc=>(AA (qn b c) ([],0)).bind λh=>(AA (qm b c) (h,0)).bind λi=>some i))
theorem GU{g o}:LU prog gl (qo g o) 39 [.agg (aI g),.agg (aJ o)] 3 cZ:=
 gc func39 λK=>Jq 17 ac (ua gl) λs=>BB 21 (yF gl) λt=>cN 111100 (sp [] [(2,.ref 0 0),(3,.ref 1 0),(5,aE aj s),(6,iG t)] [ob 0 33 (aI g),ob 1 64 (aJ o)] 2) []<|cC 111100 (λm=>sf [6] [(29,bG m)]) (λm=>eH [29] (mr c0 K (rZ.imm _))<|BB 32 (Jh gl) λD=>BB 34 (AI gl) λu=>BB 38 (DO gl) λv=>aF 39 (mr c0 K (rZ.imm _))<|BB 43 (AU gl) λw=>Jq 44 rZ (Dc gl) λf=>Jq 47 rZ (Di gl) λh=>I3 1111111111101 (λc=>sk [] [(9,aE cZ f),(10,aE cZ h),(11,.rsl 0 0 c.length)] [ob 0 3 (c.flatMap cZ)] 1) (λa=>sk [] [(9,aE cZ f),(10,aE cZ h),(11,.rsl 0 0 a.1.length),(12,iG a.2)] [ob 0 3 (a.1.flatMap cZ)] 1) [hc (rZ.imm [])] (λc=>I3 11111111111101 (λd=>sp [] [(11,.rsl 0 0 d.length)] [ob 0 3 (d.flatMap cZ)] 1) (λb=>so [] [(11,.rsl 0 0 b.1.length),(13,iG b.2)] [ob 0 3 (b.1.flatMap cZ)] 1) (DE rZ c) (λd=>mr c0 K (rZ.imm _)) λb i n=>aF 70 (B5 76 rZ.ixZ 77 (rZ.p1Y tZ) λx=>BB 78 (Dx gl) λy=>aF 79 (B5 83 rZ.ixZ 84 (rZ.p1Y tZ) λz=>Gd (dg 86 rZ) λp=>cj i (DE rZ p))<|cj i (DE rZ b.1))<|aA c1 n (DE rZ b.1)) λa j q=>aF 51 (B5 57 rZ.ixZ 58 (rZ.p1Y tZ) λA=>ak λB k=>kV (λe=>B5 63 rZ.ixZ 64 (rZ.p1Y tZ) λC=>Gd (dg 66 rZ) λr=>aw [hf 59 (cF (Dx gl k) e)]<|cj j (DE rZ r)) λe=>aw [hf 59 (cF (Dx gl k) e)]<|cj j (DE rZ a.1))<|aA c1 q (DE rZ a.1)) λm l=>aF 23 (rx l)<|rx l
def AE(n:Int)(s1:Int):Option ((Int)⊕(Int)):=
 bif wI (2*s1)<n then(some (.inl (wI (2*s1))))else(some (.inr s1))
def zZ(n:Int):JL:=
 (AA (AE n) 1).bind λa=>some a
theorem Ji{n}:DF prog gl (zZ n) 96 [iG n] iG:=
 cy func96 λK=>I3 1110 (λa=>sg [] [(3,iG a)]) (λs1=>sf [] [(3,iG s1)]) [] (λa=>rv K) λs1 k5 b=>aF 7 (rb k5)<|aA c1 b []
def KF:Nat->Bk->Option LE
 |0,_=>none
 |nn+1,leaves=>
 bif ah leaves=0 then(some [])else(bif ah leaves=1 then(some [leaves])else((zZ (ah leaves)).bind λd=>(tq leaves d).bind λe=>(KF nn e).bind λf=>(aT 24 [leaves] f).bind λg=>(mc leaves d).bind λa=>(KF nn a).bind λb=>(aT 24 g b).bind λc=>some c))
theorem qp:∀(nn:Nat) {leaves:Bk},LU prog gl (KF nn leaves) 194 [aE cZ leaves] 22 Jc
 |0,_=>λ_ h=>by cases h
 |nn+1,leaves=>gc func194 λK=>aF 7 (mr c0 K (nH.imm _))<|aF 12 (mr c0 K (nH.imm _))<|ak λg e4=>ak λi e6=>ak λj e8=>ak λk a=>ak λd b=>ak λe c=>ak λf e16=>aw [hf 16 (Ji gl e4),AB 20 (rZ.preZI e6),hf 21 ((qp nn e8).fn nH.sz (nH.len _) (nH.imm _)),eu 22 nH a,AB 26 (rZ.sufZI b),hf 27 ((qp nn c).fn nH.sz (nH.len _) (nH.imm _)),eu 28 nH e16]<|mr c0 K (nH.imm _)
def z0(a:Bk):Option LE:=KF (a.length+1) a
theorem Jj{leaves}:LU prog gl (z0 leaves) 194 [aE cZ leaves] 22 Jc:=qp gl _
def AF(device:Int)(e:LE)(s3:LE×Int):Option ((LE×Int)⊕LE):=
 bif 0<=s3.2 then((aS e s3.2).bind λa=>(fb a device).bind λb=>bif b then((aS e s3.2).bind λc=>(aT 24 s3.1 [c]).bind λd=>some (.inl (d,wI (s3.2-1))))else(some (.inl (s3.1,wI (s3.2-1)))))else(some (.inr s3.1))
def Nr(a:Bk)(device:Int):Option LE:=
 (z0 a).bind λb=>(AA (AF device b) ([],wI ((ah b)-1))).bind λc=>some c
theorem Jl{leaves device}:LU prog gl (Nr leaves device) 108 [aE cZ leaves,iG device] 22 Jc:=
 gc func108 λK=>Jq 9 nH (Jj gl) λe=>I3 111101 (λb=>sp [] [(6,.rsl 0 0 b.length)] [ob 0 22 (b.flatMap Jc)] 1) (λs3=>so [0] [(5,aE Jc e),(6,.rsl 0 0 s3.1.length),(7,iG s3.2)] [ob 0 22 (s3.1.flatMap Jc)] 1) [hc (nH.imm [])] (λb=>mr c0 K (nH.imm _)) λs3 d k6=>aF 14 (B5 19 nH.ixZ 20 (nH.p1Y Vs) λf=>ak λg e16=>kV (λa=>B5 26 nH.ixZ 27 (nH.p1Y Vs) λh=>Gd (dg 29 nH) λc=>aw [hf 22 (cF (Dx gl e16) a)]<|cj d (DE nH c)) λa=>aw [hf 22 (cF (Dx gl e16) a)]<|cj d (DE nH s3.1))<|aA c1 k6 (DE nH s3.1)
def jm(g:A7)(o:Bp):Option LE:=
 (E1 o.Kind).bind λb=>bif(!b)then(some [])else((qo g o).bind λa=>(fb a o.By).bind λc=>bif(!c)then(some [])else((Nr a o.By).bind λd=>some d))
theorem E6{g o}:LU prog gl (jm g o) 51 [.agg (aI g),.agg (aJ o)] 22 Jc:=
 gc func51 λK=>BB 9 (Ns gl) λd=>aF 11 (mr c0 K (nH.imm _))<|Jq 14 rZ (GU gl) λe=>BB 18 (Dx gl) λf=>aF 19 (mr c0 K (nH.imm _))<|ak λb a=>aw [hz 23 [] (Uz (c:=2) aH (Jl gl a) (eB aH) (nH.imm b))]<|mr c0 K (nH.imm _)
def lw(g:A7×Int)(b:Int)(c:Bool)(a:List Fj×Int):Option ((List Fj×Int)⊕(List Fj)):=
 (bif a.2<b then(bif c then(some (decide (a.2<5)))else(some false))else(some false)).bind λd=>bif d then(((aT 32 a.1 [(⟨wU (wI ((wI (1000+(wI (10*g.2))))+a.2)),[]⟩:Fj)]).bind λe=>some e:Option (List Fj)).bind λf=>some (.inl (f,wI (a.2+1))))else(some (.inr a.1))
def ly(l:Bk)(most:Int)(a:A7×Int):Option ((A7×Int)⊕(A7)):=
 (bif a.2<most then(bif a.2<4 then(some true)else(some (decide (wI (2*a.2)<ah l))))else(some false)).bind λf=>bif f then((bif wI (2*a.2)<ah l then((aS l (wI (2*a.2))).bind λg=>some g)else(some 0)).bind λh=>(bif wI ((wI (2*a.2))+1)<ah l then((aS l (wI ((wI (2*a.2))+1))).bind λi=>some i)else(some 0)).bind λc=>(sd a.1 h c).bind λb=>(jm a.1 ({b with Path:=[]})).bind λd=>(iq c 31).bind λj=>(bif j=30 then(some (wI ((ah d)+1)))else(some (ah d))).bind λk=>(E1 b.Kind).bind λm=>(AA (lw a k m) ([],0)).bind λn=>(nR ({b with Path:=n})).bind λo=>(AO a.1 o).bind λe=>bif e.2=0 then(some (.inl (e.1,wI (a.2+1))))else(some (.inl (a.1,wI (a.2+1)))))else(some (.inr a.1))
def vq(l:Bk)(most:Int):Option A7:=
 (r8).bind λa=>(ql a).bind λb=>(Jf b).bind λc=>(AA (ly l most) (c,0)).bind λd=>some d
theorem Jm{l most}:DF prog gl (vq l most) 42 [aE cZ l,iG most] (λr=> .agg (aI r)):=
 cy func42 λK=>Jq 15 rZ (E9 gl) λE=>Jq 16 bT (GQ gl) λF=>BB 17 (M8 gl) λH=>I3 11101 (λz=>sp [] [(4,.ref 0 0),(5,.ref 1 0)] [ob 0 33 (bF [0,1,2,3,4] (aI xm)),ob 1 33 (aI z)] 2) (λc=>so [] [(4,.ref 0 0),(5,.ref 1 0),(6,iG c.2)] [ob 0 33 (bF [0,1,2,3,4] (aI xm)),ob 1 33 (aI c.1)] 2) [] (λz=>rv K) λc k11 q=>Np 111012200 (sf [] []) [] 31 (cN 11101221021101 (sf [31] [(7,iG 0),(8,iG 0),(38,bG (decide (wI (2*c.2)<ah l)))]) []<|cC 11101221021101 (λe=>sf [38] [(7,iG e)]) (λe=>cN 111012210211101 (sf [] [(49,bG (decide (wI ((wI (2*c.2))+1)<ah l)))]) []<|cC 111012210211101 (λf=>sf [49] [(8,iG f)]) (λf=>BB 59 (Jy gl) λa=>ak λs t=>BB 65 (iL gl) λu=>aw [hf 62 (UY [.agg (aI c.1),.agg (bF [9] (aJ ({a with Path:=[]})))] (nH.fo (E6 gl t)))]<|cN 111012210211111101 (so [7,8] [(9,.ref 2 0),(10,iG (ah s)),(66,bG (decide (u=30)))] [ob 2 64 (bF [9] (aJ ({a with Path:=[]})))] 3) []<|cC 111012210211111101 (λg=>sf [66] [(10,iG g)]) (λg=>BB 71 (Ns gl) λv=>I3 11101221021111111101 (λj=>so [10] [] [ob 2 64 (aJ ({a with Path:=j}))] 3) (λb=>so [] [(11,bG v),(12,iG b.2)] [ob 2 64 [iG a.By,iG a.Seq,iG a.Kind,iG a.At,aE aj a.Past,iG a.Device,iG a.Old,iG a.Member,iG a.Role,.rsl 3 0 b.1.length,iG a.Epoch.By,iG a.Epoch.Seq,uG a.Epoch.Sum,iG a.N,aE cY a.Body,aE cW a.Refs,iG a.Of.By,iG a.Of.Seq,uG a.Of.Sum,aE cZ a.Guards,iG a.Need,iG a.Wait,aE cz a.Boxes,uG a.Pub,aE bp a.Hist,uG a.Sig.R,uG a.Sig.S],ob 3 70 (b.1.flatMap bY)] 4) [hc (bZ.imm [])] (λj=>BB 99 (E8 gl) λA=>BB 100 (M9 gl) λB=>aF 104 (rb k11)<|rb k11) λb w x=>Np 111012210211111111012200 (sf [] []) (DE bZ b.1) 81 (cN 1110122102111111110122102 (sf [81] []) (DE bZ b.1)<|cC 1110122102111111110122102 (λd=>so [] [] [ob 2 64 [iG a.By,iG a.Seq,iG a.Kind,iG a.At,aE aj a.Past,iG a.Device,iG a.Old,iG a.Member,iG a.Role,.rsl 3 0 d.length,iG a.Epoch.By,iG a.Epoch.Seq,uG a.Epoch.Sum,iG a.N,aE cY a.Body,aE cW a.Refs,iG a.Of.By,iG a.Of.Seq,uG a.Of.Sum,aE cZ a.Guards,iG a.Need,iG a.Wait,aE cz a.Boxes,uG a.Pub,aE bp a.Hist,uG a.Sig.R,uG a.Sig.S],ob 3 70 (d.flatMap bY)] 4) (λd=>cj w (DE bZ d)) λd y=>ak λk m=>aw [AB 91 (C8 (wI ((wI (1000+(wI (10*c.2))))+b.2))),Tv 94 bZ m [uG (wU (wI ((wI (1000+(wI (10*c.2))))+b.2))),Iy] rfl]<|aA c0 y [hc (el k),ZV bZ m [uG (wU (wI ((wI (1000+(wI (10*c.2))))+b.2))),Iy]] (kd:=[(3,.app (b.1.flatMap bY) [uG (wU (wI ((wI (1000+(wI (10*c.2))))+b.2))),Iy] (bY (⟨wU (wI ((wI (1000+(wI (10*c.2))))+b.2)),[]⟩:Fj)) (k.flatMap bY))])) (aA c1 x [hc (bZ.al b.1)]) λh=>aF 74 (aF 77 (aA c0 h (DE bZ b.1))<|aA c0 h (DE bZ b.1))<|aA c0 h (DE bZ b.1)) λg n=>eH [66] (rx n)<|rx n) λf o=>eH [49] (B5 54 rZ.ixZ 55 (rZ.p1Y tZ) λC=>rx o)<|rx o) λe p=>eH [38] (B5 42 rZ.ixZ 43 (rZ.p1Y tZ) λD=>rx p)<|rx p) (aA c1 q []) λi=>aF 20 (aF 23 (rx i)<|rx i)<|rx i
end
structure EA where
 commit:Ab
 n:Int
 deriving DecidableEq
structure Ajh where
 device:Int
 keys:FM EA Nat
structure AjV where
 b:CD
def FR(x:JL):Int:=x.getD 0
theorem H7(m:JI)(k:Ab):∀σ,bL prog σ 108 true (FM.g ga iG m) (.agg (aj k))=some (.tup [iG (FR (m.get k)),bG (m.get k).isSome]):=FM.look (et:=3) jt aH aH m k rfl
structure N4 where
 a0:Nat
 a1:Nat
 a2:Nat
 a3:Nat
 deriving DecidableEq
def FSq(x:N4):Bn:=[uG x.a0,uG x.a1,uG x.a2,uG x.a3]
theorem aap:fg prog 113=some true:=aH
theorem aaq:bw prog 113=some 4:=aH
structure CY where
 o:Bp
 id:Ab
 past:N4
 level:Int
def d7(x:CY):Bn:=[iG x.o.By,iG x.o.Seq,iG x.o.Kind,iG x.o.At,aE aj x.o.Past,iG x.o.Device,iG x.o.Old,iG x.o.Member,iG x.o.Role,aE bY x.o.Path,iG x.o.Epoch.By,iG x.o.Epoch.Seq,uG x.o.Epoch.Sum,iG x.o.N,aE cY x.o.Body,aE cW x.o.Refs,iG x.o.Of.By,iG x.o.Of.Seq,uG x.o.Of.Sum,aE cZ x.o.Guards,iG x.o.Need,iG x.o.Wait,aE cz x.o.Boxes,uG x.o.Pub,aE bp x.o.Hist,uG x.o.Sig.R,uG x.o.Sig.S,iG x.id.By,iG x.id.Seq,uG x.id.Sum,uG x.past.a0,uG x.past.a1,uG x.past.a2,uG x.past.a3,iG x.level]
structure Aj where
 cards:LQ
 at_:JI
 nodes:List CY
def Ag(x:Aj):Bn:=[aE bv x.cards,FM.g ga iG x.at_,aE d7 x.nodes]
theorem az:AH prog 109 115 35 d7:=⟨aH,aH,BX,λ_=>rfl,λ_=>rfl⟩
structure Aaa where
 Graph:Aj
def M4(x:Aaa):Bn:=[.ptr (Ag x.Graph) 0]
structure Bh where
 Device:Int
 Seq:Int
 deriving DecidableEq
def Bt(x:Bh):Bn:=[iG x.Device,iG x.Seq]
theorem Hm:fg prog 123=some true:=aH
def DS(x:Option DH):DH:=x.getD ⟨0,0,0,0,0⟩
theorem Aab(m:FM Int DH)(k:Int):∀σ,bL prog σ 139 false (FM.g JN (λx=> .agg (bv x)) m) (iG k)=some ((λx=> .agg (bv x)) (DS (m.get k))):=FM.look1 (et:=78) O6 aH aH m k rfl
def Hg(x:Fl):Bool:=x.getD false
theorem Sb(m:FM Int Bool)(k:Int):∀σ,bL prog σ 138 false (FM.g JN bG m) (iG k)=some (bG (Hg (m.get k))):=FM.look1 (et:=4) O6 aH aH m k rfl
structure CM where
 by_:Int
 device:Int
 deriving DecidableEq
def MJ(x:CM):Bn:=[iG x.by_,iG x.device]
def Ho(x:CM):List Value:=[.int .i64 x.by_,.int .i64 x.device]
theorem Ul(d:Nat)(i j:CM):bt prog (Op.equalIn (d+3) 210 (.agg (Ho i).toArray) (.agg (Ho j).toArray))=some (decide (i=j)):=by obtain⟨a0,a1⟩:=i;obtain⟨b0,b1⟩:=j;unfold Ho;rw[xV (fs:= #[⟨ "by",3,0,false, "", "huddle/roll",0⟩,⟨ "device",3,1,false, "", "huddle/roll",8⟩]) aH aH];simp only[Array.toList];rw[uJ (k:= .i64) (k':= .i64) (a:=a0) (b:=b0) BX aH aH aH];rw[uJ (k:= .i64) (k':= .i64) (a:=a1) (b:=b1) BX aH aH aH];simp only[CM.mk.injEq];by_cases h0:a0=b0<;>by_cases h1:a1=b1<;>simp[h0,h1,Op.eqFields,bz]
def BW(x:CM):Value:= .agg (Ho x).toArray
theorem K0:LV prog 210 BW:=Qw (d:= .struct #[⟨ "by",3,0,false, "", "huddle/roll",0⟩,⟨ "device",3,1,false, "", "huddle/roll",8⟩]) aH (λb k=>by cases b<;>(show _=_;kernel_rfl)) (λa b=>rfl) (λa b=>Ul 9997 a b)
def LF(x:JL):Int:=x.getD 0
theorem Sc(m:FM CM Int)(k:CM):∀σ,bL prog σ 204 true (FM.g BW iG m) (.agg (MJ k))=some (.tup [iG (LF (m.get k)),bG (m.get k).isSome]):=FM.look (et:=3) K0 aH aH m k rfl
structure Cd where
 id:Ab
 guards:Bk
 need:Int
 wait:Int
 vouches:FM CM Int
 objected:Bool
 last:Int
def OS(x:Cd):Bn:=[iG x.id.By,iG x.id.Seq,uG x.id.Sum,aE cZ x.guards,iG x.need,iG x.wait,FM.g BW iG x.vouches,bG x.objected,iG x.last]
structure Az where
 role:Int
 guard:Option Cd
def Ft(x:Az):Bn:=[iG x.role,npG OS x.guard]
structure Ad where
 cards:FM Int DH
 in_:FM Int Bool
 was:FM Int Bool
 members:FM Int Az
 back:Int
def CA(x:Ad):Bn:=[FM.g JN (λx=> .agg (bv x)) x.cards,FM.g JN bG x.in_,FM.g JN bG x.was,FM.g JN (λx=> .ptr (Ft x) 0) x.members,iG x.back]
def Ba(x:Fl):Bool:=x.getD false
theorem Sd(m:FM Ab Bool)(k:Ab):∀σ,bL prog σ 296 false (FM.g ga bG m) (.agg (aj k))=some (bG (Ba (m.get k))):=FM.look1 (et:=4) jt aH aH m k rfl
structure AQ where
 g:Aj
 row:Bc
 void:FM Ab Bool
 fork:FM Ab Bool
def BU(x:AQ):Bn:=[.ptr (Ag x.g) 0,aE aj x.row,FM.g ga bG x.void,FM.g ga bG x.fork]
theorem Bi:AH prog 121 123 2 Bt:=⟨aH,aH,BX,λ_=>rfl,λ_=>rfl⟩
abbrev JH:=List CY
section
set_option maxHeartbeats 2000000
attribute [local irreducible] Tr dz Gp
def fm(a:Bk)(s1:Int):Option ((Int)⊕(Unit⊕Int)):=
 bif s1<ah a then((aS a s1).bind λb=>bif b≠0 then(some (.inr (.inr b)))else(some (.inl (wI (s1+1)))))else(some (.inr (.inl ())))
def iy(a:Bk):JL:=
 (AA (fm a) 0).bind λb=>ma b (λc=>some 0) (λq=>some q)
theorem FT{vals}:DF prog gl (iy vals) 159 [aE cZ vals] iG:=
 cy func159 λK=>N8 11101 (λa=>sg [] [(3,iG 0)]) (λs1=>sg [] [(3,iG 0),(6,aE cZ vals),(7,iG (ah vals)),(8,iG s1)]) [] K (λa=>rv K) λs1 k5 b k6=>aF 9 (B5 10 rZ.ixZ 11 (rZ.p1Y tZ) λc=>aF 14 (aP c3 k6 [])<|rb k5)<|aA c2 b []
def Fu(a:Int):Fl:=
 some (decide (a≠a))
theorem dw{x_}:DF prog gl (Fu x_) 219 [iG x_] bG:=
 cy func219 λK=>rv K
def f8(a:Int)(y:Int):JL:=
 (Fu a).bind λc=>(Fu y).bind λb=>bif c then(bif b then(some 0)else(some (-1)))else(bif b then(some 1)else(bif a<y then(some (-1))else(bif y<a then(some 1)else(some 0))))
theorem mQ{x_ y}:DF prog gl (f8 x_ y) 137 [iG x_,iG y] iG:=
 cy func137 λK=>ak λc e2=>ak λd e4=>aw [hf 10 (dw gl e4)]<|kV (λb5=>aw [hf 8 (cF (dw gl e2) b5)]<|kV (λa=>aw [hf 10 (cF (dw gl e4) a)]<|rv K) λa=>aw [hf 10 (cF (dw gl e4) a)]<|rv K) λb5=>aw [hf 8 (cF (dw gl e2) b5)]<|kV (λb=>aw [hf 10 (cF (dw gl e4) b)]<|rv K) λb=>aw [hf 10 (cF (dw gl e4) b)]<|aF 16 (rv K)<|aF 19 (rv K)<|rv K
def g9(a:Nat):Fl:=
 some (decide ((a:Int)≠(a:Int)))
theorem cH{x_}:DF prog gl (g9 x_) 284 [uG x_] bG:=
 cy func284 λK=>rv K
def fQ(a:Nat)(y:Nat):JL:=
 (g9 a).bind λc=>(g9 y).bind λb=>bif c then(bif b then(some 0)else(some (-1)))else(bif b then(some 1)else(bif (a:Int)<(y:Int)then(some (-1))else(bif (y:Int)<(a:Int)then(some 1)else(some 0))))
theorem rG{x_ y}:DF prog gl (fQ x_ y) 216 [uG x_,uG y] iG:=
 cy func216 λK=>ak λc e2=>ak λd e4=>aw [hf 10 (cH gl e4)]<|kV (λb5=>aw [hf 8 (cF (cH gl e2) b5)]<|kV (λa=>aw [hf 10 (cF (cH gl e4) a)]<|rv K) λa=>aw [hf 10 (cF (cH gl e4) a)]<|rv K) λb5=>aw [hf 8 (cF (cH gl e2) b5)]<|kV (λb=>aw [hf 10 (cF (cH gl e4) b)]<|rv K) λb=>aw [hf 10 (cF (cH gl e4) b)]<|aF 16 (rv K)<|aF 19 (rv K)<|rv K
def pE(a:Ab)(b:Ab):Fl:=
 (f8 a.By b.By).bind λc=>(f8 a.Seq b.Seq).bind λd=>(fQ a.Sum b.Sum).bind λe=>(iy ([c,d,e]:Bk)).bind λf=>some (decide (f<0))
theorem M5{a b}:DF prog gl (pE a b) 124 [.agg (aj a),.agg (aj b)] bG:=
 cy func124 λK=>BB 9 (mQ gl) λc=>BB 14 (mQ gl) λd=>BB 19 (rG gl) λe=>ak λf e8=>aw [hq 21 [aE cZ ([c,d,e]:Bk)] [hc (rZ.al ([c,d,e]:Bk))] (FT gl e8)]<|rv K
def wz(a:EA)(b:EA):JL:=
 (pE a.commit b.commit).bind λc=>bif c then(some (-1))else((pE b.commit a.commit).bind λd=>bif d then(some 1)else(some (wI (a.n-b.n))))
def Fa(g:Aj)(a:Ab):JL:=
 bif(g.at_.get a).isSome then((aS g.nodes (FR (g.at_.get a))).bind λb=>some b.level)else(some 0)
theorem HB{g id_}:DF prog gl (Fa g id_) 132 [.ptr (Ag g) 0,.agg (aj id_)] iG:=
 cy func132 λK=>aw [hm 13 (H7 g.at_ id_)]<|aF 15 (B5 22 az.ixZ 24 (az.fdY tZ 34) λa=>rv K)<|rv K
def iX(s:N4)(n:Int):Fl:=
 (aS ([s.a0,s.a1,s.a2,s.a3]:Bq) (wI (Int.tdiv n 64))).bind λa=>(wJ (Int.tmod n 64)).bind λb=>some (decide (((bD (Jn a b) 1:Nat):Int)=((1:Nat):Int)))
def Hx{α:Type}(s:List α)(f:α->Fl)(s1:Int):Option ((Int)⊕(Unit⊕Int)):=
 bif s1<ah s then((aS s s1).bind λa=>(f a).bind λb=>bif b then(some (.inr (.inr s1)))else(some (.inl (wI (s1+1)))))else(some (.inr (.inl ())))
def Um{α:Type}(s:List α)(f:α->Fl):JL:=
 (AA (Hx s f) 0).bind λa=>ma a (λb=>some (-1)) (λq=>some q)
def Aac(P:Br)(gl:CB){α:Type}(c a:α->Bn)(F:FuncId):Prop:=∀⦃s:List α⦄ ⦃f:α->Fl⦄ ⦃fi_f:FuncId⦄ ⦃fa_f fc_f:Bn⦄,SP P gl fi_f fa_f fc_f a (λx:Bool=>bG x) f->DF P gl (Um s f) F [aE c s,.clo (.func fi_f) fa_f fc_f] iG
theorem pF:Aac prog gl cZ (λx=>[iG x]) 283:=λs f fi_f fa_f fc_f a=>
 cy func283 λK=>N8 1101 (λg=>sg [] []) (λs1=>sf [] [(7,iG (ah s)),(8,iG s1)]) [hc (a.im)] K (λg=>rv K) λs1 k5 h k6=>aF 9 (B5 14 rZ.ixZ 15 (rZ.p1Y tZ) λd=>ak λi e=>kV (λb=>aw [hz 16 [] (cS (a.cs (c:=0) e (aY (aG 20 (iG d) aH) (bf))) b)]<|aP c3 k6 []) λb=>aw [hz 16 [] (cS (a.cs (c:=0) e (aY (aG 20 (iG d) aH) (bf))) b)]<|cj k5 [hc (a.im)])<|aA c2 h []
def Aad{α:Type}(s:List α)(f:α->Fl):Fl:=
 (Um s f).bind λa=>some (decide (0<=a))
def Aa5(P:Br)(gl:CB){α:Type}(c a:α->Bn)(F:FuncId):Prop:=∀⦃s:List α⦄ ⦃f:α->Fl⦄ ⦃fi_f:FuncId⦄ ⦃fa_f fc_f:Bn⦄,SP P gl fi_f fa_f fc_f a (λx:Bool=>bG x) f->DF P gl (Aad s f) F [aE c s,.clo (.func fi_f) fa_f fc_f] bG
theorem ml:Aa5 prog gl cZ (λx=>[iG x]) 214:=λs f fi_f fa_f fc_f a=>
 cy func214 λK=>ak λb e2=>aw [hz 7 [] (jf (c:=0) aH (pF gl (a) e2) (aY (aG 20 (aE cZ s) aH) (aY (a.im) (bf))))]<|rv K
def cU(s:Bc):Option Bc:=aT 24 [] s
theorem jY{s:Bc}:LU prog gl (cU s) 102 [aE aj s] 25 aj:=λr h=>by
 unfold cU at h;refine OW func102 ?_;refine pO 1100 (s0 8 gl [(0,aE aj s)] [] 0 0) [] [] ?_;refine IA 0 3 4 29 25 rfl (E5 aH) (E5 aH) λb hb=>?_;cases b
 .exact EI [eu 7 ac h] (ac.imm _)
 .obtain rfl:=ac.isNil (hb rfl);obtain rfl:=mV h;exact EI [] (ac.imm [])
def Fe(s:CD):Option CD:=aT 1 [] s
theorem tj{s:CD}:LU prog gl (Fe s) 125 [aE cY s] 5 cY:=λr h=>by
 unfold Fe at h;refine OW func125 ?_;refine pO 1100 (s0 8 gl [(0,aE cY s)] [] 0 0) [] [] ?_;refine IA 0 3 4 57 5 rfl (E5 aH) (E5 aH) λb hb=>?_;cases b
 .exact EI [eu 7 rY h] (rY.imm _)
 .obtain rfl:=rY.isNil (hb rfl);obtain rfl:=mV h;exact EI [] (rY.imm [])
def dK(s:Bq):Option Bq:=aT 8 [] s
theorem p9{s:Bq}:LU prog gl (dK s) 126 [aE cW s] 23 cW:=λr h=>by
 unfold dK at h;refine OW func126 ?_;refine pO 1100 (s0 8 gl [(0,aE cW s)] [] 0 0) [] [] ?_;refine IA 0 3 4 58 23 rfl (E5 aH) (E5 aH) λb hb=>?_;cases b
 .exact EI [eu 7 rW h] (rW.imm _)
 .obtain rfl:=rW.isNil (hb rfl);obtain rfl:=mV h;exact EI [] (rW.imm [])
def fF(s:Bk):Option Bk:=aT 8 [] s
theorem uK{s:Bk}:LU prog gl (fF s) 117 [aE cZ s] 3 cZ:=λr h=>by
 unfold fF at h;refine OW func117 ?_;refine pO 1100 (s0 8 gl [(0,aE cZ s)] [] 0 0) [] [] ?_;refine IA 0 3 4 22 3 rfl (E5 aH) (E5 aH) λb hb=>?_;cases b
 .exact EI [eu 7 rZ h] (rZ.imm _)
 .obtain rfl:=rZ.isNil (hb rfl);obtain rfl:=mV h;exact EI [] (rZ.imm [])
def dx(s:List Ha):Option (List Ha):=aT 32 [] s
theorem uM{s:List Ha}:LU prog gl (dx s) 127 [aE cz s] 181 cz:=λr h=>by
 unfold dx at h;refine OW func127 ?_;refine pO 1100 (s0 8 gl [(0,aE cz s)] [] 0 0) [] [] ?_;refine IA 0 3 4 59 181 rfl (E5 aH) (E5 aH) λb hb=>?_;cases b
 .exact EI [eu 7 D5 h] (D5.imm _)
 .obtain rfl:=D5.isNil (hb rfl);obtain rfl:=mV h;exact EI [] (D5.imm [])
def gt(s:List Fj):Option (List Fj):=aT 32 [] s
theorem tk{s:List Fj}:LU prog gl (gt s) 128 [aE bY s] 70 bY:=λr h=>by
 unfold gt at h;refine OW func128 ?_;refine pO 1100 (s0 8 gl [(0,aE bY s)] [] 0 0) [] [] ?_;refine IA 0 3 4 56 70 rfl (E5 aH) (E5 aH) λb hb=>?_;cases b
 .exact EI [eu 7 bZ h] (bZ.imm _)
 .obtain rfl:=bZ.isNil (hb rfl);obtain rfl:=mV h;exact EI [] (bZ.imm [])
def fu(s:List DP):Option (List DP):=aT 48 [] s
theorem qb{s:List DP}:LU prog gl (fu s) 129 [aE bp s] 185 bp:=λr h=>by
 unfold fu at h;refine OW func129 ?_;refine pO 1100 (s0 8 gl [(0,aE bp s)] [] 0 0) [] [] ?_;refine IA 0 3 4 60 185 rfl (E5 aH) (E5 aH) λb hb=>?_;cases b
 .exact EI [eu 7 bH h] (bH.imm _)
 .obtain rfl:=bH.isNil (hb rfl);obtain rfl:=mV h;exact EI [] (bH.imm [])
def jC(b:List DP)(a:List DP×Int):Option ((List DP×Int)⊕(List DP)):=
 bif a.2<ah b then((aS a.1 a.2).bind λc=>(Fe c.Body).bind λd=>(aS a.1 a.2).bind λe=>(ji a.1 a.2 ({e with Body:=d})).bind λf=>some (.inl (f,wI (a.2+1))))else(some (.inr a.1))
def jD(b:List Fj)(a:List Fj×Int):Option ((List Fj×Int)⊕(List Fj)):=
 bif a.2<ah b then((aS a.1 a.2).bind λc=>(dx c.Boxes).bind λd=>(aS a.1 a.2).bind λe=>(ji a.1 a.2 ({e with Boxes:=d})).bind λf=>some (.inl (f,wI (a.2+1))))else(some (.inr a.1))
def pG(o:Bp):Option Bp:=
 (cU o.Past).bind λe=>(Fe o.Body).bind λf=>(dK o.Refs).bind λg=>(fF o.Guards).bind λh=>(dx o.Boxes).bind λi=>(gt o.Path).bind λa=>(fu o.Hist).bind λb=>(AA (jD a) (a,0)).bind λc=>(AA (jC b) (b,0)).bind λd=>some ({o with Past:=e,Path:=c,Body:=f,Refs:=g,Guards:=h,Boxes:=i,Hist:=d})
theorem Ds{o}:DF prog gl (pG o) 63 [.agg (aJ o)] (λr=> .agg (aJ r)):=
 cy func63 λK=>Jq 7 ac (jY gl) λl=>Jq 10 rY (tj gl) λm=>Jq 13 rW (p9 gl) λn=>Jq 16 rZ (uK gl) λp=>Jq 19 D5 (uM gl) λq=>ak λe s=>ak λa t=>aw [hz 27 [] (Uz (c:=2) aH (tk gl s) (eB aH) (bZ.imm e)),hz 30 [] (Uz (c:=3) aH (qb gl t) (eB aH) (bH.imm a))]<|I3 111101 (λf=>sp [] [(1,.ref 0 0),(2,.ref 2 0)] [ob 0 64 [iG o.By,iG o.Seq,iG o.Kind,iG o.At,aE aj l,iG o.Device,iG o.Old,iG o.Member,iG o.Role,aE bY f,iG o.Epoch.By,iG o.Epoch.Seq,uG o.Epoch.Sum,iG o.N,aE cY m,aE cW n,iG o.Of.By,iG o.Of.Seq,uG o.Of.Sum,aE cZ p,iG o.Need,iG o.Wait,aE cz q,uG o.Pub,.rsl 1 0 a.length,uG o.Sig.R,uG o.Sig.S],ob 1 185 (a.flatMap bp),ob 2 64 (bF [4,9,14,15,19,22,24] (aJ ip))] 3) (λb=>sp [] [(1,.ref 0 0),(2,.ref 3 0),(35,iG (ah e)),(36,iG b.2)] [ob 0 64 [iG o.By,iG o.Seq,iG o.Kind,iG o.At,aE aj l,iG o.Device,iG o.Old,iG o.Member,iG o.Role,.rsl 1 0 b.1.length,iG o.Epoch.By,iG o.Epoch.Seq,uG o.Epoch.Sum,iG o.N,aE cY m,aE cW n,iG o.Of.By,iG o.Of.Seq,uG o.Of.Sum,aE cZ p,iG o.Need,iG o.Wait,aE cz q,uG o.Pub,.rsl 2 0 a.length,uG o.Sig.R,uG o.Sig.S],ob 1 70 (b.1.flatMap bY),ob 2 185 (a.flatMap bp),ob 3 64 (bF [4,9,14,15,19,22,24] (aJ ip))] 4) [hc (el e),hc (el a),hc (bZ.imm e),hc (bH.imm a)] (λf=>I3 1111101 (λi=>sx [] [(2,.ref 1 0)] [ob 0 64 (aJ ({o with Past:=l,Path:=f,Body:=m,Refs:=n,Guards:=p,Boxes:=q,Hist:=i})),ob 1 64 (bF [4,9,14,15,19,22,24] (aJ ip))] 2) (λd=>so [] [(54,iG (ah a)),(55,iG d.2)] [ob 0 64 [iG o.By,iG o.Seq,iG o.Kind,iG o.At,aE aj l,iG o.Device,iG o.Old,iG o.Member,iG o.Role,aE bY f,iG o.Epoch.By,iG o.Epoch.Seq,uG o.Epoch.Sum,iG o.N,aE cY m,aE cW n,iG o.Of.By,iG o.Of.Seq,uG o.Of.Sum,aE cZ p,iG o.Need,iG o.Wait,aE cz q,uG o.Pub,.rsl 1 0 d.1.length,uG o.Sig.R,uG o.Sig.S],ob 1 185 (d.1.flatMap bp)] 3) (DE bH a) (λi=>rv K) λd u v=>aF 56 (B5 64 (bH.ixrZ 1) 66 (bH.fd0Y tLY 3) λC=>Jq 67 rY (tj gl) λw=>ak λD x=>ak λj g=>aw [hw 69 (j.flatMap bp) (bH.putF g x 3 1 (gs:=[aE cY w]) rfl BX rfl),AB 68 (bH.ixsZ 1 g)]<|cj u [hc (hZ g),hc (bH.imm j)])<|aA c1 v [hc (bH.al d.1)]) λb y z=>aF 37 (B5 45 (bZ.ixrZ 1) 47 (bZ.fd0Y E3 1) λE=>Jq 48 D5 (uM gl) λA=>ak λF B=>ak λk h=>aw [hw 50 (k.flatMap bY) (bZ.putF h B 1 1 (gs:=[aE cz A]) rfl BX rfl),AB 49 (bZ.ixsZ 1 h)]<|cj y [hc (hZ h),hc (el a),hc (bZ.imm k),hc (bH.imm a)])<|aA c1 z [hc (bZ.al b.1),hc (el a),hc (bH.imm a)]
def Fi(s:LQ):Option LQ:=aT 40 [] s
theorem tn{s:LQ}:LU prog gl (Fi s) 151 [aE bv s] 78 bv:=λr h=>by
 unfold Fi at h;refine OW func151 ?_;refine pO 1100 (s0 8 gl [(0,aE bv s)] [] 0 0) [] [] ?_;refine IA 0 3 4 27 78 rfl (E5 aH) (E5 aH) λb hb=>?_;cases b
 .exact EI [eu 7 bT h] (bT.imm _)
 .obtain rfl:=bT.isNil (hb rfl);obtain rfl:=mV h;exact EI [] (bT.imm [])
def K3(f:Aaa)(a:Ab)(b:Ab):JL:=
 (pE a b).bind λg=>(bif g then(some (-1))else((pE b a).bind λc=>(bif c then(some 1)else(some 0)).bind λd=>some d)).bind λh=>(Fa f.Graph a).bind λi=>(Fa f.Graph b).bind λj=>(f8 i j).bind λk=>(iy ([k,h]:Bk)).bind λe=>some e
theorem Q9{r_ a b}:DF prog gl (K3 r_ a b) 87 [.agg (M4 r_),.agg (aj a),.agg (aj b)] iG:=
 cy func87 λK=>BB 11 (M5 gl) λj=>cN 111021 (sp [] [(3,.ref 0 0),(4,.ref 1 0),(5,.ref 2 0),(7,iG 0),(8,bG j)] [ob 0 144 (M4 r_),ob 1 25 (aj a),ob 2 25 (aj b)] 3) []<|cC 111021 (λe=>sf [8] [(7,iG e)]) (λe=>BB 19 (HB gl) λm=>BB 23 (HB gl) λn=>BB 24 (mQ gl) λi=>ak λk h=>aw [hq 27 [aE cZ ([i,e]:Bk)] [hc (rZ.al ([i,e]:Bk))] (FT gl h)]<|rv K) λe k13=>eH [8] (rx k13)<|ak λl f=>cC 11102141 (λc=>sf [8] [(7,iG c)]) (λc=>rx k13) λc g=>kV (λd=>aw [hf 15 (cF (M5 gl f) d)]<|rx g) λd=>aw [hf 15 (cF (M5 gl f) d)]<|rx g
def TH(a:Bh)(b:Bh):JL:=
 (f8 a.Device b.Device).bind λc=>some c
theorem UO{a b}:DF prog gl (TH a b) 136 [.agg (Bt a),.agg (Bt b)] iG:=
 cy func136 λK=>BB 9 (mQ gl) λc=>rv K
end
section
set_option maxHeartbeats 2000000
attribute [local irreducible] Tr dz Gp
theorem gS:Aac prog gl aj (λx=>[.agg (aj x)]) 213:=λs f fi_f fa_f fc_f a=>
 cy func213 λK=>N8 1101 (λg=>sg [] []) (λs1=>sf [] [(7,iG (ah s)),(8,iG s1)]) [hc (a.im)] K (λg=>rv K) λs1 k5 h k6=>aF 9 (B5 14 ac.ixZ 15 (ac.ptZ aW) λd=>ak λi e=>kV (λb=>aw [hz 16 [] (cS (a.cs (c:=0) e (aY (aG 20 (.agg (aj d)) aH) (bf))) b)]<|aP c3 k6 []) λb=>aw [hz 16 [] (cS (a.cs (c:=0) e (aY (aG 20 (.agg (aj d)) aH) (bf))) b)]<|cj k5 [hc (a.im)])<|aA c2 h []
def T0(a:Ad)(device:Int):JL:=
 some ((DS (a.cards.get device)).Member)
theorem OY{r_ device}:DF prog gl (T0 r_ device) 141 [.ptr (CA r_) 0,iG device] iG:=
 cy func141 λK=>aw [hm 10 (Aab r_.cards device)]<|rv K
def T9(b:Int)(y:Int):Fl:=
 ((Fu b).bind λc=>bif c then((Fu y).bind λa=>bif(!a)then(some true)else(some (decide (b<y))))else(some (decide (b<y)))).bind λd=>some d
theorem UQ{x_ y}:DF prog gl (T9 x_ y) 309 [iG x_,iG y] bG:=
 cy func309 λK=>cN [1,0] (sf [] []) []<|cC [1,0] (λa=>sg [] [(4,bG a)]) (λa=>rv K) λa k5=>ak λd e8=>kV (λb=>BB 9 (dw gl) λc=>aw [hf 6 (cF (dw gl e8) b)]<|aF 11 (rx k5)<|rx k5) λb=>aw [hf 6 (cF (dw gl e8) b)]<|rx k5
def O0(a:Ad)(device:Int):Fl:=
 ((T0 a device).bind λb=>bif 0<b then(some (!(Hg (a.was.get device))))else(some false)).bind λc=>some c
theorem Se{r_ device}:DF prog gl (O0 r_ device) 142 [.ptr (CA r_) 0,iG device] bG:=
 cy func142 λK=>cN [1,0] (sf [] []) []<|cC [1,0] (λa=>sg [] [(4,bG a)]) (λa=>rv K) λa k5=>BB 7 (OY gl) λb=>aF 8 (aw [hm 15 (Sb r_.was device)]<|rx k5)<|rx k5
def Zv{α:Type}[DecidableEq α](s:List α)(v:α)(s1:Int):Option ((Int)⊕(Unit⊕Int)):=
 bif s1<ah s then((aS s s1).bind λa=>bif v=a then(some (.inr (.inr s1)))else(some (.inl (wI (s1+1)))))else(some (.inr (.inl ())))
def ixT{α:Type}[DecidableEq α](s:List α)(v:α):JL:=
 (AA (Zv s v) 0).bind λa=>ma a (λb=>some (-1)) (λq=>some q)
theorem Re{s v}:DF prog gl (ixT s v) 149 [aE cZ s,iG v] iG:=
 cy func149 λK=>N8 1101 (λa=>sg [] []) (λs1=>sf [] [(7,iG (ah s)),(8,iG s1)]) [] K (λa=>rv K) λs1 k5 b k6=>aF 9 (B5 14 rZ.ixZ 15 (rZ.p1Y tZ) λc=>aF 16 (aP c3 k6 [])<|rb k5)<|aA c2 b []
def Aa6{α:Type}[DecidableEq α](s:List α)(v:α):Fl:=
 (ixT s v).bind λa=>some (decide (0<=a))
theorem Dk{s v}:DF prog gl (Aa6 s v) 77 [aE cZ s,iG v] bG:=
 cy func77 λK=>BB 7 (Re gl) λa=>rv K
def UR(kind:Int):Fl:=
 (bif kind=3 then(some true)else(bif kind=13 then(some true)else(some (decide (kind=12))))).bind λa=>some a
theorem XJ{kind}:DF prog gl (UR kind) 241 [iG kind] bG:=
 cy func241 λK=>cN [1,0] (sf [] []) []<|cC [1,0] (λa=>sg [] [(2,bG a)]) (λa=>rv K) λa k3=>aF 4 (rx k3)<|aF 8 (rx k3)<|rx k3
def Sf(a:Ab)(a1:AQ):Fl:=
 some (Ba (a1.void.get a))
theorem O4{id_ a1}:DF prog gl (Sf id_ a1) 242 [.agg (aj id_),.ptr [.ptr (BU a1) 0] 0] bG:=
 cy func242 λK=>aw [hm 9 (Sd a1.void id_)]<|rv K
theorem O5{s v}:DF prog gl (ixT s v) 217 [aE aj s,.agg (aj v)] iG:=
 cy func217 λK=>N8 1101 (λc=>sg [] []) (λs1=>so [1] [(3,.ref 0 0),(7,iG (ah s)),(8,iG s1)] [ob 0 25 (aj v)] 1) [] K (λc=>rv K) λs1 k5 d k6=>aF 9 (B5 14 ac.ixZ 15 (ac.ptZ aW) λb=>kV (λa=>aw [hV 16 (cV (dU v b rfl) a)]<|aP c3 k6 []) λa=>aw [hV 16 (cV (dU v b rfl) a)]<|rb k5)<|aA c2 d []
theorem Jd{s v}:DF prog gl (Aa6 s v) 133 [aE aj s,.agg (aj v)] bG:=
 cy func133 λK=>BB 7 (O5 gl) λa=>rv K
def ij(g:Aj)(device:Int)(s1:DH×Int):Option ((DH×Int)⊕(DH⊕(DH×Bool))):=
 bif s1.2<ah g.cards then((aS g.cards s1.2).bind λa=>bif a.Device=device then(some (.inr (.inr (a,true))))else(some (.inl (s1.1,wI (s1.2+1)))))else(some (.inr (.inl s1.1)))
def hY(g:Aj)(device:Int):Option (DH×Bool):=
 (AA (ij g device) (⟨0,0,0,0,0⟩,0)).bind λa=>ma a (λb=>some (⟨0,0,0,0,0⟩,false)) (λq=>some q)
theorem uN{g device}:DF prog gl (hY g device) 34 [.ptr (Ag g) 0,iG device] (λr=> .tup [.agg (bv r.1),bG r.2]):=
 cy func34 λK=>N8 1101 (λa=>sp [] [(4,.ref 0 0)] [ob 0 78 (bv a)] 1) (λs1=>so [0] [(4,.ref 0 0),(11,aE bv g.cards),(12,iG (ah g.cards)),(13,iG s1.2)] [ob 0 78 (bv s1.1)] 1) [] K (λa=>rv K) λs1 k5 b k6=>aF 14 (B5 15 bT.ixZ 16 (bT.ptZ E2) λc=>aF 20 (aP c3 k6 [])<|rb k5)<|aA c2 b []
theorem kP:Aa5 prog gl aj (λx=>[.agg (aj x)]) 118:=λs f fi_f fa_f fc_f a=>
 cy func118 λK=>ak λb e2=>aw [hz 7 [] (jf (c:=0) aH (gS gl (a) e2) (aY (aG 20 (aE aj s) aH) (aY (a.im) (bf))))]<|rv K
def Kp(a:DH)(b:DH):JL:=
 some (wI (a.Device-b.Device))
theorem Dt{a b}:DF prog gl (Kp a b) 187 [.agg (bv a),.agg (bv b)] iG:=
 cy func187 λK=>rv K
def FV(n:Int)(low:Int)(a:Int):Fl:=
 (bif low<=n then(some (decide (n<=a)))else(some false)).bind λb=>some b
theorem eE{n low a}:DF prog gl (FV n low a) 322 [iG n,iG low,iG a] bG:=
 cy func322 λK=>cN [1,0] (sf [] []) []<|cC [1,0] (λb=>sg [] [(6,bG b)]) (λb=>rv K) λb k3=>aF 9 (rx k3)<|rx k3
def Kq(n:Nat):Fl:=
 some (decide ((n:Int)<((2305843009213693951:Nat):Int)))
theorem Ak{n}:DF prog gl (Kq n) 332 [uG n] bG:=
 cy func332 λK=>rv K
def Al(a:Ab):Fl:=
 ((FV a.By 1 12).bind λd=>bif d then((FV a.Seq 1 2147483647).bind λb=>bif b then((Kq a.Sum).bind λc=>some c)else(some false))else(some false)).bind λe=>some e
theorem pH{id_}:DF prog gl (Al id_) 323 [.agg (aj id_)] bG:=
 cy func323 λK=>cN [1,0] (sp [] [(1,.ref 0 0)] [ob 0 25 (aj id_)] 1) []<|cC [1,0] (λa=>sk [] [(2,bG a)] [] 0) (λa=>rv K) λa k5=>ak λe e8=>kV (λb=>BB 9 (eE gl) λc=>aw [hf 5 (cF (eE gl e8) b)]<|aF 10 (BB 14 (Ak gl) λd=>rx k5)<|rx k5) λb=>aw [hf 5 (cF (eE gl e8) b)]<|rx k5
def rJ(n:Nat):Fl:=
 (bif ((1:Nat):Int)<=(n:Int)then(some (decide ((n:Int)<((2305843009213693951:Nat):Int))))else(some false)).bind λa=>some a
theorem iz{n}:DF prog gl (rJ n) 324 [uG n] bG:=
 cy func324 λK=>cN [1,0] (sf [] []) []<|cC [1,0] (λa=>sg [] [(2,bG a)]) (λa=>rv K) λa k3=>aF 4 (rx k3)<|rx k3
theorem pI:Aac prog gl cz (λx=>[.agg (cz x)]) 380:=λs f fi_f fa_f fc_f a=>
 cy func380 λK=>N8 1101 (λg=>sg [] []) (λs1=>sf [] [(7,iG (ah s)),(8,iG s1)]) [hc (a.im)] K (λg=>rv K) λs1 k5 h k6=>aF 9 (B5 14 D5.ixZ 15 (D5.ptZ UL) λd=>ak λi e=>kV (λb=>aw [hz 16 [] (cS (a.cs (c:=0) e (aY (aG 20 (.agg (cz d)) aH) (bf))) b)]<|aP c3 k6 []) λb=>aw [hz 16 [] (cS (a.cs (c:=0) e (aY (aG 20 (.agg (cz d)) aH) (bf))) b)]<|cj k5 [hc (a.im)])<|aA c2 h []
theorem LT:Aa5 prog gl cz (λx=>[.agg (cz x)]) 364:=λs f fi_f fa_f fc_f a=>
 cy func364 λK=>ak λb e2=>aw [hz 7 [] (jf (c:=0) aH (pI gl (a) e2) (aY (aG 20 (aE cz s) aH) (aY (a.im) (bf))))]<|rv K
end
section
attribute [local irreducible] Tr dz Gp
section
variable {P:Br} {α σ X V:Type} {A:List HP} {r:α} [M:Mix P] {fn:Func} {Q:Exit->St->Prop} {Bs:List (St->Prop)} {m:Bool} {p:Bq} {st:St}
theorem rdN{step:σ->Option (σ⊕(X⊕V))}{s0:σ}{F:X->Option α}{rs:V->α}{Z:V->Prop}(b:Bq)(S:σ->St->St)(O:List HP)(K:∀q,r=rs q->Z q)(h:∀{B:St->Prop} {v:σ⊕(X⊕V)} (s:σ),(∀s',v= .inl s'->B (S s' st))->(∀q,v= .inr (.inr q)->Z q)->RD [] (step s) v (Gp P fn Q (Bs++[B]) false b (S s st)))(hF:∀x,F x=none)(vs:List Bo:=[])(ρ:DD:=[])(kd:List (Nat×Rk):=[])(k:Yy P fn Bs m p b A O vs ρ kd (S s0 st) st:=by exact⟨⟨aH,aH⟩,λ_=>aH⟩):RD A ((AA step s0).bind λx=>ma x F λq=>some (rs q)) r (Gp P fn Q Bs m p st):=λh0=>by obtain⟨x,e1,h1⟩:=bS h0;refine pN (λs=>S s st) b e1 A O (λB s v hv h5 h4=>h s h5 (λz hz=>?_) hv) vs ρ kd k.1 k.2;have:=h4 _ hz;subst this;exact K z (Bf h1).symm
end
def Pa(n:Int)(s1:Int):Option ((Int)⊕(Int)):=
 bif wI (2*s1)<n then(some (.inl (wI (s1*2))))else(some (.inr s1))
def Si(n:Int):JL:=
 (AA (Pa n) 1).bind λa=>some a
theorem Aah{n}:DF prog gl (Si n) 178 [iG n] iG:=
 cy func178 λK=>I3 1110 (λa=>sg [] [(3,iG a)]) (λs1=>sf [] [(3,iG s1)]) [] (λa=>rv K) λs1 k5 b=>aF 7 (rb k5)<|aA c1 b []
def M6(a:Bk):Option (Bk×Bk):=
 bif ah a<2 then(some ([],[]))else((Si (ah a)).bind λc=>(tq a c).bind λd=>(fF d).bind λe=>(mc a c).bind λf=>(fF f).bind λb=>some (e,b))
theorem Aai{leaves}:DF prog gl (M6 leaves) 95 [aE cZ leaves] (λr=> .tup [aE cZ r.1,aE cZ r.2]):=
 cy func95 λK=>aF 7 (rv K)<|BB 10 (Aah gl) λb=>rdv 13 rZ.preZI λc=>Jq 14 rZ (uK gl) λd=>rdv 17 rZ.sufZI λe=>Jq 18 rZ (uK gl) λa=>rv K
def Pl(device:Int)(c:Bk×LE×LE):Option ((Bk×LE×LE)⊕(Unit⊕(LE×LE))):=
 (fF c.1).bind λd=>(aT 24 c.2.1 [d]).bind λb=>(M6 c.1).bind λa=>bif ah a.2=0 then(some (.inr (.inr (b,c.2.2))))else((Aa6 a.1 device).bind λe=>bif e then((aT 24 c.2.2 [a.2]).bind λf=>some (.inl (a.1,b,f)))else((aT 24 c.2.2 [a.1]).bind λg=>some (.inl (a.2,b,g))))
def Pm(a:Bk)(device:Int):Option (LE×LE):=
 (Aa6 a device).bind λb=>bif(!b)then(some ([],[]))else((AA (Pl device) (a,[],[])).bind λc=>ma c (λd=>none) (λq=>some q))
theorem Aaj{leaves device}:DF prog gl (Pm leaves device) 64 [aE cZ leaves,iG device] (λr=> .tup [aE Jc r.1,aE Jc r.2]):=
 cy func64 λK=>BB 10 (Dk gl) λj=>aF 11 (rv K)<|rdN 11122 (λb=>so [] [(0,aE cZ b.1),(4,.rsl 0 0 b.2.1.length),(5,.rsl 1 0 b.2.2.length)] [ob 0 22 (b.2.1.flatMap Jc),ob 1 22 (b.2.2.flatMap Jc)] 2) [hc (nH.imm []),hc (nH.imm [])] K (λb k8 k9=>Jq 14 rZ (uK gl) λg=>Gd (dg 16 nH) λa=>BB 19 (Aai gl) λh=>aF 30 (aP c3 k9 [hc (nH.al a),hc (nH.al b.2.2)])<|ak λi d=>kV (λc=>Gd (dg 41 nH) λe=>aw [hf 36 (cF (Dk gl d) c)]<|cj k8 [hc (el a),hc (el e),hc (nH.imm a),hc (nH.imm e)]) λc=>Gd (dg 26 nH) λf=>aw [hf 36 (cF (Dk gl d) c)]<|cj k8 [hc (el a),hc (el f),hc (nH.imm a),hc (nH.imm f)]) (λ_=>rfl) [22,22] [(0,0),(1,1)] [(0,.row),(1,.row)]
end
abbrev mEs{K V:Type}(kv:K->Value)(vg:V->G)(m:FM K V):List (Value×G×Nat):=m.es.map λe=>(kv e.1,vg e.2.1,e.2.2)
abbrev MZ{K V:Type}(t:Bo)(kv:K->Value)(vg:V->G)(m:FM K V):Ob:=⟨t,[],some (.map (mEs kv vg m) m.clk)⟩
def C3{K V:Type}[DecidableEq K](m:FM K V)(k:K)(p:V):FM K V:=match bu k (m.es.map (·.1)) with
 |none=>⟨m.es++[(k,p,m.clk)],m.clk+1⟩
 |some j=>⟨m.es.set j (k,p,(m.es[j]?.map (·.2.2)).getD 0),m.clk⟩
def RY{K V:Type}[DecidableEq K](m:FM K V)(k:K):FM K V:=match bu k (m.es.map (·.1)) with
 |none=>m
 |some j=>⟨m.es.eraseIdx j,m.clk⟩
structure FxOk {K V:Type} (m:FM K V):Prop where
 nd:(m.es.map (·.2.2)).Nodup
 lt:∀e∈m.es,e.2.2<m.clk
structure QI {K V:Type} (m:FM K V):Prop extends FxOk m where
 kd:(m.es.map (·.1)).Nodup
theorem Abs{K:Type}[DecidableEq K]{k:K}:∀{l:List K} {j:Nat},bu k l=some j->l[j]?=some k
 |[],j,h=>by cases h
 |x::r,j,h=>by
  unfold bu at h;split at h
  .grind
  .rw[DG] at h;obtain⟨n,h,rfl⟩:=h;simpa using Abs h
theorem Sw{K:Type}[DecidableEq K]{k:K}:∀{l:List K},bu k l=none->k∉l
 |[],h=>aC
 |x::r,h=>by
  unfold bu at h;split at h
  .cases h
  .rename_i hne;rw[Option.map_eq_none_iff] at h;simp[hne,Sw h]
section
variable {P:Br} {K V:Type} [DecidableEq K] {kt et t t':Bo} {kv:K->Value} {vg:V->G} {m:FM K V} {σ:aQ} {i:Nat} {k:K} {gk:G}
theorem Pw:(mEs kv vg m).map (·.1)=(m.es.map (·.1)).map kv:=by rw[HR,HR];rfl
theorem PK(h:ag σ i=some (MZ t' kv vg m)):Lv σ (.mref i)=some (i,t',mEs kv vg m,m.clk):=by unfold Lv;simp only[h]
theorem Sx(KT:LV P kt kv){ok:Bool}(ht:pB P t=some (kt,et))(hk:cD gk=some (kv k))(h:ag σ i=some (MZ t' kv vg m)):bL P σ t ok (.mref i) gk=bL P σ t ok (m.g kv vg) gk:=by unfold bL FM.g;rw[ht,hk];dsimp only;rw[PK h];dsimp only;rw[show(m.es.map λe=>kv e.1)=(m.es.map (·.1)).map kv by rw[HR];rfl,KT.chk,KT.chk,Pw,KT.key];grind
theorem AeH(KT:LV P kt kv)(hs:∀k,Instr.sameBits 10000 (kv k) (kv k)=true)(ht:pB P t=some (kt,et))(hk:cD gk=some (kv k))(h:ag σ i=some (MZ t' kv vg m))(p:V):dZ P σ t (.mref i) gk (vg p)=some (i,MZ t' kv vg (C3 m k p)):=by
 unfold dZ;rw[ht,hk,PK h];dsimp only;rw[KT.chk,ax,Pw,KT.key];unfold C3;cases hk:bu k (m.es.map (·.1)) with
 |none=>grind
 |some j=>have hj:=Abs hk;grind [List.map_set]
theorem aas{α β:Type}(f:α->β):∀(l:List α) (j:Nat),(l.eraseIdx j).map f=(l.map f).eraseIdx j
 |[],_=>rfl
 |x::r,0=>rfl
 |x::r,j+1=>by rw[List.eraseIdx_cons_succ,E7,E7,List.eraseIdx_cons_succ,aas f r j]
theorem Akw(KT:LV P kt kv)(ht:pB P t=some (kt,et))(hk:cD gk=some (kv k))(h:ag σ i=some (MZ t' kv vg m)):FN P σ t (.mref i) gk=some (i,MZ t' kv vg (RY m k)):=by unfold FN;rw[ht,hk,PK h];dsimp only;rw[KT.chk,ax,Pw,KT.key];grind [RY,aas]
def Ago(m:FM K V)(k:K):Nat:=match bu k (m.es.map (·.1)) with
 |none=>m.clk
 |some j=>(m.es[j]?.map (·.2.2)).getD 0
theorem LX(h:bu k (m.es.map (·.1))=some j):∃e,m.es[j]?=some e/\e.1=k/\m.get k=some e.2.1:=by grind [FM.get,fz]
theorem SA(h:bu k (m.es.map (·.1))=none):m.get k=none:=by grind [FM.get,fz]
theorem Aiw(KT:LV P kt kv)(hs:∀k,Instr.sameBits 10000 (kv k) (kv k)=true)(ht:pB P t=some (kt,et)){v0:V}(hz:((P.info? et).bind (·.zero)).map db=some (vg v0))(hk:cD gk=some (kv k))(h:ag σ i=some (MZ t' kv vg m)):
  ov P σ t (.mref i) gk=some (i,MZ t' kv vg (C3 m k ((m.get k).getD v0)),.tup [vg ((m.get k).getD v0),iG (Ago m k:Nat)]):=by
 unfold ov
 rw[ht,hk,PK h]
 dsimp only
 rw[KT.chk,ax,Pw,KT.key]
 unfold C3 Ago
 cases hk:bu k (m.es.map (·.1)) with
 |none=>
  grind [DG,SA]
 |some j=>
  obtain⟨e,he,rfl,hg⟩:=LX hk
  grind [List.map_set]
theorem VG:∀{es:List (K×V×Nat)} {j:Nat} {e:K×V×Nat},(es.map (·.2.2)).Nodup->es[j]?=some e->(es.map λe=>(kv e.1,vg e.2.1,e.2.2)).findIdx? (λx=>(x.2.2:Int)==(e.2.2:Int))=some j
 |[],j,e,_,h=>by simp at h
 |x::r,0,e,_,h=>by grind
 |x::r,j+1,e,hd,h=>by
  rw[E7,LS] at hd;rw[List.getElem?_cons_succ] at h;have hne:x.2.2≠e.2.2:=by grind
  rw[E7,List.findIdx?_cons,BA cq,VG hd.2 h];rfl
theorem Aix(hm:FxOk m){v0:V}(h:ag σ i=some (MZ t' kv vg (C3 m k v0)))(v:V):jX σ (.mref i) (iG (Ago m k:Nat)) (vg v)=some (i,MZ t' kv vg (C3 m k v)):=by
 unfold jX;rw[PK h];dsimp only;unfold C3 Ago at*;cases hk:bu k (m.es.map (·.1)) with
 |none=>
  dsimp only;have hx:(m.es++[(k,v0,m.clk)])[m.es.length]?=some (k,v0,m.clk):=aC;have:=VG (kv:=kv) (vg:=vg) (es:=m.es++[(k,v0,m.clk)]) (by rw[List.map_append,List.nodup_append];grind [FxOk]) hx
  rw[this];dsimp only;rw[MH,hx,Option.map_some];dsimp only;rw[<-List.map_set (f:=λe:K×V×Nat=>(kv e.1,vg e.2.1,e.2.2)) (a:=(k,v,m.clk))];grind
 |some j=>
  obtain⟨e,he,rfl,hg⟩:=LX hk;have hlt:=(cr he).1;dsimp only;rw[he];simp only[Option.map_some,M2];have hx:(m.es.set j (e.1,v0,e.2.2))[j]?=some (e.1,v0,e.2.2):=by simp[hlt]
  have hd:((m.es.set j (e.1,v0,e.2.2)).map (·.2.2)).Nodup:=by grind [List.map_set,FxOk.nd]
  rw[VG hd hx];grind [List.map_set,List.set_set]
theorem PL(hi:∀v,bB (vg v)):∀e∈mEs kv vg m,bB e.2.1:=by grind
end
section
variable {K V:Type} [DecidableEq K] {m:FM K V} {k:K}
theorem Ac0:∀{es:List (K×V×Nat)} {k:K},k∉es.map (·.1)->es.find? (λe=>decide (e.1=k))=none
 |[],k,_=>rfl
 |x::r,k,h=>by grind
theorem Bz(p:V)(x:K):(C3 m k p).get x=if x=k then some p else m.get x:=by
 unfold C3;cases hk:bu k (m.es.map (·.1)) with
 |none=>
  unfold FM.get;dsimp only;rw[List.find?_append];split
  .rename_i e;subst e;rw[Ac0 (Sw hk)];simp
  grind
 |some j=>
  obtain⟨e,he,rfl,hg⟩:=LX hk;have key:∀{es:List (K×V×Nat)} {j:Nat} (n:Nat),bu e.1 (es.map (·.1))=some j->((es.set j (e.1,p,n)).find? (λq=>decide (q.1=x))).map (·.2.1)=if x=e.1 then some p else(es.find? λq=>decide (q.1=x)).map (·.2.1):=by
   intro es;induction es with
   |nil=>intro j n h;cases h
   |cons y r ih=>intro j n h;rw[E7,bu] at h;grind [DG]
  exact key _ hk
theorem PM(p:V):(C3 m k p).es.map (·.1)=if k∈m.es.map (·.1)then m.es.map (·.1)else m.es.map (·.1)++[k]:=by
 unfold C3;cases hk:bu k (m.es.map (·.1)) with
 |none=>rw[BA (Sw hk)];simp
 |some j=>have hj:=Abs hk;rw[Bx (bO hj)];dsimp only;rw[List.map_set];apply List.ext_getElem?;grind
theorem NR(h:QI m)(p:V):QI (C3 m k p):=by
 refine⟨⟨?_,?_⟩,?_⟩
 .unfold C3;cases hk:bu k (m.es.map (·.1)) with
  |none=>dsimp only;rw[List.map_append,List.nodup_append];refine⟨h.nd,aC,λa ha b hb=>?_⟩;obtain⟨e,he,rfl⟩:=EP.1 ha;simp at hb;subst hb;have:=h.lt e he;omega
  |some j=>grind [QI,LX,List.map_set,FxOk.nd]
 .unfold C3;cases hk:bu k (m.es.map (·.1)) with
  |none=>
   intro e he;dsimp only at he⊢;rcases Jk.1 he with he|he
   .have:=h.lt e he;omega
   grind
  |some j=>
   obtain⟨e,he,rfl,_⟩:=LX hk;intro x hx;dsimp only at hx⊢;rcases List.mem_or_eq_of_mem_set hx with hx|rfl
   .exact h.lt x hx
   .rw[he];exact h.lt e (bO he)
 grind [PM,QI.kd]
theorem Nk(h:QI m)(x:K):(RY m k).get x=if x=k then none else m.get x:=by
 unfold RY;cases hk:bu k (m.es.map (·.1)) with
 |none=>grind [SA]
 |some j=>
  have key:∀{es:List (K×V×Nat)} {j:Nat},(es.map (·.1)).Nodup->bu k (es.map (·.1))=some j->((es.eraseIdx j).find? (λq=>decide (q.1=x))).map (·.2.1)=if x=k then none else(es.find? λq=>decide (q.1=x)).map (·.2.1):=by
   intro es;induction es with
   |nil=>intro j _ h;cases h
   |cons y r ih=>intro j hd h;rw[E7,LS] at hd;grind [bu,DG]
  exact key h.kd hk
theorem AaC{e:K×V×Nat}(h:e∈(RY m k).es):e∈m.es:=by grind [RY,List.mem_of_mem_eraseIdx]
theorem UF(h:QI m):QI (RY m k):=by grind [QI,FxOk,RY,List.eraseIdx_sublist]
theorem G9{v:V}(h:m.get k=some v):∃n,(k,v,n)∈m.es:=by grind [FM.get,DG]
theorem IX(h:QI m){v:V}{n:Nat}(he:(k,v,n)∈m.es):m.get k=some v:=by
 unfold FM.get;have key:∀{es:List (K×V×Nat)},(es.map (·.1)).Nodup->(k,v,n)∈es->es.find? (λe=>decide (e.1=k))=some (k,v,n):=by intro es;induction es<;>grind
 rw[key h.kd he];rfl
end
inductive Aa1 (P:Br) (c:Code) (e:Exit) (s:St):Nat->St->Prop
 |last {st:St} (he:e≠ .normal) (h:Tr P c st (λe' s'=>e'=e/\s'=s)):Aa1 P c e s 0 st
 |more {k:Nat} {st s1 s2:St} (h:Tr P c st (λe' s'=>e'= .normal/\s'=s1)) (hl:Le P s1 s2) (hr:Aa1 P c e s k s2):Aa1 P c e s (k+1) st
def jg(P:Br)(gl:CB)(f:FuncId)(gs:Bn)(σ:aQ)(c:Nat)(r:G)(σ':aQ)(c':Nat):Prop:=
 aK P f=true/\∃fn body,P.funcs[f]?=some fn/\fn.body=some body/\gs.length<=fn.ntmps/\
  Tr P body ⟨fn.ntmps,gl,bQ 0 gs,σ,c,c,false⟩ (λe s=>(e= .normal\/e= .ret)/\s.gl=gl/\(∀k o,ag σ' k=some o->ag s.σ k=some o)/\s.c=c'/\∃a,fn.results.toList.mapM (jV P s)=some a/\r=iU a)
section
variable {ops:Array Oper} {K:St->Prop} {ty:Bo} {pos:String} {af:Array Edge} {rest:HA} {n:Nat} {gl:CB} {fr:Fr} {σ:aQ} {c p d j:Nat} {bars:Bq} {rr:Bool}
end
section
variable {P:Br} {ops:Array Oper} {K:St->Prop} {op:Op} {ty:Bo} {pos:String} {af:Array Edge} {rest:HA} {n:Nat} {gl:CB} {fr:Fr} {σ:aQ} {c p d j:Nat} {bars:Bq} {rr:Bool} {gq:Option (Nat×Bool)}
end
def vi(L:Bq)(i:Nat):Fp:=L.findIdx? (Nat.beq · i)
def GL(L:Bq)(c:Nat)(k:Nat):Fp:=match L[k]? with
 |some i=>some i
 |none=>some (c+(k-L.length))
theorem QX(h:vi L i=some k):L[k]?=some i:=by grind [vi,List.findIdx?_eq_some_iff_getElem,bc]
def Xx(P:Br)(gl:CB)(f:FuncId)(gs:Bn)(σ:aQ)(c:Nat){ι:Type}(r:ι->G)(σ':ι->aQ)(c':ι->Nat):Prop:=
 aK P f=true/\∃fn body,P.funcs[f]?=some fn/\fn.body=some body/\gs.length<=fn.ntmps/\
  Tr P body ⟨fn.ntmps,gl,bQ 0 gs,σ,c,c,false⟩ (λe s=>(e= .normal\/e= .ret)/\s.gl=gl/\∃x,(∀k o,ag (σ' x) k=some o->ag s.σ k=some o)/\s.c=c' x/\∃a,fn.results.toList.mapM (jV P s)=some a/\r x=iU a)
theorem MC{o:Oper}{st:St}{f:Dl}{xs:Array Dl}{ats:Array Bo}{fid:FuncId}{fst cap:Bn}(L:Bq){gs0:Bn}{σ0:aQ}{ι:Type}{r:ι->G}{σ1:ι->aQ}{c1:ι->Nat}(ho:o.op= .call {callee:= .value f,args:=xs,argTypes:=ats})(hd:Ly o st.n)(hf:aB st f= .clo (.func fid) fst cap)
  (hM:Xx P st.gl fid gs0 σ0 L.length r σ1 c1) (hL:∀(k i:Nat),L[k]?=some i->i<st.c) (hnd:L.Nodup) (hgs:gs0=(fst++xs.toList.map (aB st)++cap).map (qg (vi L) 20))
  (hin:∀(k i:Nat),L[k]?=some i->∃o o0,ag st.σ i=some o/\ag σ0 k=some o0/\MB (vi L) o o0) (h0:∀k o,ag σ0 k=some o->k<L.length)
  (τ:ι->aQ) (y:∀x i o,ag (τ x) i=some o->(∃k p,GL L st.c k=some i/\ag (σ1 x) k=some p/\MB (GL L st.c) p o)\/(ag st.σ i=some o/\i∉L)):
  th P o st (λs'=>∃x,s'={st with σ:=τ x,c:=st.c+(c1 x-L.length)}.put o.dst (qg (GL L st.c) 20 (r x))):=by
 obtain⟨hc,fn,body,hfn,hb,hn,hT⟩:=hM
 intro cx a w K R ⟨β,h⟩ hK
 obtain⟨vs,hrun,hsz,hv⟩:=lQ h ho hf hc
 refine h.loose.oper (λc hc=>by rw[ho] at hc;cases hc) ?_
 unfold Oper.wp
 rw[hrun]
 have hlive:∀i o,ag st.σ i=some o->∃x,β i=some x:=λi o ho=>by
  rcases(h.ob i o ho).at with h1|⟨b,C,_,h1,_⟩
  .exact⟨_,h1⟩
  .exact⟨_,h1⟩
 have hbound:∀i o,ag st.σ i=some o->i<st.c:=λi ob ho=>by
  rcases HE i st.c with hlt|hge
  .exact hlt
  .obtain⟨x,hx⟩:=hlive i ob ho;rw[h.fresh i hge] at hx;cases hx
 obtain⟨d,I⟩:∃d:Bm,d=λk=>match L[k]? with|some i=>β i|none=>none:=⟨_,rfl⟩
 have b0:∀{k i:Nat},L[k]?=some i->d k=β i:=λ{k i} hk=>by rw[I];simp only[hk]
 have b0n:∀{k:Nat},L.length<=k->d k=none:=λ{k} hk=>by rw[I];simp only[List.getElem?_eq_none hk]
 have hk0:∀{k:Nat} {o0:Ob},ag σ0 k=some o0->∃i o,L[k]?=some i/\i∈L/\ag st.σ i=some o/\MB (vi L) o o0:=λ{k o0} hk=>by have hlt:=h0 k o0 hk;have hi:L[k]?=some (L[k]'hlt):=DR hlt;grind
 have hmem:∀{i:Nat},i∈L->∃k o0,L[k]?=some i/\ag σ0 k=some o0:=λ{i} hi=>by obtain⟨k,hk⟩:=Gu hi;obtain⟨o,o0,_,g2,_⟩:=hin k i hk;exact⟨k,o0,hk,g2⟩
 obtain⟨Hid,m⟩:∃Hid:Fq,Hid=λb=>cx.S0 b\/∃i ob C,ag st.σ i=some ob/\β i=some (some (b,C))/\i∉L:=⟨_,rfl⟩
 have hav0:∀b,Av Hid d σ0 b↔Av cx.S0 β st.σ b:=λb=>by
  rw[m];constructor
  .rintro((hb|⟨i,ob,C,h1,h2,_⟩)|⟨k,ob,C,h1,h2⟩)
   .exact .inl hb
   .exact .inr ⟨i,ob,C,h1,h2⟩
   .obtain⟨i,o,g1,_,g2,_⟩:=hk0 h1;rw[b0 g1] at h2;exact .inr ⟨i,o,C,g2,h2⟩
  .rintro(hb|⟨i,ob,C,h1,h2⟩)
   .exact .inl (.inl hb)
   .by_cases hi:i∈L
    .obtain⟨k,o0,g1,g2⟩:=hmem hi;exact .inr ⟨k,o0,C,g2,(b0 g1).trans h2⟩
    .exact .inl (.inr ⟨i,ob,C,h1,h2,hi⟩)
 have kin:∀i k,vi L i=some k->d k=β i:=λi k hk=>b0 (QX hk)
 have hlivS:∀b,GG d σ0 b->∃i o C,i∈L/\ag st.σ i=some o/\β i=some (some (b,C)):=λb ⟨k,ob,C,h1,h2⟩=>by grind
 have hsz0:vs.size=gs0.length:=by grind
 have hv0:∀(i:Nat) (g:G) (u:Value),gs0[i]?=some g->vs[i]?=some u->RV d (Av Hid d σ0) w g u:=λi g u hg hu=>by
  rw[hgs,MH] at hg;cases hx:(fst++xs.toList.map (aB st)++cap)[i]? with
  |none=>grind
  |some x=>rw[hx] at hg;simp only[Option.map_some,Fk] at hg;subst hg;exact IG kin 20 x u ((hv i x u hx hu).step (λ_ _ x=>x) (λb _ hb=>(hav0 b).1 hb) (A3.refl _ _))
 have hfront:Bv P ⟨w,GG d σ0,Hid,d,Fence.wide,9⟩ ⟨fn.ntmps,st.gl,bQ 0 gs0,σ0,L.length,L.length,false⟩ {tmps:=vs++Array.replicate (fn.ntmps-vs.size) undef,defers:=[]} w d:={
  size:=by grind
  defers:= .nil rfl
  loose:=lP
  rnd:=λ_=>rfl
  fr:=λi=>Ca hsz0 hn hv0 i
  ob:=λk o0 hk=>by obtain⟨i,o,g1,_,g2,q⟩:=hk0 hk;exact U8 kin ((h.ob i o g2).step (λ_ _ x=>x) (λb _ hb=>(hav0 b).1 hb) (A3.refl _ _) (λ_ _ _=>rfl)) q (b0 g1)
  inj:=λk1 k2 p A b C D h1 h2 h3 h4=>by obtain⟨i1,q1,g1,_,g2,_⟩:=hk0 h1;obtain⟨V,W,e1,_,e2,_⟩:=hk0 h2;grind [Bv.inj,List.getElem?_inj]
  own:=λk o0 b C h1 h2=> .inl ⟨k,o0,C,h1,h2⟩
  sep:=λk o0 b C h1 h2 hx=>by
   obtain⟨i,o,g1,g0,g2,_⟩:=hk0 h1;rw[b0 g1] at h2;have hx':Hid b:=hx;rw[m] at hx';rcases hx' with hx|⟨j,ob,D,e1,e2,e3⟩
   .exact h.sep i o b C g2 h2 hx
   .have:=h.inj i j o ob b C D g2 e1 h2 e2;subst this;exact e3 g0
  fresh:=λk hk=>b0n hk
  glob:=λg l hl=>(h.glob g l hl).sub λb _ hb=>(hav0 b).1 hb
  keep:=A3.refl _ _
  old:=λb hb=>by
   have hx':Hid b:=hb;rw[m] at hx';rcases hx' with hb|⟨i,ob,C,h1,h2,_⟩
   .exact h.keep.lt (h.old b hb)
   .exact h.lt h1 h2
  pin:=λk x hx=>⟨(by
   rcases HE k L.length with h'|h'
   .exact h'
   .have hx':d k=some x:=hx;rw[b0n h'] at hx';cases hx'),hx⟩}
 refine rq (cx:=⟨w,GG d σ0,Hid,d,Fence.wide,9⟩) hfn hb hT rfl rfl ⟨d,hfront⟩ ?_
 rintro e s a' w' ⟨he,hgl,t,z,hsc,S,B,F⟩ ⟨N,hr⟩
 replace y:=y t
 replace hK:=λs' (hs:s'={st with σ:=τ t,c:=st.c+(c1 t-L.length)}.put o.dst (qg (GL L st.c) 20 (r t)))=>hK s' ⟨t,hs⟩
 generalize r t=r at F hK
 generalize σ1 t=σ1 at z y
 generalize c1 t=c1 at hsc hK
 generalize τ t=τ at y hK
 obtain⟨v,hres,M⟩:=mP hr B
 obtain⟨β2,J⟩:∃β2:Bm,β2=λi=>if i<st.c then β i else N (L.length+(i-st.c)):=⟨_,rfl⟩
 have b2:∀{i:Nat},i<st.c->β2 i=β i:=λ{i} hi=>by rw[J];simp only[hi,if_true]
 have key:∀k i,GL L st.c k=some i->β2 i=N k:=λk i hk=>by
  unfold GL at hk;cases hx:L[k]? with
  |some j=>grind
  |none=>grind
 have hext:∀i x,β i=some x->β2 i=some x:=λi x hx=>by
  rcases HE i st.c with h'|h'
  .rw[b2 h'];exact hx
  .rw[h.fresh i h'] at hx;cases hx
 have hblk:∀i o b C,ag st.σ i=some o->β2 i=some (some (b,C))->β i=some (some (b,C)):=λi o b C ho hb=>by rw[b2 (hbound i o ho)] at hb;exact hb
 have hav:∀b,Av cx.S0 β2 τ b->Av Hid N s.σ b:=by rintro b (hb|⟨i,ob,C,h1,h2⟩);all_goals grind
 have hAo:∀b,b<w.heap.size->Av cx.S0 β2 τ b->Av cx.S0 β st.σ b:=by grind
 have hkp:A3 (Av cx.S0 β st.σ) w w':=hr.keep.mono λb _ hb=>by obtain⟨i,o,E,_,q,H⟩:=hlivS b hb;exact .inr ⟨i,o,E,q,H⟩
 have hframe:∀i o b C,ag st.σ i=some o->i∉L->β i=some (some (b,C))->w'.heap[b]?=w.heap[b]? :=λi o b C ho hn hb=>hr.keep.block b (h.lt ho hb) (λhl=>by obtain⟨j,A,E,g1,q,H⟩:=hlivS b hl;have:=h.inj i j o A b C E ho q hb H;subst this;exact hn g1)
 have hback:Bv P cx {st with σ:=τ,c:=st.c+(c1-L.length)} a w' β2:={
  size:=h.size
  defers:=h.defers.keep hr.keep (λD hD hl=>by obtain⟨j,A,E,g1,q,H⟩:=hlivS D hl;exact h.not_marks q H hD)
  loose:=h.loose
  rnd:=h.rnd
  fr:=λi=>(h.fr i).step hext hAo hkp
  ob:=λi o ho=>by
   rcases y i o ho with⟨k,p,g1,g2,q⟩|⟨g1,g2⟩
   .exact U8 key ((hr.ob k p (z k p g2)).step (λ_ _ x=>x) (λb _ hb=>hav b hb) (A3.refl _ _) (λ_ _ _=>rfl)) q (key k i g1)
   .exact(h.ob i o g1).step hext hAo hkp (λb C hb=>hframe i o b C g1 g2 hb)
  inj:=λi j o U b C D hi hj hbi O=>by
   rcases y i o hi with⟨k,p,g1,g2,q⟩|⟨g1,g2⟩<;>rcases y j U hj with⟨k',Q,e1,e2,e3⟩|⟨e1,e2⟩
   .grind
   all_goals grind
  own:=λi o b C hi hbi=>by
   rcases y i o hi with⟨k,p,g1,g2,q⟩|⟨g1,g2⟩
   .rw[key k i g1] at hbi;rcases hr.own k p b C (z k p g2) hbi with hb|hb
    .grind [Bv.own]
    .have:=h.keep.size;have hb':w.heap.size<=b:=hb;right;omega
   grind
  sep:=λi o b C hi hbi hx=>by
   rcases y i o hi with⟨k,p,g1,g2,q⟩|⟨g1,g2⟩
   .rw[key k i g1] at hbi;exact hr.sep k p b C (z k p g2) hbi (by rw[m];exact .inl hx)
   .exact h.sep i o b C g1 (hblk i o b C g1 hbi) hx
  fresh:=λi hi=>by have hi':st.c+(c1-L.length)<=i:=hi;rw[J];simp only;rw[BA aa];exact hr.fresh _ (by rw[hsc];omega)
  glob:=λg l hl=>(hr.glob g l (by rw[hgl];exact hl)).sub λb _ hb=>hav b hb
  keep:=h.keep.then hr.keep (λb hb hl=>by
   obtain⟨j,A,E,_,e3,e4⟩:=hlivS b hl;rcases h.own j A b E e3 e4 with h1|h1
   .exact h1
   .omega)
  old:=h.old
  pin:=λi x hx=>⟨(h.pin i x hx).1,hext i x (h.pin i x hx).2⟩}
 have hval:RV β2 (Av cx.S0 β2 τ) w' (qg (GL L st.c) 20 r) v:=by rw[F];exact IG key 20 _ v (M.step (λ_ _ x=>x) (λb _ hb=>hav b hb) (A3.refl _ _))
 exact⟨he,v,hres,hK _ rfl _ _ ⟨β2,hback.put o.dst hd hval⟩⟩
theorem jg.F{gl:CB}{f:FuncId}{gs:Bn}{σ0:aQ}{c:Nat}{r:G}{σ1:aQ}{c1:Nat}(h:jg P gl f gs σ0 c r σ1 c1):Xx P gl f gs σ0 c (ι:=Unit) (λ_=>r) (λ_=>σ1) (λ_=>c1):=by obtain⟨hc,fn,body,hfn,hb,hn,hT⟩:=h;constructor<;>grind
theorem MD{o:Oper}{st:St}{f:Dl}{xs:Array Dl}{ats:Array Bo}{fid:FuncId}{fst cap:Bn}(L:Bq){gs0:Bn}{σ0:aQ}{r:G}{σ1:aQ}{c1:Nat}(ho:o.op= .call {callee:= .value f,args:=xs,argTypes:=ats})(hd:Ly o st.n)(hf:aB st f= .clo (.func fid) fst cap)
  (hM:jg P st.gl fid gs0 σ0 L.length r σ1 c1) (hL:∀(k i:Nat),L[k]?=some i->i<st.c) (hnd:L.Nodup) (hgs:gs0=(fst++xs.toList.map (aB st)++cap).map (qg (vi L) 20))
  (hin:∀(k i:Nat),L[k]?=some i->∃o o0,ag st.σ i=some o/\ag σ0 k=some o0/\MB (vi L) o o0) (h0:∀k o,ag σ0 k=some o->k<L.length)
  (τ:aQ) (d:∀i o,ag τ i=some o->(∃k b,GL L st.c k=some i/\ag σ1 k=some b/\MB (GL L st.c) b o)\/(ag st.σ i=some o/\i∉L)):
  th P o st (λs'=>s'={st with σ:=τ,c:=st.c+(c1-L.length)}.put o.dst (qg (GL L st.c) 20 r)):=by
 have:=MC (o:=o) (st:=st) (ι:=Unit) (r:=λ_=>r) (σ1:=λ_=>σ1) (c1:=λ_=>c1) L ho hd hf hM.F hL hnd hgs hin h0 (λ_=>τ) λ_=>d
 exact λcx a w K R h hK=>this cx a w K R h λs' ⟨_,hs⟩=>hK s' hs
section
variable {P:Br} [M:Mix P] {c:Code} {K:List Kf} {st:St} {Q:Exit->St->Prop}
def Ok(P:Br)(fn:Func)(gl:CB)(r:G)(σ1:aQ)(c1:Nat)(e:Exit)(s:St):Prop:=(e= .normal\/e= .ret)/\s.gl=gl/\(∀k o,ag σ1 k=some o->ag s.σ k=some o)/\s.c=c1/\∃a,fn.results.toList.mapM (jV P s)=some a/\r=iU a
theorem sMc{gl:CB}{σ0 σ1:aQ}{c0 c1:Nat}(hf:P.funcs[f]?=some fn)(h:Tr P (ai fn) ⟨fn.ntmps,gl,bQ 0 gs,σ0,c0,c0,false⟩ (dz P [] (Ok P fn gl r σ1 c1)))(hc:aK P f=true:=by kernel_rfl)(hb:fn.body.isSome=true:=by kernel_rfl)(hn:Nat.ble gs.length fn.ntmps=true:=by kernel_rfl):jg P gl f gs σ0 c0 r σ1 c1:=by
 obtain⟨body,hb'⟩:=Uk.1 hb;refine⟨hc,fn,body,hf,hb',E5 hn,?_⟩;have e:ai fn=body:=by grind [ai]
 rw[e] at h;exact Tr.leQ h
theorem Wo{gl:CB}{σ1:aQ}{c1:Nat}{S0:St}{gs:Bn}(he:tc ex=true)(hr:vR P S0 fn.results.toList=some gs)(hg:S0.gl=gl)(a:S0.σ=σ1)(hc:S0.c=c1)(h:iU gs=r):Ok P fn gl r σ1 c1 ex S0:=by constructor<;>grind [eO,gh]
def w6(κ:Nat->Fp)(σ σ0:aQ):Nat->Bq->Prop
 |_,[]=>True
 |k,i::L=>(match ag σ i,ag σ0 k with|some o,some o0=>MB κ o o0|_,_=>False)/\w6 κ σ σ0 (k+1) L
def EJ(κ:Nat->Fp)(σ1:aQ):List (Nat×Ob)->Prop
 |[]=>True
 |(k,o)::U=>(match ag σ1 k with|some a=>MB κ a o|none=>False)/\EJ κ σ1 U
theorem w6.get{κ:Nat->Fp}{σ σ0:aQ}:∀{L:Bq} {a:Nat},w6 κ σ σ0 a L->∀(k i:Nat),L[k]?=some i->∃o o0,ag σ i=some o/\ag σ0 (a+k)=some o0/\MB κ o o0
 |[],_,_,_,_,h=>by cases h
 |j::L,a,h,0,i,hi=>by simp at hi;subst hi;have h1:=h.1;grind
 |j::L,a,h,k+1,i,hi=>by have:=w6.get h.2 k i (by grind);grind
theorem EJ.get{κ:Nat->Fp}{σ1:aQ}:∀{U:List (Nat×Ob)},EJ κ σ1 U->∀q∈U,∃a,ag σ1 q.1=some a/\MB κ a q.2
 |[],_,q,hq=>by cases hq
 |(k,o)::U,h,q,hq=>by
  rcases EG.1 hq with rfl|hq
  .have h1:=h.1;grind
  .exact EJ.get h.2 q hq
def KQ(L:Bq)(c:Nat)(U:List (Nat×Ob)):aQ:=U.map λq=>((GL L c q.1).getD 0,some q.2)
theorem Gl(L:Bq)(c k:Nat):∃i,GL L c k=some i:=by unfold GL;cases L[k]? <;>grind
theorem YM{gl:CB}{gs0 gs:Bn}{σ0 σ1 σR:aQ}{r g:G}{c1 c c':Nat}(L:Bq)(U:List (Nat×Ob))(hM:jg P gl fid gs0 σ0 L.length r σ1 c1)
  (hin:w6 (vi L) σR σ0 0 L) (d:EJ (GL L c) σ1 U) (hlt:L.all (λi=>Nat.blt i c)=true:=by kernel_rfl) (hnd:decide L.Nodup=true:=by kernel_rfl) (hgs:gs.map (qg (vi L) 20)=gs0:=by kernel_rfl)
  (hk0:σ0.all (λq=>Nat.blt q.1 L.length)=true:=by kernel_rfl) (hcov:(List.range L.length).all (λk=>U.any λq=>Nat.beq q.1 k)=true:=by kernel_rfl) (hg:qg (GL L c) 20 r=g:=by kernel_rfl) (hc:c+(c1-L.length)=c':=by kernel_rfl) (hR:σR.all (λq=>q.2.isSome)=true:=by kernel_rfl):oJ P gl fid gs σR c g (KQ L c U) c':=by
 intro o st y xs ats fst cap ho hd hf a hgl hq hsc
 have j:=hin.get
 have hgetR:∀i o,ag σR i=some o->ag st.σ i=some o:=λi o hh=>by
  have:∀l:aQ,(∀q∈l,q∈σR)->ag l i=some o->ag st.σ i=some o:=by
   intro l;induction l with
   |nil=>intro _ h;cases h
   |cons q t ih=>grind
  grind
 have key:=MD (o:=o) (st:=st) (f:=y) (xs:=xs) (ats:=ats) (fid:=fid) (fst:=fst) (cap:=cap) L (gs0:=gs0) (σ0:=σ0) (r:=r) (σ1:=σ1) (c1:=c1) ho hd hf (by rw[hgl];exact hM) (λk i hk=>by
   have:=Ge.1 hlt i (bO hk);simp_all) (DL hnd) (by rw[a,hgs]) (by grind) (λk o hkk=>by
   have:∀l:aQ,(∀q∈l,q∈σ0)->ag l k=some o->k<L.length:=by
    intro l;induction l with
    |nil=>intro _ h;cases h
    |cons q t ih=>
     intro hs h;rw[show(q::t:aQ)=(q.1,q.2)::t from rfl,A9] at h;split at h
     .rename_i e;subst e;exact E5 (Ge.1 hk0 q (by grind))
     grind
   grind) (KQ L c U++st.σ) (λi o hh=>by
   have:∀l:List (Nat×Ob),(∀q∈l,q∈U)->ag (KQ L c l++st.σ) i=some o->(∃q∈U,GL L c q.1=some i/\q.2=o)\/(ag st.σ i=some o/\∀q∈l,GL L c q.1≠some i):=by
    intro l;induction l with
    |nil=>intro _ h;exact .inr ⟨h,(by grind)⟩
    |cons q t ih=>intro hs h;obtain⟨m,hi'⟩:=Gl L c q.1;rw[show KQ L c (q::t)++st.σ=((GL L c q.1).getD 0,some q.2)::(KQ L c t++st.σ) from rfl,hi',M2,A9] at h;grind
   rcases this U (λ_ h=>h) hh with⟨q,b,h1,rfl⟩|⟨h1,h2⟩
   .grind [EJ.get]
   .refine .inr ⟨h1,λhi=>?_⟩;obtain⟨k,hk⟩:=Gu hi;have hkl:=(cr hk).1;obtain⟨q,b,he⟩:=List.any_eq_true.1 (Ge.1 hcov k (List.mem_range.2 hkl));refine h2 q b ?_;rw[bc he];unfold GL;rw[hk])
 grind [th.gs]
end
section
variable {P:Br} [M:Mix P] {c:Code} {K:List Kf} {st:St} {Q:Exit->St->Prop} {fn:Func} {Bs:List (St->Prop)} {m:Bool} {p:Bq}
def YN:Code->Bool
 | .rangeFunc _ _ _ _=>true
 |_=>false
def rfG:Code->Dl
 | .rangeFunc g _ _ _=>g
 |_=> .tmp 0
def Dy:Code->Array Tmp
 | .rangeFunc _ ps _ _=>ps
 |_=> #[]
def Dz:Code->Code
 | .rangeFunc _ _ a _=>a
 |_=> .skip
def DA:Code->Code
 | .rangeFunc _ _ _ b=>b
 |_=> .skip
theorem sRf{fst cap:Bn}(fn:Func)(hfn:P.funcs[fid]?=some fn)(hg:aB st (rfG c)= .clo (.func fid) fst cap)(h:Tr P (ai fn) ⟨fn.ntmps,st.gl,bQ 0 (fst++[G.yld st.c]++cap),(st.c,some ⟨0,[],some (.loop .ready none st.n st.fr (Dy c) (Dz c) (DA c))⟩)::st.σ,st.c+1,st.c+1,false⟩ (dz P [] (sI P st Q)))
  (hi:YN c=true:=by kernel_rfl) (hr:st.r=false:=by kernel_rfl) (hc:aK P fid=true:=by kernel_rfl) (hb:fn.body.isSome=true:=by kernel_rfl) (hn:Nat.ble (fst++[G.yld st.c]++cap).length fn.ntmps=true:=by kernel_rfl) (hres:fn.results.toList=[]:=by kernel_rfl):Tr P c st Q:=by
 obtain⟨d,hb'⟩:=Uk.1 hb
 have e:ai fn=d:=by grind [ai]
 rw[e] at h
 cases c with
 |rangeFunc g ps a b=>exact wx hr hg hc hfn hb' (E5 hn) hres (Tr.leQ h)
 |_=>cases hi
theorem QW(he:tc ex=true)(hgl:s.gl=st.gl)(ho:ag s.σ st.c=some ⟨t,[],some (.loop .ready none n fr ps a b)⟩)(h:Q .normal {st with σ:=(st.c,none)::(st.c,some ⟨t,[],some (.loop .exhausted none n fr ps a b)⟩)::s.σ,c:=s.c}):sI P st Q ex s:=
 by constructor<;>grind [eO]
def YO:Code->Bool
 | .region _ _ false=>true
 |_=>false
def pZ:Code->HA
 | .region _ ops _=>ops.toList
 |_=>[]
def YP(o:Oper):Dl:=match o.op with
 | .call {callee:= .value f,.. }=>f
 |_=> .tmp 0
def Tw(o:Oper):List Dl:=match o.op with
 | .call {callee:= .value _,args:=xs,.. }=>xs.toList
 |_=>[]
def oIs(o:Oper):Bool:=match o.op with
 | .call {callee:= .value _,.. }=>true
 |_=>false
def qd(P:Br)(ops:Array Oper)(hs:List Hn)(l:HA)(st:St):Option (Prop×Bq×St):=(S8 P ops hs l st).map λ(ps,u,s)=>(TE ps True,u,s)
theorem Mz{ops:Array Oper}{hs:List Hn}{l:HA}{C:Prop}{u:Bq}(h:qd P ops hs l st=some (C,u,s1))(a:C):D8 P ops (λs=>s=s1) l st:=by obtain⟨⟨ps,u,s⟩,hr,e⟩:=DG.1 h;cases e;exact PH l st _ _ _ hr (Gr a).1 rfl
theorem As{ops:Array Oper}{a K2:St->Prop}:∀(l l2:HA) (st:St),D8 P ops a l st->(∀s,a s->vU P ops K2 l2 s)->vU P ops K2 (l++l2) st
 |[],l2,st,h,hk=>hk st h
 |o::r,l2,st,h,hk=>by
  rcases h with⟨hw,s1,hg,hr⟩|⟨hw,hd,hr⟩
  .exact .inl ⟨hw,hg.gsn.eqv λs hs=>⟨s,by rw[hs];exact As r l2 s1 hr hk,WY.refl _⟩⟩
  .exact .inr ⟨hw,hd,As r l2 _ hr hk⟩
def MA(P:Br)(st:St)(i:Nat)(S:Option Code->Qh->Bo->St->Prop)(bd:Code)(e:Exit)(s:St):Prop:=e= .normal/\s.gl=st.gl/\∃t' a h b d f g,ag s.σ i=some ⟨t',[],some (.loop .ready a h b d f g)⟩/\Tr P bd {s with σ:=(i,some ⟨t',[],some (.loop .busy a h b d f g)⟩)::s.σ} (rE P st i S)
def qOf:Qh->Option Code
 | .loop _ q _ _ _ _ _=>q
 |_=>none
def Tx(b:aQ)(c2:Nat)(a:Qh)(t2:Bo)(j:Option Code)(x:Qh)(t:Bo)(s:St):Prop:=j=qOf a/\x=a/\t=t2/\s.σ=b/\s.c=c2
theorem Wp{S:Option Code->Qh->Bo->St->Prop}(he:ex= .normal)(hgl:s.gl=st.gl)(ho:ag s.σ i=some ⟨t,[],some (.loop .ready pe n fr ps a b)⟩)(h:Tr P bd {s with σ:=(i,some ⟨t,[],some (.loop .busy pe n fr ps a b)⟩)::s.σ} (dz P [] (rE P st i S))):MA P st i S bd ex s:=
 ⟨he,hgl,t,pe,n,fr,ps,a,b,ho,Tr.leQ h⟩
theorem jy{σ2:aQ}{c2:Nat}{d:Qh}{ls:LoopState}(he:ex= .normal)(hgl:s.gl=st.gl)(ho:ag s.σ i=some ⟨t2,[],some (.loop ls pe n fr ps a b)⟩)(e: .loop .ready none n fr ps a b=d)(f:s.σ=σ2)(hc:s.c=c2):rE P st i (Tx σ2 c2 d t2) ex s:=
 ⟨hgl,none,t2,ls,pe,n,fr,ps,a,b,by rw[he];rfl,ho,by rw[<-e];rfl,e,rfl,f,hc⟩
theorem sYd(j i:Nat){s3:St}{o:Oper}(k:aQ)(c2:Nat)(e:Qh)(r y u z:List HP)
  (hob:ag s1.σ i=some ⟨t,[],some (.loop .ready pe n fr ps a b)⟩)
  (h:Tr P a ⟨n,s1.gl,xU (ps.toList.zip ((Tw o).map (aB s1))) fr,s1.σ,s1.c,s1.c,true⟩ (dz P [] (MA P s1 i (Tx k c2 e t2) b)))
  (h3:dz P K Q .normal s3)
  (e1:Ua r (qd P (pZ c).toArray (bK r) ((pZ c).take j) st) s1:=by exact⟨aH,aH⟩)
  (A:(pZ c)[j]?=some o:=by kernel_rfl)
  (e2:Ua u (qd P (pZ c).toArray (bK u) ((pZ c).drop (j+1)) ({s1 with σ:=(i,some ⟨t2,[],some e⟩)::k,c:=c2}.put o.dst (.lit (.bool (qOf e).isNone)))) s3:=by exact⟨aH,aH⟩)
  (hi:YO c=true:=by kernel_rfl) (hw:ce s1 (pZ c).toArray o=some true:=by kernel_rfl) (d:oIs o=true:=by kernel_rfl) (hd:pj s1.n o.dst=true:=by kernel_rfl) (hf:aB s1 (YP o)= .yld i:=by kernel_rfl)
  (hsz:Nat.beq (Tw o).length ps.size=true:=by kernel_rfl) (g:ps.toList.all (λp=>Nat.blt p n)=true:=by kernel_rfl):Tr P c st (dz P K Q):=by
 cases c with
 |region id ops draw=>
  cases draw with
  |true=>cases hi
  |false=>
   have hl:(pZ (.region id ops false)).toArray=ops:=Array.toArray_toList
   rw[hl] at e1 e2 hw
   have hsplit:ops.toList=ops.toList.take j++(o::ops.toList.drop (j+1)):=by grind [List.drop_eq_getElem_cons,OQ]
   have key:Tr P (.region id ops.toList.toArray false) st (dz P K Q):=by
    refine lG ?_;rw[Array.toArray_toList];rw[hsplit];refine As _ _ _ (Mz e1.2 (kA e1.1)) λs hs=>?_;rw[hs];obtain⟨l,op,ty,pos,v,gd⟩:=o;cases op with
    |call cl=>
     obtain⟨q,xs,ats⟩:=cl;cases q with
     |value f=>
      refine .inl ⟨hw,?_⟩;have hy:=Em (P:=P) (o:=⟨l,.call {callee:= .value f,args:=xs,argTypes:=ats},ty,pos,v,gd⟩) (st:=s1) (f:=f) (xs:=xs) (ats:=ats) (i:=i) (n:=n) (t:=t) (pe:=pe) (fr:=fr) (ps:=ps) (az9:=a) (bd:=b) (S:=Tx k c2 e t2) rfl (R8 hd) hf hob (bc hsz) (λp hp=>E5 (Ge.1 g p hp)) (Tr.leQ h);refine hy.eqv λs hs=>⟨s,?_,WY.refl _⟩;obtain⟨B,x,t',s',⟨rfl,rfl,rfl,w,hc⟩,rfl⟩:=hs;rw[w,hc];have:=As (K2:=dz P K Q .normal) _ [] _ (Mz e2.2 (kA e2.1)) λs hs=>by rw[hs];exact h3
      grind
     |_=>cases d
    |_=>cases d
   grind
 |_=>cases hi
def Gm(P:Br)(hs:List Hn)(m:Code⊕Exit)(K:List Kf)(vs:List Bo)(ρ:DD)(kd:List (Nat×Rk))(J st:St):Option (Prop×Bq×JM×Exit×St):=match sy P hs 1000000 1000 m K st with
 |some (C,u,.fin e s)=>match Iw P vs ρ kd J s with
  |some (L,s')=>some (C,u,L,e,s')
  |none=>none
 |_=>none
theorem C9(ex:Exit)(J:St)(A O:List HP)(h:Q ex J)(vs:List Bo:=[])(ρ:DD:=[])(kd:List (Nat×Rk):=[])(hk:Ua A (Gm P (bK A) (LK m p (ai fn)) (bE p (ai fn) Bs []) vs ρ kd J st) (pR O,ex,J):=by exact⟨aH,aH⟩):Gp P fn Q Bs m p st:=by
 obtain⟨C,u,a,e⟩:=hk.out;unfold Gp;unfold Gm at e;split at e;rotate_left
 .cases e
 rename_i b d x s1 h1;split at e;rotate_left
 .cases e
 rename_i L s' h2;simp only[Fk,FF] at e;obtain⟨rfl,rfl,rfl,rfl,rfl⟩:=e;exact oK M.mx (out:= .fin x s1) ⟨_,sR h2 (wR O),h⟩ 1000 _ _ _ _ _ h1 a
theorem pP{gl:CB}{gs:Bn}{σ0 σ1:aQ}{c0 c1:Nat}{r:G}(hf:P.funcs[f]?=some fn)(h:Gp P fn (Ok P fn gl r σ1 c1) [] false [] ⟨fn.ntmps,gl,bQ 0 gs,σ0,c0,c0,false⟩)(hc:aK P f=true:=by kernel_rfl)(hb:fn.body.isSome=true:=by kernel_rfl)(hn:Nat.ble gs.length fn.ntmps=true:=by kernel_rfl):jg P gl f gs σ0 c0 r σ1 c1:=sMc hf h hc hb hn
theorem mt{gl:CB}{r:G}{σ1:aQ}{c1:Nat}(ex:Exit)(J:St)(gs:Bn)(A O:List HP)(hg:J.gl=gl:=by rfl)(a:J.σ=σ1:=by rfl)(hc:J.c=c1:=by rfl)(hr:iU gs=r:=by rfl)(vs:List Bo:=[])(ρ:DD:=[])(kd:List (Nat×Rk):=[])(he:tc ex=true:=by rfl)(hx:vR P J fn.results.toList=some gs:=by kernel_rfl)(hk:Ua A (Gm P (bK A) (LK m p (ai fn)) (bE p (ai fn) Bs []) vs ρ kd J st) (pR O,ex,J):=by exact⟨aH,aH⟩):Gp P fn (Ok P fn gl r σ1 c1) Bs m p st:=
 C9 ex J A O (Wo he hx hg a hc hr) vs ρ kd hk
def fnB(fn:Func)(c:Code):Func:={fn with body:=some c}
theorem Xt{fst cap:Bn}(a:Func)(hfn:P.funcs[fid]?=some a)(h:Gp P a (sI P st (dz P (bE p (ai fn) Bs []) Q)) [] false [] ⟨a.ntmps,st.gl,bQ 0 (fst++[G.yld st.c]++cap),(st.c,some ⟨0,[],some (.loop .ready none st.n st.fr (Dy (bq p (ai fn))) (Dz (bq p (ai fn))) (DA (bq p (ai fn))))⟩)::st.σ,st.c+1,st.c+1,false⟩)
  (hg:aB st (rfG (bq p (ai fn)))= .clo (.func fid) fst cap:=by kernel_rfl) (hi:YN (bq p (ai fn))=true:=by kernel_rfl) (hr:st.r=false:=by kernel_rfl) (hc:aK P fid=true:=by kernel_rfl) (hb:a.body.isSome=true:=by kernel_rfl) (hn:Nat.ble (fst++[G.yld st.c]++cap).length a.ntmps=true:=by kernel_rfl) (hres:a.results.toList=[]:=by kernel_rfl):Gp P fn Q Bs false p st:=sRf (c:=bq p (ai fn)) a hfn hg h hi hr hc hb hn hres
theorem Xu{s:St}(h:Gp P fn Q Bs true p {st with σ:=(st.c,none)::(st.c,some ⟨t,[],some (.loop .exhausted none n fr ps a b)⟩)::s.σ,c:=s.c})(ho:ag s.σ st.c=some ⟨t,[],some (.loop .ready none n fr ps a b)⟩)(hgl:s.gl=st.gl:=by rfl)(he:tc ex=true:=by rfl):sI P st (dz P (bE p (ai fn) Bs []) Q) ex s:=QW he hgl ho h
theorem Xv{S:Option Code->Qh->Bo->St->Prop}(fn:Func)(h:Gp P (fnB fn bd) (rE P st i S) [] false [] {s with σ:=(i,some ⟨t,[],some (.loop .busy pe n fr ps a b)⟩)::s.σ})(ho:ag s.σ i=some ⟨t,[],some (.loop .ready pe n fr ps a b)⟩)(hgl:s.gl=st.gl:=by rfl)(he:ex= .normal:=by rfl):MA P st i S bd ex s:=Wp he hgl ho h
def CK(c:Code)(j:Nat):Oper:=((pZ c)[j]?).getD ⟨none,.assign (.tmp 0),0, "",#[],none⟩
theorem Xw(j i:Nat){s1 s3:St}{t t2:Bo}{pe:Option Code}{n:Nat}{fr:Fr}{ps:Array Tmp}{a b:Code}(l:aQ)(c2:Nat)(d:Qh)(e f:List HP)
  (h:Gp P (fnB fn a) (MA P s1 i (Tx l c2 d t2) b) [] false [] ⟨n,s1.gl,xU (ps.toList.zip ((Tw (CK (bq p (ai fn)) j)).map (aB s1))) fr,s1.σ,s1.c,s1.c,true⟩)
  (h3:Gp P fn Q Bs true p s3)
  (hob:ag s1.σ i=some ⟨t,[],some (.loop .ready pe n fr ps a b)⟩:=by kernel_rfl)
  (e1:Ua e (qd P (pZ (bq p (ai fn))).toArray (bK e) ((pZ (bq p (ai fn))).take j) st) s1:=by exact⟨aH,aH⟩)
  (o:(pZ (bq p (ai fn)))[j]?=some (CK (bq p (ai fn)) j):=by kernel_rfl)
  (e2:Ua f (qd P (pZ (bq p (ai fn))).toArray (bK f) ((pZ (bq p (ai fn))).drop (j+1)) ({s1 with σ:=(i,some ⟨t2,[],some d⟩)::l,c:=c2}.put (CK (bq p (ai fn)) j).dst (.lit (.bool (qOf d).isNone)))) s3:=by exact⟨aH,aH⟩)
  (hi:YO (bq p (ai fn))=true:=by kernel_rfl) (hw:ce s1 (pZ (bq p (ai fn))).toArray (CK (bq p (ai fn)) j)=some true:=by kernel_rfl) (g:oIs (CK (bq p (ai fn)) j)=true:=by kernel_rfl) (hd:pj s1.n (CK (bq p (ai fn)) j).dst=true:=by kernel_rfl) (hf:aB s1 (YP (CK (bq p (ai fn)) j))= .yld i:=by kernel_rfl)
  (hsz:Nat.beq (Tw (CK (bq p (ai fn)) j)).length ps.size=true:=by kernel_rfl) (k:ps.toList.all (λp=>Nat.blt p n)=true:=by kernel_rfl):Gp P fn Q Bs false p st:=
 sYd (c:=bq p (ai fn)) j i l c2 d e [] f [] hob h h3 e1 o e2 hi hw g hd hf hsz k
def hmc(d:Nat)(L:Bq)(c:Nat)(σR:aQ)(gs:Bn)(U:List (Nat×Ob)){gl:CB}{fid:FuncId}{gs0:Bn}{σ0 σ1:aQ}{r:G}{c1:Nat}(hM:jg P gl fid gs0 σ0 L.length r σ1 c1)
  (hin:w6 (vi L) σR σ0 0 L) (a:EJ (GL L c) σ1 U) (hlt:L.all (λi=>Nat.blt i c)=true:=by kernel_rfl) (hnd:decide L.Nodup=true:=by kernel_rfl) (hgs:gs.map (qg (vi L) 20)=gs0:=by kernel_rfl)
  (hk0:σ0.all (λq=>Nat.blt q.1 L.length)=true:=by kernel_rfl) (hcov:(List.range L.length).all (λk=>U.any λq=>Nat.beq q.1 k)=true:=by kernel_rfl) (hR:σR.all (λq=>q.2.isSome)=true:=by kernel_rfl):HP:=
 hz d L (P:=P) (gl:=gl) (f:=fid) (gs:=gs) (σR:=σR) (c:=c) (g:=qg (GL L c) 20 r) (U:=KQ L c U) (c':=c+(c1-L.length)) (YM L U hM hin a hlt hnd hgs hk0 hcov rfl rfl hR)
def YQ(P:Br)(hs:List Hn)(cut:Nat)(m:Code⊕Exit)(K:List Kf)(a:Bq)(st:St):Option (Prop×Bq×St×Code×List Kf):=match sy P hs cut 1000 m K st with
 |some (C,u,.ct c' K' s)=>some (C,u,{s with fr:=a.map λk=>(k,aD s.fr k)},c',K')
 |_=>none
theorem IB{fr:Fr}{d:Nat}:∀a:Bq,aD (a.map λk=>(k,aD fr k)) d=aD fr d\/aD (a.map λk=>(k,aD fr k)) d= .junk
 |[]=> .inr rfl
 |k::r=>by
  rw[E7,aO];split
  .grind
  .exact IB r
theorem UZ(b:Bq):Le P s {s with fr:=b.map λk=>(k,aD s.fr k)}:=by rintro cx a w ⟨β,r⟩;refine⟨β,{r with fr:=λi=>?_}⟩;grind [IB,RV]
theorem YR(q:Bq)(J:St)(A:List HP)(kk:Gp P fn Q Bs false q J)
  (hk:Ua A (YQ P (bK A) (wT (bq q (ai fn))) (LK m p (ai fn)) (bE p (ai fn) Bs []) (xb J) st) (J,bq q (ai fn),bE q (ai fn) Bs []):=by exact⟨aH,aH⟩):Gp P fn Q Bs m p st:=by
 obtain⟨C,u,a,e⟩:=hk.out
 generalize hks:xb J=ks at e
 unfold Gp
 unfold YQ at e
 split at e
 rotate_left
 .cases e
 rename_i b f c K' s1 h1
 simp only[Fk,FF] at e
 obtain⟨rfl,rfl,d,rfl,rfl⟩:=e
 refine oK M.mx (out:= .ct (bq q (ai fn)) (bE q (ai fn) Bs []) s1) (Tr.le kk ?_) 1000 _ _ _ _ _ h1 a
 grind [UZ]
def Gn(P:Br)(hs:List Hn)(m:Code⊕Exit)(K:List Kf)(a:Bq)(st:St):Option (Prop×Bq×Exit×St):=match sy P hs 1000000 1000 m K st with
 |some (C,u,.fin e s)=>some (C,u,e,{s with fr:=a.map λk=>(k,aD s.fr k)})
 |_=>none
theorem dFf(ex:Exit)(J:St)(A:List HP)(h:Q ex J)
  (hk:Ua A (Gn P (bK A) (LK m p (ai fn)) (bE p (ai fn) Bs []) (xb J) st) (ex,J):=by exact⟨aH,aH⟩):Gp P fn Q Bs m p st:=by
 obtain⟨C,u,a,e⟩:=hk.out
 generalize hks:xb J=ks at e
 unfold Gp
 unfold Gn at e
 split at e
 rotate_left
 .cases e
 rename_i b f x s1 h1
 simp only[Fk,FF] at e
 obtain⟨rfl,rfl,rfl,d⟩:=e
 refine oK M.mx (out:= .fin x s1) ⟨J,?_,h⟩ 1000 _ _ _ _ _ h1 a
 grind [UZ]
theorem dEf{gl:CB}{σ1:aQ}{c1:Nat}(ex:Exit)(J:St)(gs:Bn)(A:List HP)(a:∀k o,ag σ1 k=some o->ag J.σ k=some o)(hg:J.gl=gl:=by rfl)(hc:J.c=c1:=by rfl)(hr:iU gs=r:=by rfl)(he:tc ex=true:=by rfl)(hx:vR P J fn.results.toList=some gs:=by kernel_rfl)
  (hk:Ua A (Gn P (bK A) (LK m p (ai fn)) (bE p (ai fn) Bs []) (xb J) st) (ex,J):=by exact⟨aH,aH⟩):Gp P fn (Ok P fn gl r σ1 c1) Bs m p st:=
 dFf ex J A ⟨eO he,hg,a,hc,gs,gh hx,hr.symm⟩ hk
end
def oI(κ:Nat->Fp)(σ1:aQ):aQ->Prop
 |[]=>True
 |(k,some o)::U=>(match ag σ1 k with|some a=>MB κ a o|none=>False)/\oI κ σ1 U
 |(_,none)::U=>oI κ σ1 U
theorem oI.get{κ:Nat->Fp}{σ1:aQ}:∀{U:aQ},oI κ σ1 U->∀k o,(k,some o)∈U->∃a,ag σ1 k=some a/\MB κ a o
 |[],_,k,o,hq=>by cases hq
 |(k,some o)::U,h,k',o',hq=>by
  rcases EG.1 hq with e|hq
  .cases e;have h1:=h.1;split at h1
   .rename_i a e1;exact⟨a,e1,h1⟩
   .exact h1.elim
  .exact oI.get h.2 k' o' hq
 |(_,none)::U,h,k',o',hq=>by
  rcases EG.1 hq with e|hq
  .cases e
  .exact oI.get (U:=U) h k' o' hq
def zO(L:Bq)(c:Nat)(U:aQ):aQ:=U.map λq=>((GL L c q.1).getD 0,q.2)
theorem YS{gl:CB}{gs0 gs:Bn}{σ0 σ1 σR:aQ}{r g:G}{c1 c c':Nat}(L:Bq)(U:aQ)(hM:jg P gl fid gs0 σ0 L.length r σ1 c1)
  (hin:w6 (vi L) σR σ0 0 L) (b:oI (GL L c) σ1 U) (hlt:L.all (λi=>Nat.blt i c)=true:=by kernel_rfl) (hnd:decide L.Nodup=true:=by kernel_rfl) (hgs:gs.map (qg (vi L) 20)=gs0:=by kernel_rfl)
  (hk0:σ0.all (λq=>Nat.blt q.1 L.length)=true:=by kernel_rfl) (hcov:(List.range L.length).all (λk=>U.any λq=>Nat.beq q.1 k)=true:=by kernel_rfl) (hg:qg (GL L c) 20 r=g:=by kernel_rfl) (hc:c+(c1-L.length)=c':=by kernel_rfl) (hR:σR.all (λq=>q.2.isSome)=true:=by kernel_rfl):oJ P gl fid gs σR c g (zO L c U) c':=by
 intro o st y xs ats fst cap ho hd hf d hgl hq hsc
 have j:=hin.get
 have hgetR:∀i o,ag σR i=some o->ag st.σ i=some o:=λi o hh=>by
  have:∀l:aQ,(∀q∈l,q∈σR)->ag l i=some o->ag st.σ i=some o:=by
   intro l;induction l with
   |nil=>intro _ h;cases h
   |cons q t ih=>
    intro hs h;rw[show(q::t:aQ)=(q.1,q.2)::t from rfl,A9] at h;split at h
    .rename_i e;subst e;rw[hq q (hs q aC)];exact h
    .exact ih (λx hx=>hs x (by simp[hx])) h
  exact this σR (λ_ h=>h) hh
 have key:=MD (o:=o) (st:=st) (f:=y) (xs:=xs) (ats:=ats) (fid:=fid) (fst:=fst) (cap:=cap) L (gs0:=gs0) (σ0:=σ0) (r:=r) (σ1:=σ1) (c1:=c1) ho hd hf (by rw[hgl];exact hM) (λk i hk=>by
   have:=Ge.1 hlt i (bO hk);rw[hsc];exact E5 this) (DL hnd) (by rw[d,hgs]) (λk i hk=>by
   obtain⟨o,o0,h1,h2,h3⟩:=j k i hk;rw[Nat.zero_add] at h2;exact⟨o,o0,hgetR i o h1,h2,h3⟩) (λk o hkk=>by
   have:∀l:aQ,(∀q∈l,q∈σ0)->ag l k=some o->k<L.length:=by
    intro l;induction l with
    |nil=>intro _ h;cases h
    |cons q t ih=>
     intro hs h;rw[show(q::t:aQ)=(q.1,q.2)::t from rfl,A9] at h;split at h
     .rename_i e;subst e;exact E5 (Ge.1 hk0 q (hs q aC))
     .exact ih (λx hx=>hs x (by simp[hx])) h
   exact this σ0 (λ_ h=>h) hkk) (zO L c U++st.σ) (λi o hh=>by
   have:∀l:aQ,(∀q∈l,q∈U)->ag (zO L c l++st.σ) i=some o->(∃k,(k,some o)∈U/\GL L c k=some i)\/(ag st.σ i=some o/\∀q∈l,GL L c q.1≠some i):=by
    intro l;induction l with
    |nil=>intro _ h;exact .inr ⟨h,λq hq=>by cases hq⟩
    |cons q t ih=>
     intro hs h;obtain⟨n,hi'⟩:=Gl L c q.1;rw[show zO L c (q::t)++st.σ=((GL L c q.1).getD 0,q.2)::(zO L c t++st.σ) from rfl,hi',M2,A9] at h;split at h
     .rename_i e;subst e;exact .inl ⟨q.1,by rw[<-h];exact hs q aC,hi'⟩
     .rename_i hne;rcases ih (λx hx=>hs x (by simp[hx])) h with h|⟨h,h2⟩
      .exact .inl h
      .refine .inr ⟨h,λx hx=>?_⟩;rcases EG.1 hx with rfl|hx
       .rw[hi'];intro e;cases e;exact hne rfl
       .exact h2 x hx
   rcases this U (λ_ h=>h) hh with⟨k,a,h1⟩|⟨h1,h2⟩
   .obtain⟨m,e1,e2⟩:=b.get k o a;exact .inl ⟨k,m,by rw[hsc];exact h1,e1,by rw[hsc];exact e2⟩
   .refine .inr ⟨h1,λhi=>?_⟩;obtain⟨k,hk⟩:=Gu hi;have hkl:=(cr hk).1;obtain⟨q,a,he⟩:=List.any_eq_true.1 (Ge.1 hcov k (List.mem_range.2 hkl));refine h2 q a ?_;rw[bc he];unfold GL;rw[hk])
 have:=key.gs (st':={st with σ:=zO L c U++st.σ,c:=c'}.put o.dst g) λs hs=>by rw[hs,hsc,hg,hc]
 exact this
def tN(d:Nat)(L:Bq)(c:Nat)(σR:aQ)(gs:Bn)(U:aQ){gl:CB}{fid:FuncId}{gs0:Bn}{σ0 σ1:aQ}{r:G}{c1:Nat}(hM:jg P gl fid gs0 σ0 L.length r σ1 c1)
  (hin:w6 (vi L) σR σ0 0 L) (a:oI (GL L c) σ1 U) (hlt:L.all (λi=>Nat.blt i c)=true:=by kernel_rfl) (hnd:decide L.Nodup=true:=by kernel_rfl) (hgs:gs.map (qg (vi L) 20)=gs0:=by kernel_rfl)
  (hk0:σ0.all (λq=>Nat.blt q.1 L.length)=true:=by kernel_rfl) (hcov:(List.range L.length).all (λk=>U.any λq=>Nat.beq q.1 k)=true:=by kernel_rfl) (hR:σR.all (λq=>q.2.isSome)=true:=by kernel_rfl):HP:=
 hz d L (P:=P) (gl:=gl) (f:=fid) (gs:=gs) (σR:=σR) (c:=c) (g:=qg (GL L c) 20 r) (U:=zO L c U) (c':=c+(c1-L.length)) (YS L U hM hin a hlt hnd hgs hk0 hcov rfl rfl hR)
structure Q2 (P:Br) (w:World) (β:Bm) (S:Fq) (σ0:aQ) (p:Nat) (r:G) (σ1:aQ) (v:Value) (w':World) (β':Bm):Prop where
 pin:∀i ob,i<p->ag σ0 i=some ob->β' i=β i
 rs:RS P β' S σ1 w'
 old:∀b,GG β' σ1 b->GG β σ0 b\/w.heap.size<=b
 val:RV β' (Av S β' σ1) w' r v
 keep:A3 (GG β σ0) w w'
def SW(P:Br)(gl:CB)(f:FuncId)(gs:Bn)(σ0:aQ)(c0 p:Nat)(r:G)(σ1:aQ):Prop:=
 ∀(w:World) (β:Bm) (S:Fq) (vs:Array Value),(∀b,S b->b<w.heap.size)->(∀i,c0<=i->β i=none)->Gls gl (Av S β σ0) w->RS P β S σ0 w->vs.size=gs.length->(∀(i:Nat) (g:G) (u:Value),gs[i]?=some g->vs[i]?=some u->RV β (Av S β σ0) w g u)->
  Calls P f vs w λe w'=>∃v a,e= .returned v/\Q2 P w β S σ0 p r σ1 v w' a
theorem AcA{gl:CB}{c:Code}{σ0 σ1:aQ}{c0:Nat}(hf:P.funcs[f]?=some fn)(hb:fn.body=some c)(hn:gs.length<=fn.ntmps)(h:Tr P c ⟨fn.ntmps,gl,bQ 0 gs,σ0,c0,p,false⟩ (zE P fn r σ1)):SW P gl f gs σ0 c0 p r σ1:=by
 intro w β S vs hS hβ hG hR hsz s;have hlive:∀i o,ag σ0 i=some o->∃x,β i=some x:=by grind [RS,RO.at]
 refine rq (cx:=⟨w,GG β σ0,S,λi=>if i<p then β i else none,Fence.wide,9⟩) hf hb h rfl rfl ⟨β,?_⟩ ?_
 .constructor<;>try grind [D7.nil,lP,RS.ob,RS.inj,RS.sep,A3.refl]
  .exact λ_=>rfl
  .exact λi=>by
    show RV _ _ w (aD (bQ 0 gs) i) _;rw[px];simp only[Nat.zero_le,if_true,Nat.sub_zero];cases hg:gs[i]? with
    |none=>exact .junk _
    |some g=>
     have hlt:=(cr hg).1;have hu:vs[i]?=some (vs[i]'aa):=by grind
     have e:(vs++Array.replicate (fn.ntmps-vs.size) undef).getD i undef=vs[i]'aa:=by rw[Array.getD_eq_getD_getElem?,Array.getElem?_append_left aa,hu];rfl
     grind
  .exact λi o b C ho hb=> .inl ⟨i,o,C,ho,hb⟩
  .exact hG
 .rintro e st' a' w' ⟨he,t,ρ,hgs,d,hinj,hw,hst⟩ ⟨l,hr⟩;obtain⟨v,hres,hv⟩:=mP hr hgs;have hp':∀i ob,i<p->ag σ0 i=some ob->i<st'.p/\l i=β i:=by grind
  obtain⟨c',k⟩:∃c',∀q∈ρ,q.1<c':=by refine⟨(ρ.map (·.1)).foldr (λa b=>max (a+1) b) 0,λq hq=>?_⟩;clear hinj hw hst d;induction ρ<;>grind
  have hw':=Bv.weaken (st:=st') (st':=⟨st'.n,st'.gl,[],σ1,c',st'.p,st'.r⟩) ρ rfl rfl rfl d hinj k HQ hst rfl hr;have hpost:Q2 P w β S σ0 p r σ1 v w' (λi=>(dq ρ i).bind l):={
   pin:=by grind
   rs:=⟨hw'.ob,hw'.inj,hw'.sep⟩
   old:=by rintro b ⟨i,ob,C,ho,hb⟩;grind
   val:=(hw _ _ _ l hr v hv).step (by grind) (λb _ hb=>by
    rcases hb with hb|⟨i,m,C,h1,h2⟩
    .exact .inl hb
    .obtain⟨j,ob,h3,h4,_⟩:=hst i m h1;grind) (A3.refl _ _)
   keep:=hr.keep}
  grind
def kO(σ0:aQ)(L:Bq)(p nn c k:Nat):Fp:=bif Nat.blt k p then(match ag σ0 k with|some _=>L[k]? |none=>none)else bif Nat.blt k (p+nn)then some (c+(k-p))else none
theorem Ahd{σ0:aQ}{ob:Ob}(h:k<p)(ho:ag σ0 k=some ob):kO σ0 L p nn c k=L[k]? :=by unfold kO;rw[show Nat.blt k p=true from Qi h,ho];rfl
theorem AhX{σ0:aQ}(h:k<p)(e:kO σ0 L p nn c k=some i):L[k]?=some i/\∃ob,ag σ0 k=some ob:=by unfold kO at e;rw[show Nat.blt k p=true from Qi h,ax] at e;grind
theorem AjZ{σ0:aQ}(h:p<=k)(e:kO σ0 L p nn c k=some i):i=c+(k-p)/\k<p+nn:=by
 unfold kO at e;rw[show Nat.blt k p=false from by cases hb:Nat.blt k p with|false=>rfl|true=>exact absurd (E5 hb) aa] at e;cases hb:Nat.blt k (p+nn) with
 |false=>grind
 |true=>simp_all
theorem AhY{o:Oper}{st:St}{f:Dl}{xs:Array Dl}{ats:Array Bo}{fid:FuncId}{fst cap:Bn}(L:Bq)(p nn:Nat){gs0:Bn}{σ0:aQ}{σ1:aQ}(ho:o.op= .call {callee:= .value f,args:=xs,argTypes:=ats})(hd:Ly o st.n)(hf:aB st f= .clo (.func fid) fst cap)(hc:aK P fid=true)
  (hM:SW P st.gl fid gs0 σ0 L.length p r σ1) (hL:∀(k i:Nat),L[k]?=some i->i<st.c) (hnd:L.Nodup) (hgs:gs0=(fst++xs.toList.map (aB st)++cap).map (qg (vi L) 20))
  (hin:∀k o0,ag σ0 k=some o0->∃i o,L[k]?=some i/\ag st.σ i=some o/\MB (vi L) o o0)
  (τ:aQ) (s:∀i o,ag τ i=some o->(∃k d,kO σ0 L p nn st.c k=some i/\ag σ1 k=some d/\MB (kO σ0 L p nn st.c) d o)\/(ag st.σ i=some o/\i∉L)):
  GS P o st ({st with σ:=τ,c:=st.c+nn}.put o.dst (qg (kO σ0 L p nn st.c) 20 r)):=by
 intro cx a w K R ⟨β,h⟩ hK
 obtain⟨vs,hrun,hsz,hv⟩:=lQ h ho hf hc
 refine h.loose.oper (by grind) ?_
 unfold Oper.wp
 rw[hrun]
 have hlive:∀i o,ag st.σ i=some o->∃x,β i=some x:=by grind [RO.at]
 have hbound:∀i o,ag st.σ i=some o->i<st.c:=by grind
 obtain⟨m,E⟩:∃m:Bm,m=λk=>match L[k]? with|some i=>β i|none=>none:=⟨_,rfl⟩
 have b0:∀{k i:Nat},L[k]?=some i->m k=β i:=by grind
 have b0n:∀{k:Nat},L.length<=k->m k=none:=by grind
 obtain⟨Hid,y⟩:∃Hid:Fq,Hid=λb=>cx.S0 b\/∃i ob C,ag st.σ i=some ob/\β i=some (some (b,C))/\i∉L:=⟨_,rfl⟩
 have hlivS:∀b,GG m σ0 b->∃i o C,i∈L/\ag st.σ i=some o/\β i=some (some (b,C)):=λb ⟨k,ob,C,h1,h2⟩=>by grind
 have hav0:∀b,Av Hid m σ0 b->Av cx.S0 β st.σ b:=by grind
 have kin:∀i k,vi L i=some k->m k=β i:=by grind [QX]
 have hRS:RS P m Hid σ0 w:={
  ob:=λk o0 hk=>by obtain⟨i,o,g1,g2,q⟩:=hin k o0 hk;exact U8 kin ((h.ob i o g2).step (by grind) (by grind) (A3.refl _ _) (by grind)) q (b0 g1)
  inj:=λk1 k2 d z b C D h1 h2 h3 h4=>by obtain⟨i1,q1,g1,g2,_⟩:=hin k1 d h1;obtain⟨I,J,e1,e2,_⟩:=hin k2 z h2;grind [List.getElem?_inj]
  sep:=by grind}
 have hsz0:vs.size=gs0.length:=by grind
 refine(hM w m Hid vs (λb hb=>?_) (by grind) (λg l hl=>(by grind [IV.sub])) hRS hsz0 (λi g u hg hu=>?_)).mono ?_
 .grind [Bv.lt]
 .rw[hgs,MH] at hg
  cases hx:(fst++xs.toList.map (aB st)++cap)[i]? with
  |none=>grind
  |some x=>
   rw[hx] at hg
   simp only[Option.map_some,Fk] at hg
   subst hg
   exact IG kin 20 x u ((hv i x u hx hu).step (by grind) (by grind) (A3.refl _ _))
 rintro e w' ⟨v,t,rfl,M⟩
 obtain⟨β2,F⟩:∃β2:Bm,β2=λi=>if i<st.c then β i else if i<st.c+nn then t (p+(i-st.c))else none:=⟨_,rfl⟩
 have b2:∀{i:Nat},i<st.c->β2 i=β i:=by grind
 have key:∀k i,kO σ0 L p nn st.c k=some i->β2 i=t k:=λk i hk=>by
  rcases HE k p with hp|hp
  .obtain⟨hk,ob,ho⟩:=AhX hp hk;grind [Q2.pin]
  .obtain⟨rfl,h2⟩:=AjZ hp hk;grind
 have kfn:∀{k i j:Nat},kO σ0 L p nn st.c k=some i->kO σ0 L p nn st.c k=some j->i=j:=by grind
 have hext:∀i x,β i=some x->β2 i=some x:=by grind
 have hblk:∀i o b C,ag st.σ i=some o->β2 i=some (some (b,C))->β i=some (some (b,C)):=by grind
 have hav:∀b,Av cx.S0 β2 τ b->Av Hid t σ1 b:=by grind
 have hAo:∀b,b<w.heap.size->Av cx.S0 β2 τ b->Av cx.S0 β st.σ b:=by
  intro b hlt hb;rcases hav b hb with hb|hb
  .grind
  .rcases M.old b hb with hb|hb
   all_goals grind
 have hkp:A3 (Av cx.S0 β st.σ) w w':=by grind [Q2,A3.mono]
 have hframe:∀i o b C,ag st.σ i=some o->i∉L->β i=some (some (b,C))->w'.heap[b]?=w.heap[b]? :=by grind [Q2,Bv.lt]
 have hback:Bv P cx {st with σ:=τ,c:=st.c+nn} a w' β2:={
  size:=h.size
  defers:=by grind [Q2,D7.keep,Bv.not_marks]
  loose:=h.loose
  rnd:=h.rnd
  fr:=by grind [RV.step]
  ob:=λi o ho=>by
   rcases s i o ho with⟨k,d,g1,g2,q⟩|⟨g1,g2⟩
   .exact U8 key ((M.rs.ob k d g2).step (by grind) (by grind) (A3.refl _ _) (by grind)) q (key k i g1)
   grind [RO.step]
  inj:=λi j o H b C D hi hj hbi A=>by
   rcases s i o hi with⟨k,d,g1,g2,q⟩|⟨g1,g2⟩<;>rcases s j H hj with⟨k',B,e1,e2,e3⟩|⟨e1,e2⟩
   .grind [Q2,RS.inj]
   all_goals grind [Q2,RS.sep]
  own:=λi o b C hi hbi=>by
   rcases s i o hi with⟨k,d,g1,g2,q⟩|⟨g1,g2⟩
   .rw[key k i g1] at hbi;rcases M.old b ⟨k,d,C,g2,hbi⟩ with hb|hb
    all_goals grind
   grind
  sep:=by grind [Q2,RS.sep]
  fresh:=by grind
  glob:=by grind [IV.stepC,A3.cells]
  keep:=by grind [Q2,A3.then]
  old:=h.old
  pin:=by grind}
 have hval:RV β2 (Av cx.S0 β2 τ) w' (qg (kO σ0 L p nn st.c) 20 r) v:=IG key 20 _ v (M.val.step (by grind) (by grind) (A3.refl _ _))
 exact hK _ _ ⟨β2,hback.put o.dst hd hval⟩
def InP(κ:Nat->Fp)(L:Bq)(σR σ0:aQ):Prop:=∀k o0,ag σ0 k=some o0->∃i o,L[k]?=some i/\ag σR i=some o/\MB κ o o0
def Aag(κ:Nat->Fp)(σ1 U:aQ):Prop:=∀i o,ag U i=some o->∃k a,κ k=some i/\ag σ1 k=some a/\MB κ a o
theorem UT{σR σ:aQ}(hq:∀q∈σR,ag σ q.1=q.2)(h:ag σR i=some o):ag σ i=some o:=by
 induction σR with
 |nil=>cases h
 |cons q t ih=>grind
def Aa8(L:Bq):aQ:=L.map λi=>(i,none)
theorem AcB{U σ:aQ}(h:ag (U++(Aa8 L++σ)) i=some o):ag U i=some o\/(ag σ i=some o/\i∉L):=by
 induction U with
 |nil=>right;unfold Aa8 at h;induction L<;>grind
 |cons q t ih=>grind
theorem Ah0{gl:CB}{gs0 gs:Bn}{σ0 σ1 σR:aQ}{r g:G}{c c':Nat}(L:Bq)(p nn:Nat)(U:aQ)(hM:SW P gl fid gs0 σ0 L.length p r σ1)(hc:aK P fid=true)
  (hin:InP (vi L) L σR σ0) (a:Aag (kO σ0 L p nn c) σ1 U) (hlt:L.all (λi=>Nat.blt i c)=true:=by kernel_rfl) (hnd:decide L.Nodup=true:=by kernel_rfl) (hgs:gs.map (qg (vi L) 20)=gs0:=by kernel_rfl)
  (hg:qg (kO σ0 L p nn c) 20 r=g:=by kernel_rfl) (d:c+nn=c':=by kernel_rfl):oJ P gl fid gs σR c g (U++Aa8 L) c':=by
 intro o st y xs ats fst cap ho hd hf b hgl hq hsc
 subst hsc
 have key:=AhY (o:=o) (st:=st) (f:=y) (xs:=xs) (ats:=ats) (fid:=fid) (fst:=fst) (cap:=cap) L p nn ho hd hf hc (by rw[hgl];exact hM) (λk i hk=>E5 (Ge.1 hlt i (bO hk))) (DL hnd) (by rw[b,hgs]) (λk o0 hk=>by
   obtain⟨i,o,h1,h2,h3⟩:=hin k o0 hk;grind [UT]) (U++(Aa8 L++st.σ)) (λi o hh=>by
   rcases AcB hh with h|h
   .exact .inl (a i o h)
   .exact .inr h)
 grind
def hfm(d:Nat)(L:Bq)(p nn c:Nat)(σR:aQ)(gs:Bn)(U:aQ){gl:CB}{fid:FuncId}{gs0:Bn}{σ0 σ1:aQ}{r:G}(hM:SW P gl fid gs0 σ0 L.length p r σ1)
  (hin:InP (vi L) L σR σ0) (a:Aag (kO σ0 L p nn c) σ1 U) (hc:aK P fid=true:=by kernel_rfl) (hlt:L.all (λi=>Nat.blt i c)=true:=by kernel_rfl) (hnd:decide L.Nodup=true:=by kernel_rfl) (hgs:gs.map (qg (vi L) 20)=gs0:=by kernel_rfl):HP:=
 hz d L (P:=P) (gl:=gl) (f:=fid) (gs:=gs) (σR:=σR) (c:=c) (g:=qg (kO σ0 L p nn c) 20 r) (U:=U++Aa8 L) (c':=c+nn) (by grind [Ah0])
theorem dFP{gl:CB}{σ0 σ1:aQ}{c0 p:Nat}{r:G}(hf:P.funcs[f]?=some fn)(h:Gp P fn (zE P fn r σ1) [] false [] ⟨fn.ntmps,gl,bQ 0 gs,σ0,c0,p,false⟩)(hb:fn.body.isSome=true:=by kernel_rfl)(hn:Nat.ble gs.length fn.ntmps=true:=by kernel_rfl):SW P gl f gs σ0 c0 p r σ1:=
 AcA hf (c:=ai fn) (by unfold ai;cases hx:fn.body<;>grind) (E5 hn) (Tr.leQ (by exact h))
theorem Yc{st:St}{clock:Nat}{l:Bn}{es:List (Value×G×Nat)}{vs:Bn}(ho:ag st.σ i=some ⟨t,l,some (.map es clock)⟩)(hl:vs.length=es.length)(hi:∀(j:Nat) (e:Value×G×Nat) (g:G),es[j]?=some e->vs[j]?=some g->ve P st e.2.1 g):ve P st (.mref i) (.mp (es.map (·.1)) vs (es.map (·.2.2)) clock):=λcx a w β r v hv=>by
 obtain⟨b,C,hb,rfl⟩:=hv.mref_form;rcases r.ob i _ ho with⟨_,_,h3⟩|⟨b',x,o,h1,h2,h3,h4,h5⟩|⟨b',C',cur,h1,_⟩
 .grind
 .cases h1;have c:=hb;rw[h3] at hb;cases hb;obtain⟨ents,rfl,e2,e3⟩:=h5;refine .mp _ _ _ _ _ ents (r.sep i _ _ _ ho c) (r.lt ho c) h4 aa ?_ ?_ λj g e hg he=>?_
  .apply List.ext_getElem?;grind
  .apply List.ext_getElem?;grind
  .have hlt:=(cr hg).1;obtain⟨⟨k,d,n⟩,hj⟩:∃q,es[j]?=some q:=⟨_,DR aa⟩;obtain⟨e',h6,h7,h8,h9⟩:=e3 j k d n hj;rw[he] at h6;cases h6;exact hi j _ g hj hg cx a w β r _ h9
 .cases h1
theorem NQ{K V:Type}{kv:K->Value}{vg vf:V->G}{m:FM K V}(ho:ag st.σ i=some ⟨t,[],some (.map (m.es.map λe=>(kv e.1,vg e.2.1,e.2.2)) m.clk)⟩)(h:∀e∈m.es,ve P st (vg e.2.1) (vf e.2.1)):ve P st (.mref i) (m.g kv vf):=by
 have:=Yc (P:=P) (vs:=m.es.map λe=>vf e.2.1) ho aC λj e g h1 h2=>by rw[MH,DG] at h1 h2;obtain⟨x,hx,rfl⟩:=h1;obtain⟨y,hy,rfl⟩:=h2;rw[hx] at hy;cases hy;exact h x (bO hx)
 rw[HR,HR] at this;exact this
theorem Pr{gl:CB}{gs gs':Bn}{σR:aQ}{g:G}{c:Nat}(hc:aK P fid=true)(hF:ba P gl fid gs' g)(hr:Xh g)(hl:gs'.length=gs.length)(hz:∀st:St,(∀i o,ag σR i=some o->ag st.σ i=some o)->∀(i:Nat) (x y:G),gs[i]?=some x->gs'[i]?=some y->ve P st x y):oJ P gl fid gs σR c g [] c:=λo st y xs ats fst cap ho hd hx hgs hgl b a=>by subst hgs;subst hgl;subst a;exact Ai ho hd hx hc hl (by grind [UT]) hF hr
abbrev tRl:Bo:=142
abbrev tMc:Bo:=139
abbrev Ye:Bo:=138
abbrev Vq:Bo:=140
abbrev tMv:Bo:=204
abbrev tMe:Bo:=203
abbrev tGu:Bo:=206
abbrev Abl:G:= .lit (.pointer none)
abbrev cdG(x:DH):G:= .agg (bv x)
def nM(k:Int):Nat:=4+k.toNat
abbrev Vr(f:Nat->Nat)(m:FM Int Az):List (Value×G×Nat):=m.es.map λe=>(JN e.1,.ref (f (nM e.1)) 0,e.2.2)
def gpG(f:Nat->Nat)(k:Nat)(x:Az):G:=match x.guard with
 |none=>Abl
 |some _=> .ref (f (7+k)) 0
def guC(f:Nat->Nat)(k:Nat)(x:Cd):Bn:=[iG x.id.By,iG x.id.Seq,uG x.id.Sum,aE cZ x.guards,iG x.need,iG x.wait,.mref (f (10+k)),bG x.objected,iG x.last]
def roM(f:Nat->Nat)(R:Ad)(k:Nat):Option Ob:=(R.members.get (k:Int)).map λx=>⟨tMe,[iG x.role,gpG f k x],none⟩
def roG(f:Nat->Nat)(R:Ad)(k:Nat):Option Ob:=((R.members.get (k:Int)).bind (·.guard)).map λx=>⟨tGu,guC f k x,none⟩
def roV(R:Ad)(k:Nat):Option Ob:=((R.members.get (k:Int)).bind (·.guard)).map λx=>MZ tMv BW iG x.vouches
abbrev roR(f:Nat->Nat)(R:Ad):Ob:=⟨tRl,[.mref (f 1),.mref (f 2),.mref (f 3),.mref (f 4),iG R.back],none⟩
abbrev RU(f:Nat->Nat)(R:Ad):Ob:=⟨Vq,[],some (.map (Vr f R.members) R.members.clk)⟩
def Bu(f:Nat->Nat)(R:Ad):Nat->Option Ob
 |0=>some (roR f R)
 |1=>some (MZ tMc JN cdG R.cards)
 |2=>some (MZ Ye JN bG R.in_)
 |3=>some (MZ Ye JN bG R.was)
 |4=>some (RU f R)
 |5=>roM f R 1
 |6=>roM f R 2
 |7=>roM f R 3
 |8=>roG f R 1
 |9=>roG f R 2
 |10=>roG f R 3
 |11=>roV R 1
 |12=>roV R 2
 |13=>roV R 3
 |_=>none
abbrev BG(f:Nat->Nat)(R:Ad):aQ:=[(f 0,some (roR f R)),(f 1,some (MZ tMc JN cdG R.cards)),(f 2,some (MZ Ye JN bG R.in_)),(f 3,some (MZ Ye JN bG R.was)),(f 4,some (RU f R)),(f 5,roM f R 1),(f 6,roM f R 2),(f 7,roM f R 3),(f 8,roG f R 1),(f 9,roG f R 2),(f 10,roG f R 3),(f 11,roV R 1),(f 12,roV R 2),(f 13,roV R 3)]
structure Bj (R:Ad):Prop where
 ci:QI R.in_
 cw:QI R.was
 cm:QI R.members
 m3:∀e∈R.members.es,1<=e.1/\e.1<=3
 c3:∀d,0<=(DS (R.cards.get d)).Member/\(DS (R.cards.get d)).Member<=3
 cv:∀k x g,R.members.get k=some x->x.guard=some g->QI g.vouches
 gm:∀k x g,R.members.get k=some x->x.guard=some g->(DS (R.cards.get g.id.By)).Member=k
 gN:∀k x g,R.members.get k=some x->x.guard=some g->1<=g.need/\g.need<=1000000
 vb:∀k x g,R.members.get k=some x->x.guard=some g->∀e∈g.vouches.es,1<=e.1.by_/\e.1.by_<=6
 i6:∀e∈R.in_.es,1<=e.1/\e.1<=6
 c6:∀d,0<(DS (R.cards.get d)).Member->1<=d/\d<=6
 gn:∀k x g,R.members.get k=some x->x.guard=some g->g.guards.length<=1000000
theorem Bj.mem{R:Ad}(h:Bj R){e:Int×Az×Nat}(he:e∈R.members.es):R.members.get e.1=some e.2.1/\(e.1=1\/e.1=2\/e.1=3):=by grind [Bj,IX]
def Rls(f:Nat->Nat)(R:Ad)(σ:aQ):Prop:=∀k ob,Bu f R k=some ob->ag σ (f k)=some ob
theorem DV{f:Nat->Nat}{R:Ad}{k:Nat}{ob:Ob}(h:Bu f R k=some ob):k<14:=by
 rcases HE k 14 with h1|h1
 .exact h1
 .exact absurd h (by obtain⟨j,rfl⟩:∃j,k=j+14:=⟨k-14,aa⟩;intro e;cases e)
theorem Ng:∀{l l':Bn},l'.length=l.length->(∀p∈l.zip l',ve P st p.1 p.2)->∀(j:Nat) (g g':G),l[j]?=some g->l'[j]?=some g'->ve P st g g':=λ{l l'} _ h j g g' h1 h2=>h (g,g') (bO (i:=j) (by grind))
theorem Aei{f:Nat->Nat}{R:Ad}(hR:Bj R)(h:Rls f R st.σ):ve P st (.ref (f 0) 0) (.ptr (CA R) 0):=by
 have hv:∀k:Nat,k=1\/k=2\/k=3->∀x g,R.members.get (k:Int)=some x->x.guard=some g->ve P st (.ref (f (7+k)) 0) (.ptr (OS g) 0):=λk hk x g hx hg=>by
  have h1:ag st.σ (f (7+k))=some ⟨tGu,guC f k g,none⟩:=by refine h (7+k) _ ?_;rcases hk with rfl|rfl|rfl<;>(show(Option.bind _ _).map _=_;grind)
  have h2:ag st.σ (f (10+k))=some (MZ tMv BW iG g.vouches):=by refine h (10+k) _ ?_;rcases hk with rfl|rfl|rfl<;>(show(Option.bind _ _).map _=_;grind)
  refine Mb h1 (DC _) (Ng rfl λp hp=>?_);simp only[guC,OS,List.zip_cons_cons,List.zip_nil_right,EG,KY,or_false] at hp;rcases hp with rfl|rfl|rfl|rfl|rfl|rfl|rfl|rfl|rfl
  .exact jB (mN _)
  .exact jB (mN _)
  .exact jB (mN _)
  .exact jB (FC _ _)
  .exact jB (mN _)
  .exact jB (mN _)
  .exact NQ h2 λe _=>jB (mN _)
  all_goals grind [jB,mN]
 refine Mb (h 0 _ rfl) (DC _) (Ng rfl λp hp=>?_);simp only[CA,List.zip_cons_cons,List.zip_nil_right,EG,KY,or_false] at hp;rcases hp with rfl|rfl|rfl|rfl|rfl
 .exact NQ (h 1 _ rfl) λe _=>jB (L6 λg hg=>by simp only[bv,EG,KY,or_false] at hg;rcases hg with rfl|rfl|rfl|rfl|rfl<;>exact mN _)
 .exact NQ (h 2 _ rfl) λe _=>jB (mN _)
 .exact NQ (h 3 _ rfl) λe _=>jB (mN _)
 .have h4:=h 4 _ rfl;have:=Yc (P:=P) (st:=st) (vs:=R.members.es.map λe=> .ptr (Ft e.2.1) 0) h4 aC λj e g h1 h2=>by
   rw[MH,DG] at h1 h2;obtain⟨x,hx,rfl⟩:=h1;obtain⟨y,hy,rfl⟩:=h2;rw[hx] at hy;cases hy;obtain⟨m1,m2⟩:=hR.mem (bO hx);obtain⟨k,hk,a⟩:∃k:Nat,x.1=(k:Int)/\(k=1\/k=2\/k=3):=by grind
   rw[hk] at m1;have hn:nM x.1=4+k:=by unfold nM;omega
   have h5:ag st.σ (f (4+k))=some ⟨tMe,[iG x.2.1.role,gpG f k x.2.1],none⟩:=by refine h (4+k) _ ?_;rcases a with rfl|rfl|rfl<;>(show Option.map _ _=_;rw[m1];rfl)
   show ve P st (.ref (f (nM x.1)) 0) _;rw[hn];refine Mb h5 (DC _) (Ng rfl λp hp=>?_);grind [Ft,List.zip_cons_cons,List.zip_nil_right,jB,mN,gpG,npG]
  unfold FM.g;rw[HR,HR] at this;exact this
 .exact jB (mN _)
theorem Ps{κ:Nat->Fp}{f f':Nat->Nat}{R:Ad}(hκ:∀k,(∃ob,Bu f R k=some ob)->κ (f k)=some (f' k))(hR:Bj R)(k:Nat):XL κ (Bu f R k) (Bu f' R k):=λa h=>by
 have hk:=DV h;have hr:∀k,(∃ob,Bu f R k=some ob)->qg κ 20 (.ref (f k) 0)= .ref (f' k) 0:=λk hk=>by simp only[qg,hκ k hk]
 have hm:∀k,(∃ob,Bu f R k=some ob)->qg κ 20 (.mref (f k))= .mref (f' k):=λk hk=>by simp only[qg,hκ k hk]
 have pm:∀(k:Nat) x,k=1\/k=2\/k=3->R.members.get (k:Int)=some x->∃ob,Bu f R (4+k)=some ob:=λk x hk hx=>by rcases hk with rfl|rfl|rfl<;>exact⟨_,(by show Option.map _ _=_;rw[hx];rfl)⟩
 have pg:∀(k:Nat) x,k=1\/k=2\/k=3->(R.members.get (k:Int)).bind (·.guard)=some x->(∃ob,Bu f R (7+k)=some ob)/\∃ob,Bu f R (10+k)=some ob:=λk x hk hx=>by rcases hk with rfl|rfl|rfl<;>exact⟨⟨_,(by show Option.map _ _=_;rw[hx];rfl)⟩,⟨_,(by show Option.map _ _=_;rw[hx];rfl)⟩⟩
 have hmem:∀k,k=1\/k=2\/k=3->XL κ (roM f R k) (roM f' R k):=λk hk a h=>by
  unfold roM at h⊢;rw[DG] at h;obtain⟨x,hx,rfl⟩:=h;rw[hx];refine⟨_,rfl,rfl,.inl ?_⟩;show[iG x.role,gpG f' k x]=[iG x.role,qg κ 20 (gpG f k x)];unfold gpG;cases hg:x.guard with
  |none=>rfl
  |some g=>grind
 have hgu:∀k,k=1\/k=2\/k=3->XL κ (roG f R k) (roG f' R k):=λk hk a h=>by unfold roG at h⊢;rw[DG] at h;obtain⟨x,hx,rfl⟩:=h;rw[hx];refine⟨_,rfl,rfl,.inl ?_⟩;show guC f' k x=(guC f k x).map (qg κ 20);unfold guC;simp only[E7,List.map_nil,hm (10+k) (pg k x hk hx).2];rfl
 have hvo:∀k,XL κ (roV R k) (roV R k):=λk a h=>by refine⟨a,h,rfl,?_⟩;unfold roV at h;rw[DG] at h;obtain⟨x,hx,rfl⟩:=h;exact⟨rfl,rfl,rfl,.inr ⟨rfl,PL λv=>mN _⟩⟩
 match k,hk with
 |0,_=>cases h;refine⟨_,rfl,rfl,.inl ?_⟩;simp only[E7,List.map_nil,hm 1 ⟨_,rfl⟩,hm 2 ⟨_,rfl⟩,hm 3 ⟨_,rfl⟩,hm 4 ⟨_,rfl⟩];rfl
 |1,_=>cases h;exact⟨_,rfl,rfl,rfl,rfl,rfl,.inr (by grind [L6,bv,mN])⟩
 |2,_=>cases h;exact⟨_,rfl,rfl,rfl,rfl,rfl,.inr ⟨rfl,PL λv=>mN _⟩⟩
 |3,_=>cases h;exact⟨_,rfl,rfl,rfl,rfl,rfl,.inr ⟨rfl,PL λv=>mN _⟩⟩
 |4,_=>cases h;refine⟨_,rfl,rfl,rfl,rfl,rfl,.inl ?_⟩;rw[HR];refine List.map_congr_left λe he=>?_;obtain⟨h1,h2⟩:=hR.mem he;show _=(_,qg κ 20 (.ref (f (nM e.1)) 0),_);rw[hr (nM e.1) (by rcases h2 with h2|h2|h2<;>rw[h2] at h1⊢<;>exact pm _ _ aC h1)]
 |5,_=>exact hmem 1 aa a h
 |6,_=>exact hmem 2 aa a h
 |7,_=>exact hmem 3 aa a h
 |8,_=>exact hgu 1 aa a h
 |9,_=>exact hgu 2 aa a h
 |10,_=>exact hgu 3 aa a h
 |11,_=>exact hvo 1 a h
 |12,_=>exact hvo 2 a h
 |13,_=>exact hvo 3 a h
theorem LA{f:Nat->Nat}{g:Nat->Option Ob}:∀{l:Bq} {k:Nat},(∀a∈l,∀b∈l,f a=f b->a=b)->k∈l->ag (l.map λk=>(f k,g k)) (f k)=g k
 |[],k,_,h=>by cases h
 |x::r,k,hi,h=>by
  rw[E7,A9];split
  .grind
  .rename_i hne;rcases EG.1 h with rfl|h
   .exact absurd rfl hne
   .exact LA (by grind) h
theorem LB{f:Nat->Nat}{g:Nat->Option Ob}{i:Nat}{o:Ob}:∀{l:Bq},ag (l.map λk=>(f k,g k)) i=some o->∃k∈l,f k=i/\g k=some o
 |[],h=>by cases h
 |x::r,h=>by
  rw[E7,A9] at h;split at h
  .grind
  .obtain⟨k,h1,h2⟩:=LB h;grind
abbrev L0:Bq:=[0,1,2,3,4,5,6,7,8,9,10,11,12,13]
abbrev W6(f:Nat->Nat):Bq:=L0.map f
abbrev f0:Nat->Nat:=λk=>k
theorem Hr(f:Nat->Nat)(R:Ad):BG f R=(List.range 14).map λk=>(f k,Bu f R k):=rfl
theorem JX{R:Ad}:ag (BG f0 R) k=some o↔Bu f0 R k=some o:=by
 constructor
 .intro h;rw[Hr] at h;obtain⟨k',_,e,h⟩:=LB h;grind
 .intro h;rw[Hr];have:=LA (f:=f0) (g:=Bu f0 R) (l:=List.range 14) (k:=k) (λa _ b _ e=>e) (List.mem_range.2 (DV h));exact this.trans h
theorem Aau{f:Nat->Nat}(h:k<14):(W6 f)[k]?=some (f k):=by
 rw[MH,show L0[k]?=some k from by have:=List.getElem?_range (n:=14) h;exact this];rfl
theorem Abm{f:Nat->Nat}(hd:(W6 f).Nodup){a b:Nat}(ha:a<14)(hb:b<14)(e:f a=f b):a=b:=(List.getElem?_inj ha hd).1 (by grind [Aau])
theorem Aim(hd:L.Nodup){k i:Nat}(h:L[k]?=some i):vi L i=some k:=by unfold vi;rw[List.findIdx?_eq_some_iff_getElem];obtain⟨hk,e⟩:=cr h;refine⟨hk,by rw[e];exact Nat.beq_refl i,λj hj hb=>?_⟩;have a:=(List.getElem?_inj aa hd).1 ((DR (l:=L) (i:=j) aa).trans ((congrArg some (bc hb)).trans h.symm));omega
theorem Ahq{f:Nat->Nat}(hd:(W6 f).Nodup){R:Ad}(hR:Bj R):InP (vi (W6 f)) (W6 f) (BG f R) (BG f0 R):=λk o0 h=>by rw[JX] at h;have hk:=DV h;obtain⟨o,h1,h2⟩:=Ps (κ:=vi (W6 f)) (f:=f) (f':=f0) (by grind [Aim,Aau,DV]) hR k o0 h;refine⟨_,o,Aau hk,?_,h2⟩;rw[Hr,LA (by grind [Abm]) (List.mem_range.2 hk)];exact h1
theorem Ain{f:Nat->Nat}{R:Ad}(hR:Bj R)(c:Nat):Aag (kO (BG f0 R) (W6 f) 14 0 c) (BG f0 R) (BG f R):=λi o h0=>by
 rw[Hr] at h0;obtain⟨k,hk,e,h⟩:=LB h0;subst e;have hκ:∀k,(∃ob,Bu f0 R k=some ob)->kO (BG f0 R) (W6 f) 14 0 c (f0 k)=some (f k):=by grind [Ahd,DV,JX,Aau]
 obtain⟨a,h1,h2⟩:=Ps hκ hR k o h;grind [JX]
def fW(f:Nat->Nat)(c k:Nat):Nat:=bif Nat.blt k 5 then f k else c+(k-5)
theorem Agb{f:Nat->Nat}{R R':Ad}(hR:Bj R')(c:Nat):Aag (kO (BG f0 R) (W6 f) 5 9 c) (BG f0 R') (BG (fW f c) R'):=λi o h0=>by
 rw[Hr] at h0;obtain⟨k,hk,e,h⟩:=LB h0;subst e;have hκ:∀k,(∃ob,Bu f0 R' k=some ob)->kO (BG f0 R) (W6 f) 5 9 c (f0 k)=some (fW f c k):=λk ⟨ob,h⟩=>by
  have hk:=DV h;unfold fW;rcases HE k 5 with h5|h5
  .rw[show Nat.blt k 5=true from Qi h5,ax];have:∃ob,Bu f0 R k=some ob:=by
    match k,h5 with
    |0,_=>exact⟨_,rfl⟩
    |1,_=>exact⟨_,rfl⟩
    |2,_=>exact⟨_,rfl⟩
    |3,_=>exact⟨_,rfl⟩
    |4,_=>exact⟨_,rfl⟩
   grind [Ahd,JX,Aau]
  .have e:Nat.blt k 5=false:=by
    cases hb:Nat.blt k 5 with
    |false=>rfl
    |true=>exact absurd (E5 hb) aa
   rw[e,Be];unfold kO;rw[show Nat.blt (f0 k) 5=false from e,show Nat.blt (f0 k) (5+9)=true from Qi hk];rfl
 obtain⟨a,h1,h2⟩:=Ps hκ hR k o h;grind [JX]
def hrr(d:Nat)(f:Nat->Nat)(c:Nat)(args:Bn){gl:CB}{fid:FuncId}{args0:Bn}{R:Ad}{r:G}(hR:Bj R)(hM:SW P gl fid (.ref 0 0::args0) (BG f0 R) 14 14 r (BG f0 R))(hc:aK P fid=true:=by kernel_rfl)(hlt:(W6 f).all (λi=>Nat.blt i c)=true:=by kernel_rfl)(hnd:decide (W6 f).Nodup=true:=by kernel_rfl)(hgs:(G.ref (f 0) 0::args).map (qg (vi (W6 f)) 20)= .ref 0 0::args0:=by kernel_rfl):HP:=
 hfm d (W6 f) 14 0 c (BG f R) (.ref (f 0) 0::args) (BG f R) hM (Ahq (DL hnd) hR) (Ain hR c) hc hlt hnd hgs
def ZZ(d:Nat)(f:Nat->Nat)(c:Nat)(args:Bn){gl:CB}{fid:FuncId}{args0:Bn}{R R':Ad}{r:G}(hR:Bj R)(a:Bj R')(hM:SW P gl fid (.ref 0 0::args0) (BG f0 R) 14 5 r (BG f0 R'))(hc:aK P fid=true:=by kernel_rfl)(hlt:(W6 f).all (λi=>Nat.blt i c)=true:=by kernel_rfl)(hnd:decide (W6 f).Nodup=true:=by kernel_rfl)(hgs:(G.ref (f 0) 0::args).map (qg (vi (W6 f)) 20)= .ref 0 0::args0:=by kernel_rfl):HP:=
 hfm d (W6 f) 5 9 c (BG f R) (.ref (f 0) 0::args) (BG (fW f c) R') hM (Ahq (DL hnd) hR) (Agb a c) hc hlt hnd hgs
def hrl(d:Nat)(f:Nat->Nat)(c:Nat){args:Bn}{gl:CB}{fid:FuncId}{R:Ad}{g:G}(hR:Bj R)(hF:ba P gl fid (.ptr (CA R) 0::args) g)(ha:∀x∈args,bB x)(hg:Xh g)(hnd:decide (W6 f).Nodup=true:=by kernel_rfl)(hc:aK P fid=true:=by kernel_rfl):HP:=
 hz d (W6 f) (P:=P) (gl:=gl) (f:=fid) (gs:= .ref (f 0) 0::args) (σR:=BG f R) (c:=c) (g:=g) (U:=[]) (c':=c) (Pr hc hF hg rfl λst h i x y h1 h2=>by
  have hs:Rls f R st.σ:=λk ob ho=>h _ _ (by rw[Hr,LA (by grind [Abm]) (List.mem_range.2 (DV ho))];exact ho)
  cases i<;>grind [Aei,jB])
section
variable {P:Br} {l:HA} {cx:Cx} {Q:Exit->Act->World->Prop}
theorem Adk{L:Array Bool}(hi:i<L.size):(L.setIfInBounds i true).getD j false=if i=j then true else L.getD j false:=by simp only[Array.getD_eq_getD_getElem?,Array.getElem?_setIfInBounds];grind
abbrev Dn:=Nat->Bool
def dn(L:Array Bool):Dn:=λi=>L.getD i false
def Dn.add(D:Dn)(j:Nat):Dn:=λi=>if j=i then true else D i
theorem PS{I:Dn->St->Prop}(hg:∀(j:Nat) (o:Oper),l[j]?=some o->o.guard=none)
  (c:∀(j:Nat) (o:Oper),l[j]?=some o->∀e∈o.after,Region.binds .any e=true->e.on<j)
  (hs:∀(D:Dn) (s:St) (j:Nat) (o:Oper),I D s->l[j]?=some o->D j=false->(∀e∈o.after,Region.binds .any e=true->D e.on=true)->th P o s (λs'=>I (D.add j) s'))
  (hq:∀D s a w,I D s->(∀j,j<l.length->D j=true)->mh P cx s a w->Q .normal a w):
  ∀(fuel:Nat) (L:Array Bool) (a:Act) (w:World) (s:St),L.toList.count false<=fuel->L.size=l.length->I (dn L) s->mh P cx s a w->wpAnyIn cx.F cx.nn P .any l.toArray Q fuel L a w:=by
 have empty:∀(L:Array Bool),L.size=l.length->Region.ready .any l.toArray L=[]->∀j,j<l.length->L.getD j false=true:=by
  intro L hsz hr j;induction j using Nat.strongRecOn with
  |_ j ih=>
   intro hj;cases h:L.getD j false with
   |true=>rfl
   |false=>
    have:j∈Region.ready .any l.toArray L:=by rw[mem_ready];have ho:l[j]?=some (l[j]'hj):=DR hj;grind
    grind
 intro fuel
 induction fuel with
 |zero=>
  intro L a w s hc hsz hI R
  have hall:∀j,j<l.length->L.getD j false=true:=by
   intro j hj;have hs:j<L.size:=by grind
   have h0:L.toList.count false=0:=aa;rw[List.count_eq_zero] at h0;cases h:L.getD j false with
   |true=>rfl
   |false=>simp[hs] at h;grind
  refine⟨?_,hq _ s a w hI hall R⟩
  cases hr:Region.ready .any l.toArray L with
  |nil=>rfl
  |cons x xs=>
   have hx:x∈Region.ready .any l.toArray L:=by rw[hr];simp
   grind [mem_ready]
 |succ fuel ih=>
  intro L a w s hc hsz hI R
  refine⟨λhr=>hq _ s a w hI (empty L hsz hr) R,λj hj=>?_⟩
  obtain⟨h1,o,ho',hr⟩:=mem_ready.1 hj
  have ho:l[j]?=some o:=by grind
  have hjl:=(cr ho).1
  have hs':j<L.size:=by grind
  have hL:L.getD j false=false:=by grind
  have hcnt:(L.setIfInBounds j true).toList.count false<=fuel:=by have:=X8 L.toList j (by simp_all);grind
  have hD:dn (L.setIfInBounds j true)=(dn L).add j:=by funext i;exact Adk hs'
  unfold wpOpIn
  simp only[ho']
  obtain⟨β,rb⟩:=R
  have hw:ce s l.toArray o=some true:=by grind [ce]
  rw[Bx (cT rb hw)]
  refine hs (dn L) s j o hI ho hL hr cx a w _ Q ⟨β,rb⟩ λs' b a' w' r'=>?_
  exact ih _ a' w' s' hcnt (by simp[hsz]) (by rw[hD];exact b) r'
theorem Xg{id:Nat}{Q:Exit->St->Prop}(hm:P.follows .mixedOrders=true)(I:Dn->St->Prop)(hg:∀(j:Nat) (o:Oper),l[j]?=some o->o.guard=none)
  (b:∀(j:Nat) (o:Oper),l[j]?=some o->∀e∈o.after,Region.binds .any e=true->e.on<j) (h0:I (λ_=>false) st)
  (hs:∀(D:Dn) (s:St) (j:Nat) (o:Oper),I D s->l[j]?=some o->D j=false->(∀e∈o.after,Region.binds .any e=true->D e.on=true)->th P o s (λs'=>I (D.add j) s'))
  (hq:∀D s,I D s->(∀j,j<l.length->D j=true)->Q .normal s):Tr P (.region id l.toArray true) st Q:=λcx a w R ⟨β,r⟩ k=>by
 refine wpIn_region_any hm ?_
 have hr:Bv P cx st a {w with drawn:=w.drawn+1} β:=by grind [Bv.world,A3]
 have hno:dn (Array.replicate l.toArray.size false)=λ_=>false:=by funext i;show(Array.replicate l.toArray.size false).getD i false=false;rw[Array.getD_eq_getD_getElem?];grind
 refine PS (cx:=cx) (I:=I) hg b hs (by grind) _ _ _ _ st ?_ aC (by grind) ⟨β,hr⟩
 simp
end
end Go.Proofs.YtghphhhpagagbaaGreatDoor
