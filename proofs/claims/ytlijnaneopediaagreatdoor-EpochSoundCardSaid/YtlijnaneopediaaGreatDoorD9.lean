/- Texts. -/
import Derived.Test.YtlijnaneopediaaGreatDoorD2
namespace Go.Proofs.YtlijnaneopediaaGreatDoor
set_option linter.unusedSectionVars false
set_option linter.unusedVariables false
set_option linter.unusedSimpArgs false
open Go.RowKit Tryz
variable (gl:Cd)
variable {L:Bq}{c i k n nn p:Nat}{f fid:FuncId}{gs:Bk}{r:G}{fn:Func}{ex:Exit}{s s1:St}{t t2:Bn}{fr:Fr}{ps:Array Tmp}{a b bd:Code}{pe:Option Code}{o:Ob}{P:Br}
section
set_option maxHeartbeats 2000000
attribute [local irreducible] Tr dz Gp
def nk(g:AQ)(i:A3)(s3:Bh×Int):Option ((Bh×Int)⊕Bh):=
 bif s3.2<ah i then((aS i s3.2).bind λb=>(qR g b).bind λc=>(aS g.L c).bind λd=>(LJ d).bind λa=>(bif 0<a then((fb s3.1 a).bind λe=>some (!e))else(some false)).bind λf=>bif f then((aT 8 s3.1 ([a]:Bh)).bind λh=>some (.inl (h,wI (s3.2+1))))else(some (.inl (s3.1,wI (s3.2+1)))))else(some (.inr s3.1))
def jn(g:AQ)(ids:A3):Option Bh:=
 (n8 g ids).bind λa=>(AB (nk g a) ([],0)).bind λb=>some b
theorem Di{g ids}:LC prog gl (jn g ids) 127 [.agg (aI g),aE aj ids] 3 cZ:=
 gc func127 λK=>JL 11 ac (G7 gl) λh=>Ja 111101 (λc=>sp [] [(6,.rsl 0 0 c.length)] [ob 0 3 (c.flatMap cZ)] 1) (λs3=>sp [] [(2,.ref 0 0),(5,aE aj h),(6,.rsl 1 0 s3.1.length),(7,iG s3.2)] [ob 0 30 (aI g),ob 1 3 (s3.1.flatMap cZ)] 2) [hc (rZ.imm [])] (λc=>mr c0 K (rZ.imm _)) λs3 f k6=>aF 15 (CD 23 ac.ixZ 24 (ac.ptZ aW) λi=>BU 25 (yG gl) λj=>CD 26 eJ.ixZ 27 (eJ.ptZ GN) λk=>BU 28 (Pk gl) λa=>Ot 1111012210210 (sf [] [(8,iG a)]) (DF rZ s3.1) 36 (Gq (dg 40 rZ) λd=>cj f (DF rZ d)) (cj f (DF rZ s3.1)) λb=>aF 30 (ak λl e=>aw [hq 34 [aE cZ s3.1,iG a] [hc (rZ.al s3.1)] (Dk gl e)]<|aA c0 b (DF rZ s3.1))<|aA c0 b (DF rZ s3.1))<|aA c1 k6 (DF rZ s3.1)
def un(ids:A3)(s1:A3×Int):Option ((A3×Int)⊕A3):=
 bif s1.2<ah ids then((aS ids s1.2).bind λb=>(qN ids b.By).bind λa=>(bif 0<a then((aS ids s1.2).bind λc=>some (decide (a<=c.Seq)))else(some false)).bind λd=>bif d then((aS ids s1.2).bind λe=>(aT 24 s1.1 [e]).bind λf=>some (.inl (f,wI (s1.2+1))))else(some (.inl (s1.1,wI (s1.2+1)))))else(some (.inr s1.1))
def vJ(ids:A3):Option A3:=
 (AB (un ids) ([],0)).bind λb=>(iu b).bind λa=>some a
theorem JC{ids}:LC prog gl (vJ ids) 302 [aE aj ids] 36 aj:=
 gc func302 λK=>Ja 11101 (λc=>sg [] [(3,aE aj c)]) (λs1=>so [] [(3,.rsl 0 0 s1.1.length),(4,iG s1.2)] [ob 0 36 (s1.1.flatMap aj)] 1) [hc (ac.imm [])] (λc=>ak λd e=>aw [ho 38 [aE aj c] [] (iO gl e) (kF d)]<|mr c0 K (ac.imm _)) λs1 k5 h=>aF 9 (CD 15 ac.ixZ 17 (ac.fdY tZ 0) λi=>BU 18 (yF gl) λf=>cN 111012210210 (sf [] [(5,iG f)]) (DF ac s1.1)<|cC 111012210210 (λa=>sf [5] [(29,bG a)]) (λa=>eH [29] (CD 33 ac.ixZ 34 (ac.ptZ aW) λj=>Gq (dg 36 ac) λg=>cj k5 (DF ac g))<|cj k5 (DF ac s1.1)) λa b=>aF 20 (CD 24 ac.ixZ 26 (ac.fdY tZ 1) λk=>aA c0 b (DF ac s1.1))<|aA c0 b (DF ac s1.1))<|aA c1 h [hc (ac.al s1.1)]
def uo(g:AQ)(b:A3)(a:List Bool×List Bool×Int):Option ((List Bool×List Bool×Int)⊕(List Bool×List Bool)):=
 bif a.2.2<ah b then((aS b a.2.2).bind λd=>(fC g d).bind λc=>(ji a.1 c true).bind λe=>(ji a.2.1 c true).bind λf=>some (.inl (e,f,wI (a.2.2+1))))else(some (.inr (a.1,a.2.1)))
def uq(g:AQ)(e:A3)(a:Bh×Int):Option ((Bh×Int)⊕Bh):=
 bif a.2<ah e then((aS e a.2).bind λb=>(fC g b).bind λc=>(aT 8 a.1 ([c]:Bh)).bind λd=>some (.inl (d,wI (a.2+1))))else(some (.inr a.1))
def Aa(g:AQ)(ids:A3):Option JQ:=
 (n8 g ids).bind λd=>(rP 1 (false:Bool) (ah g.L)).bind λe=>(rP 1 (false:Bool) (ah g.L)).bind λf=>(rP 1 (false:Bool) (ah g.L)).bind λh=>(AB (uq g d) ([],0)).bind λb=>(vJ ids).bind λc=>(AB (uo g c) (e,f,0)).bind λa=>some ⟨b,a.1,a.2,h⟩
theorem JE{g ids r}(h:Aa g ids=some r):OU prog gl 195 [.agg (aI g),aE aj ids] [] 0 0 (.agg [.rsl 0 0 r.Row.length,.rsl 1 0 r.Void.length,.rsl 2 0 r.Fork.length,.rsl 3 0 r.Decided.length]) [ob 0 3 (r.Row.flatMap cZ),ob 1 4 (r.Void.flatMap cO),ob 2 4 (r.Fork.flatMap cO),ob 3 4 (r.Decided.flatMap cO)]:=
 Yx (λr:JQ=> .agg [.rsl 0 0 r.Row.length,.rsl 1 0 r.Void.length,.rsl 2 0 r.Fork.length,.rsl 3 0 r.Decided.length]) (λr:JQ=>[ob 0 3 (r.Row.flatMap cZ),ob 1 4 (r.Void.flatMap cO),ob 2 4 (r.Fork.flatMap cO),ob 3 4 (r.Decided.flatMap cO)]) func195 h (λi hi=>absurd hi (Nat.not_lt_zero i)) λK=>JL 13 ac (G7 gl) λt=>Gq (hmk 17 rO) λe=>Gq (hmk 22 rO) λf=>Gq (hmk 27 rO) λb=>Ja 111111101 (λa=>so [0] [(2,.ref 0 0),(4,.ref 1 0),(5,.ref 2 0)] [ob 0 30 (aI g),ob 1 157 (bF [0,1,2,3] (fU AC)),ob 2 157 [.rsl 3 0 a.length,.rsl 4 0 e.length,.rsl 5 0 f.length,.rsl 6 0 b.length],ob 3 3 (a.flatMap cZ),ob 4 4 (e.flatMap cO),ob 5 4 (f.flatMap cO),ob 6 4 (b.flatMap cO)] 7) (λl=>so [0] [(2,.ref 0 0),(4,.ref 1 0),(5,.ref 2 0),(6,aE aj t),(7,iG l.2)] [ob 0 30 (aI g),ob 1 157 (bF [0,1,2,3] (fU AC)),ob 2 157 [.rsl 3 0 l.1.length,.rsl 4 0 e.length,.rsl 5 0 f.length,.rsl 6 0 b.length],ob 3 3 (l.1.flatMap cZ),ob 4 4 (e.flatMap cO),ob 5 4 (f.flatMap cO),ob 6 4 (b.flatMap cO)] 7) [hc (el e),hc (el f),hc (el b),hc (rZ.imm []),hc (rO.imm e),hc (rO.imm f),hc (rO.imm b)] (λa=>JL 47 ac (JC gl) λp=>Ja 11111111101 (λd=>sk [] [(4,.ref 0 0),(5,.ref 1 0)] [ob 0 157 (bF [0,1,2,3] (fU AC)),ob 1 157 [.rsl 2 0 a.length,.rsl 3 0 d.1.length,.rsl 4 0 d.2.length,.rsl 5 0 b.length],ob 2 3 (a.flatMap cZ),ob 3 4 (d.1.flatMap cO),ob 4 4 (d.2.flatMap cO),ob 5 4 (b.flatMap cO)] 6) (λc=>so [1] [(8,aE aj p),(9,iG c.2.2)] [ob 2 157 [.rsl 3 0 a.length,.rsl 4 0 c.1.length,.rsl 5 0 c.2.1.length,.rsl 6 0 b.length],ob 4 4 (c.1.flatMap cO),ob 5 4 (c.2.1.flatMap cO)] 7) [hc (el a),hc (el e),hc (el f),hc (el b),hc (rZ.imm a),hc (rO.imm e),hc (rO.imm f),hc (rO.imm b)] (λd=>rdU c0 K [hc (el a),hc (el d.1),hc (el d.2),hc (el b),hc (rZ.imm a),hc (rO.imm d.1),hc (rO.imm d.2),hc (rO.imm b)] [(0,2),(1,3),(2,4),(3,5)] [(0,.row),(1,.row),(2,.row),(3,.row)]) λc q s=>aF 51 (CD 57 ac.ixZ 58 (ac.ptZ aW) λu=>BU 59 (dX gl) λv=>ak λm j=>ak λn k=>aw [Az 63 (rO.ixsZ 4 j),hw 63 (m.flatMap cO) (rO.putZ j),Az 67 (rO.ixsZ 5 k),hw 67 (n.flatMap cO) (rO.putZ k)]<|cj q [hc (el a),hc (hZ j),hc (hZ k),hc (el b),hc (rZ.imm a),hc (rO.imm m),hc (rO.imm n),hc (rO.imm b)])<|aA c1 s [hc (el a),hc (el c.1),hc (el c.2.1),hc (el b),hc (rZ.imm a),hc (rO.imm c.1),hc (rO.imm c.2.1),hc (rO.imm b)]) λl k13 k12=>aF 32 (CD 40 ac.ixZ 41 (ac.ptZ aW) λw=>BU 42 (dX gl) λx=>Gq (dg 44 rZ) λo=>cj k13 [hc (el o),hc (el e),hc (el f),hc (el b),hc (rZ.imm o),hc (rO.imm e),hc (rO.imm f),hc (rO.imm b)])<|aA c1 k12 [hc (el l.1),hc (el e),hc (el f),hc (el b),hc (rZ.imm l.1),hc (rO.imm e),hc (rO.imm f),hc (rO.imm b)]
def N7(g:AQ)(l:JQ)(at_:Int):Fp:=
 (aS g.L at_).bind λa=>((aS l.Void at_).bind λc=>bif(!c)then((aS l.Decided at_).bind λb=>bif(!b)then(bif a.Kind=3 then(some true)else(bif a.Kind=13 then(some true)else(some (decide (a.Kind=12)))))else(some false))else(some false)).bind λd=>some d
theorem lC{g l at_}:DC prog gl (N7 g l at_) 197 [.agg (aI g),.agg (fU l),iG at_] bG:=
 cy func197 λK=>CD 11 eJ.ixZ 13 (eJ.fdY tZ 2) λc=>cN 1110 (sp [2] [(4,.ref 0 0),(7,iG c.Kind)] [ob 0 157 (fU l)] 1) []<|cC 1110 (λb=>sk [] [(6,bG b)] [] 0) (λb=>rv K) λb a=>CD 17 rO.ixZ 18 (rO.p1Y tO) λe=>aF 19 (CD 24 rO.ixZ 25 (rO.p1Y tO) λd=>aF 27 (aF 30 (rx a)<|aF 34 (rx a)<|rx a)<|rx a)<|rx a
def n9(g:AQ)(c:Int)(y:Int):Fp:=
 (aS g.L c).bind λa=>(aS g.L y).bind λb=>(bif c=y then(some true)else((aS g.In c).bind λd=>(aS d y).bind λe=>bif e then(some true)else((aS g.In y).bind λf=>(aS f c).bind λh=>some h))).bind λl=>bif l then(some false)else((bif a.Kind=3 then(some (decide (a.Device≠0)))else(some false)).bind λm=>bif m then(some (decide (b.By=a.Device)))else(bif a.Kind=3 then((nT g b.By).bind λi=>some (decide (i=a.Member)))else(bif a.Kind=13 then((bif b.By=a.Old then(bif b.Kind≠12 then(some true)else(some (!decide (b.Of=a.Of))))else(some false)).bind λj=>some j)else((bif a.Kind=12 then(bif b.Kind=13 then(bif a.Of=b.Of then(some (decide (a.At<=b.At)))else(some false))else(some false))else(some false)).bind λk=>some k))))
theorem mC{g x_ y}:DC prog gl (n9 g x_ y) 183 [.agg (aI g),iG x_,iG y] bG:=
 cy func183 λK=>CD 12 eJ.ixZ 13 (eJ.ptZ GN) λf=>CD 17 eJ.ixZ 18 (eJ.ptZ GN) λh=>cN 111100 (so [0] [(3,.ref 0 0),(7,.ref 1 0),(8,.ref 2 0)] [ob 0 30 (aI g),ob 1 63 (aJ f),ob 2 63 (aJ h)] 3) []<|cC 111100 (λj=>sf [1,2] [(41,bG j)]) (λj=>eH [41] (rv K)<|Ot 1111100 (sf [41] []) [] 49 (rv K) (aF 57 (BU 61 (vE gl) λk=>rv K)<|aF 67 (cN 11111110130 (sk [] [(7,.ref 0 0),(8,.ref 1 0)] [ob 0 63 (aJ f),ob 1 63 (aJ h)] 2) []<|cC 11111110130 (λb=>sk [] [(6,bG b)] [] 0) (λb=>rv K) λb c=>aF 72 (aF 76 (rx c)<|aw [hV 82 (dy h.Of f.Of rfl)]<|rx c)<|rx c)<|cN 111111110 (sk [] [(7,.ref 0 0),(8,.ref 1 0)] [ob 0 63 (aJ f),ob 1 63 (aJ h)] 2) []<|cC 111111110 (λd=>sk [] [(6,bG d)] [] 0) (λd=>rv K) λd a=>aF 87 (aF 92 (aw [hV 98 (dU f.Of h.Of rfl)]<|aF 99 (rx a)<|rx a)<|rx a)<|rx a) λi=>aF 44 (rx i)<|rx i) λj e=>aF 21 (rx e)<|CD 26 zV.ixZ 27 (zV.p1Y Vt) λl=>CD 29 rO.ixZ 30 (rO.p1Y tO) λm=>aF 31 (rx e)<|CD 36 zV.ixZ 37 (zV.p1Y Vt) λn=>CD 39 rO.ixZ 40 (rO.p1Y tO) λo=>rx e
def qV(g:AQ)(l:JQ)(h:Int)(y:Int)(s2:Int):Option ((Int)⊕(Unit⊕Bool)):=
 bif s2<ah l.Row then((aS l.Row s2).bind λa=>(bif a=h then((n9 g y a).bind λb=>some b)else((aS g.In h).bind λc=>(aS c a).bind λd=>bif d then((n9 g y a).bind λe=>some e)else(some false))).bind λf=>bif f then(some (.inr (.inr true)))else(some (.inl (wI (s2+1)))))else(some (.inr (.inl ())))
def qW(g:AQ)(l:JQ)(a:Int)(y:Int):Fp:=
 bif a=y then(some false)else((AB (qV g l a y) 0).bind λb=>ma b (λc=>some false) (λq=>some q))
theorem yI{g l x_ y}:DC prog gl (qW g l x_ y) 198 [.agg (aI g),.agg (fU l),iG x_,iG y] bG:=
 cy func198 λK=>aF 13 (rv K)<|O0 11101 (λc=>sg [] []) (λs2=>so [0,1] [(4,.ref 0 0),(5,.ref 1 0),(9,iG s2)] [ob 0 30 (aI g),ob 1 157 (fU l)] 2) [] K (λc=>rv K) λs2 k6 k5 e=>aF 18 (CD 24 rZ.ixZ 25 (rZ.p1Y tZ) λd=>cN 111012210210 (sf [] [(10,iG d)]) []<|cC 111012210210 (λa=>sf [10] [(44,bG a)]) (λa=>eH [44] (aP c3 e [])<|rb k6) λa b=>aF 28 (BU 43 (mC gl) λf=>rx b)<|CD 33 zV.ixZ 34 (zV.p1Y Vt) λh=>CD 36 rO.ixZ 37 (rO.p1Y tO) λi=>aF 38 (BU 43 (mC gl) λj=>rx b)<|rx b)<|aA c2 k5 []
def ph(a:Bh)(device:Int)(s1:Int):Option ((Int)⊕(Unit⊕Int)):=
 bif s1<ah a then((aS a s1).bind λb=>bif b=device then(some (.inr (.inr s1)))else(some (.inl (wI (s1+1)))))else(some (.inr (.inl ())))
def oa(a:Bh)(device:Int):JK:=
 (AB (ph a device) 0).bind λb=>ma b (λc=>some (ah a)) (λq=>some q)
theorem vK{a device}:DC prog gl (oa a device) 303 [aE cZ a,iG device] iG:=
 cy func303 λK=>O0 1101 (λb=>sf [1] []) (λs1=>sf [] [(5,iG s1)]) [] K (λb=>rv K) λs1 k5 c k6=>aF 9 (CD 14 rZ.ixZ 15 (rZ.p1Y tZ) λd=>aF 17 (aP c3 k6 [])<|rb k5)<|aA c2 c []
def ut(g:AQ)(l:JQ)(b:Int)(a:Bool×Int):Option ((Bool×Int)⊕(Bool)):=
 bif a.2<ah l.Row then(((aS l.Row a.2).bind λc=>(N7 g l c).bind λd=>bif d then((aS l.Row a.2).bind λe=>(qW g l b e).bind λf=>some f)else(some false)).bind λh=>bif h then(some (.inl (false,wI (a.2+1))))else(some (.inl (a.1,wI (a.2+1)))))else(some (.inr a.1))
def uu(g:AQ)(l:JQ)(a:Bh)(s1:Int×Int):Option ((Int×Int)⊕(Int⊕Int)):=
 bif s1.2<ah l.Row then((aS l.Row s1.2).bind λb=>(N7 g l b).bind λc=>bif(!c)then(some (.inl (s1.1,wI (s1.2+1))))else((AB (ut g l b) (true,0)).bind λd=>bif d then(some (.inr (.inr b)))else((bif s1.1<0 then(some true)else((aS g.L b).bind λe=>(oa a e.By).bind λf=>(aS g.L (E1 s1.1 0)).bind λh=>(oa a h.By).bind λi=>some (decide (f<i)))).bind λj=>bif j then(some (.inl (b,wI (s1.2+1))))else(some (.inl (s1.1,wI (s1.2+1)))))))else(some (.inr (.inl s1.1)))
def vL(g:AQ)(l:JQ)(a:Bh):JK:=
 (AB (uu g l a) ((-1),0)).bind λc=>ma c (λb=>some b) (λq=>some q)
theorem AZ{g l a}:DC prog gl (vL g l a) 196 [.agg (aI g),.agg (fU l),aE cZ a] iG:=
 cy func196 λK=>O0 11101 (λd=>sg [] [(7,iG d)]) (λs1=>sp [2] [(3,.ref 0 0),(4,.ref 1 0),(7,iG s1.1),(8,iG s1.2)] [ob 0 30 (aI g),ob 1 157 (fU l)] 2) [] K (λd=>rv K) λs1 k5 n k6=>aF 16 (CD 22 rZ.ixZ 23 (rZ.p1Y tZ) λe=>BU 27 (lC gl) λo=>aF 28 (rb k5)<|Ja 111012210211101 (λf=>sf [] [(9,iG e),(10,bG f)]) (λb=>sf [] [(9,iG e),(10,bG b.1),(11,iG b.2)]) [] (λf=>aF 55 (aP c3 k6 [])<|Ot 1110122102111110 (sf [10] []) [] 78 (rb k5) (rb k5) λh=>aF 58 (rx h)<|CD 64 eJ.ixZ 66 (eJ.fdY tZ 0) λp=>BU 67 (vK gl) λq=>CD 73 eJ.ixZ 75 (eJ.fdY tZ 0) λr=>BU 76 (vK gl) λs=>rx h) λb i m=>aF 33 (Ot 111012210211101221020 (sf [] []) [] 54 (rb i) (rb i) λj=>CD 41 rZ.ixZ 42 (rZ.p1Y tZ) λt=>ak λu k=>kV (λc=>CD 51 rZ.ixZ 52 (rZ.p1Y tZ) λv=>BU 53 (yI gl) λw=>aw [hf 43 (cF (lC gl k) c)]<|rx j) λc=>aw [hf 43 (cF (lC gl k) c)]<|rx j)<|aA c1 m [])<|aA c2 n []
end
section
set_option maxHeartbeats 2000000
attribute [local irreducible] Tr dz Gp
def ng(b:Bh)(a:List Bool×Int):Option ((List Bool×Int)⊕(List Bool)):=
 bif a.2<ah b then((aS b a.2).bind λc=>(ji a.1 c true).bind λd=>some (.inl (d,wI (a.2+1))))else(some (.inr a.1))
def nh(g:AQ)(d:JQ)(c:List Bool×List Bool×Int)(a:Bh×Int):Option ((Bh×Int)⊕Bh):=
 bif a.2<ah d.Row then((aS d.Row a.2).bind λb=>((n9 g c.2.2 b).bind λe=>bif e then(some true)else((N7 g ({d with Void:=c.1,Decided:=c.2.1}) b).bind λf=>bif f then((qW g ({d with Void:=c.1,Decided:=c.2.1}) c.2.2 b).bind λh=>some h)else(some false)):Fp).bind λi=>bif i then((aT 8 a.1 ([b]:Bh)).bind λj=>some (.inl (j,wI (a.2+1))))else(some (.inl (a.1,wI (a.2+1)))))else(some (.inr a.1))
def tw(g:AQ)(d:JQ)(k:Bh)(a:List Bool×List Bool×Int):Option ((List Bool×List Bool×Int)⊕(List Bool×List Bool)):=
 bif 0<=a.2.2 then((Qt g ({d with Void:=a.1,Decided:=a.2.1})).bind λe=>(fb e a.2.2).bind λf=>(AB (nh g d a) ([],0)).bind λh=>(bif(!f)then(some ([a.2.2]:Bh))else(some h)).bind λi=>(ji a.2.1 a.2.2 true).bind λb=>(AB (ng i) (a.1,0)).bind λc=>(vL g ({d with Void:=c,Decided:=b}) k).bind λj=>some (.inl (c,b,j)))else(some (.inr (a.1,a.2.1)))
def oR(g:AQ)(ids:A3):Option JQ:=
 (Aa g ids).bind λa=>(jn g ids).bind λb=>(vL g a b).bind λd=>(AB (tw g a b) (a.Void,a.Decided,d)).bind λc=>some ({a with Void:=c.1,Decided:=c.2})
theorem Db{g ids}:DC prog gl (oR g ids) 110 [.agg (aI g),aE aj ids] (λr=> .agg (fU r)):=
 cy func110 λK=>ak λe e2=>JL 18 rZ (Di gl) λz=>ak λQ e6=>aw [hz 15 [] (Ts (c:=2) aH (JE gl e2) (eB aH) rn4 (rZ.imm e.Row) (rO.imm e.Void) (rO.imm e.Fork) (rO.imm e.Decided)),hq 22 [.agg (aI g),.agg (fU e),aE cZ z] [hc (rZ.al e.Row),hc (rO.al e.Void),hc (rO.al e.Fork),hc (rO.al e.Decided)] (AZ gl e6)]<|Ja 111110 (λA=>sp [] [(4,.ref 0 0),(5,.ref 1 0)] [ob 0 157 (bF [0,1,2,3] (fU AC)),ob 1 157 (fU ({e with Void:=A.1,Decided:=A.2}))] 2) (λa=>sp [] [(2,.ref 0 0),(4,.ref 1 0),(5,.ref 2 0),(6,aE cZ z),(7,iG a.2.2)] [ob 0 30 (aI g),ob 1 157 (bF [0,1,2,3] (fU AC)),ob 2 157 [aE cZ e.Row,.rsl 3 0 a.1.length,aE cO e.Fork,.rsl 4 0 a.2.1.length],ob 3 4 (a.1.flatMap cO),ob 4 4 (a.2.1.flatMap cO)] 5) [hc (rZ.al e.Row),hc (el e.Void),hc (rO.al e.Fork),hc (el e.Decided),hc (rO.imm e.Void),hc (rO.imm e.Decided)] (λA=>rv K) λa k11 B=>aF 24 (ak λj C=>ak λk D=>aw [ho 27 [.agg (aI g),.agg (fU ({e with Void:=a.1,Decided:=a.2.1}))] [hc (rO.al a.1),hc (rO.al a.2.1)] (AY gl C) (lZ j),hq 29 [aE cZ j,iG a.2.2] [hc (rZ.al j)] (Dk gl D)]<|Ja 11111022121101 (λs=>sf [] [(8,bG k),(9,aE cZ s)]) (λb=>so [] [(8,bG k),(9,.rsl 5 0 b.1.length),(10,iG b.2)] [ob 5 3 (b.1.flatMap cZ)] 6) [hc (el a.1),hc (el a.2.1),hc (rO.imm a.1),hc (rO.imm a.2.1),hc (rZ.imm [])] (λs=>cN 111110221211101 (sf [8] [(64,bG (!k))]) [hc (el a.1),hc (el a.2.1),hc (rO.imm a.1),hc (rO.imm a.2.1)]<|cC 111110221211101 (λl=>sf [64] [(9,aE cZ l)]) (λl=>ak λd m=>aw [Az 70 (rO.ixsZ 4 m),hw 70 (d.flatMap cO) (rO.putZ m)]<|Ja 11111022121111101 (λf=>so [7,9] [] [ob 2 157 [aE cZ e.Row,.rsl 3 0 f.length,aE cO e.Fork,.rsl 4 0 d.length],ob 3 4 (f.flatMap cO),ob 4 4 (d.flatMap cO)] 5) (λh=>so [7] [(12,iG h.2)] [ob 2 157 [aE cZ e.Row,.rsl 3 0 h.1.length,aE cO e.Fork,.rsl 4 0 d.length],ob 3 4 (h.1.flatMap cO),ob 4 4 (d.flatMap cO)] 5) [hc (el a.1),hc (hZ m),hc (rO.imm a.1),hc (rO.imm d)] (λf=>ak λL E=>aw [hq 87 [.agg (aI g),.agg (fU ({e with Void:=f,Decided:=d})),aE cZ z] [hc (rO.al f),hc (rO.al d)] (AZ gl E)]<|cj k11 [hc (el f),hc (el d),hc (rO.imm f),hc (rO.imm d)]) λh F H=>aF 74 (CD 81 rZ.ixZ 82 (rZ.p1Y tZ) λM=>ak λt n=>aw [Az 83 (rO.ixsZ 3 n),hw 83 (t.flatMap cO) (rO.putZ n)]<|cj F [hc (hZ n),hc (el d),hc (rO.imm t),hc (rO.imm d)])<|aA c1 H [hc (el h.1),hc (el d),hc (rO.imm h.1),hc (rO.imm d)]) λl u=>eH [64] (aA c0 u [hc (rZ.al ([a.2.2]:Bh)),hc (el a.1),hc (el a.2.1),hc (rO.imm a.1),hc (rO.imm a.2.1)])<|aA c0 u [hc (el a.1),hc (el a.2.1),hc (rO.imm a.1),hc (rO.imm a.2.1)]) λb v I=>aF 34 (CD 40 rZ.ixZ 41 (rZ.p1Y tZ) λi=>Ot 111110221211012210210 (sf [] [(11,iG i)]) [hc (el b.1),hc (el a.1),hc (el a.2.1),hc (rO.imm a.1),hc (rO.imm a.2.1),hc (rZ.imm b.1)] 58 (Gq (dg 62 rZ) λw=>cj v [hc (el w),hc (el a.1),hc (el a.2.1),hc (rO.imm a.1),hc (rO.imm a.2.1),hc (rZ.imm w)]) (cj v [hc (el b.1),hc (el a.1),hc (el a.2.1),hc (rO.imm a.1),hc (rO.imm a.2.1),hc (rZ.imm b.1)]) λo=>ak λN x=>kV (λp=>aw [hf 45 (cF (mC gl x) p)]<|aA c0 o [hc (el b.1),hc (el a.1),hc (el a.2.1),hc (rO.imm a.1),hc (rO.imm a.2.1),hc (rZ.imm b.1)]) λp=>ak λO y=>aw [hf 45 (cF (mC gl x) p)]<|kV (λq=>ak λP J=>aw [hq 50 [.agg (aI g),.agg (fU ({e with Void:=a.1,Decided:=a.2.1})),iG i] [hc (rO.al a.1),hc (rO.al a.2.1)] (cF (lC gl y) q),hq 56 [.agg (aI g),.agg (fU ({e with Void:=a.1,Decided:=a.2.1})),iG a.2.2,iG i] [hc (rO.al a.1),hc (rO.al a.2.1)] (yI gl J)]<|aA c0 o [hc (el b.1),hc (el a.1),hc (el a.2.1),hc (rO.imm a.1),hc (rO.imm a.2.1),hc (rZ.imm b.1)]) λq=>aw [hq 50 [.agg (aI g),.agg (fU ({e with Void:=a.1,Decided:=a.2.1})),iG i] [hc (rO.al a.1),hc (rO.al a.2.1)] (cF (lC gl y) q)]<|aA c0 o [hc (el b.1),hc (el a.1),hc (el a.2.1),hc (rO.imm a.1),hc (rO.imm a.2.1),hc (rZ.imm b.1)])<|aA c1 I [hc (rZ.al b.1),hc (el a.1),hc (el a.2.1),hc (rO.imm a.1),hc (rO.imm a.2.1)])<|aA c1 B [hc (rO.al a.1),hc (rO.al a.2.1)]
def tQ(g:AQ)(b:Bh)(a:C7×Int):Option ((C7×Int)⊕(C7)):=
 bif a.2<ah b then((aS b a.2).bind λc=>(aS g.L c).bind λd=>(aS b a.2).bind λe=>(aS g.IDs e).bind λf=>(DM a.1 d f).bind λh=>some (.inl (h,wI (a.2+1))))else(some (.inr a.1))
def zY(g:AQ)(ids:A3):Option C7:=
 (AV g.Cards).bind λa=>(oR g ids).bind λb=>(Qt g b).bind λc=>(AB (tQ g c) (a,0)).bind λd=>some d
theorem Jh{g ids}:DC prog gl (zY g ids) 49 [.agg (aI g),aE aj ids] (λr=> .agg (aU r)):=
 cy func49 λK=>BU 10 (DN gl) λk=>BU 14 (Db gl) λl=>JL 15 rZ (AY gl) λd=>Ja 111101 (λc=>sp [] [(4,.ref 0 0),(5,.ref 1 0)] [ob 0 88 (bF [0,1,2,3,5] (aU eY)),ob 1 88 (aU c)] 2) (λa=>sp [] [(2,.ref 0 0),(4,.ref 1 0),(5,.ref 2 0),(6,aE cZ d),(7,iG a.2)] [ob 0 30 (aI g),ob 1 88 (bF [0,1,2,3,5] (aU eY)),ob 2 88 (aU a.1)] 3) [] (λc=>rv K) λa k11 b=>aF 19 (CD 27 rZ.ixZ 28 (rZ.p1Y tZ) λe=>CD 29 eJ.ixZ 30 (eJ.ptZ GN) λf=>CD 35 rZ.ixZ 36 (rZ.p1Y tZ) λh=>CD 37 ac.ixZ 38 (ac.ptZ aW) λi=>BU 39 (AU gl) λj=>rb k11)<|aA c1 b []
def lu(b:C7):Option Bh:=
 (lg b.In).bind λa=>some a
theorem Dc{r_}:LC prog gl (lu r_) 126 [.agg (aU r_)] 3 cZ:=
 gc func126 λK=>ak λa e2=>aw [ho 5 [aE cZ r_.In] [] (vH gl e2) (lZ a)]<|mr c0 K (rZ.imm _)
def qm(b:Bh)(c:Bh)(a:Bh×Int):Option ((Bh×Int)⊕Bh):=
 bif a.2<ah b then((aS b a.2).bind λd=>(fb c d).bind λe=>bif(!e)then((aS b a.2).bind λf=>(aT 8 a.1 ([f]:Bh)).bind λg=>some (.inl (g,wI (a.2+1))))else(some (.inl (a.1,wI (a.2+1)))))else(some (.inr a.1))
def qn(c:Bh)(b:Bh)(a:Bh×Int):Option ((Bh×Int)⊕Bh):=
 bif a.2<ah b then((aS b a.2).bind λd=>(fb c d).bind λe=>bif e then((aS b a.2).bind λf=>(aT 8 a.1 ([f]:Bh)).bind λg=>some (.inl (g,wI (a.2+1))))else(some (.inl (a.1,wI (a.2+1)))))else(some (.inr a.1))
def qo(g:AQ)(o:Bj):Option Bh:=
 (Ko g o.Past).bind λd=>(qN d o.By).bind λj=>(bif 0<j then(some (decide (j<=o.Seq)))else(some false)).bind λl=>bif l then(some [])else((zY g d).bind λk=>(pV o).bind λa=>(AX k o a).bind λe=>bif e≠0 then(some [])else((DM k o a).bind λf=>(lu f).bind λb=>(jn g d).bind λc=>(AB (qn b c) ([],0)).bind λh=>(AB (qm b c) (h,0)).bind λi=>some i))
theorem GU{g o}:LC prog gl (qo g o) 60 [.agg (aI g),.agg (aJ o)] 3 cZ:=
 gc func60 λK=>JL 17 ac (ua gl) λs=>BU 21 (yF gl) λt=>cN 111100 (sp [] [(2,.ref 0 0),(3,.ref 1 0),(5,aE aj s),(6,iG t)] [ob 0 30 (aI g),ob 1 63 (aJ o)] 2) []<|cC 111100 (λm=>sf [6] [(29,bG m)]) (λm=>eH [29] (mr c0 K (rZ.imm _))<|BU 32 (Jh gl) λD=>BU 34 (AI gl) λu=>BU 38 (DO gl) λv=>aF 39 (mr c0 K (rZ.imm _))<|BU 43 (AU gl) λw=>JL 44 rZ (Dc gl) λf=>JL 47 rZ (Di gl) λh=>Ja 1111111111101 (λc=>sk [] [(9,aE cZ f),(10,aE cZ h),(11,.rsl 0 0 c.length)] [ob 0 3 (c.flatMap cZ)] 1) (λa=>sk [] [(9,aE cZ f),(10,aE cZ h),(11,.rsl 0 0 a.1.length),(12,iG a.2)] [ob 0 3 (a.1.flatMap cZ)] 1) [hc (rZ.imm [])] (λc=>Ja 11111111111101 (λd=>sp [] [(11,.rsl 0 0 d.length)] [ob 0 3 (d.flatMap cZ)] 1) (λb=>so [] [(11,.rsl 0 0 b.1.length),(13,iG b.2)] [ob 0 3 (b.1.flatMap cZ)] 1) (DF rZ c) (λd=>mr c0 K (rZ.imm _)) λb i n=>aF 70 (CD 76 rZ.ixZ 77 (rZ.p1Y tZ) λx=>BU 78 (Dk gl) λy=>aF 79 (CD 83 rZ.ixZ 84 (rZ.p1Y tZ) λz=>Gq (dg 86 rZ) λp=>cj i (DF rZ p))<|cj i (DF rZ b.1))<|aA c1 n (DF rZ b.1)) λa j q=>aF 51 (CD 57 rZ.ixZ 58 (rZ.p1Y tZ) λA=>ak λB k=>kV (λe=>CD 63 rZ.ixZ 64 (rZ.p1Y tZ) λC=>Gq (dg 66 rZ) λr=>aw [hf 59 (cF (Dk gl k) e)]<|cj j (DF rZ r)) λe=>aw [hf 59 (cF (Dk gl k) e)]<|cj j (DF rZ a.1))<|aA c1 q (DF rZ a.1)) λm l=>aF 23 (rx l)<|rx l
def AE(n:Int)(s1:Int):Option ((Int)⊕(Int)):=
 bif wI (2*s1)<n then(some (.inl (wI (2*s1))))else(some (.inr s1))
def zZ(n:Int):JK:=
 (AB (AE n) 1).bind λa=>some a
theorem Ji{n}:DC prog gl (zZ n) 324 [iG n] iG:=
 cy func324 λK=>Ja 1110 (λa=>sg [] [(3,iG a)]) (λs1=>sf [] [(3,iG s1)]) [] (λa=>rv K) λs1 k5 b=>aF 7 (rb k5)<|aA c1 b []
def KS:Nat->Bh->Option M0
 |0,_=>none
 |nn+1,leaves=>
 bif ah leaves=0 then(some [])else(bif ah leaves=1 then(some [leaves])else((zZ (ah leaves)).bind λd=>(tq leaves d).bind λe=>(KS nn e).bind λf=>(aT 24 [leaves] f).bind λg=>(mc leaves d).bind λa=>(KS nn a).bind λb=>(aT 24 g b).bind λc=>some c))
theorem qp:∀(nn:Nat) {leaves:Bh},LC prog gl (KS nn leaves) 234 [aE cZ leaves] 22 Jc
 |0,_=>λ_ h=>by cases h
 |nn+1,leaves=>gc func234 λK=>aF 7 (mr c0 K (nH.imm _))<|aF 12 (mr c0 K (nH.imm _))<|ak λg e4=>ak λi e6=>ak λj e8=>ak λk a=>ak λd b=>ak λe c=>ak λf e16=>aw [hf 16 (Ji gl e4),Az 20 (rZ.preZI e6),hf 21 ((qp nn e8).fn nH.sz (nH.len _) (nH.imm _)),eu 22 nH a,Az 26 (rZ.sufZI b),hf 27 ((qp nn c).fn nH.sz (nH.len _) (nH.imm _)),eu 28 nH e16]<|mr c0 K (nH.imm _)
def z0(a:Bh):Option M0:=KS (a.length+1) a
theorem Jj{leaves}:LC prog gl (z0 leaves) 234 [aE cZ leaves] 22 Jc:=qp gl _
def AF(device:Int)(e:M0)(s3:M0×Int):Option ((M0×Int)⊕M0):=
 bif 0<=s3.2 then((aS e s3.2).bind λa=>(fb a device).bind λb=>bif b then((aS e s3.2).bind λc=>(aT 24 s3.1 [c]).bind λd=>some (.inl (d,wI (s3.2-1))))else(some (.inl (s3.1,wI (s3.2-1)))))else(some (.inr s3.1))
def N4(a:Bh)(device:Int):Option M0:=
 (z0 a).bind λb=>(AB (AF device b) ([],wI ((ah b)-1))).bind λc=>some c
theorem Jl{leaves device}:LC prog gl (N4 leaves device) 145 [aE cZ leaves,iG device] 22 Jc:=
 gc func145 λK=>JL 9 nH (Jj gl) λe=>Ja 111101 (λb=>sp [] [(6,.rsl 0 0 b.length)] [ob 0 22 (b.flatMap Jc)] 1) (λs3=>so [0] [(5,aE Jc e),(6,.rsl 0 0 s3.1.length),(7,iG s3.2)] [ob 0 22 (s3.1.flatMap Jc)] 1) [hc (nH.imm [])] (λb=>mr c0 K (nH.imm _)) λs3 d k6=>aF 14 (CD 19 nH.ixZ 20 (nH.p1Y Vs) λf=>ak λg e16=>kV (λa=>CD 26 nH.ixZ 27 (nH.p1Y Vs) λh=>Gq (dg 29 nH) λc=>aw [hf 22 (cF (Dk gl e16) a)]<|cj d (DF nH c)) λa=>aw [hf 22 (cF (Dk gl e16) a)]<|cj d (DF nH s3.1))<|aA c1 k6 (DF nH s3.1)
def jm(g:AQ)(o:Bj):Option M0:=
 (GI o.Kind).bind λb=>bif(!b)then(some [])else((qo g o).bind λa=>(fb a o.By).bind λc=>bif(!c)then(some [])else((N4 a o.By).bind λd=>some d))
theorem E6{g o}:LC prog gl (jm g o) 73 [.agg (aI g),.agg (aJ o)] 22 Jc:=
 gc func73 λK=>BU 9 (oX gl) λd=>aF 11 (mr c0 K (nH.imm _))<|JL 14 rZ (GU gl) λe=>BU 18 (Dk gl) λf=>aF 19 (mr c0 K (nH.imm _))<|ak λb a=>aw [hz 23 [] (U2 (c:=2) aH (Jl gl a) (eB aH) (nH.imm b))]<|mr c0 K (nH.imm _)
end
section
set_option maxHeartbeats 2000000
attribute [local irreducible] Tr dz Gp
theorem Ahn:fg prog 55=some false:=aH
def SM(g:AQ)(l:Bh)(a:A3×Int):Option ((A3×Int)⊕A3):=
 (bif a.2<ah l then(some (decide (a.2<4)))else(some false)).bind λb=>bif b then((aS l a.2).bind λc=>(iq c (ah g.IDs)).bind λd=>(aS g.IDs d).bind λe=>(aT 24 a.1 [e]).bind λf=>some (.inl (f,wI (a.2+1))))else(some (.inr a.1))
def Uk(g:AQ)(l:Bh):Option A3:=
 (bif ah l=0 then(some true)else(some (decide (ah g.L=0)))).bind λb=>bif b then((xt g).bind λc=>some c)else((AB (SM g l) ([],0)).bind λd=>(Ko g d).bind λa=>some a)
theorem Ou{g l}:LC prog gl (Uk g l) 11 [.agg (aI g),aE cZ l] 36 aj:=
 gc func11 λK=>cN 1100 (so [0] [(2,.ref 0 0)] [ob 0 30 (aI g)] 1) []<|cC 1100 (λi=>sf [] [(15,bG i)]) (λi=>eH [15] (ak λp e5=>aw [ho 17 [.agg (aI g)] [] (DK gl e5) (kF p)]<|mr c0 K (ac.imm _))<|rdL 111101 11110122 (λj=>sg [2] [(5,aE aj j)]) (λa=>so [15] [(5,.rsl 1 0 a.1.length),(6,iG a.2)] [ob 1 36 (a.1.flatMap aj)] 2) [hc (ac.imm [])] (λj=>ak λk e16=>aw [ho 45 [.agg (aI g),aE aj j] [] (ua gl e16) (kF k)]<|mr c0 K (ac.imm _)) λa m k9=>cN 1111012200 (sf [] []) [hc (el a.1),hc (ac.imm a.1)]<|cC 1111012200 (λb=>sf [] [(25,bG b)]) (λb=>eH [25] (ak λq c=>ak λr n=>ak λs d=>ak λe o=>aw [Az 33 (rZ.ixZ c),Az 34 (rZ.p1Z tZ c),hf 38 (iL gl n),Az 39 (ac.ixZ d),Az 40 (ac.ptZ aW d),dg 42 ac o]<|cj m [hc (el e),hc (ac.imm e)])<|aA c1 k9 [hc (ac.al a.1)]) λb f=>aF 21 (aA c0 f [hc (el a.1),hc (ac.imm a.1)])<|aA c0 f [hc (el a.1),hc (ac.imm a.1)]) λi h=>aF 9 (aA c0 h [])<|aA c0 h []
def M5(g:AQ)(c:A3)(s3:A3×Int):Option ((A3×Int)⊕A3):=
 bif s3.2<ah c then((aS c s3.2).bind λd=>(fC g d).bind λa=>bif a<0 then(some (.inl (s3.1,wI (s3.2+1))))else((aS g.L a).bind λe=>(jm g e).bind λb=>(bif 0<ah b then((aS g.L a).bind λf=>some (decide (ah b=ah f.Path)))else(some false)).bind λh=>bif h then((aS c s3.2).bind λi=>(aT 24 s3.1 [i]).bind λj=>some (.inl (j,wI (s3.2+1))))else(some (.inl (s3.1,wI (s3.2+1))))))else(some (.inr s3.1))
def JV(g:AQ)(ids:A3):Option A3:=
 (n8 g ids).bind λa=>(AB (M5 g a) ([],0)).bind λb=>some b
theorem YB{g ids}:LC prog gl (JV g ids) 55 [.agg (aI g),aE aj ids] 36 aj:=
 gc func55 λK=>ak λo e2=>aw [hf 12 (ac.fo (G7 gl e2))]<|rdL 111101 11110122 (λi=>sp [] [(6,.rsl 0 0 i.length)] [ob 0 36 (i.flatMap aj)] 1) (λs3=>sp [] [(2,.ref 0 0),(5,aE aj o),(6,.rsl 1 0 s3.1.length),(7,iG s3.2)] [ob 0 30 (aI g),ob 1 36 (s3.1.flatMap aj)] 2) [hc (ac.imm [])] (λi=>mr c0 K (ac.imm _)) λs3 j k6=>aF 16 (ak λp b=>ak λk e16=>aw [Az 22 (ac.ixZ b),Az 23 (ac.ptZ aW b),hf 24 (dX gl e16)]<|aF 26 (cj j [hc (el s3.1),hc (ac.imm s3.1)])<|ak λq c=>ak λl m=>aw [Az 31 (eJ.ixZ c),Az 32 (eJ.ptZ GN c),hf 33 (nH.fo (E6 gl m))]<|cN 111101221021110 (sf [] [(8,iG k),(9,iG (ah l))]) [hc (el s3.1),hc (ac.imm s3.1)]<|cC 111101221021110 (λa=>sf [8,9] [(47,bG a)]) (λa=>eH [47] (ak λr d=>ak λe n=>aw [Az 51 (ac.ixZ d),Az 52 (ac.ptZ aW d),dg 54 ac n]<|cj j [hc (el e),hc (ac.imm e)])<|cj j [hc (el s3.1),hc (ac.imm s3.1)]) λa f=>aF 36 (ak λs h=>aw [Az 42 (eJ.ixZ h),Az 44 (eJ.fdZ Ahn 9 h)]<|aA c0 f [hc (el s3.1),hc (ac.imm s3.1)])<|aA c0 f [hc (el s3.1),hc (ac.imm s3.1)])<|aA c1 k6 [hc (el s3.1),hc (ac.imm s3.1)]
def Aac(g:AQ)(commit:Ab):Option M0:=
 (fC g commit).bind λa=>bif a<0 then(some [])else((aS g.L a).bind λb=>(jm g b).bind λc=>some c)
end
structure EY where
 commit:Ab
 n:Int
 deriving DecidableEq
structure AkF where
 device:Int
 keys:FM EY Nat
structure Alk where
 b:CY
def FR(x:JK):Int:=x.getD 0
theorem H7(m:Jn)(k:Ab):∀σ,bL prog σ 102 true (FM.g ga iG m) (.agg (aj k))=some (.tup [iG (FR (m.get k)),bG (m.get k).isSome]):=FM.look (et:=3) jt aH aH m k rfl
structure OS where
 a0:Nat
 a1:Nat
 a2:Nat
 a3:Nat
 deriving DecidableEq
def FSq(x:OS):Bk:=[uG x.a0,uG x.a1,uG x.a2,uG x.a3]
theorem aap:fg prog 107=some true:=aH
theorem aaq:bw prog 107=some 4:=aH
structure C3 where
 o:Bj
 id:Ab
 past:OS
 level:Int
def d7(x:C3):Bk:=[iG x.o.By,iG x.o.Seq,iG x.o.Kind,iG x.o.At,aE aj x.o.Past,iG x.o.Device,iG x.o.Old,iG x.o.Member,iG x.o.Role,aE bY x.o.Path,iG x.o.Epoch.By,iG x.o.Epoch.Seq,uG x.o.Epoch.Sum,iG x.o.N,aE cY x.o.Body,aE cW x.o.Refs,iG x.o.Of.By,iG x.o.Of.Seq,uG x.o.Of.Sum,aE cZ x.o.Guards,iG x.o.Need,iG x.o.Wait,aE cz x.o.Boxes,uG x.o.Pub,aE bp x.o.Hist,uG x.o.Sig.R,uG x.o.Sig.S,iG x.id.By,iG x.id.Seq,uG x.id.Sum,uG x.past.a0,uG x.past.a1,uG x.past.a2,uG x.past.a3,iG x.level]
structure Aj where
 cards:Mw
 at_:Jn
 nodes:List C3
def Ag(x:Aj):Bk:=[aE bv x.cards,FM.g ga iG x.at_,aE d7 x.nodes]
theorem az:A9 prog 103 109 35 d7:=⟨aH,aH,B5,λ_=>rfl,λ_=>rfl⟩
structure Abb where
 Graph:Aj
def Nr(x:Abb):Bk:=[.ptr (Ag x.Graph) 0]
structure Bf where
 Device:Int
 Seq:Int
 deriving DecidableEq
def Bu(x:Bf):Bk:=[iG x.Device,iG x.Seq]
theorem Hr:fg prog 165=some true:=aH
def DS(x:Option DP):DP:=x.getD ⟨0,0,0,0,0⟩
theorem Abc(m:FM Int DP)(k:Int):∀σ,bL prog σ 116 false (FM.g JN (λx=> .agg (bv x)) m) (iG k)=some ((λx=> .agg (bv x)) (DS (m.get k))):=FM.look1 (et:=127) PE aH aH m k rfl
def Hj(x:Fp):Bool:=x.getD false
theorem SC(m:FM Int Bool)(k:Int):∀σ,bL prog σ 115 false (FM.g JN bG m) (iG k)=some (bG (Hj (m.get k))):=FM.look1 (et:=4) PE aH aH m k rfl
structure C4 where
 by_:Int
 device:Int
 deriving DecidableEq
def M4(x:C4):Bk:=[iG x.by_,iG x.device]
def Hs(x:C4):List Value:=[.int .i64 x.by_,.int .i64 x.device]
theorem UH(d:Nat)(i j:C4):bt prog (Op.equalIn (d+3) 195 (.agg (Hs i).toArray) (.agg (Hs j).toArray))=some (decide (i=j)):=by obtain⟨a0,a1⟩:=i;obtain⟨b0,b1⟩:=j;unfold Hs;rw[xV (fs:= #[⟨ "by",3,0,false, "", "huddle/roll",0⟩,⟨ "device",3,1,false, "", "huddle/roll",8⟩]) aH aH];simp only[Array.toList];rw[uJ (k:= .i64) (k':= .i64) (a:=a0) (b:=b0) B5 aH aH aH];rw[uJ (k:= .i64) (k':= .i64) (a:=a1) (b:=b1) B5 aH aH aH];simp only[C4.mk.injEq];by_cases h0:a0=b0<;>by_cases h1:a1=b1<;>simp[h0,h1,Op.eqFields,bz]
def BX(x:C4):Value:= .agg (Hs x).toArray
theorem K3:MG prog 195 BX:=Qw (d:= .struct #[⟨ "by",3,0,false, "", "huddle/roll",0⟩,⟨ "device",3,1,false, "", "huddle/roll",8⟩]) aH (λb k=>by cases b<;>(show _=_;kernel_rfl)) (λa b=>rfl) (λa b=>UH 9997 a b)
def LT(x:JK):Int:=x.getD 0
theorem SD(m:FM C4 Int)(k:C4):∀σ,bL prog σ 189 true (FM.g BX iG m) (.agg (M4 k))=some (.tup [iG (LT (m.get k)),bG (m.get k).isSome]):=FM.look (et:=3) K3 aH aH m k rfl
structure CA where
 id:Ab
 guards:Bh
 need:Int
 wait:Int
 vouches:FM C4 Int
 objected:Bool
 last:Int
def Px(x:CA):Bk:=[iG x.id.By,iG x.id.Seq,uG x.id.Sum,aE cZ x.guards,iG x.need,iG x.wait,FM.g BX iG x.vouches,bG x.objected,iG x.last]
structure AA where
 role:Int
 guard:Option CA
def FF(x:AA):Bk:=[iG x.role,npG Px x.guard]
structure Ad where
 cards:FM Int DP
 in_:FM Int Bool
 was:FM Int Bool
 members:FM Int AA
 back:Int
def CB(x:Ad):Bk:=[FM.g JN (λx=> .agg (bv x)) x.cards,FM.g JN bG x.in_,FM.g JN bG x.was,FM.g JN (λx=> .ptr (FF x) 0) x.members,iG x.back]
def AH(x:Fp):Bool:=x.getD false
theorem Om(m:FM Ab Bool)(k:Ab):∀σ,bL prog σ 231 false (FM.g ga bG m) (.agg (aj k))=some (bG (AH (m.get k))):=FM.look1 (et:=4) jt aH aH m k rfl
structure Bb where
 g:Aj
 row:A3
 void:FM Ab Bool
 fork:FM Ab Bool
def BB(x:Bb):Bk:=[.ptr (Ag x.g) 0,aE aj x.row,FM.g ga bG x.void,FM.g ga bG x.fork]
theorem Bg:A9 prog 163 165 2 Bu:=⟨aH,aH,B5,λ_=>rfl,λ_=>rfl⟩
abbrev Jk:=List C3
section
set_option maxHeartbeats 2000000
attribute [local irreducible] Tr dz Gp
def fm(a:Bh)(s1:Int):Option ((Int)⊕(Unit⊕Int)):=
 bif s1<ah a then((aS a s1).bind λb=>bif b≠0 then(some (.inr (.inr b)))else(some (.inl (wI (s1+1)))))else(some (.inr (.inl ())))
def iy(a:Bh):JK:=
 (AB (fm a) 0).bind λb=>ma b (λc=>some 0) (λq=>some q)
theorem FT{vals}:DC prog gl (iy vals) 224 [aE cZ vals] iG:=
 cy func224 λK=>O0 11101 (λa=>sg [] [(3,iG 0)]) (λs1=>sg [] [(3,iG 0),(6,aE cZ vals),(7,iG (ah vals)),(8,iG s1)]) [] K (λa=>rv K) λs1 k5 b k6=>aF 9 (CD 10 rZ.ixZ 11 (rZ.p1Y tZ) λc=>aF 14 (aP c3 k6 [])<|rb k5)<|aA c2 b []
def FI(a:Int):Fp:=
 some (decide (a≠a))
theorem dw{x_}:DC prog gl (FI x_) 306 [iG x_] bG:=
 cy func306 λK=>rv K
def f8(a:Int)(y:Int):JK:=
 (FI a).bind λc=>(FI y).bind λb=>bif c then(bif b then(some 0)else(some (-1)))else(bif b then(some 1)else(bif a<y then(some (-1))else(bif y<a then(some 1)else(some 0))))
theorem mQ{x_ y}:DC prog gl (f8 x_ y) 215 [iG x_,iG y] iG:=
 cy func215 λK=>ak λc e2=>ak λd e4=>aw [hf 10 (dw gl e4)]<|kV (λb5=>aw [hf 8 (cF (dw gl e2) b5)]<|kV (λa=>aw [hf 10 (cF (dw gl e4) a)]<|rv K) λa=>aw [hf 10 (cF (dw gl e4) a)]<|rv K) λb5=>aw [hf 8 (cF (dw gl e2) b5)]<|kV (λb=>aw [hf 10 (cF (dw gl e4) b)]<|rv K) λb=>aw [hf 10 (cF (dw gl e4) b)]<|aF 16 (rv K)<|aF 19 (rv K)<|rv K
def g9(a:Nat):Fp:=
 some (decide ((a:Int)≠(a:Int)))
theorem cH{x_}:DC prog gl (g9 x_) 325 [uG x_] bG:=
 cy func325 λK=>rv K
def fQ(a:Nat)(y:Nat):JK:=
 (g9 a).bind λc=>(g9 y).bind λb=>bif c then(bif b then(some 0)else(some (-1)))else(bif b then(some 1)else(bif (a:Int)<(y:Int)then(some (-1))else(bif (y:Int)<(a:Int)then(some 1)else(some 0))))
theorem rG{x_ y}:DC prog gl (fQ x_ y) 236 [uG x_,uG y] iG:=
 cy func236 λK=>ak λc e2=>ak λd e4=>aw [hf 10 (cH gl e4)]<|kV (λb5=>aw [hf 8 (cF (cH gl e2) b5)]<|kV (λa=>aw [hf 10 (cF (cH gl e4) a)]<|rv K) λa=>aw [hf 10 (cF (cH gl e4) a)]<|rv K) λb5=>aw [hf 8 (cF (cH gl e2) b5)]<|kV (λb=>aw [hf 10 (cF (cH gl e4) b)]<|rv K) λb=>aw [hf 10 (cF (cH gl e4) b)]<|aF 16 (rv K)<|aF 19 (rv K)<|rv K
def pE(a:Ab)(b:Ab):Fp:=
 (f8 a.By b.By).bind λc=>(f8 a.Seq b.Seq).bind λd=>(fQ a.Sum b.Sum).bind λe=>(iy ([c,d,e]:Bh)).bind λf=>some (decide (f<0))
theorem Ns{a b}:DC prog gl (pE a b) 161 [.agg (aj a),.agg (aj b)] bG:=
 cy func161 λK=>BU 9 (mQ gl) λc=>BU 14 (mQ gl) λd=>BU 19 (rG gl) λe=>ak λf e8=>aw [hq 21 [aE cZ ([c,d,e]:Bh)] [hc (rZ.al ([c,d,e]:Bh))] (FT gl e8)]<|rv K
def wz(a:EY)(b:EY):JK:=
 (pE a.commit b.commit).bind λc=>bif c then(some (-1))else((pE b.commit a.commit).bind λd=>bif d then(some 1)else(some (wI (a.n-b.n))))
def Fj(g:Aj)(a:Ab):JK:=
 bif(g.at_.get a).isSome then((aS g.nodes (FR (g.at_.get a))).bind λb=>some b.level)else(some 0)
theorem HE{g id_}:DC prog gl (Fj g id_) 211 [.ptr (Ag g) 0,.agg (aj id_)] iG:=
 cy func211 λK=>aw [hm 13 (H7 g.at_ id_)]<|aF 15 (CD 22 az.ixZ 24 (az.fdY tZ 34) λa=>rv K)<|rv K
def iX(s:OS)(n:Int):Fp:=
 (aS ([s.a0,s.a1,s.a2,s.a3]:Bq) (wI (Int.tdiv n 64))).bind λa=>(wJ (Int.tmod n 64)).bind λb=>some (decide (((bD (Jt a b) 1:Nat):Int)=((1:Nat):Int)))
def KI{α:Type}(s:List α)(f:α->Fp)(s1:Int):Option ((Int)⊕(Unit⊕Int)):=
 bif s1<ah s then((aS s s1).bind λa=>(f a).bind λb=>bif b then(some (.inr (.inr s1)))else(some (.inl (wI (s1+1)))))else(some (.inr (.inl ())))
def Wy{α:Type}(s:List α)(f:α->Fp):JK:=
 (AB (KI s f) 0).bind λa=>ma a (λb=>some (-1)) (λq=>some q)
def Acg(P:Br)(gl:Cd){α:Type}(c a:α->Bk)(F:FuncId):Prop:=∀⦃s:List α⦄ ⦃f:α->Fp⦄ ⦃fi_f:FuncId⦄ ⦃fa_f fc_f:Bk⦄,R7 P gl fi_f fa_f fc_f a (λx:Bool=>bG x) f->DC P gl (Wy s f) F [aE c s,.clo (.func fi_f) fa_f fc_f] iG
theorem pF:Acg prog gl cZ (λx=>[iG x]) 371:=λs f fi_f fa_f fc_f a=>
 cy func371 λK=>O0 1101 (λg=>sg [] []) (λs1=>sf [] [(7,iG (ah s)),(8,iG s1)]) [hc (a.im)] K (λg=>rv K) λs1 k5 h k6=>aF 9 (CD 14 rZ.ixZ 15 (rZ.p1Y tZ) λd=>ak λi e=>kV (λb=>aw [hz 16 [] (cS (a.cs (c:=0) e (aY (aG 20 (iG d) aH) (bf))) b)]<|aP c3 k6 []) λb=>aw [hz 16 [] (cS (a.cs (c:=0) e (aY (aG 20 (iG d) aH) (bf))) b)]<|cj k5 [hc (a.im)])<|aA c2 h []
def Abd{α:Type}(s:List α)(f:α->Fp):Fp:=
 (Wy s f).bind λa=>some (decide (0<=a))
def Ach(P:Br)(gl:Cd){α:Type}(c a:α->Bk)(F:FuncId):Prop:=∀⦃s:List α⦄ ⦃f:α->Fp⦄ ⦃fi_f:FuncId⦄ ⦃fa_f fc_f:Bk⦄,R7 P gl fi_f fa_f fc_f a (λx:Bool=>bG x) f->DC P gl (Abd s f) F [aE c s,.clo (.func fi_f) fa_f fc_f] bG
theorem ml:Ach prog gl cZ (λx=>[iG x]) 328:=λs f fi_f fa_f fc_f a=>
 cy func328 λK=>ak λb e2=>aw [hz 7 [] (jf (c:=0) aH (pF gl (a) e2) (aY (aG 20 (aE cZ s) aH) (aY (a.im) (bf))))]<|rv K
def cU(s:A3):Option A3:=aT 24 [] s
theorem jY{s:A3}:LC prog gl (cU s) 51 [aE aj s] 36 aj:=λr h=>by
 unfold cU at h;refine OW func51 ?_;refine pO 1100 (s0 8 gl [(0,aE aj s)] [] 0 0) [] [] ?_;refine IA 0 3 4 26 36 rfl (Fe aH) (Fe aH) λb hb=>?_;cases b
 .exact EI [eu 7 ac h] (ac.imm _)
 .obtain rfl:=ac.isNil (hb rfl);obtain rfl:=mV h;exact EI [] (ac.imm [])
def Fk(s:CY):Option CY:=aT 1 [] s
theorem tj{s:CY}:LC prog gl (Fk s) 164 [aE cY s] 5 cY:=λr h=>by
 unfold Fk at h;refine OW func164 ?_;refine pO 1100 (s0 8 gl [(0,aE cY s)] [] 0 0) [] [] ?_;refine IA 0 3 4 56 5 rfl (Fe aH) (Fe aH) λb hb=>?_;cases b
 .exact EI [eu 7 rY h] (rY.imm _)
 .obtain rfl:=rY.isNil (hb rfl);obtain rfl:=mV h;exact EI [] (rY.imm [])
def dK(s:Bq):Option Bq:=aT 8 [] s
theorem p9{s:Bq}:LC prog gl (dK s) 165 [aE cW s] 34 cW:=λr h=>by
 unfold dK at h;refine OW func165 ?_;refine pO 1100 (s0 8 gl [(0,aE cW s)] [] 0 0) [] [] ?_;refine IA 0 3 4 57 34 rfl (Fe aH) (Fe aH) λb hb=>?_;cases b
 .exact EI [eu 7 rW h] (rW.imm _)
 .obtain rfl:=rW.isNil (hb rfl);obtain rfl:=mV h;exact EI [] (rW.imm [])
def fF(s:Bh):Option Bh:=aT 8 [] s
theorem uK{s:Bh}:LC prog gl (fF s) 139 [aE cZ s] 3 cZ:=λr h=>by
 unfold fF at h;refine OW func139 ?_;refine pO 1100 (s0 8 gl [(0,aE cZ s)] [] 0 0) [] [] ?_;refine IA 0 3 4 22 3 rfl (Fe aH) (Fe aH) λb hb=>?_;cases b
 .exact EI [eu 7 rZ h] (rZ.imm _)
 .obtain rfl:=rZ.isNil (hb rfl);obtain rfl:=mV h;exact EI [] (rZ.imm [])
def dx(s:List Hf):Option (List Hf):=aT 32 [] s
theorem uM{s:List Hf}:LC prog gl (dx s) 166 [aE cz s] 220 cz:=λr h=>by
 unfold dx at h;refine OW func166 ?_;refine pO 1100 (s0 8 gl [(0,aE cz s)] [] 0 0) [] [] ?_;refine IA 0 3 4 58 220 rfl (Fe aH) (Fe aH) λb hb=>?_;cases b
 .exact EI [eu 7 EP h] (EP.imm _)
 .obtain rfl:=EP.isNil (hb rfl);obtain rfl:=mV h;exact EI [] (EP.imm [])
def gt(s:List Fs):Option (List Fs):=aT 32 [] s
theorem tk{s:List Fs}:LC prog gl (gt s) 167 [aE bY s] 122 bY:=λr h=>by
 unfold gt at h;refine OW func167 ?_;refine pO 1100 (s0 8 gl [(0,aE bY s)] [] 0 0) [] [] ?_;refine IA 0 3 4 55 122 rfl (Fe aH) (Fe aH) λb hb=>?_;cases b
 .exact EI [eu 7 bZ h] (bZ.imm _)
 .obtain rfl:=bZ.isNil (hb rfl);obtain rfl:=mV h;exact EI [] (bZ.imm [])
def fu(s:List DQ):Option (List DQ):=aT 48 [] s
theorem O9{s:List DQ}:LC prog gl (fu s) 168 [aE bp s] 211 bp:=λr h=>by
 unfold fu at h;refine OW func168 ?_;refine pO 1100 (s0 8 gl [(0,aE bp s)] [] 0 0) [] [] ?_;refine IA 0 3 4 59 211 rfl (Fe aH) (Fe aH) λb hb=>?_;cases b
 .exact EI [eu 7 bH h] (bH.imm _)
 .obtain rfl:=bH.isNil (hb rfl);obtain rfl:=mV h;exact EI [] (bH.imm [])
def jC(b:List DQ)(a:List DQ×Int):Option ((List DQ×Int)⊕(List DQ)):=
 bif a.2<ah b then((aS a.1 a.2).bind λc=>(Fk c.Body).bind λd=>(aS a.1 a.2).bind λe=>(ji a.1 a.2 ({e with Body:=d})).bind λf=>some (.inl (f,wI (a.2+1))))else(some (.inr a.1))
def jD(b:List Fs)(a:List Fs×Int):Option ((List Fs×Int)⊕(List Fs)):=
 bif a.2<ah b then((aS a.1 a.2).bind λc=>(dx c.Boxes).bind λd=>(aS a.1 a.2).bind λe=>(ji a.1 a.2 ({e with Boxes:=d})).bind λf=>some (.inl (f,wI (a.2+1))))else(some (.inr a.1))
def pG(o:Bj):Option Bj:=
 (cU o.Past).bind λe=>(Fk o.Body).bind λf=>(dK o.Refs).bind λg=>(fF o.Guards).bind λh=>(dx o.Boxes).bind λi=>(gt o.Path).bind λa=>(fu o.Hist).bind λb=>(AB (jD a) (a,0)).bind λc=>(AB (jC b) (b,0)).bind λd=>some ({o with Past:=e,Path:=c,Body:=f,Refs:=g,Guards:=h,Boxes:=i,Hist:=d})
theorem Ds{o}:DC prog gl (pG o) 78 [.agg (aJ o)] (λr=> .agg (aJ r)):=
 cy func78 λK=>JL 7 ac (jY gl) λl=>JL 10 rY (tj gl) λm=>JL 13 rW (p9 gl) λn=>JL 16 rZ (uK gl) λp=>JL 19 EP (uM gl) λq=>ak λe s=>ak λa t=>aw [hz 27 [] (U2 (c:=2) aH (tk gl s) (eB aH) (bZ.imm e)),hz 30 [] (U2 (c:=3) aH (O9 gl t) (eB aH) (bH.imm a))]<|Ja 111101 (λf=>sp [] [(1,.ref 0 0),(2,.ref 2 0)] [ob 0 63 [iG o.By,iG o.Seq,iG o.Kind,iG o.At,aE aj l,iG o.Device,iG o.Old,iG o.Member,iG o.Role,aE bY f,iG o.Epoch.By,iG o.Epoch.Seq,uG o.Epoch.Sum,iG o.N,aE cY m,aE cW n,iG o.Of.By,iG o.Of.Seq,uG o.Of.Sum,aE cZ p,iG o.Need,iG o.Wait,aE cz q,uG o.Pub,.rsl 1 0 a.length,uG o.Sig.R,uG o.Sig.S],ob 1 211 (a.flatMap bp),ob 2 63 (bF [4,9,14,15,19,22,24] (aJ ip))] 3) (λb=>sp [] [(1,.ref 0 0),(2,.ref 3 0),(35,iG (ah e)),(36,iG b.2)] [ob 0 63 [iG o.By,iG o.Seq,iG o.Kind,iG o.At,aE aj l,iG o.Device,iG o.Old,iG o.Member,iG o.Role,.rsl 1 0 b.1.length,iG o.Epoch.By,iG o.Epoch.Seq,uG o.Epoch.Sum,iG o.N,aE cY m,aE cW n,iG o.Of.By,iG o.Of.Seq,uG o.Of.Sum,aE cZ p,iG o.Need,iG o.Wait,aE cz q,uG o.Pub,.rsl 2 0 a.length,uG o.Sig.R,uG o.Sig.S],ob 1 122 (b.1.flatMap bY),ob 2 211 (a.flatMap bp),ob 3 63 (bF [4,9,14,15,19,22,24] (aJ ip))] 4) [hc (el e),hc (el a),hc (bZ.imm e),hc (bH.imm a)] (λf=>Ja 1111101 (λi=>sx [] [(2,.ref 1 0)] [ob 0 63 (aJ ({o with Past:=l,Path:=f,Body:=m,Refs:=n,Guards:=p,Boxes:=q,Hist:=i})),ob 1 63 (bF [4,9,14,15,19,22,24] (aJ ip))] 2) (λd=>so [] [(54,iG (ah a)),(55,iG d.2)] [ob 0 63 [iG o.By,iG o.Seq,iG o.Kind,iG o.At,aE aj l,iG o.Device,iG o.Old,iG o.Member,iG o.Role,aE bY f,iG o.Epoch.By,iG o.Epoch.Seq,uG o.Epoch.Sum,iG o.N,aE cY m,aE cW n,iG o.Of.By,iG o.Of.Seq,uG o.Of.Sum,aE cZ p,iG o.Need,iG o.Wait,aE cz q,uG o.Pub,.rsl 1 0 d.1.length,uG o.Sig.R,uG o.Sig.S],ob 1 211 (d.1.flatMap bp)] 3) (DF bH a) (λi=>rv K) λd u v=>aF 56 (CD 64 (bH.ixrZ 1) 66 (bH.fd0Y tLY 3) λC=>JL 67 rY (tj gl) λw=>ak λD x=>ak λj g=>aw [hw 69 (j.flatMap bp) (bH.putF g x 3 1 (gs:=[aE cY w]) rfl B5 rfl),Az 68 (bH.ixsZ 1 g)]<|cj u [hc (hZ g),hc (bH.imm j)])<|aA c1 v [hc (bH.al d.1)]) λb y z=>aF 37 (CD 45 (bZ.ixrZ 1) 47 (bZ.fd0Y E3 1) λE=>JL 48 EP (uM gl) λA=>ak λF B=>ak λk h=>aw [hw 50 (k.flatMap bY) (bZ.putF h B 1 1 (gs:=[aE cz A]) rfl B5 rfl),Az 49 (bZ.ixsZ 1 h)]<|cj y [hc (hZ h),hc (el a),hc (bZ.imm k),hc (bH.imm a)])<|aA c1 z [hc (bZ.al b.1),hc (el a),hc (bH.imm a)]
def Fl(s:Mw):Option Mw:=aT 40 [] s
theorem tn{s:Mw}:LC prog gl (Fl s) 97 [aE bv s] 127 bv:=λr h=>by
 unfold Fl at h;refine OW func97 ?_;refine pO 1100 (s0 8 gl [(0,aE bv s)] [] 0 0) [] [] ?_;refine IA 0 3 4 24 127 rfl (Fe aH) (Fe aH) λb hb=>?_;cases b
 .exact EI [eu 7 bT h] (bT.imm _)
 .obtain rfl:=bT.isNil (hb rfl);obtain rfl:=mV h;exact EI [] (bT.imm [])
def K4(f:Abb)(a:Ab)(b:Ab):JK:=
 (pE a b).bind λg=>(bif g then(some (-1))else((pE b a).bind λc=>(bif c then(some 1)else(some 0)).bind λd=>some d)).bind λh=>(Fj f.Graph a).bind λi=>(Fj f.Graph b).bind λj=>(f8 i j).bind λk=>(iy ([k,h]:Bh)).bind λe=>some e
theorem Sd{r_ a b}:DC prog gl (K4 r_ a b) 129 [.agg (Nr r_),.agg (aj a),.agg (aj b)] iG:=
 cy func129 λK=>BU 11 (Ns gl) λj=>cN 111021 (sp [] [(3,.ref 0 0),(4,.ref 1 0),(5,.ref 2 0),(7,iG 0),(8,bG j)] [ob 0 178 (Nr r_),ob 1 36 (aj a),ob 2 36 (aj b)] 3) []<|cC 111021 (λe=>sf [8] [(7,iG e)]) (λe=>BU 19 (HE gl) λm=>BU 23 (HE gl) λn=>BU 24 (mQ gl) λi=>ak λk h=>aw [hq 27 [aE cZ ([i,e]:Bh)] [hc (rZ.al ([i,e]:Bh))] (FT gl h)]<|rv K) λe k13=>eH [8] (rx k13)<|ak λl f=>cC 11102141 (λc=>sf [8] [(7,iG c)]) (λc=>rx k13) λc g=>kV (λd=>aw [hf 15 (cF (Ns gl f) d)]<|rx g) λd=>aw [hf 15 (cF (Ns gl f) d)]<|rx g
def Uz(a:Bf)(b:Bf):JK:=
 (f8 a.Device b.Device).bind λc=>some c
theorem Wz{a b}:DC prog gl (Uz a b) 214 [.agg (Bu a),.agg (Bu b)] iG:=
 cy func214 λK=>BU 9 (mQ gl) λc=>rv K
end
section
set_option maxHeartbeats 2000000
attribute [local irreducible] Tr dz Gp
theorem gS:Acg prog gl aj (λx=>[.agg (aj x)]) 112:=λs f fi_f fa_f fc_f a=>
 cy func112 λK=>O0 1101 (λg=>sg [] []) (λs1=>sf [] [(7,iG (ah s)),(8,iG s1)]) [hc (a.im)] K (λg=>rv K) λs1 k5 h k6=>aF 9 (CD 14 ac.ixZ 15 (ac.ptZ aW) λd=>ak λi e=>kV (λb=>aw [hz 16 [] (cS (a.cs (c:=0) e (aY (aG 20 (.agg (aj d)) aH) (bf))) b)]<|aP c3 k6 []) λb=>aw [hz 16 [] (cS (a.cs (c:=0) e (aY (aG 20 (.agg (aj d)) aH) (bf))) b)]<|cj k5 [hc (a.im)])<|aA c2 h []
def UA(a:Ad)(device:Int):JK:=
 some ((DS (a.cards.get device)).Member)
theorem PA{r_ device}:DC prog gl (UA r_ device) 135 [.ptr (CB r_) 0,iG device] iG:=
 cy func135 λK=>aw [hm 10 (Abc r_.cards device)]<|rv K
def UB(b:Int)(y:Int):Fp:=
 ((FI b).bind λc=>bif c then((FI y).bind λa=>bif(!a)then(some true)else(some (decide (b<y))))else(some (decide (b<y)))).bind λd=>some d
theorem WA{x_ y}:DC prog gl (UB x_ y) 299 [iG x_,iG y] bG:=
 cy func299 λK=>cN [1,0] (sf [] []) []<|cC [1,0] (λa=>sg [] [(4,bG a)]) (λa=>rv K) λa k5=>ak λd e8=>kV (λb=>BU 9 (dw gl) λc=>aw [hf 6 (cF (dw gl e8) b)]<|aF 11 (rx k5)<|rx k5) λb=>aw [hf 6 (cF (dw gl e8) b)]<|rx k5
def PB(a:Ad)(device:Int):Fp:=
 ((UA a device).bind λb=>bif 0<b then(some (!(Hj (a.was.get device))))else(some false)).bind λc=>some c
theorem SE{r_ device}:DC prog gl (PB r_ device) 136 [.ptr (CB r_) 0,iG device] bG:=
 cy func136 λK=>cN [1,0] (sf [] []) []<|cC [1,0] (λa=>sg [] [(4,bG a)]) (λa=>rv K) λa k5=>BU 7 (PA gl) λb=>aF 8 (aw [hm 15 (SC r_.was device)]<|rx k5)<|rx k5
def aaj{α:Type}[DecidableEq α](s:List α)(v:α)(s1:Int):Option ((Int)⊕(Unit⊕Int)):=
 bif s1<ah s then((aS s s1).bind λa=>bif v=a then(some (.inr (.inr s1)))else(some (.inl (wI (s1+1)))))else(some (.inr (.inl ())))
def ixT{α:Type}[DecidableEq α](s:List α)(v:α):JK:=
 (AB (aaj s v) 0).bind λa=>ma a (λb=>some (-1)) (λq=>some q)
theorem Se{s v}:DC prog gl (ixT s v) 217 [aE cZ s,iG v] iG:=
 cy func217 λK=>O0 1101 (λa=>sg [] []) (λs1=>sf [] [(7,iG (ah s)),(8,iG s1)]) [] K (λa=>rv K) λs1 k5 b k6=>aF 9 (CD 14 rZ.ixZ 15 (rZ.p1Y tZ) λc=>aF 16 (aP c3 k6 [])<|rb k5)<|aA c2 b []
def Aci{α:Type}[DecidableEq α](s:List α)(v:α):Fp:=
 (ixT s v).bind λa=>some (decide (0<=a))
theorem DL{s v}:DC prog gl (Aci s v) 123 [aE cZ s,iG v] bG:=
 cy func123 λK=>BU 7 (Se gl) λa=>rv K
def WE(kind:Int):Fp:=
 (bif kind=3 then(some true)else(bif kind=13 then(some true)else(some (decide (kind=12))))).bind λa=>some a
theorem Yc{kind}:DC prog gl (WE kind) 229 [iG kind] bG:=
 cy func229 λK=>cN [1,0] (sf [] []) []<|cC [1,0] (λa=>sg [] [(2,bG a)]) (λa=>rv K) λa k3=>aF 4 (rx k3)<|aF 8 (rx k3)<|rx k3
def SF(a:Ab)(a1:Bb):Fp:=
 some (AH (a1.void.get a))
theorem PC{id_ a1}:DC prog gl (SF id_ a1) 230 [.agg (aj id_),.ptr [.ptr (BB a1) 0] 0] bG:=
 cy func230 λK=>aw [hm 9 (Om a1.void id_)]<|rv K
theorem PD{s v}:DC prog gl (ixT s v) 276 [aE aj s,.agg (aj v)] iG:=
 cy func276 λK=>O0 1101 (λc=>sg [] []) (λs1=>so [1] [(3,.ref 0 0),(7,iG (ah s)),(8,iG s1)] [ob 0 36 (aj v)] 1) [] K (λc=>rv K) λs1 k5 d k6=>aF 9 (CD 14 ac.ixZ 15 (ac.ptZ aW) λb=>kV (λa=>aw [hV 16 (cV (dU v b rfl) a)]<|aP c3 k6 []) λa=>aw [hV 16 (cV (dU v b rfl) a)]<|rb k5)<|aA c2 d []
theorem Jm{s v}:DC prog gl (Aci s v) 180 [aE aj s,.agg (aj v)] bG:=
 cy func180 λK=>BU 7 (PD gl) λa=>rv K
def ij(g:Aj)(device:Int)(s1:DP×Int):Option ((DP×Int)⊕(DP⊕(DP×Bool))):=
 bif s1.2<ah g.cards then((aS g.cards s1.2).bind λa=>bif a.Device=device then(some (.inr (.inr (a,true))))else(some (.inl (s1.1,wI (s1.2+1)))))else(some (.inr (.inl s1.1)))
def hY(g:Aj)(device:Int):Option (DP×Bool):=
 (AB (ij g device) (⟨0,0,0,0,0⟩,0)).bind λa=>ma a (λb=>some (⟨0,0,0,0,0⟩,false)) (λq=>some q)
theorem uN{g device}:DC prog gl (hY g device) 80 [.ptr (Ag g) 0,iG device] (λr=> .tup [.agg (bv r.1),bG r.2]):=
 cy func80 λK=>O0 1101 (λa=>sp [] [(4,.ref 0 0)] [ob 0 127 (bv a)] 1) (λs1=>so [0] [(4,.ref 0 0),(11,aE bv g.cards),(12,iG (ah g.cards)),(13,iG s1.2)] [ob 0 127 (bv s1.1)] 1) [] K (λa=>rv K) λs1 k5 b k6=>aF 14 (CD 15 bT.ixZ 16 (bT.ptZ E2) λc=>aF 20 (aP c3 k6 [])<|rb k5)<|aA c2 b []
theorem kP:Ach prog gl aj (λx=>[.agg (aj x)]) 53:=λs f fi_f fa_f fc_f a=>
 cy func53 λK=>ak λb e2=>aw [hz 7 [] (jf (c:=0) aH (gS gl (a) e2) (aY (aG 20 (aE aj s) aH) (aY (a.im) (bf))))]<|rv K
def Kp(a:DP)(b:DP):JK:=
 some (wI (a.Device-b.Device))
theorem Dt{a b}:DC prog gl (Kp a b) 99 [.agg (bv a),.agg (bv b)] iG:=
 cy func99 λK=>rv K
def FV(n:Int)(low:Int)(a:Int):Fp:=
 (bif low<=n then(some (decide (n<=a)))else(some false)).bind λb=>some b
theorem eE{n low a}:DC prog gl (FV n low a) 237 [iG n,iG low,iG a] bG:=
 cy func237 λK=>cN [1,0] (sf [] []) []<|cC [1,0] (λb=>sg [] [(6,bG b)]) (λb=>rv K) λb k3=>aF 9 (rx k3)<|rx k3
def Kq(n:Nat):Fp:=
 some (decide ((n:Int)<((2305843009213693951:Nat):Int)))
theorem Ak{n}:DC prog gl (Kq n) 247 [uG n] bG:=
 cy func247 λK=>rv K
def Al(a:Ab):Fp:=
 ((FV a.By 1 12).bind λd=>bif d then((FV a.Seq 1 2147483647).bind λb=>bif b then((Kq a.Sum).bind λc=>some c)else(some false))else(some false)).bind λe=>some e
theorem pH{id_}:DC prog gl (Al id_) 238 [.agg (aj id_)] bG:=
 cy func238 λK=>cN [1,0] (sp [] [(1,.ref 0 0)] [ob 0 36 (aj id_)] 1) []<|cC [1,0] (λa=>sk [] [(2,bG a)] [] 0) (λa=>rv K) λa k5=>ak λe e8=>kV (λb=>BU 9 (eE gl) λc=>aw [hf 5 (cF (eE gl e8) b)]<|aF 10 (BU 14 (Ak gl) λd=>rx k5)<|rx k5) λb=>aw [hf 5 (cF (eE gl e8) b)]<|rx k5
def rJ(n:Nat):Fp:=
 (bif ((1:Nat):Int)<=(n:Int)then(some (decide ((n:Int)<((2305843009213693951:Nat):Int))))else(some false)).bind λa=>some a
theorem iz{n}:DC prog gl (rJ n) 239 [uG n] bG:=
 cy func239 λK=>cN [1,0] (sf [] []) []<|cC [1,0] (λa=>sg [] [(2,bG a)]) (λa=>rv K) λa k3=>aF 4 (rx k3)<|rx k3
theorem pI:Acg prog gl cz (λx=>[.agg (cz x)]) 370:=λs f fi_f fa_f fc_f a=>
 cy func370 λK=>O0 1101 (λg=>sg [] []) (λs1=>sf [] [(7,iG (ah s)),(8,iG s1)]) [hc (a.im)] K (λg=>rv K) λs1 k5 h k6=>aF 9 (CD 14 EP.ixZ 15 (EP.ptZ UL) λd=>ak λi e=>kV (λb=>aw [hz 16 [] (cS (a.cs (c:=0) e (aY (aG 20 (.agg (cz d)) aH) (bf))) b)]<|aP c3 k6 []) λb=>aw [hz 16 [] (cS (a.cs (c:=0) e (aY (aG 20 (.agg (cz d)) aH) (bf))) b)]<|cj k5 [hc (a.im)])<|aA c2 h []
theorem Mj:Ach prog gl cz (λx=>[.agg (cz x)]) 326:=λs f fi_f fa_f fc_f a=>
 cy func326 λK=>ak λb e2=>aw [hz 7 [] (jf (c:=0) aH (pI gl (a) e2) (aY (aG 20 (aE cz s) aH) (aY (a.im) (bf))))]<|rv K
end
section
attribute [local irreducible] Tr dz Gp
section
variable {P:Br} {α σ X V:Type} {A:List HP} {r:α} [M:Mix P] {fn:Func} {Q:Exit->St->Prop} {Bs:List (St->Prop)} {m:Bool} {p:Bq} {st:St}
theorem rdN{step:σ->Option (σ⊕(X⊕V))}{s0:σ}{F:X->Option α}{rs:V->α}{Z:V->Prop}(b:Bq)(S:σ->St->St)(O:List HP)(K:∀q,r=rs q->Z q)(h:∀{B:St->Prop} {v:σ⊕(X⊕V)} (s:σ),(∀s',v= .inl s'->B (S s' st))->(∀q,v= .inr (.inr q)->Z q)->RD [] (step s) v (Gp P fn Q (Bs++[B]) false b (S s st)))(hF:∀x,F x=none)(vs:List Bn:=[])(ρ:DE:=[])(kd:List (Nat×Rk):=[])(k:Yy P fn Bs m p b A O vs ρ kd (S s0 st) st:=by exact⟨⟨aH,aH⟩,λ_=>aH⟩):RD A ((AB step s0).bind λx=>ma x F λq=>some (rs q)) r (Gp P fn Q Bs m p st):=λh0=>by obtain⟨x,e1,h1⟩:=bS h0;refine pN (λs=>S s st) b e1 A O (λB s v hv h5 h4=>h s h5 (λz hz=>?_) hv) vs ρ kd k.1 k.2;have:=h4 _ hz;subst this;exact K z (Bo h1).symm
end
def PG(n:Int)(s1:Int):Option ((Int)⊕(Int)):=
 bif wI (2*s1)<n then(some (.inl (wI (s1*2))))else(some (.inr s1))
def SI(n:Int):JK:=
 (AB (PG n) 1).bind λa=>some a
theorem Abh{n}:DC prog gl (SI n) 368 [iG n] iG:=
 cy func368 λK=>Ja 1110 (λa=>sg [] [(3,iG a)]) (λs1=>sf [] [(3,iG s1)]) [] (λa=>rv K) λs1 k5 b=>aF 7 (rb k5)<|aA c1 b []
def Nt(a:Bh):Option (Bh×Bh):=
 bif ah a<2 then(some ([],[]))else((SI (ah a)).bind λc=>(tq a c).bind λd=>(fF d).bind λe=>(mc a c).bind λf=>(fF f).bind λb=>some (e,b))
theorem Abi{leaves}:DC prog gl (Nt leaves) 318 [aE cZ leaves] (λr=> .tup [aE cZ r.1,aE cZ r.2]):=
 cy func318 λK=>aF 7 (rv K)<|BU 10 (Abh gl) λb=>rdv 13 rZ.preZI λc=>JL 14 rZ (uK gl) λd=>rdv 17 rZ.sufZI λe=>JL 18 rZ (uK gl) λa=>rv K
def PH(device:Int)(c:Bh×M0×M0):Option ((Bh×M0×M0)⊕(Unit⊕(M0×M0))):=
 (fF c.1).bind λd=>(aT 24 c.2.1 [d]).bind λb=>(Nt c.1).bind λa=>bif ah a.2=0 then(some (.inr (.inr (b,c.2.2))))else((Aci a.1 device).bind λe=>bif e then((aT 24 c.2.2 [a.2]).bind λf=>some (.inl (a.1,b,f)))else((aT 24 c.2.2 [a.1]).bind λg=>some (.inl (a.2,b,g))))
def PJ(a:Bh)(device:Int):Option (M0×M0):=
 (Aci a device).bind λb=>bif(!b)then(some ([],[]))else((AB (PH device) (a,[],[])).bind λc=>ma c (λd=>none) (λq=>some q))
theorem Abj{leaves device}:DC prog gl (PJ leaves device) 225 [aE cZ leaves,iG device] (λr=> .tup [aE Jc r.1,aE Jc r.2]):=
 cy func225 λK=>BU 10 (DL gl) λj=>aF 11 (rv K)<|rdN 11122 (λb=>so [] [(0,aE cZ b.1),(4,.rsl 0 0 b.2.1.length),(5,.rsl 1 0 b.2.2.length)] [ob 0 22 (b.2.1.flatMap Jc),ob 1 22 (b.2.2.flatMap Jc)] 2) [hc (nH.imm []),hc (nH.imm [])] K (λb k8 k9=>JL 14 rZ (uK gl) λg=>Gq (dg 16 nH) λa=>BU 19 (Abi gl) λh=>aF 30 (aP c3 k9 [hc (nH.al a),hc (nH.al b.2.2)])<|ak λi d=>kV (λc=>Gq (dg 41 nH) λe=>aw [hf 36 (cF (DL gl d) c)]<|cj k8 [hc (el a),hc (el e),hc (nH.imm a),hc (nH.imm e)]) λc=>Gq (dg 26 nH) λf=>aw [hf 36 (cF (DL gl d) c)]<|cj k8 [hc (el a),hc (el f),hc (nH.imm a),hc (nH.imm f)]) (λ_=>rfl) [22,22] [(0,0),(1,1)] [(0,.row),(1,.row)]
end
abbrev X3{K V:Type}(kv:K->Value)(vg:V->G)(m:FM K V):List (Value×G×Nat):=m.es.map λe=>(kv e.1,vg e.2.1,e.2.2)
abbrev Ng{K V:Type}(t:Bn)(kv:K->Value)(vg:V->G)(m:FM K V):Ob:=⟨t,[],some (.map (X3 kv vg m) m.clk)⟩
def C6{K V:Type}[DecidableEq K](m:FM K V)(k:K)(p:V):FM K V:=match bu k (m.es.map (·.1)) with
 |none=>⟨m.es++[(k,p,m.clk)],m.clk+1⟩
 |some j=>⟨m.es.set j (k,p,(m.es[j]?.map (·.2.2)).getD 0),m.clk⟩
def Sq{K V:Type}[DecidableEq K](m:FM K V)(k:K):FM K V:=match bu k (m.es.map (·.1)) with
 |none=>m
 |some j=>⟨m.es.eraseIdx j,m.clk⟩
structure FxOk {K V:Type} (m:FM K V):Prop where
 nd:(m.es.map (·.2.2)).Nodup
 lt:∀e∈m.es,e.2.2<m.clk
structure RY {K V:Type} (m:FM K V):Prop extends FxOk m where
 kd:(m.es.map (·.1)).Nodup
theorem AcD{K:Type}[DecidableEq K]{k:K}:∀{l:List K} {j:Nat},bu k l=some j->l[j]?=some k
 |[],j,h=>by cases h
 |x::r,j,h=>by
  unfold bu at h;split at h
  .grind
  .rw[DG] at h;obtain⟨n,h,rfl⟩:=h;simpa using AcD h
theorem Td{K:Type}[DecidableEq K]{k:K}:∀{l:List K},bu k l=none->k∉l
 |[],h=>aC
 |x::r,h=>by
  unfold bu at h;split at h
  .cases h
  .rename_i hne;rw[Option.map_eq_none_iff] at h;simp[hne,Td h]
section
variable {P:Br} {K V:Type} [DecidableEq K] {kt et t t':Bn} {kv:K->Value} {vg:V->G} {m:FM K V} {σ:aQ} {i:Nat} {k:K} {gk:G}
theorem P2:(X3 kv vg m).map (·.1)=(m.es.map (·.1)).map kv:=by rw[Iu,Iu];rfl
theorem Q4(h:ag σ i=some (Ng t' kv vg m)):Lv σ (.mref i)=some (i,t',X3 kv vg m,m.clk):=by unfold Lv;simp only[h]
theorem Te(KT:MG P kt kv){ok:Bool}(ht:pB P t=some (kt,et))(hk:cD gk=some (kv k))(h:ag σ i=some (Ng t' kv vg m)):bL P σ t ok (.mref i) gk=bL P σ t ok (m.g kv vg) gk:=by unfold bL FM.g;rw[ht,hk];dsimp only;rw[Q4 h];dsimp only;rw[show(m.es.map λe=>kv e.1)=(m.es.map (·.1)).map kv by rw[Iu];rfl,KT.chk,KT.chk,P2,KT.key];grind
theorem Af6(KT:MG P kt kv)(hs:∀k,Instr.sameBits 10000 (kv k) (kv k)=true)(ht:pB P t=some (kt,et))(hk:cD gk=some (kv k))(h:ag σ i=some (Ng t' kv vg m))(p:V):dZ P σ t (.mref i) gk (vg p)=some (i,Ng t' kv vg (C6 m k p)):=by
 unfold dZ;rw[ht,hk,Q4 h];dsimp only;rw[KT.chk,ax,P2,KT.key];unfold C6;cases hk:bu k (m.es.map (·.1)) with
 |none=>grind
 |some j=>have hj:=AcD hk;grind [List.map_set]
theorem Aaq{α β:Type}(f:α->β):∀(l:List α) (j:Nat),(l.eraseIdx j).map f=(l.map f).eraseIdx j
 |[],_=>rfl
 |x::r,0=>rfl
 |x::r,j+1=>by rw[List.eraseIdx_cons_succ,Fi,Fi,List.eraseIdx_cons_succ,Aaq f r j]
theorem AlS(KT:MG P kt kv)(ht:pB P t=some (kt,et))(hk:cD gk=some (kv k))(h:ag σ i=some (Ng t' kv vg m)):FN P σ t (.mref i) gk=some (i,Ng t' kv vg (Sq m k)):=by unfold FN;rw[ht,hk,Q4 h];dsimp only;rw[KT.chk,ax,P2,KT.key];grind [Sq,Aaq]
def AhP(m:FM K V)(k:K):Nat:=match bu k (m.es.map (·.1)) with
 |none=>m.clk
 |some j=>(m.es[j]?.map (·.2.2)).getD 0
theorem MJ{j:Nat}(h:bu k (m.es.map (·.1))=some j):∃e,m.es[j]?=some e/\e.1=k/\m.get k=some e.2.1:=by grind [FM.get,fz]
theorem Tk(h:bu k (m.es.map (·.1))=none):m.get k=none:=by grind [FM.get,fz]
theorem AjV(KT:MG P kt kv)(hs:∀k,Instr.sameBits 10000 (kv k) (kv k)=true)(ht:pB P t=some (kt,et)){v0:V}(hz:((P.info? et).bind (·.zero)).map db=some (vg v0))(hk:cD gk=some (kv k))(h:ag σ i=some (Ng t' kv vg m)):
  ov P σ t (.mref i) gk=some (i,Ng t' kv vg (C6 m k ((m.get k).getD v0)),.tup [vg ((m.get k).getD v0),iG (AhP m k:Nat)]):=by
 unfold ov
 rw[ht,hk,Q4 h]
 dsimp only
 rw[KT.chk,ax,P2,KT.key]
 unfold C6 AhP
 cases hk:bu k (m.es.map (·.1)) with
 |none=>
  grind [DG,Tk]
 |some j=>
  obtain⟨e,he,rfl,hg⟩:=MJ hk
  grind [List.map_set]
theorem XI:∀{es:List (K×V×Nat)} {j:Nat} {e:K×V×Nat},(es.map (·.2.2)).Nodup->es[j]?=some e->(es.map λe=>(kv e.1,vg e.2.1,e.2.2)).findIdx? (λx=>(x.2.2:Int)==(e.2.2:Int))=some j
 |[],j,e,_,h=>by simp at h
 |x::r,0,e,_,h=>by grind
 |x::r,j+1,e,hd,h=>by
  rw[Fi,Mi] at hd;rw[List.getElem?_cons_succ] at h;have hne:x.2.2≠e.2.2:=by grind
  rw[Fi,List.findIdx?_cons,BW cq,XI hd.2 h];rfl
theorem AjW(hm:FxOk m){v0:V}(h:ag σ i=some (Ng t' kv vg (C6 m k v0)))(v:V):jX σ (.mref i) (iG (AhP m k:Nat)) (vg v)=some (i,Ng t' kv vg (C6 m k v)):=by
 unfold jX;rw[Q4 h];dsimp only;unfold C6 AhP at*;cases hk:bu k (m.es.map (·.1)) with
 |none=>
  dsimp only;have hx:(m.es++[(k,v0,m.clk)])[m.es.length]?=some (k,v0,m.clk):=aC;have:=XI (kv:=kv) (vg:=vg) (es:=m.es++[(k,v0,m.clk)]) (by rw[List.map_append,List.nodup_append];grind [FxOk]) hx
  rw[this];dsimp only;rw[LO,hx,Option.map_some];dsimp only;rw[<-List.map_set (f:=λe:K×V×Nat=>(kv e.1,vg e.2.1,e.2.2)) (a:=(k,v,m.clk))];grind
 |some j=>
  obtain⟨e,he,rfl,hg⟩:=MJ hk;have hlt:=(cr he).1;dsimp only;rw[he];simp only[Option.map_some,MZ];have hx:(m.es.set j (e.1,v0,e.2.2))[j]?=some (e.1,v0,e.2.2):=by simp[hlt]
  have hd:((m.es.set j (e.1,v0,e.2.2)).map (·.2.2)).Nodup:=by grind [List.map_set,FxOk.nd]
  rw[XI hd hx];grind [List.map_set,List.set_set]
theorem Q5(hi:∀v,bB (vg v)):∀e∈X3 kv vg m,bB e.2.1:=by grind
end
section
variable {K V:Type} [DecidableEq K] {m:FM K V} {k:K}
theorem Aei:∀{es:List (K×V×Nat)} {k:K},k∉es.map (·.1)->es.find? (λe=>decide (e.1=k))=none
 |[],k,_=>rfl
 |x::r,k,h=>by grind
theorem BA(p:V)(x:K):(C6 m k p).get x=if x=k then some p else m.get x:=by
 unfold C6;cases hk:bu k (m.es.map (·.1)) with
 |none=>
  unfold FM.get;dsimp only;rw[List.find?_append];split
  .rename_i e;subst e;rw[Aei (Td hk)];simp
  grind
 |some j=>
  obtain⟨e,he,rfl,hg⟩:=MJ hk;have key:∀{es:List (K×V×Nat)} {j:Nat} (n:Nat),bu e.1 (es.map (·.1))=some j->((es.set j (e.1,p,n)).find? (λq=>decide (q.1=x))).map (·.2.1)=if x=e.1 then some p else(es.find? λq=>decide (q.1=x)).map (·.2.1):=by
   intro es;induction es with
   |nil=>intro j n h;cases h
   |cons y r ih=>intro j n h;rw[Fi,bu] at h;grind [DG]
  exact key _ hk
theorem Q6(p:V):(C6 m k p).es.map (·.1)=if k∈m.es.map (·.1)then m.es.map (·.1)else m.es.map (·.1)++[k]:=by
 unfold C6;cases hk:bu k (m.es.map (·.1)) with
 |none=>rw[BW (Td hk)];simp
 |some j=>have hj:=AcD hk;rw[Bz (bO hj)];dsimp only;rw[List.map_set];apply List.ext_getElem?;grind
theorem OO(h:RY m)(p:V):RY (C6 m k p):=by
 refine⟨⟨?_,?_⟩,?_⟩
 .unfold C6;cases hk:bu k (m.es.map (·.1)) with
  |none=>dsimp only;rw[List.map_append,List.nodup_append];refine⟨h.nd,aC,λa ha b hb=>?_⟩;obtain⟨e,he,rfl⟩:=Fo.1 ha;simp at hb;subst hb;have:=h.lt e he;omega
  |some j=>grind [RY,MJ,List.map_set,FxOk.nd]
 .unfold C6;cases hk:bu k (m.es.map (·.1)) with
  |none=>
   intro e he;dsimp only at he⊢;rcases I6.1 he with he|he
   .have:=h.lt e he;omega
   grind
  |some j=>
   obtain⟨e,he,rfl,_⟩:=MJ hk;intro x hx;dsimp only at hx⊢;rcases List.mem_or_eq_of_mem_set hx with hx|rfl
   .exact h.lt x hx
   .rw[he];exact h.lt e (bO he)
 grind [Q6,RY.kd]
theorem NP(h:RY m)(x:K):(Sq m k).get x=if x=k then none else m.get x:=by
 unfold Sq;cases hk:bu k (m.es.map (·.1)) with
 |none=>grind [Tk]
 |some j=>
  have key:∀{es:List (K×V×Nat)} {j:Nat},(es.map (·.1)).Nodup->bu k (es.map (·.1))=some j->((es.eraseIdx j).find? (λq=>decide (q.1=x))).map (·.2.1)=if x=k then none else(es.find? λq=>decide (q.1=x)).map (·.2.1):=by
   intro es;induction es with
   |nil=>intro j _ h;cases h
   |cons y r ih=>intro j hd h;rw[Fi,Mi] at hd;grind [bu,DG]
  exact key h.kd hk
theorem AbB{e:K×V×Nat}(h:e∈(Sq m k).es):e∈m.es:=by grind [Sq,List.mem_of_mem_eraseIdx]
theorem Vo(h:RY m):RY (Sq m k):=by grind [RY,FxOk,Sq,List.eraseIdx_sublist]
theorem Hd{v:V}(h:m.get k=some v):∃n,(k,v,n)∈m.es:=by grind [FM.get,DG]
theorem JI(h:RY m){v:V}{n:Nat}(he:(k,v,n)∈m.es):m.get k=some v:=by
 unfold FM.get;have key:∀{es:List (K×V×Nat)},(es.map (·.1)).Nodup->(k,v,n)∈es->es.find? (λe=>decide (e.1=k))=some (k,v,n):=by intro es;induction es<;>grind
 rw[key h.kd he];rfl
end
inductive Ab6 (P:Br) (c:Code) (e:Exit) (s:St):Nat->St->Prop
 |last {st:St} (he:e≠ .normal) (h:Tr P c st (λe' s'=>e'=e/\s'=s)):Ab6 P c e s 0 st
 |more {k:Nat} {st s1 s2:St} (h:Tr P c st (λe' s'=>e'= .normal/\s'=s1)) (hl:Le P s1 s2) (hr:Ab6 P c e s k s2):Ab6 P c e s (k+1) st
def jg(P:Br)(gl:Cd)(f:FuncId)(gs:Bk)(σ:aQ)(c:Nat)(r:G)(σ':aQ)(c':Nat):Prop:=
 aK P f=true/\∃fn body,P.funcs[f]?=some fn/\fn.body=some body/\gs.length<=fn.ntmps/\
  Tr P body ⟨fn.ntmps,gl,bQ 0 gs,σ,c,c,false⟩ (λe s=>(e= .normal\/e= .ret)/\s.gl=gl/\(∀k o,ag σ' k=some o->ag s.σ k=some o)/\s.c=c'/\∃a,fn.results.toList.mapM (jV P s)=some a/\r=iU a)
section
variable {ops:Array Oper} {K:St->Prop} {ty:Bn} {pos:String} {af:Array Edge} {rest:IH} {n:Nat} {gl:Cd} {fr:Fr} {σ:aQ} {c p d j:Nat} {bars:Bq} {rr:Bool}
end
section
variable {P:Br} {ops:Array Oper} {K:St->Prop} {op:Op} {ty:Bn} {pos:String} {af:Array Edge} {rest:IH} {n:Nat} {gl:Cd} {fr:Fr} {σ:aQ} {c p d j:Nat} {bars:Bq} {rr:Bool} {gq:Option (Nat×Bool)}
end
def vi(L:Bq)(i:Nat):Fu:=L.findIdx? (Nat.beq · i)
def GR(L:Bq)(c:Nat)(k:Nat):Fu:=match L[k]? with
 |some i=>some i
 |none=>some (c+(k-L.length))
theorem QX(h:vi L i=some k):L[k]?=some i:=by grind [vi,List.findIdx?_eq_some_iff_getElem,bc]
def Xx(P:Br)(gl:Cd)(f:FuncId)(gs:Bk)(σ:aQ)(c:Nat){ι:Type}(r:ι->G)(σ':ι->aQ)(c':ι->Nat):Prop:=
 aK P f=true/\∃fn body,P.funcs[f]?=some fn/\fn.body=some body/\gs.length<=fn.ntmps/\
  Tr P body ⟨fn.ntmps,gl,bQ 0 gs,σ,c,c,false⟩ (λe s=>(e= .normal\/e= .ret)/\s.gl=gl/\∃x,(∀k o,ag (σ' x) k=some o->ag s.σ k=some o)/\s.c=c' x/\∃a,fn.results.toList.mapM (jV P s)=some a/\r x=iU a)
theorem MC{o:Oper}{st:St}{f:Dq}{xs:Array Dq}{ats:Array Bn}{fid:FuncId}{fst cap:Bk}(L:Bq){gs0:Bk}{σ0:aQ}{ι:Type}{r:ι->G}{σ1:ι->aQ}{c1:ι->Nat}(ho:o.op= .call {callee:= .value f,args:=xs,argTypes:=ats})(hd:LB o st.n)(hf:aB st f= .clo (.func fid) fst cap)
  (hM:Xx P st.gl fid gs0 σ0 L.length r σ1 c1) (hL:∀(k i:Nat),L[k]?=some i->i<st.c) (hnd:L.Nodup) (hgs:gs0=(fst++xs.toList.map (aB st)++cap).map (qg (vi L) 20))
  (hin:∀(k i:Nat),L[k]?=some i->∃o o0,ag st.σ i=some o/\ag σ0 k=some o0/\MB (vi L) o o0) (h0:∀k o,ag σ0 k=some o->k<L.length)
  (τ:ι->aQ) (y:∀x i o,ag (τ x) i=some o->(∃k p,GR L st.c k=some i/\ag (σ1 x) k=some p/\MB (GR L st.c) p o)\/(ag st.σ i=some o/\i∉L)):
  th P o st (λs'=>∃x,s'={st with σ:=τ x,c:=st.c+(c1 x-L.length)}.put o.dst (qg (GR L st.c) 20 (r x))):=by
 obtain⟨hc,fn,body,hfn,hb,hn,hT⟩:=hM
 intro cx a w K R ⟨β,h⟩ A
 obtain⟨vs,hrun,hsz,hv⟩:=lQ h ho hf hc
 refine h.loose.oper (λc hc=>by rw[ho] at hc;cases hc) ?_
 unfold Oper.wp
 rw[hrun]
 have hlive:∀i o,ag st.σ i=some o->∃x,β i=some x:=λi o ho=>by
  rcases(h.ob i o ho).at with h1|⟨b,C,_,h1,_⟩
  .exact⟨_,h1⟩
  .exact⟨_,h1⟩
 have hbound:∀i o,ag st.σ i=some o->i<st.c:=λi ob ho=>by
  rcases It i st.c with hlt|hge
  .exact hlt
  .obtain⟨x,hx⟩:=hlive i ob ho;rw[h.fresh i hge] at hx;cases hx
 obtain⟨d,J⟩:∃d:Bm,d=λk=>match L[k]? with|some i=>β i|none=>none:=⟨_,rfl⟩
 have b0:∀{k i:Nat},L[k]?=some i->d k=β i:=λ{k i} hk=>by rw[J];simp only[hk]
 have b0n:∀{k:Nat},L.length<=k->d k=none:=λ{k} hk=>by rw[J];simp only[List.getElem?_eq_none hk]
 have hk0:∀{k:Nat} {o0:Ob},ag σ0 k=some o0->∃i o,L[k]?=some i/\i∈L/\ag st.σ i=some o/\MB (vi L) o o0:=λ{k o0} hk=>by have hlt:=h0 k o0 hk;have hi:L[k]?=some (L[k]'hlt):=EH hlt;grind
 have hmem:∀{i:Nat},i∈L->∃k o0,L[k]?=some i/\ag σ0 k=some o0:=λ{i} hi=>by obtain⟨k,hk⟩:=G9 hi;obtain⟨o,o0,_,g2,_⟩:=hin k i hk;exact⟨k,o0,hk,g2⟩
 obtain⟨Hid,m⟩:∃Hid:Fv,Hid=λb=>cx.S0 b\/∃i ob C,ag st.σ i=some ob/\β i=some (some (b,C))/\i∉L:=⟨_,rfl⟩
 have hav0:∀b,Av Hid d σ0 b↔Av cx.S0 β st.σ b:=λb=>by
  rw[m];constructor
  .rintro((hb|⟨i,ob,C,h1,h2,_⟩)|⟨k,ob,C,h1,h2⟩)
   .exact .inl hb
   .exact .inr ⟨i,ob,C,h1,h2⟩
   .obtain⟨i,o,g1,_,g2,_⟩:=hk0 h1;rw[b0 g1] at h2;exact .inr ⟨i,o,C,g2,h2⟩
  .rintro(hb|⟨i,ob,C,h1,h2⟩)
   .exact .inl (.inl hb)
   .by_cases hi:i∈L
    .obtain⟨k,o0,g1,g2⟩:=hmem hi;exact .inr ⟨k,o0,C,g2,(b0 g1).trans h2⟩
    .exact .inl (.inr ⟨i,ob,C,h1,h2,hi⟩)
 have kin:∀i k,vi L i=some k->d k=β i:=λi k hk=>b0 (QX hk)
 have hlivS:∀b,GG d σ0 b->∃i o C,i∈L/\ag st.σ i=some o/\β i=some (some (b,C)):=λb ⟨k,ob,C,h1,h2⟩=>by grind
 have hsz0:vs.size=gs0.length:=by grind
 have hv0:∀(i:Nat) (g:G) (u:Value),gs0[i]?=some g->vs[i]?=some u->RV d (Av Hid d σ0) w g u:=λi g u hg hu=>by
  rw[hgs,LO] at hg;cases hx:(fst++xs.toList.map (aB st)++cap)[i]? with
  |none=>grind
  |some x=>rw[hx] at hg;simp only[Option.map_some,Fm] at hg;subst hg;exact IG kin 20 x u ((hv i x u hx hu).step (λ_ _ x=>x) (λb _ hb=>(hav0 b).1 hb) (Ba.refl _ _))
 have hfront:Bx P ⟨w,GG d σ0,Hid,d,Fence.wide,9⟩ ⟨fn.ntmps,st.gl,bQ 0 gs0,σ0,L.length,L.length,false⟩ {tmps:=vs++Array.replicate (fn.ntmps-vs.size) undef,defers:=[]} w d:={
  size:=by grind
  defers:= .nil rfl
  loose:=lP
  rnd:=λ_=>rfl
  fr:=λi=>Ca hsz0 hn hv0 i
  ob:=λk o0 hk=>by obtain⟨i,o,g1,_,g2,q⟩:=hk0 hk;exact U8 kin ((h.ob i o g2).step (λ_ _ x=>x) (λb _ hb=>(hav0 b).1 hb) (Ba.refl _ _) (λ_ _ _=>rfl)) q (b0 g1)
  inj:=λk1 k2 p B b C D h1 h2 h3 h4=>by obtain⟨i1,q1,g1,_,g2,_⟩:=hk0 h1;obtain⟨W,X,e1,_,e2,_⟩:=hk0 h2;grind [Bx.inj,List.getElem?_inj]
  own:=λk o0 b C h1 h2=> .inl ⟨k,o0,C,h1,h2⟩
  sep:=λk o0 b C h1 h2 hx=>by
   obtain⟨i,o,g1,g0,g2,_⟩:=hk0 h1;rw[b0 g1] at h2;have hx':Hid b:=hx;rw[m] at hx';rcases hx' with hx|⟨j,ob,D,e1,e2,e3⟩
   .exact h.sep i o b C g2 h2 hx
   .have:=h.inj i j o ob b C D g2 e1 h2 e2;subst this;exact e3 g0
  fresh:=λk hk=>b0n hk
  glob:=λg l hl=>(h.glob g l hl).sub λb _ hb=>(hav0 b).1 hb
  keep:=Ba.refl _ _
  old:=λb hb=>by
   have hx':Hid b:=hb;rw[m] at hx';rcases hx' with hb|⟨i,ob,C,h1,h2,_⟩
   .exact h.keep.lt (h.old b hb)
   .exact h.lt h1 h2
  pin:=λk x hx=>⟨(by
   rcases It k L.length with h'|h'
   .exact h'
   .have hx':d k=some x:=hx;rw[b0n h'] at hx';cases hx'),hx⟩}
 refine rq (cx:=⟨w,GG d σ0,Hid,d,Fence.wide,9⟩) hfn hb hT rfl rfl ⟨d,hfront⟩ ?_
 rintro e s a' w' ⟨he,hgl,t,z,hsc,U,F,H⟩ ⟨O,hr⟩
 replace y:=y t
 replace A:=λs' (hs:s'={st with σ:=τ t,c:=st.c+(c1 t-L.length)}.put o.dst (qg (GR L st.c) 20 (r t)))=>A s' ⟨t,hs⟩
 generalize r t=r at H A
 generalize σ1 t=σ1 at z y
 generalize c1 t=c1 at hsc A
 generalize τ t=τ at y A
 obtain⟨v,hres,N⟩:=mP hr F
 obtain⟨β2,M⟩:∃β2:Bm,β2=λi=>if i<st.c then β i else O (L.length+(i-st.c)):=⟨_,rfl⟩
 have b2:∀{i:Nat},i<st.c->β2 i=β i:=λ{i} hi=>by rw[M];simp only[hi,if_true]
 have key:∀k i,GR L st.c k=some i->β2 i=O k:=λk i hk=>by
  unfold GR at hk;cases hx:L[k]? with
  |some j=>grind
  |none=>grind
 have hext:∀i x,β i=some x->β2 i=some x:=λi x hx=>by
  rcases It i st.c with h'|h'
  .rw[b2 h'];exact hx
  .rw[h.fresh i h'] at hx;cases hx
 have hblk:∀i o b C,ag st.σ i=some o->β2 i=some (some (b,C))->β i=some (some (b,C)):=λi o b C ho hb=>by rw[b2 (hbound i o ho)] at hb;exact hb
 have hav:∀b,Av cx.S0 β2 τ b->Av Hid O s.σ b:=by rintro b (hb|⟨i,ob,C,h1,h2⟩);all_goals grind
 have hAo:∀b,b<w.heap.size->Av cx.S0 β2 τ b->Av cx.S0 β st.σ b:=by grind
 have hkp:Ba (Av cx.S0 β st.σ) w w':=hr.keep.mono λb _ hb=>by obtain⟨i,o,E,_,q,I⟩:=hlivS b hb;exact .inr ⟨i,o,E,q,I⟩
 have hframe:∀i o b C,ag st.σ i=some o->i∉L->β i=some (some (b,C))->w'.heap[b]?=w.heap[b]? :=λi o b C ho hn hb=>hr.keep.block b (h.lt ho hb) (λhl=>by obtain⟨j,B,E,g1,q,I⟩:=hlivS b hl;have:=h.inj i j o B b C E ho q hb I;subst this;exact hn g1)
 have hback:Bx P cx {st with σ:=τ,c:=st.c+(c1-L.length)} a w' β2:={
  size:=h.size
  defers:=h.defers.keep hr.keep (λD hD hl=>by obtain⟨j,B,E,g1,q,I⟩:=hlivS D hl;exact h.not_marks q I hD)
  loose:=h.loose
  rnd:=h.rnd
  fr:=λi=>(h.fr i).step hext hAo hkp
  ob:=λi o ho=>by
   rcases y i o ho with⟨k,p,g1,g2,q⟩|⟨g1,g2⟩
   .exact U8 key ((hr.ob k p (z k p g2)).step (λ_ _ x=>x) (λb _ hb=>hav b hb) (Ba.refl _ _) (λ_ _ _=>rfl)) q (key k i g1)
   .exact(h.ob i o g1).step hext hAo hkp (λb C hb=>hframe i o b C g1 g2 hb)
  inj:=λi j o V b C D hi hj hbi Q=>by
   rcases y i o hi with⟨k,p,g1,g2,q⟩|⟨g1,g2⟩<;>rcases y j V hj with⟨k',S,e1,e2,e3⟩|⟨e1,e2⟩
   .grind
   all_goals grind
  own:=λi o b C hi hbi=>by
   rcases y i o hi with⟨k,p,g1,g2,q⟩|⟨g1,g2⟩
   .rw[key k i g1] at hbi;rcases hr.own k p b C (z k p g2) hbi with hb|hb
    .grind [Bx.own]
    .have:=h.keep.size;have hb':w.heap.size<=b:=hb;right;omega
   grind
  sep:=λi o b C hi hbi hx=>by
   rcases y i o hi with⟨k,p,g1,g2,q⟩|⟨g1,g2⟩
   .rw[key k i g1] at hbi;exact hr.sep k p b C (z k p g2) hbi (by rw[m];exact .inl hx)
   .exact h.sep i o b C g1 (hblk i o b C g1 hbi) hx
  fresh:=λi hi=>by have hi':st.c+(c1-L.length)<=i:=hi;rw[M];simp only;rw[BW aa];exact hr.fresh _ (by rw[hsc];omega)
  glob:=λg l hl=>(hr.glob g l (by rw[hgl];exact hl)).sub λb _ hb=>hav b hb
  keep:=h.keep.then hr.keep (λb hb hl=>by
   obtain⟨j,B,E,_,e3,e4⟩:=hlivS b hl;rcases h.own j B b E e3 e4 with h1|h1
   .exact h1
   .omega)
  old:=h.old
  pin:=λi x hx=>⟨(h.pin i x hx).1,hext i x (h.pin i x hx).2⟩}
 have hval:RV β2 (Av cx.S0 β2 τ) w' (qg (GR L st.c) 20 r) v:=by rw[H];exact IG key 20 _ v (N.step (λ_ _ x=>x) (λb _ hb=>hav b hb) (Ba.refl _ _))
 exact⟨he,v,hres,A _ rfl _ _ ⟨β2,hback.put o.dst hd hval⟩⟩
theorem jg.F{gl:Cd}{f:FuncId}{gs:Bk}{σ0:aQ}{c:Nat}{r:G}{σ1:aQ}{c1:Nat}(h:jg P gl f gs σ0 c r σ1 c1):Xx P gl f gs σ0 c (ι:=Unit) (λ_=>r) (λ_=>σ1) (λ_=>c1):=by obtain⟨hc,fn,body,hfn,hb,hn,hT⟩:=h;constructor<;>grind
theorem MD{o:Oper}{st:St}{f:Dq}{xs:Array Dq}{ats:Array Bn}{fid:FuncId}{fst cap:Bk}(L:Bq){gs0:Bk}{σ0:aQ}{r:G}{σ1:aQ}{c1:Nat}(ho:o.op= .call {callee:= .value f,args:=xs,argTypes:=ats})(hd:LB o st.n)(hf:aB st f= .clo (.func fid) fst cap)
  (hM:jg P st.gl fid gs0 σ0 L.length r σ1 c1) (hL:∀(k i:Nat),L[k]?=some i->i<st.c) (hnd:L.Nodup) (hgs:gs0=(fst++xs.toList.map (aB st)++cap).map (qg (vi L) 20))
  (hin:∀(k i:Nat),L[k]?=some i->∃o o0,ag st.σ i=some o/\ag σ0 k=some o0/\MB (vi L) o o0) (h0:∀k o,ag σ0 k=some o->k<L.length)
  (τ:aQ) (e:∀i o,ag τ i=some o->(∃k b,GR L st.c k=some i/\ag σ1 k=some b/\MB (GR L st.c) b o)\/(ag st.σ i=some o/\i∉L)):
  th P o st (λs'=>s'={st with σ:=τ,c:=st.c+(c1-L.length)}.put o.dst (qg (GR L st.c) 20 r)):=by
 have:=MC (o:=o) (st:=st) (ι:=Unit) (r:=λ_=>r) (σ1:=λ_=>σ1) (c1:=λ_=>c1) L ho hd hf hM.F hL hnd hgs hin h0 (λ_=>τ) λ_=>e
 exact λcx a w K R h d=>this cx a w K R h λs' ⟨_,hs⟩=>d s' hs
section
variable {P:Br} [M:Mix P] {c:Code} {K:List Kf} {st:St} {Q:Exit->St->Prop}
def Ok(P:Br)(fn:Func)(gl:Cd)(r:G)(σ1:aQ)(c1:Nat)(e:Exit)(s:St):Prop:=(e= .normal\/e= .ret)/\s.gl=gl/\(∀k o,ag σ1 k=some o->ag s.σ k=some o)/\s.c=c1/\∃a,fn.results.toList.mapM (jV P s)=some a/\r=iU a
theorem sMc{gl:Cd}{σ0 σ1:aQ}{c0 c1:Nat}(hf:P.funcs[f]?=some fn)(h:Tr P (ai fn) ⟨fn.ntmps,gl,bQ 0 gs,σ0,c0,c0,false⟩ (dz P [] (Ok P fn gl r σ1 c1)))(hc:aK P f=true:=by kernel_rfl)(hb:fn.body.isSome=true:=by kernel_rfl)(hn:Nat.ble gs.length fn.ntmps=true:=by kernel_rfl):jg P gl f gs σ0 c0 r σ1 c1:=by
 obtain⟨body,hb'⟩:=VB.1 hb;refine⟨hc,fn,body,hf,hb',Fe hn,?_⟩;have e:ai fn=body:=by grind [ai]
 rw[e] at h;exact Tr.leQ h
theorem Wo{gl:Cd}{σ1:aQ}{c1:Nat}{S0:St}{gs:Bk}(he:tc ex=true)(hr:vR P S0 fn.results.toList=some gs)(hg:S0.gl=gl)(a:S0.σ=σ1)(hc:S0.c=c1)(h:iU gs=r):Ok P fn gl r σ1 c1 ex S0:=by constructor<;>grind [eO,gh]
def w6(κ:Nat->Fu)(σ σ0:aQ):Nat->Bq->Prop
 |_,[]=>True
 |k,i::L=>(match ag σ i,ag σ0 k with|some o,some o0=>MB κ o o0|_,_=>False)/\w6 κ σ σ0 (k+1) L
def EJ(κ:Nat->Fu)(σ1:aQ):List (Nat×Ob)->Prop
 |[]=>True
 |(k,o)::U=>(match ag σ1 k with|some a=>MB κ a o|none=>False)/\EJ κ σ1 U
theorem w6.get{κ:Nat->Fu}{σ σ0:aQ}:∀{L:Bq} {a:Nat},w6 κ σ σ0 a L->∀(k i:Nat),L[k]?=some i->∃o o0,ag σ i=some o/\ag σ0 (a+k)=some o0/\MB κ o o0
 |[],_,_,_,_,h=>by cases h
 |j::L,a,h,0,i,hi=>by simp at hi;subst hi;have h1:=h.1;grind
 |j::L,a,h,k+1,i,hi=>by have:=w6.get h.2 k i (by grind);grind
theorem EJ.get{κ:Nat->Fu}{σ1:aQ}:∀{U:List (Nat×Ob)},EJ κ σ1 U->∀q∈U,∃a,ag σ1 q.1=some a/\MB κ a q.2
 |[],_,q,hq=>by cases hq
 |(k,o)::U,h,q,hq=>by
  rcases EZ.1 hq with rfl|hq
  .have h1:=h.1;grind
  .exact EJ.get h.2 q hq
def KQ(L:Bq)(c:Nat)(U:List (Nat×Ob)):aQ:=U.map λq=>((GR L c q.1).getD 0,some q.2)
theorem Gl(L:Bq)(c k:Nat):∃i,GR L c k=some i:=by unfold GR;cases L[k]? <;>grind
theorem YM{gl:Cd}{gs0 gs:Bk}{σ0 σ1 σR:aQ}{r g:G}{c1 c c':Nat}(L:Bq)(U:List (Nat×Ob))(hM:jg P gl fid gs0 σ0 L.length r σ1 c1)
  (hin:w6 (vi L) σR σ0 0 L) (d:EJ (GR L c) σ1 U) (hlt:L.all (λi=>Nat.blt i c)=true:=by kernel_rfl) (hnd:decide L.Nodup=true:=by kernel_rfl) (hgs:gs.map (qg (vi L) 20)=gs0:=by kernel_rfl)
  (hk0:σ0.all (λq=>Nat.blt q.1 L.length)=true:=by kernel_rfl) (hcov:(List.range L.length).all (λk=>U.any λq=>Nat.beq q.1 k)=true:=by kernel_rfl) (hg:qg (GR L c) 20 r=g:=by kernel_rfl) (hc:c+(c1-L.length)=c':=by kernel_rfl) (hR:σR.all (λq=>q.2.isSome)=true:=by kernel_rfl):oJ P gl fid gs σR c g (KQ L c U) c':=by
 intro o st y xs ats fst cap ho hd hf a hgl hq hsc
 have j:=hin.get
 have hgetR:∀i o,ag σR i=some o->ag st.σ i=some o:=λi o hh=>by
  have:∀l:aQ,(∀q∈l,q∈σR)->ag l i=some o->ag st.σ i=some o:=by
   intro l;induction l with
   |nil=>intro _ h;cases h
   |cons q t ih=>grind
  grind
 have key:=MD (o:=o) (st:=st) (f:=y) (xs:=xs) (ats:=ats) (fid:=fid) (fst:=fst) (cap:=cap) L (gs0:=gs0) (σ0:=σ0) (r:=r) (σ1:=σ1) (c1:=c1) ho hd hf (by rw[hgl];exact hM) (λk i hk=>by
   have:=Gu.1 hlt i (bO hk);simp_all) (DD hnd) (by rw[a,hgs]) (by grind) (λk o hkk=>by
   have:∀l:aQ,(∀q∈l,q∈σ0)->ag l k=some o->k<L.length:=by
    intro l;induction l with
    |nil=>intro _ h;cases h
    |cons q t ih=>
     intro hs h;rw[show(q::t:aQ)=(q.1,q.2)::t from rfl,Bc] at h;split at h
     .rename_i e;subst e;exact Fe (Gu.1 hk0 q (by grind))
     grind
   grind) (KQ L c U++st.σ) (λi o hh=>by
   have:∀l:List (Nat×Ob),(∀q∈l,q∈U)->ag (KQ L c l++st.σ) i=some o->(∃q∈U,GR L c q.1=some i/\q.2=o)\/(ag st.σ i=some o/\∀q∈l,GR L c q.1≠some i):=by
    intro l;induction l with
    |nil=>intro _ h;exact .inr ⟨h,(by grind)⟩
    |cons q t ih=>intro hs h;obtain⟨m,hi'⟩:=Gl L c q.1;rw[show KQ L c (q::t)++st.σ=((GR L c q.1).getD 0,some q.2)::(KQ L c t++st.σ) from rfl,hi',MZ,Bc] at h;grind
   rcases this U (λ_ h=>h) hh with⟨q,b,h1,rfl⟩|⟨h1,h2⟩
   .grind [EJ.get]
   .refine .inr ⟨h1,λhi=>?_⟩;obtain⟨k,hk⟩:=G9 hi;have hkl:=(cr hk).1;obtain⟨q,b,he⟩:=List.any_eq_true.1 (Gu.1 hcov k (List.mem_range.2 hkl));refine h2 q b ?_;rw[bc he];unfold GR;rw[hk])
 grind [th.gs]
end
section
variable {P:Br} [M:Mix P] {c:Code} {K:List Kf} {st:St} {Q:Exit->St->Prop} {fn:Func} {Bs:List (St->Prop)} {m:Bool} {p:Bq}
def YN:Code->Bool
 | .rangeFunc _ _ _ _=>true
 |_=>false
def rfG:Code->Dq
 | .rangeFunc g _ _ _=>g
 |_=> .tmp 0
def Dy:Code->Array Tmp
 | .rangeFunc _ ps _ _=>ps
 |_=> #[]
def Dz:Code->Code
 | .rangeFunc _ _ a _=>a
 |_=> .skip
def DA:Code->Code
 | .rangeFunc _ _ _ b=>b
 |_=> .skip
theorem sRf{fst cap:Bk}(fn:Func)(hfn:P.funcs[fid]?=some fn)(hg:aB st (rfG c)= .clo (.func fid) fst cap)(h:Tr P (ai fn) ⟨fn.ntmps,st.gl,bQ 0 (fst++[G.yld st.c]++cap),(st.c,some ⟨0,[],some (.loop .ready none st.n st.fr (Dy c) (Dz c) (DA c))⟩)::st.σ,st.c+1,st.c+1,false⟩ (dz P [] (sI P st Q)))
  (hi:YN c=true:=by kernel_rfl) (hr:st.r=false:=by kernel_rfl) (hc:aK P fid=true:=by kernel_rfl) (hb:fn.body.isSome=true:=by kernel_rfl) (hn:Nat.ble (fst++[G.yld st.c]++cap).length fn.ntmps=true:=by kernel_rfl) (hres:fn.results.toList=[]:=by kernel_rfl):Tr P c st Q:=by
 obtain⟨d,hb'⟩:=VB.1 hb
 have e:ai fn=d:=by grind [ai]
 rw[e] at h
 cases c with
 |rangeFunc g ps a b=>exact wx hr hg hc hfn hb' (Fe hn) hres (Tr.leQ h)
 |_=>cases hi
theorem QW(he:tc ex=true)(hgl:s.gl=st.gl)(ho:ag s.σ st.c=some ⟨t,[],some (.loop .ready none n fr ps a b)⟩)(h:Q .normal {st with σ:=(st.c,none)::(st.c,some ⟨t,[],some (.loop .exhausted none n fr ps a b)⟩)::s.σ,c:=s.c}):sI P st Q ex s:=
 by constructor<;>grind [eO]
def YO:Code->Bool
 | .region _ _ false=>true
 |_=>false
def pZ:Code->IH
 | .region _ ops _=>ops.toList
 |_=>[]
def YP(o:Oper):Dq:=match o.op with
 | .call {callee:= .value f,.. }=>f
 |_=> .tmp 0
def Tw(o:Oper):List Dq:=match o.op with
 | .call {callee:= .value _,args:=xs,.. }=>xs.toList
 |_=>[]
def oIs(o:Oper):Bool:=match o.op with
 | .call {callee:= .value _,.. }=>true
 |_=>false
def qd(P:Br)(ops:Array Oper)(hs:List Hn)(l:IH)(st:St):Option (Prop×Bq×St):=(Uh P ops hs l st).map λ(ps,u,s)=>(TE ps True,u,s)
theorem Mz{ops:Array Oper}{hs:List Hn}{l:IH}{C:Prop}{u:Bq}(h:qd P ops hs l st=some (C,u,s1))(hC:C):D8 P ops (λs=>s=s1) l st:=by obtain⟨⟨ps,u,s⟩,hr,e⟩:=DG.1 h;cases e;exact QO l st _ _ _ hr (Gr hC).1 rfl
theorem As{ops:Array Oper}{a K2:St->Prop}:∀(l l2:IH) (st:St),D8 P ops a l st->(∀s,a s->vU P ops K2 l2 s)->vU P ops K2 (l++l2) st
 |[],l2,st,h,hk=>hk st h
 |o::r,l2,st,h,hk=>by
  rcases h with⟨hw,s1,hg,hr⟩|⟨hw,hd,hr⟩
  .exact .inl ⟨hw,hg.gsn.eqv λs hs=>⟨s,by rw[hs];exact As r l2 s1 hr hk,XV.refl _⟩⟩
  .exact .inr ⟨hw,hd,As r l2 _ hr hk⟩
def MA(P:Br)(st:St)(i:Nat)(S:Option Code->RG->Bn->St->Prop)(bd:Code)(e:Exit)(s:St):Prop:=e= .normal/\s.gl=st.gl/\∃t' a h b d f g,ag s.σ i=some ⟨t',[],some (.loop .ready a h b d f g)⟩/\Tr P bd {s with σ:=(i,some ⟨t',[],some (.loop .busy a h b d f g)⟩)::s.σ} (Ps P st i S)
def qOf:RG->Option Code
 | .loop _ q _ _ _ _ _=>q
 |_=>none
def Tx(b:aQ)(c2:Nat)(a:RG)(t2:Bn)(j:Option Code)(x:RG)(t:Bn)(s:St):Prop:=j=qOf a/\x=a/\t=t2/\s.σ=b/\s.c=c2
theorem Wp{S:Option Code->RG->Bn->St->Prop}(he:ex= .normal)(hgl:s.gl=st.gl)(ho:ag s.σ i=some ⟨t,[],some (.loop .ready pe n fr ps a b)⟩)(h:Tr P bd {s with σ:=(i,some ⟨t,[],some (.loop .busy pe n fr ps a b)⟩)::s.σ} (dz P [] (Ps P st i S))):MA P st i S bd ex s:=
 ⟨he,hgl,t,pe,n,fr,ps,a,b,ho,Tr.leQ h⟩
theorem jy{σ2:aQ}{c2:Nat}{d:RG}{ls:LoopState}(he:ex= .normal)(hgl:s.gl=st.gl)(ho:ag s.σ i=some ⟨t2,[],some (.loop ls pe n fr ps a b)⟩)(e: .loop .ready none n fr ps a b=d)(f:s.σ=σ2)(hc:s.c=c2):Ps P st i (Tx σ2 c2 d t2) ex s:=
 ⟨hgl,none,t2,ls,pe,n,fr,ps,a,b,by rw[he];rfl,ho,by rw[<-e];rfl,e,rfl,f,hc⟩
theorem sYd(j i:Nat){s3:St}{o:Oper}(k:aQ)(c2:Nat)(e:RG)(r y u z:List HP)
  (hob:ag s1.σ i=some ⟨t,[],some (.loop .ready pe n fr ps a b)⟩)
  (h:Tr P a ⟨n,s1.gl,xU (ps.toList.zip ((Tw o).map (aB s1))) fr,s1.σ,s1.c,s1.c,true⟩ (dz P [] (MA P s1 i (Tx k c2 e t2) b)))
  (h3:dz P K Q .normal s3)
  (e1:Uf r (qd P (pZ c).toArray (bK r) ((pZ c).take j) st) s1:=by exact⟨aH,aH⟩)
  (A:(pZ c)[j]?=some o:=by kernel_rfl)
  (e2:Uf u (qd P (pZ c).toArray (bK u) ((pZ c).drop (j+1)) ({s1 with σ:=(i,some ⟨t2,[],some e⟩)::k,c:=c2}.put o.dst (.lit (.bool (qOf e).isNone)))) s3:=by exact⟨aH,aH⟩)
  (hi:YO c=true:=by kernel_rfl) (hw:ce s1 (pZ c).toArray o=some true:=by kernel_rfl) (d:oIs o=true:=by kernel_rfl) (hd:pj s1.n o.dst=true:=by kernel_rfl) (hf:aB s1 (YP o)= .yld i:=by kernel_rfl)
  (hsz:Nat.beq (Tw o).length ps.size=true:=by kernel_rfl) (g:ps.toList.all (λp=>Nat.blt p n)=true:=by kernel_rfl):Tr P c st (dz P K Q):=by
 cases c with
 |region id ops draw=>
  cases draw with
  |true=>cases hi
  |false=>
   have hl:(pZ (.region id ops false)).toArray=ops:=Array.toArray_toList
   rw[hl] at e1 e2 hw
   have hsplit:ops.toList=ops.toList.take j++(o::ops.toList.drop (j+1)):=by grind [List.drop_eq_getElem_cons,Pu]
   have key:Tr P (.region id ops.toList.toArray false) st (dz P K Q):=by
    refine lG ?_;rw[Array.toArray_toList];rw[hsplit];refine As _ _ _ (Mz e1.2 (kA e1.1)) λs hs=>?_;rw[hs];obtain⟨l,op,ty,pos,v,gd⟩:=o;cases op with
    |call cl=>
     obtain⟨q,xs,ats⟩:=cl;cases q with
     |value f=>
      refine .inl ⟨hw,?_⟩;have hy:=Em (P:=P) (o:=⟨l,.call {callee:= .value f,args:=xs,argTypes:=ats},ty,pos,v,gd⟩) (st:=s1) (f:=f) (xs:=xs) (ats:=ats) (i:=i) (n:=n) (t:=t) (pe:=pe) (fr:=fr) (ps:=ps) (az9:=a) (bd:=b) (S:=Tx k c2 e t2) rfl (eN hd) hf hob (bc hsz) (λp hp=>Fe (Gu.1 g p hp)) (Tr.leQ h);refine hy.eqv λs hs=>⟨s,?_,XV.refl _⟩;obtain⟨B,x,t',s',⟨rfl,rfl,rfl,w,hc⟩,rfl⟩:=hs;rw[w,hc];have:=As (K2:=dz P K Q .normal) _ [] _ (Mz e2.2 (kA e2.1)) λs hs=>by rw[hs];exact h3
      grind
     |_=>cases d
    |_=>cases d
   grind
 |_=>cases hi
def Gm(P:Br)(hs:List Hn)(m:Code⊕Exit)(K:List Kf)(vs:List Bn)(ρ:DE)(kd:List (Nat×Rk))(J st:St):Option (Prop×Bq×Lq×Exit×St):=match sy P hs 1000000 1000 m K st with
 |some (C,u,.fin e s)=>match Iw P vs ρ kd J s with
  |some (L,s')=>some (C,u,L,e,s')
  |none=>none
 |_=>none
theorem C9(a:Exit)(J:St)(A O:List HP)(h:Q a J)(vs:List Bn:=[])(ρ:DE:=[])(kd:List (Nat×Rk):=[])(hk:Uf A (Gm P (bK A) (Ly m p (ai fn)) (bE p (ai fn) Bs []) vs ρ kd J st) (pR O,a,J):=by exact⟨aH,aH⟩):Gp P fn Q Bs m p st:=by
 obtain⟨C,u,hC,e⟩:=hk.out;unfold Gp;unfold Gm at e;split at e;rotate_left
 .cases e
 rename_i b d x s1 h1;split at e;rotate_left
 .cases e
 rename_i L s' h2;simp only[Fm,Fw] at e;obtain⟨rfl,rfl,rfl,rfl,rfl⟩:=e;exact oK M.mx (out:= .fin x s1) ⟨_,sR h2 (wR O),h⟩ 1000 _ _ _ _ _ h1 hC
theorem pP{gl:Cd}{gs:Bk}{σ0 σ1:aQ}{c0 c1:Nat}{r:G}(hf:P.funcs[f]?=some fn)(h:Gp P fn (Ok P fn gl r σ1 c1) [] false [] ⟨fn.ntmps,gl,bQ 0 gs,σ0,c0,c0,false⟩)(hc:aK P f=true:=by kernel_rfl)(hb:fn.body.isSome=true:=by kernel_rfl)(hn:Nat.ble gs.length fn.ntmps=true:=by kernel_rfl):jg P gl f gs σ0 c0 r σ1 c1:=sMc hf h hc hb hn
theorem mt{gl:Cd}{r:G}{σ1:aQ}{c1:Nat}(a:Exit)(J:St)(gs:Bk)(A O:List HP)(hg:J.gl=gl:=by rfl)(b:J.σ=σ1:=by rfl)(hc:J.c=c1:=by rfl)(hr:iU gs=r:=by rfl)(vs:List Bn:=[])(ρ:DE:=[])(kd:List (Nat×Rk):=[])(he:tc a=true:=by rfl)(hx:vR P J fn.results.toList=some gs:=by kernel_rfl)(hk:Uf A (Gm P (bK A) (Ly m p (ai fn)) (bE p (ai fn) Bs []) vs ρ kd J st) (pR O,a,J):=by exact⟨aH,aH⟩):Gp P fn (Ok P fn gl r σ1 c1) Bs m p st:=
 C9 a J A O (Wo he hx hg b hc hr) vs ρ kd hk
def fnB(fn:Func)(c:Code):Func:={fn with body:=some c}
theorem Xt{fst cap:Bk}(a:Func)(hfn:P.funcs[fid]?=some a)(h:Gp P a (sI P st (dz P (bE p (ai fn) Bs []) Q)) [] false [] ⟨a.ntmps,st.gl,bQ 0 (fst++[G.yld st.c]++cap),(st.c,some ⟨0,[],some (.loop .ready none st.n st.fr (Dy (bq p (ai fn))) (Dz (bq p (ai fn))) (DA (bq p (ai fn))))⟩)::st.σ,st.c+1,st.c+1,false⟩)
  (hg:aB st (rfG (bq p (ai fn)))= .clo (.func fid) fst cap:=by kernel_rfl) (hi:YN (bq p (ai fn))=true:=by kernel_rfl) (hr:st.r=false:=by kernel_rfl) (hc:aK P fid=true:=by kernel_rfl) (hb:a.body.isSome=true:=by kernel_rfl) (hn:Nat.ble (fst++[G.yld st.c]++cap).length a.ntmps=true:=by kernel_rfl) (hres:a.results.toList=[]:=by kernel_rfl):Gp P fn Q Bs false p st:=sRf (c:=bq p (ai fn)) a hfn hg h hi hr hc hb hn hres
theorem Xu{s:St}(h:Gp P fn Q Bs true p {st with σ:=(st.c,none)::(st.c,some ⟨t,[],some (.loop .exhausted none n fr ps a b)⟩)::s.σ,c:=s.c})(ho:ag s.σ st.c=some ⟨t,[],some (.loop .ready none n fr ps a b)⟩)(hgl:s.gl=st.gl:=by rfl)(he:tc ex=true:=by rfl):sI P st (dz P (bE p (ai fn) Bs []) Q) ex s:=QW he hgl ho h
theorem Xv{S:Option Code->RG->Bn->St->Prop}(fn:Func)(h:Gp P (fnB fn bd) (Ps P st i S) [] false [] {s with σ:=(i,some ⟨t,[],some (.loop .busy pe n fr ps a b)⟩)::s.σ})(ho:ag s.σ i=some ⟨t,[],some (.loop .ready pe n fr ps a b)⟩)(hgl:s.gl=st.gl:=by rfl)(he:ex= .normal:=by rfl):MA P st i S bd ex s:=Wp he hgl ho h
def CK(c:Code)(j:Nat):Oper:=((pZ c)[j]?).getD ⟨none,.assign (.tmp 0),0, "",#[],none⟩
theorem Xw(j i:Nat){s1 s3:St}{t t2:Bn}{pe:Option Code}{n:Nat}{fr:Fr}{ps:Array Tmp}{a b:Code}(l:aQ)(c2:Nat)(d:RG)(e f:List HP)
  (h:Gp P (fnB fn a) (MA P s1 i (Tx l c2 d t2) b) [] false [] ⟨n,s1.gl,xU (ps.toList.zip ((Tw (CK (bq p (ai fn)) j)).map (aB s1))) fr,s1.σ,s1.c,s1.c,true⟩)
  (h3:Gp P fn Q Bs true p s3)
  (hob:ag s1.σ i=some ⟨t,[],some (.loop .ready pe n fr ps a b)⟩:=by kernel_rfl)
  (e1:Uf e (qd P (pZ (bq p (ai fn))).toArray (bK e) ((pZ (bq p (ai fn))).take j) st) s1:=by exact⟨aH,aH⟩)
  (o:(pZ (bq p (ai fn)))[j]?=some (CK (bq p (ai fn)) j):=by kernel_rfl)
  (e2:Uf f (qd P (pZ (bq p (ai fn))).toArray (bK f) ((pZ (bq p (ai fn))).drop (j+1)) ({s1 with σ:=(i,some ⟨t2,[],some d⟩)::l,c:=c2}.put (CK (bq p (ai fn)) j).dst (.lit (.bool (qOf d).isNone)))) s3:=by exact⟨aH,aH⟩)
  (hi:YO (bq p (ai fn))=true:=by kernel_rfl) (hw:ce s1 (pZ (bq p (ai fn))).toArray (CK (bq p (ai fn)) j)=some true:=by kernel_rfl) (g:oIs (CK (bq p (ai fn)) j)=true:=by kernel_rfl) (hd:pj s1.n (CK (bq p (ai fn)) j).dst=true:=by kernel_rfl) (hf:aB s1 (YP (CK (bq p (ai fn)) j))= .yld i:=by kernel_rfl)
  (hsz:Nat.beq (Tw (CK (bq p (ai fn)) j)).length ps.size=true:=by kernel_rfl) (k:ps.toList.all (λp=>Nat.blt p n)=true:=by kernel_rfl):Gp P fn Q Bs false p st:=
 sYd (c:=bq p (ai fn)) j i l c2 d e [] f [] hob h h3 e1 o e2 hi hw g hd hf hsz k
def hmc(d:Nat)(L:Bq)(c:Nat)(σR:aQ)(gs:Bk)(U:List (Nat×Ob)){gl:Cd}{fid:FuncId}{gs0:Bk}{σ0 σ1:aQ}{r:G}{c1:Nat}(hM:jg P gl fid gs0 σ0 L.length r σ1 c1)
  (hin:w6 (vi L) σR σ0 0 L) (a:EJ (GR L c) σ1 U) (hlt:L.all (λi=>Nat.blt i c)=true:=by kernel_rfl) (hnd:decide L.Nodup=true:=by kernel_rfl) (hgs:gs.map (qg (vi L) 20)=gs0:=by kernel_rfl)
  (hk0:σ0.all (λq=>Nat.blt q.1 L.length)=true:=by kernel_rfl) (hcov:(List.range L.length).all (λk=>U.any λq=>Nat.beq q.1 k)=true:=by kernel_rfl) (hR:σR.all (λq=>q.2.isSome)=true:=by kernel_rfl):HP:=
 hz d L (P:=P) (gl:=gl) (f:=fid) (gs:=gs) (σR:=σR) (c:=c) (g:=qg (GR L c) 20 r) (U:=KQ L c U) (c':=c+(c1-L.length)) (YM L U hM hin a hlt hnd hgs hk0 hcov rfl rfl hR)
def YQ(P:Br)(hs:List Hn)(cut:Nat)(m:Code⊕Exit)(K:List Kf)(a:Bq)(st:St):Option (Prop×Bq×St×Code×List Kf):=match sy P hs cut 1000 m K st with
 |some (C,u,.ct c' K' s)=>some (C,u,{s with fr:=a.map λk=>(k,aD s.fr k)},c',K')
 |_=>none
theorem IB{fr:Fr}{d:Nat}:∀a:Bq,aD (a.map λk=>(k,aD fr k)) d=aD fr d\/aD (a.map λk=>(k,aD fr k)) d= .junk
 |[]=> .inr rfl
 |k::r=>by
  rw[Fi,aO];split
  .grind
  .exact IB r
theorem UZ(b:Bq):Le P s {s with fr:=b.map λk=>(k,aD s.fr k)}:=by rintro cx a w ⟨β,r⟩;refine⟨β,{r with fr:=λi=>?_}⟩;grind [IB,RV]
theorem YR(q:Bq)(J:St)(A:List HP)(kk:Gp P fn Q Bs false q J)
  (hk:Uf A (YQ P (bK A) (wT (bq q (ai fn))) (Ly m p (ai fn)) (bE p (ai fn) Bs []) (xb J) st) (J,bq q (ai fn),bE q (ai fn) Bs []):=by exact⟨aH,aH⟩):Gp P fn Q Bs m p st:=by
 obtain⟨C,u,hC,e⟩:=hk.out
 generalize hks:xb J=ks at e
 unfold Gp
 unfold YQ at e
 split at e
 rotate_left
 .cases e
 rename_i a d c K' s1 h1
 simp only[Fm,Fw] at e
 obtain⟨rfl,rfl,b,rfl,rfl⟩:=e
 refine oK M.mx (out:= .ct (bq q (ai fn)) (bE q (ai fn) Bs []) s1) (Tr.le kk ?_) 1000 _ _ _ _ _ h1 hC
 grind [UZ]
def Gn(P:Br)(hs:List Hn)(m:Code⊕Exit)(K:List Kf)(a:Bq)(st:St):Option (Prop×Bq×Exit×St):=match sy P hs 1000000 1000 m K st with
 |some (C,u,.fin e s)=>some (C,u,e,{s with fr:=a.map λk=>(k,aD s.fr k)})
 |_=>none
theorem dFf(a:Exit)(J:St)(A:List HP)(h:Q a J)
  (hk:Uf A (Gn P (bK A) (Ly m p (ai fn)) (bE p (ai fn) Bs []) (xb J) st) (a,J):=by exact⟨aH,aH⟩):Gp P fn Q Bs m p st:=by
 obtain⟨C,u,hC,e⟩:=hk.out
 generalize hks:xb J=ks at e
 unfold Gp
 unfold Gn at e
 split at e
 rotate_left
 .cases e
 rename_i b f x s1 h1
 simp only[Fm,Fw] at e
 obtain⟨rfl,rfl,rfl,d⟩:=e
 refine oK M.mx (out:= .fin x s1) ⟨J,?_,h⟩ 1000 _ _ _ _ _ h1 hC
 grind [UZ]
theorem dEf{gl:Cd}{σ1:aQ}{c1:Nat}(a:Exit)(J:St)(gs:Bk)(A:List HP)(b:∀k o,ag σ1 k=some o->ag J.σ k=some o)(hg:J.gl=gl:=by rfl)(hc:J.c=c1:=by rfl)(hr:iU gs=r:=by rfl)(he:tc a=true:=by rfl)(hx:vR P J fn.results.toList=some gs:=by kernel_rfl)
  (hk:Uf A (Gn P (bK A) (Ly m p (ai fn)) (bE p (ai fn) Bs []) (xb J) st) (a,J):=by exact⟨aH,aH⟩):Gp P fn (Ok P fn gl r σ1 c1) Bs m p st:=
 dFf a J A ⟨eO he,hg,b,hc,gs,gh hx,hr.symm⟩ hk
end
def oI(κ:Nat->Fu)(σ1:aQ):aQ->Prop
 |[]=>True
 |(k,some o)::U=>(match ag σ1 k with|some a=>MB κ a o|none=>False)/\oI κ σ1 U
 |(_,none)::U=>oI κ σ1 U
theorem oI.get{κ:Nat->Fu}{σ1:aQ}:∀{U:aQ},oI κ σ1 U->∀k o,(k,some o)∈U->∃a,ag σ1 k=some a/\MB κ a o
 |[],_,k,o,hq=>by cases hq
 |(k,some o)::U,h,k',o',hq=>by
  rcases EZ.1 hq with e|hq
  .cases e;have h1:=h.1;split at h1
   .rename_i a e1;exact⟨a,e1,h1⟩
   .exact h1.elim
  .exact oI.get h.2 k' o' hq
 |(_,none)::U,h,k',o',hq=>by
  rcases EZ.1 hq with e|hq
  .cases e
  .exact oI.get (U:=U) h k' o' hq
def zO(L:Bq)(c:Nat)(U:aQ):aQ:=U.map λq=>((GR L c q.1).getD 0,q.2)
theorem YS{gl:Cd}{gs0 gs:Bk}{σ0 σ1 σR:aQ}{r g:G}{c1 c c':Nat}(L:Bq)(U:aQ)(hM:jg P gl fid gs0 σ0 L.length r σ1 c1)
  (hin:w6 (vi L) σR σ0 0 L) (b:oI (GR L c) σ1 U) (hlt:L.all (λi=>Nat.blt i c)=true:=by kernel_rfl) (hnd:decide L.Nodup=true:=by kernel_rfl) (hgs:gs.map (qg (vi L) 20)=gs0:=by kernel_rfl)
  (hk0:σ0.all (λq=>Nat.blt q.1 L.length)=true:=by kernel_rfl) (hcov:(List.range L.length).all (λk=>U.any λq=>Nat.beq q.1 k)=true:=by kernel_rfl) (hg:qg (GR L c) 20 r=g:=by kernel_rfl) (hc:c+(c1-L.length)=c':=by kernel_rfl) (hR:σR.all (λq=>q.2.isSome)=true:=by kernel_rfl):oJ P gl fid gs σR c g (zO L c U) c':=by
 intro o st y xs ats fst cap ho hd hf d hgl hq hsc
 have j:=hin.get
 have hgetR:∀i o,ag σR i=some o->ag st.σ i=some o:=λi o hh=>by
  have:∀l:aQ,(∀q∈l,q∈σR)->ag l i=some o->ag st.σ i=some o:=by
   intro l;induction l with
   |nil=>intro _ h;cases h
   |cons q t ih=>
    intro hs h;rw[show(q::t:aQ)=(q.1,q.2)::t from rfl,Bc] at h;split at h
    .rename_i e;subst e;rw[hq q (hs q aC)];exact h
    .exact ih (λx hx=>hs x (by simp[hx])) h
  exact this σR (λ_ h=>h) hh
 have key:=MD (o:=o) (st:=st) (f:=y) (xs:=xs) (ats:=ats) (fid:=fid) (fst:=fst) (cap:=cap) L (gs0:=gs0) (σ0:=σ0) (r:=r) (σ1:=σ1) (c1:=c1) ho hd hf (by rw[hgl];exact hM) (λk i hk=>by
   have:=Gu.1 hlt i (bO hk);rw[hsc];exact Fe this) (DD hnd) (by rw[d,hgs]) (λk i hk=>by
   obtain⟨o,o0,h1,h2,h3⟩:=j k i hk;rw[Nat.zero_add] at h2;exact⟨o,o0,hgetR i o h1,h2,h3⟩) (λk o hkk=>by
   have:∀l:aQ,(∀q∈l,q∈σ0)->ag l k=some o->k<L.length:=by
    intro l;induction l with
    |nil=>intro _ h;cases h
    |cons q t ih=>
     intro hs h;rw[show(q::t:aQ)=(q.1,q.2)::t from rfl,Bc] at h;split at h
     .rename_i e;subst e;exact Fe (Gu.1 hk0 q (hs q aC))
     .exact ih (λx hx=>hs x (by simp[hx])) h
   exact this σ0 (λ_ h=>h) hkk) (zO L c U++st.σ) (λi o hh=>by
   have:∀l:aQ,(∀q∈l,q∈U)->ag (zO L c l++st.σ) i=some o->(∃k,(k,some o)∈U/\GR L c k=some i)\/(ag st.σ i=some o/\∀q∈l,GR L c q.1≠some i):=by
    intro l;induction l with
    |nil=>intro _ h;exact .inr ⟨h,λq hq=>by cases hq⟩
    |cons q t ih=>
     intro hs h;obtain⟨n,hi'⟩:=Gl L c q.1;rw[show zO L c (q::t)++st.σ=((GR L c q.1).getD 0,q.2)::(zO L c t++st.σ) from rfl,hi',MZ,Bc] at h;split at h
     .rename_i e;subst e;exact .inl ⟨q.1,by rw[<-h];exact hs q aC,hi'⟩
     .rename_i hne;rcases ih (λx hx=>hs x (by simp[hx])) h with h|⟨h,h2⟩
      .exact .inl h
      .refine .inr ⟨h,λx hx=>?_⟩;rcases EZ.1 hx with rfl|hx
       .rw[hi'];intro e;cases e;exact hne rfl
       .exact h2 x hx
   rcases this U (λ_ h=>h) hh with⟨k,a,h1⟩|⟨h1,h2⟩
   .obtain⟨m,e1,e2⟩:=b.get k o a;exact .inl ⟨k,m,by rw[hsc];exact h1,e1,by rw[hsc];exact e2⟩
   .refine .inr ⟨h1,λhi=>?_⟩;obtain⟨k,hk⟩:=G9 hi;have hkl:=(cr hk).1;obtain⟨q,a,he⟩:=List.any_eq_true.1 (Gu.1 hcov k (List.mem_range.2 hkl));refine h2 q a ?_;rw[bc he];unfold GR;rw[hk])
 have:=key.gs (st':={st with σ:=zO L c U++st.σ,c:=c'}.put o.dst g) λs hs=>by rw[hs,hsc,hg,hc]
 exact this
def tN(d:Nat)(L:Bq)(c:Nat)(σR:aQ)(gs:Bk)(U:aQ){gl:Cd}{fid:FuncId}{gs0:Bk}{σ0 σ1:aQ}{r:G}{c1:Nat}(hM:jg P gl fid gs0 σ0 L.length r σ1 c1)
  (hin:w6 (vi L) σR σ0 0 L) (a:oI (GR L c) σ1 U) (hlt:L.all (λi=>Nat.blt i c)=true:=by kernel_rfl) (hnd:decide L.Nodup=true:=by kernel_rfl) (hgs:gs.map (qg (vi L) 20)=gs0:=by kernel_rfl)
  (hk0:σ0.all (λq=>Nat.blt q.1 L.length)=true:=by kernel_rfl) (hcov:(List.range L.length).all (λk=>U.any λq=>Nat.beq q.1 k)=true:=by kernel_rfl) (hR:σR.all (λq=>q.2.isSome)=true:=by kernel_rfl):HP:=
 hz d L (P:=P) (gl:=gl) (f:=fid) (gs:=gs) (σR:=σR) (c:=c) (g:=qg (GR L c) 20 r) (U:=zO L c U) (c':=c+(c1-L.length)) (YS L U hM hin a hlt hnd hgs hk0 hcov rfl rfl hR)
structure R8 (P:Br) (w:World) (β:Bm) (S:Fv) (σ0:aQ) (p:Nat) (r:G) (σ1:aQ) (v:Value) (w':World) (β':Bm):Prop where
 pin:∀i ob,i<p->ag σ0 i=some ob->β' i=β i
 rs:RS P β' S σ1 w'
 old:∀b,GG β' σ1 b->GG β σ0 b\/w.heap.size<=b
 val:RV β' (Av S β' σ1) w' r v
 keep:Ba (GG β σ0) w w'
def SH(P:Br)(gl:Cd)(f:FuncId)(gs:Bk)(σ0:aQ)(c0 p:Nat)(r:G)(σ1:aQ):Prop:=
 ∀(w:World) (β:Bm) (S:Fv) (vs:Array Value),(∀b,S b->b<w.heap.size)->(∀i,c0<=i->β i=none)->Gls gl (Av S β σ0) w->RS P β S σ0 w->vs.size=gs.length->(∀(i:Nat) (g:G) (u:Value),gs[i]?=some g->vs[i]?=some u->RV β (Av S β σ0) w g u)->
  Calls P f vs w λe w'=>∃v a,e= .returned v/\R8 P w β S σ0 p r σ1 v w' a
theorem AdW{gl:Cd}{c:Code}{σ0 σ1:aQ}{c0:Nat}(hf:P.funcs[f]?=some fn)(hb:fn.body=some c)(hn:gs.length<=fn.ntmps)(h:Tr P c ⟨fn.ntmps,gl,bQ 0 gs,σ0,c0,p,false⟩ (zE P fn r σ1)):SH P gl f gs σ0 c0 p r σ1:=by
 intro w β S vs hS hβ hG hR hsz hvs;have hlive:∀i o,ag σ0 i=some o->∃x,β i=some x:=by grind [RS,RO.at]
 refine rq (cx:=⟨w,GG β σ0,S,λi=>if i<p then β i else none,Fence.wide,9⟩) hf hb h rfl rfl ⟨β,?_⟩ ?_
 .constructor<;>try grind [D7.nil,lP,RS.ob,RS.inj,RS.sep,Ba.refl]
  .exact λ_=>rfl
  .exact λi=>by
    show RV _ _ w (aD (bQ 0 gs) i) _;rw[px];simp only[Nat.zero_le,if_true,Nat.sub_zero];cases hg:gs[i]? with
    |none=>exact .junk _
    |some g=>
     have hlt:=(cr hg).1;have hu:vs[i]?=some (vs[i]'aa):=by grind
     have e:(vs++Array.replicate (fn.ntmps-vs.size) undef).getD i undef=vs[i]'aa:=by rw[Array.getD_eq_getD_getElem?,Array.getElem?_append_left aa,hu];rfl
     grind
  .exact λi o b C ho hb=> .inl ⟨i,o,C,ho,hb⟩
  .exact hG
 .rintro e st' a' w' ⟨he,s,ρ,hgs,d,hinj,hw,hst⟩ ⟨l,hr⟩;obtain⟨v,hres,hv⟩:=mP hr hgs;have hp':∀i ob,i<p->ag σ0 i=some ob->i<st'.p/\l i=β i:=by grind
  obtain⟨c',k⟩:∃c',∀q∈ρ,q.1<c':=by refine⟨(ρ.map (·.1)).foldr (λa b=>max (a+1) b) 0,λq hq=>?_⟩;clear hinj hw hst d;induction ρ<;>grind
  have hw':=Bx.weaken (st:=st') (st':=⟨st'.n,st'.gl,[],σ1,c',st'.p,st'.r⟩) ρ rfl rfl rfl d hinj k HQ hst rfl hr;have hpost:R8 P w β S σ0 p r σ1 v w' (λi=>(dq ρ i).bind l):={
   pin:=by grind
   rs:=⟨hw'.ob,hw'.inj,hw'.sep⟩
   old:=by rintro b ⟨i,ob,C,ho,hb⟩;grind
   val:=(hw _ _ _ l hr v hv).step (by grind) (λb _ hb=>by
    rcases hb with hb|⟨i,m,C,h1,h2⟩
    .exact .inl hb
    .obtain⟨j,ob,h3,h4,_⟩:=hst i m h1;grind) (Ba.refl _ _)
   keep:=hr.keep}
  grind
def kO(σ0:aQ)(L:Bq)(p nn c k:Nat):Fu:=bif Nat.blt k p then(match ag σ0 k with|some _=>L[k]? |none=>none)else bif Nat.blt k (p+nn)then some (c+(k-p))else none
theorem AiB{σ0:aQ}{ob:Ob}(h:k<p)(ho:ag σ0 k=some ob):kO σ0 L p nn c k=L[k]? :=by unfold kO;rw[show Nat.blt k p=true from RT h,ho];rfl
theorem Ajs{σ0:aQ}(h:k<p)(e:kO σ0 L p nn c k=some i):L[k]?=some i/\∃ob,ag σ0 k=some ob:=by unfold kO at e;rw[show Nat.blt k p=true from RT h,ax] at e;grind
theorem Alp{σ0:aQ}(h:p<=k)(e:kO σ0 L p nn c k=some i):i=c+(k-p)/\k<p+nn:=by
 unfold kO at e;rw[show Nat.blt k p=false from by cases hb:Nat.blt k p with|false=>rfl|true=>exact absurd (Fe hb) aa] at e;cases hb:Nat.blt k (p+nn) with
 |false=>grind
 |true=>simp_all
theorem Ajt{o:Oper}{st:St}{f:Dq}{xs:Array Dq}{ats:Array Bn}{fid:FuncId}{fst cap:Bk}(L:Bq)(p nn:Nat){gs0:Bk}{σ0:aQ}{σ1:aQ}(ho:o.op= .call {callee:= .value f,args:=xs,argTypes:=ats})(hd:LB o st.n)(hf:aB st f= .clo (.func fid) fst cap)(hc:aK P fid=true)
  (hM:SH P st.gl fid gs0 σ0 L.length p r σ1) (hL:∀(k i:Nat),L[k]?=some i->i<st.c) (hnd:L.Nodup) (hgs:gs0=(fst++xs.toList.map (aB st)++cap).map (qg (vi L) 20))
  (hin:∀k o0,ag σ0 k=some o0->∃i o,L[k]?=some i/\ag st.σ i=some o/\MB (vi L) o o0)
  (τ:aQ) (s:∀i o,ag τ i=some o->(∃k d,kO σ0 L p nn st.c k=some i/\ag σ1 k=some d/\MB (kO σ0 L p nn st.c) d o)\/(ag st.σ i=some o/\i∉L)):
  GS P o st ({st with σ:=τ,c:=st.c+nn}.put o.dst (qg (kO σ0 L p nn st.c) 20 r)):=by
 intro cx a w K R ⟨β,h⟩ z
 obtain⟨vs,hrun,hsz,hv⟩:=lQ h ho hf hc
 refine h.loose.oper (by grind) ?_
 unfold Oper.wp
 rw[hrun]
 have hlive:∀i o,ag st.σ i=some o->∃x,β i=some x:=by grind [RO.at]
 have hbound:∀i o,ag st.σ i=some o->i<st.c:=by grind
 obtain⟨m,F⟩:∃m:Bm,m=λk=>match L[k]? with|some i=>β i|none=>none:=⟨_,rfl⟩
 have b0:∀{k i:Nat},L[k]?=some i->m k=β i:=by grind
 have b0n:∀{k:Nat},L.length<=k->m k=none:=by grind
 obtain⟨Hid,y⟩:∃Hid:Fv,Hid=λb=>cx.S0 b\/∃i ob C,ag st.σ i=some ob/\β i=some (some (b,C))/\i∉L:=⟨_,rfl⟩
 have hlivS:∀b,GG m σ0 b->∃i o C,i∈L/\ag st.σ i=some o/\β i=some (some (b,C)):=λb ⟨k,ob,C,h1,h2⟩=>by grind
 have hav0:∀b,Av Hid m σ0 b->Av cx.S0 β st.σ b:=by grind
 have kin:∀i k,vi L i=some k->m k=β i:=by grind [QX]
 have hRS:RS P m Hid σ0 w:={
  ob:=λk o0 hk=>by obtain⟨i,o,g1,g2,q⟩:=hin k o0 hk;exact U8 kin ((h.ob i o g2).step (by grind) (by grind) (Ba.refl _ _) (by grind)) q (b0 g1)
  inj:=λk1 k2 d A b C D h1 h2 h3 h4=>by obtain⟨i1,q1,g1,g2,_⟩:=hin k1 d h1;obtain⟨J,N,e1,e2,_⟩:=hin k2 A h2;grind [List.getElem?_inj]
  sep:=by grind}
 have hsz0:vs.size=gs0.length:=by grind
 refine(hM w m Hid vs (λb hb=>?_) (by grind) (λg l hl=>(by grind [IV.sub])) hRS hsz0 (λi g u hg hu=>?_)).mono ?_
 .grind [Bx.lt]
 .rw[hgs,LO] at hg
  cases hx:(fst++xs.toList.map (aB st)++cap)[i]? with
  |none=>grind
  |some x=>
   rw[hx] at hg
   simp only[Option.map_some,Fm] at hg
   subst hg
   exact IG kin 20 x u ((hv i x u hx hu).step (by grind) (by grind) (Ba.refl _ _))
 rintro e w' ⟨v,t,rfl,M⟩
 obtain⟨β2,H⟩:∃β2:Bm,β2=λi=>if i<st.c then β i else if i<st.c+nn then t (p+(i-st.c))else none:=⟨_,rfl⟩
 have b2:∀{i:Nat},i<st.c->β2 i=β i:=by grind
 have key:∀k i,kO σ0 L p nn st.c k=some i->β2 i=t k:=λk i hk=>by
  rcases It k p with hp|hp
  .obtain⟨hk,ob,ho⟩:=Ajs hp hk;grind [R8.pin]
  .obtain⟨rfl,h2⟩:=Alp hp hk;grind
 have kfn:∀{k i j:Nat},kO σ0 L p nn st.c k=some i->kO σ0 L p nn st.c k=some j->i=j:=by grind
 have hext:∀i x,β i=some x->β2 i=some x:=by grind
 have hblk:∀i o b C,ag st.σ i=some o->β2 i=some (some (b,C))->β i=some (some (b,C)):=by grind
 have hav:∀b,Av cx.S0 β2 τ b->Av Hid t σ1 b:=by grind
 have hAo:∀b,b<w.heap.size->Av cx.S0 β2 τ b->Av cx.S0 β st.σ b:=by
  intro b hlt hb;rcases hav b hb with hb|hb
  .grind
  .rcases M.old b hb with hb|hb
   all_goals grind
 have hkp:Ba (Av cx.S0 β st.σ) w w':=by grind [R8,Ba.mono]
 have hframe:∀i o b C,ag st.σ i=some o->i∉L->β i=some (some (b,C))->w'.heap[b]?=w.heap[b]? :=by grind [R8,Bx.lt]
 have hback:Bx P cx {st with σ:=τ,c:=st.c+nn} a w' β2:={
  size:=h.size
  defers:=by grind [R8,D7.keep,Bx.not_marks]
  loose:=h.loose
  rnd:=h.rnd
  fr:=by grind [RV.step]
  ob:=λi o ho=>by
   rcases s i o ho with⟨k,d,g1,g2,q⟩|⟨g1,g2⟩
   .exact U8 key ((M.rs.ob k d g2).step (by grind) (by grind) (Ba.refl _ _) (by grind)) q (key k i g1)
   grind [RO.step]
  inj:=λi j o I b C D hi hj hbi B=>by
   rcases s i o hi with⟨k,d,g1,g2,q⟩|⟨g1,g2⟩<;>rcases s j I hj with⟨k',E,e1,e2,e3⟩|⟨e1,e2⟩
   .grind [R8,RS.inj]
   all_goals grind [R8,RS.sep]
  own:=λi o b C hi hbi=>by
   rcases s i o hi with⟨k,d,g1,g2,q⟩|⟨g1,g2⟩
   .rw[key k i g1] at hbi;rcases M.old b ⟨k,d,C,g2,hbi⟩ with hb|hb
    all_goals grind
   grind
  sep:=by grind [R8,RS.sep]
  fresh:=by grind
  glob:=by grind [IV.stepC,Ba.cells]
  keep:=by grind [R8,Ba.then]
  old:=h.old
  pin:=by grind}
 have hval:RV β2 (Av cx.S0 β2 τ) w' (qg (kO σ0 L p nn st.c) 20 r) v:=IG key 20 _ v (M.val.step (by grind) (by grind) (Ba.refl _ _))
 exact z _ _ ⟨β2,hback.put o.dst hd hval⟩
def InP(κ:Nat->Fu)(L:Bq)(σR σ0:aQ):Prop:=∀k o0,ag σ0 k=some o0->∃i o,L[k]?=some i/\ag σR i=some o/\MB κ o o0
def Abg(κ:Nat->Fu)(σ1 U:aQ):Prop:=∀i o,ag U i=some o->∃k a,κ k=some i/\ag σ1 k=some a/\MB κ a o
theorem WG{σR σ:aQ}(hq:∀q∈σR,ag σ q.1=q.2)(h:ag σR i=some o):ag σ i=some o:=by
 induction σR with
 |nil=>cases h
 |cons q t ih=>grind
def Ack(L:Bq):aQ:=L.map λi=>(i,none)
theorem AdX{U σ:aQ}(h:ag (U++(Ack L++σ)) i=some o):ag U i=some o\/(ag σ i=some o/\i∉L):=by
 induction U with
 |nil=>right;unfold Ack at h;induction L<;>grind
 |cons q t ih=>grind
theorem Ajv{gl:Cd}{gs0 gs:Bk}{σ0 σ1 σR:aQ}{r g:G}{c c':Nat}(L:Bq)(p nn:Nat)(U:aQ)(hM:SH P gl fid gs0 σ0 L.length p r σ1)(hc:aK P fid=true)
  (hin:InP (vi L) L σR σ0) (a:Abg (kO σ0 L p nn c) σ1 U) (hlt:L.all (λi=>Nat.blt i c)=true:=by kernel_rfl) (hnd:decide L.Nodup=true:=by kernel_rfl) (hgs:gs.map (qg (vi L) 20)=gs0:=by kernel_rfl)
  (hg:qg (kO σ0 L p nn c) 20 r=g:=by kernel_rfl) (d:c+nn=c':=by kernel_rfl):oJ P gl fid gs σR c g (U++Ack L) c':=by
 intro o st y xs ats fst cap ho hd hf b hgl hq hsc
 subst hsc
 have key:=Ajt (o:=o) (st:=st) (f:=y) (xs:=xs) (ats:=ats) (fid:=fid) (fst:=fst) (cap:=cap) L p nn ho hd hf hc (by rw[hgl];exact hM) (λk i hk=>Fe (Gu.1 hlt i (bO hk))) (DD hnd) (by rw[b,hgs]) (λk o0 hk=>by
   obtain⟨i,o,h1,h2,h3⟩:=hin k o0 hk;grind [WG]) (U++(Ack L++st.σ)) (λi o hh=>by
   rcases AdX hh with h|h
   .exact .inl (a i o h)
   .exact .inr h)
 grind
def hfm(d:Nat)(L:Bq)(p nn c:Nat)(σR:aQ)(gs:Bk)(U:aQ){gl:Cd}{fid:FuncId}{gs0:Bk}{σ0 σ1:aQ}{r:G}(hM:SH P gl fid gs0 σ0 L.length p r σ1)
  (hin:InP (vi L) L σR σ0) (a:Abg (kO σ0 L p nn c) σ1 U) (hc:aK P fid=true:=by kernel_rfl) (hlt:L.all (λi=>Nat.blt i c)=true:=by kernel_rfl) (hnd:decide L.Nodup=true:=by kernel_rfl) (hgs:gs.map (qg (vi L) 20)=gs0:=by kernel_rfl):HP:=
 hz d L (P:=P) (gl:=gl) (f:=fid) (gs:=gs) (σR:=σR) (c:=c) (g:=qg (kO σ0 L p nn c) 20 r) (U:=U++Ack L) (c':=c+nn) (by grind [Ajv])
theorem dFP{gl:Cd}{σ0 σ1:aQ}{c0 p:Nat}{r:G}(hf:P.funcs[f]?=some fn)(h:Gp P fn (zE P fn r σ1) [] false [] ⟨fn.ntmps,gl,bQ 0 gs,σ0,c0,p,false⟩)(hb:fn.body.isSome=true:=by kernel_rfl)(hn:Nat.ble gs.length fn.ntmps=true:=by kernel_rfl):SH P gl f gs σ0 c0 p r σ1:=
 AdW hf (c:=ai fn) (by unfold ai;cases hx:fn.body<;>grind) (Fe hn) (Tr.leQ (by exact h))
end Go.Proofs.YtlijnaneopediaaGreatDoor
