/- Texts. -/
import Derived.Test.YtdpdicldkohflaaGreatDoorD2
namespace Go.Proofs.YtdpdicldkohflaaGreatDoor
set_option linter.unusedSectionVars false
set_option linter.unusedVariables false
set_option linter.unusedSimpArgs false
open Go.RowKit Tryz
variable (gl:CB)
variable {i n:Nat}{f fid:FuncId}{r:G}{fn:Func}{ex:Exit}{s s1:St}{t t2:Bk}{fr:Fr}{ps:Array Tmp}{a b bd:Code}{pe:Option Code}
section
set_option maxHeartbeats 2000000
attribute [local irreducible] Tr dz Gp
def nk(g:Ba)(v1:Bb)(s3:Bp×Int):Option ((Bp×Int)⊕Bp):=
 bif s3.2<ah v1 then((aS v1 s3.2).bind λb=>(qR g b).bind λc=>(aS g.L c).bind λd=>(LJ d).bind λa=>(bif 0<a then((fb s3.1 a).bind λe=>some (!e))else(some false)).bind λf=>bif f then((aT 8 s3.1 ([a]:Bp)).bind λh=>some (.inl (h,wI (s3.2+1))))else(some (.inl (s3.1,wI (s3.2+1)))))else(some (.inr s3.1))
def jn(g:Ba)(ids:Bb):Option Bp:=
 (n8 g ids).bind λv1=>(AQ (nk g v1) ([],0)).bind λa=>some a
theorem Di{g ids}:M1 prog gl (jn g ids) 192 [.agg (aI g),aE aj ids] 3 cZ:=
 gc func192 λK=>Jt 11 ac (G7 gl) λv1=>HU 111101 (λc=>sp [] [(6,.rsl 0 0 c.length)] [ob 0 3 (c.flatMap cZ)] 1) (λs3=>sp [] [(2,.ref 0 0),(5,aE aj v1),(6,.rsl 1 0 s3.1.length),(7,iG s3.2)] [ob 0 33 (aI g),ob 1 3 (s3.1.flatMap cZ)] 2) [hc (rZ.imm [])] (λc=>mr c0 K (rZ.imm _)) λs3 f k6=>aF 15 (CC 23 ac.ixZ 24 (ac.ptZ aW) λh=>BG 25 (yG gl) λi=>CC 26 eJ.ixZ 27 (eJ.ptZ GN) λj=>BG 28 (Pk gl) λa=>NS 1111012210210 (sf [] [(8,iG a)]) (DL rZ s3.1) 36 (Gb (dg 40 rZ) λd=>cj f (DL rZ d)) (cj f (DL rZ s3.1)) λb=>aF 30 (ak λk e=>aw [hq 34 [aE cZ s3.1,iG a] [hc (rZ.al s3.1)] (DH gl e)]<|aA c0 b (DL rZ s3.1))<|aA c0 b (DL rZ s3.1))<|aA c1 k6 (DL rZ s3.1)
def un(ids:Bb)(s1:Bb×Int):Option ((Bb×Int)⊕Bb):=
 bif s1.2<ah ids then((aS ids s1.2).bind λb=>(qN ids b.By).bind λa=>(bif 0<a then((aS ids s1.2).bind λc=>some (decide (a<=c.Seq)))else(some false)).bind λd=>bif d then((aS ids s1.2).bind λe=>(aT 24 s1.1 [e]).bind λf=>some (.inl (f,wI (s1.2+1))))else(some (.inl (s1.1,wI (s1.2+1)))))else(some (.inr s1.1))
def vJ(ids:Bb):Option Bb:=
 (AQ (un ids) ([],0)).bind λb=>(iu b).bind λa=>some a
theorem JC{ids}:M1 prog gl (vJ ids) 291 [aE aj ids] 25 aj:=
 gc func291 λK=>HU 11101 (λc=>sg [] [(3,aE aj c)]) (λs1=>so [] [(3,.rsl 0 0 s1.1.length),(4,iG s1.2)] [ob 0 25 (s1.1.flatMap aj)] 1) [hc (ac.imm [])] (λc=>ak λd e=>aw [ho 38 [aE aj c] [] (iO gl e) (kF d)]<|mr c0 K (ac.imm _)) λs1 k5 h=>aF 9 (CC 15 ac.ixZ 17 (ac.fdY tZ 0) λi=>BG 18 (yF gl) λf=>cN 111012210210 (sf [] [(5,iG f)]) (DL ac s1.1)<|cC 111012210210 (λa=>sf [5] [(29,bG a)]) (λa=>eH [29] (CC 33 ac.ixZ 34 (ac.ptZ aW) λj=>Gb (dg 36 ac) λg=>cj k5 (DL ac g))<|cj k5 (DL ac s1.1)) λa b=>aF 20 (CC 24 ac.ixZ 26 (ac.fdY tZ 1) λk=>aA c0 b (DL ac s1.1))<|aA c0 b (DL ac s1.1))<|aA c1 h [hc (ac.al s1.1)]
def uo(g:Ba)(b:Bb)(a:List Bool×List Bool×Int):Option ((List Bool×List Bool×Int)⊕(List Bool×List Bool)):=
 bif a.2.2<ah b then((aS b a.2.2).bind λd=>(fC g d).bind λc=>(ji a.1 c true).bind λe=>(ji a.2.1 c true).bind λf=>some (.inl (e,f,wI (a.2.2+1))))else(some (.inr (a.1,a.2.1)))
def uq(g:Ba)(v1:Bb)(a:Bp×Int):Option ((Bp×Int)⊕Bp):=
 bif a.2<ah v1 then((aS v1 a.2).bind λb=>(fC g b).bind λc=>(aT 8 a.1 ([c]:Bp)).bind λd=>some (.inl (d,wI (a.2+1))))else(some (.inr a.1))
def Aa(g:Ba)(ids:Bb):Option JP:=
 (n8 g ids).bind λv1=>(rP 1 (false:Bool) (ah g.L)).bind λd=>(rP 1 (false:Bool) (ah g.L)).bind λe=>(rP 1 (false:Bool) (ah g.L)).bind λf=>(AQ (uq g v1) ([],0)).bind λb=>(vJ ids).bind λc=>(AQ (uo g c) (d,e,0)).bind λa=>some ⟨b,a.1,a.2,f⟩
theorem JE{g ids r}(h:Aa g ids=some r):OU prog gl 191 [.agg (aI g),aE aj ids] [] 0 0 (.agg [.rsl 0 0 r.Row.length,.rsl 1 0 r.Void.length,.rsl 2 0 r.Fork.length,.rsl 3 0 r.Decided.length]) [ob 0 3 (r.Row.flatMap cZ),ob 1 4 (r.Void.flatMap cO),ob 2 4 (r.Fork.flatMap cO),ob 3 4 (r.Decided.flatMap cO)]:=
 Yx (λr:JP=> .agg [.rsl 0 0 r.Row.length,.rsl 1 0 r.Void.length,.rsl 2 0 r.Fork.length,.rsl 3 0 r.Decided.length]) (λr:JP=>[ob 0 3 (r.Row.flatMap cZ),ob 1 4 (r.Void.flatMap cO),ob 2 4 (r.Fork.flatMap cO),ob 3 4 (r.Decided.flatMap cO)]) func191 h (λi hi=>absurd hi (Nat.not_lt_zero i)) λK=>Jt 13 ac (G7 gl) λv1=>Gb (hmk 17 rO) λe=>Gb (hmk 22 rO) λf=>Gb (hmk 27 rO) λb=>HU 111111101 (λa=>so [0] [(2,.ref 0 0),(4,.ref 1 0),(5,.ref 2 0)] [ob 0 33 (aI g),ob 1 195 (bF [0,1,2,3] (fU AC)),ob 2 195 [.rsl 3 0 a.length,.rsl 4 0 e.length,.rsl 5 0 f.length,.rsl 6 0 b.length],ob 3 3 (a.flatMap cZ),ob 4 4 (e.flatMap cO),ob 5 4 (f.flatMap cO),ob 6 4 (b.flatMap cO)] 7) (λl=>so [0] [(2,.ref 0 0),(4,.ref 1 0),(5,.ref 2 0),(6,aE aj v1),(7,iG l.2)] [ob 0 33 (aI g),ob 1 195 (bF [0,1,2,3] (fU AC)),ob 2 195 [.rsl 3 0 l.1.length,.rsl 4 0 e.length,.rsl 5 0 f.length,.rsl 6 0 b.length],ob 3 3 (l.1.flatMap cZ),ob 4 4 (e.flatMap cO),ob 5 4 (f.flatMap cO),ob 6 4 (b.flatMap cO)] 7) [hc (el e),hc (el f),hc (el b),hc (rZ.imm []),hc (rO.imm e),hc (rO.imm f),hc (rO.imm b)] (λa=>Jt 47 ac (JC gl) λp=>HU 11111111101 (λd=>sk [] [(4,.ref 0 0),(5,.ref 1 0)] [ob 0 195 (bF [0,1,2,3] (fU AC)),ob 1 195 [.rsl 2 0 a.length,.rsl 3 0 d.1.length,.rsl 4 0 d.2.length,.rsl 5 0 b.length],ob 2 3 (a.flatMap cZ),ob 3 4 (d.1.flatMap cO),ob 4 4 (d.2.flatMap cO),ob 5 4 (b.flatMap cO)] 6) (λc=>so [1] [(8,aE aj p),(9,iG c.2.2)] [ob 2 195 [.rsl 3 0 a.length,.rsl 4 0 c.1.length,.rsl 5 0 c.2.1.length,.rsl 6 0 b.length],ob 4 4 (c.1.flatMap cO),ob 5 4 (c.2.1.flatMap cO)] 7) [hc (el a),hc (el e),hc (el f),hc (el b),hc (rZ.imm a),hc (rO.imm e),hc (rO.imm f),hc (rO.imm b)] (λd=>rdU c0 K [hc (el a),hc (el d.1),hc (el d.2),hc (el b),hc (rZ.imm a),hc (rO.imm d.1),hc (rO.imm d.2),hc (rO.imm b)] [(0,2),(1,3),(2,4),(3,5)] [(0,.row),(1,.row),(2,.row),(3,.row)]) λc q s=>aF 51 (CC 57 ac.ixZ 58 (ac.ptZ aW) λt=>BG 59 (dX gl) λu=>ak λm j=>ak λn k=>aw [AH 63 (rO.ixsZ 4 j),hw 63 (m.flatMap cO) (rO.putZ j),AH 67 (rO.ixsZ 5 k),hw 67 (n.flatMap cO) (rO.putZ k)]<|cj q [hc (el a),hc (hZ j),hc (hZ k),hc (el b),hc (rZ.imm a),hc (rO.imm m),hc (rO.imm n),hc (rO.imm b)])<|aA c1 s [hc (el a),hc (el c.1),hc (el c.2.1),hc (el b),hc (rZ.imm a),hc (rO.imm c.1),hc (rO.imm c.2.1),hc (rO.imm b)]) λl k13 k12=>aF 32 (CC 40 ac.ixZ 41 (ac.ptZ aW) λv=>BG 42 (dX gl) λw=>Gb (dg 44 rZ) λo=>cj k13 [hc (el o),hc (el e),hc (el f),hc (el b),hc (rZ.imm o),hc (rO.imm e),hc (rO.imm f),hc (rO.imm b)])<|aA c1 k12 [hc (el l.1),hc (el e),hc (el f),hc (el b),hc (rZ.imm l.1),hc (rO.imm e),hc (rO.imm f),hc (rO.imm b)]
def N6(g:Ba)(l:JP)(at_:Int):Fl:=
 (aS g.L at_).bind λa=>((aS l.Void at_).bind λc=>bif(!c)then((aS l.Decided at_).bind λb=>bif(!b)then(bif a.Kind=3 then(some true)else(bif a.Kind=13 then(some true)else(some (decide (a.Kind=12)))))else(some false))else(some false)).bind λd=>some d
theorem lC{g l at_}:DG prog gl (N6 g l at_) 195 [.agg (aI g),.agg (fU l),iG at_] bG:=
 cy func195 λK=>CC 11 eJ.ixZ 13 (eJ.fdY tZ 2) λc=>cN 1110 (sp [2] [(4,.ref 0 0),(7,iG c.Kind)] [ob 0 195 (fU l)] 1) []<|cC 1110 (λb=>sk [] [(6,bG b)] [] 0) (λb=>rv K) λb a=>CC 17 rO.ixZ 18 (rO.p1Y tO) λe=>aF 19 (CC 24 rO.ixZ 25 (rO.p1Y tO) λd=>aF 27 (aF 30 (rx a)<|aF 34 (rx a)<|rx a)<|rx a)<|rx a
def n9(g:Ba)(c:Int)(y:Int):Fl:=
 (aS g.L c).bind λa=>(aS g.L y).bind λb=>(bif c=y then(some true)else((aS g.In c).bind λd=>(aS d y).bind λe=>bif e then(some true)else((aS g.In y).bind λf=>(aS f c).bind λh=>some h))).bind λl=>bif l then(some false)else((bif a.Kind=3 then(some (decide (a.Device≠0)))else(some false)).bind λm=>bif m then(some (decide (b.By=a.Device)))else(bif a.Kind=3 then((nT g b.By).bind λi=>some (decide (i=a.Member)))else(bif a.Kind=13 then((bif b.By=a.Old then(bif b.Kind≠12 then(some true)else(some (!decide (b.Of=a.Of))))else(some false)).bind λj=>some j)else((bif a.Kind=12 then(bif b.Kind=13 then(bif a.Of=b.Of then(some (decide (a.At<=b.At)))else(some false))else(some false))else(some false)).bind λk=>some k))))
theorem mC{g x_ y}:DG prog gl (n9 g x_ y) 194 [.agg (aI g),iG x_,iG y] bG:=
 cy func194 λK=>CC 12 eJ.ixZ 13 (eJ.ptZ GN) λf=>CC 17 eJ.ixZ 18 (eJ.ptZ GN) λh=>cN 111100 (so [0] [(3,.ref 0 0),(7,.ref 1 0),(8,.ref 2 0)] [ob 0 33 (aI g),ob 1 65 (aJ f),ob 2 65 (aJ h)] 3) []<|cC 111100 (λj=>sf [1,2] [(41,bG j)]) (λj=>eH [41] (rv K)<|NS 1111100 (sf [41] []) [] 49 (rv K) (aF 57 (BG 61 (vE gl) λk=>rv K)<|aF 67 (cN 11111110130 (sk [] [(7,.ref 0 0),(8,.ref 1 0)] [ob 0 65 (aJ f),ob 1 65 (aJ h)] 2) []<|cC 11111110130 (λb=>sk [] [(6,bG b)] [] 0) (λb=>rv K) λb c=>aF 72 (aF 76 (rx c)<|aw [hV 82 (dy h.Of f.Of rfl)]<|rx c)<|rx c)<|cN 111111110 (sk [] [(7,.ref 0 0),(8,.ref 1 0)] [ob 0 65 (aJ f),ob 1 65 (aJ h)] 2) []<|cC 111111110 (λd=>sk [] [(6,bG d)] [] 0) (λd=>rv K) λd a=>aF 87 (aF 92 (aw [hV 98 (dU f.Of h.Of rfl)]<|aF 99 (rx a)<|rx a)<|rx a)<|rx a) λi=>aF 44 (rx i)<|rx i) λj e=>aF 21 (rx e)<|CC 26 zV.ixZ 27 (zV.p1Y Vt) λl=>CC 29 rO.ixZ 30 (rO.p1Y tO) λm=>aF 31 (rx e)<|CC 36 zV.ixZ 37 (zV.p1Y Vt) λn=>CC 39 rO.ixZ 40 (rO.p1Y tO) λo=>rx e
def qV(g:Ba)(l:JP)(h:Int)(y:Int)(s2:Int):Option ((Int)⊕(Unit⊕Bool)):=
 bif s2<ah l.Row then((aS l.Row s2).bind λa=>(bif a=h then((n9 g y a).bind λb=>some b)else((aS g.In h).bind λc=>(aS c a).bind λd=>bif d then((n9 g y a).bind λe=>some e)else(some false))).bind λf=>bif f then(some (.inr (.inr true)))else(some (.inl (wI (s2+1)))))else(some (.inr (.inl ())))
def qW(g:Ba)(l:JP)(a:Int)(y:Int):Fl:=
 bif a=y then(some false)else((AQ (qV g l a y) 0).bind λb=>ma b (λc=>some false) (λq=>some q))
theorem yI{g l x_ y}:DG prog gl (qW g l x_ y) 196 [.agg (aI g),.agg (fU l),iG x_,iG y] bG:=
 cy func196 λK=>aF 13 (rv K)<|O0 11101 (λc=>sg [] []) (λs2=>so [0,1] [(4,.ref 0 0),(5,.ref 1 0),(9,iG s2)] [ob 0 33 (aI g),ob 1 195 (fU l)] 2) [] K (λc=>rv K) λs2 k6 k5 e=>aF 18 (CC 24 rZ.ixZ 25 (rZ.p1Y tZ) λd=>cN 111012210210 (sf [] [(10,iG d)]) []<|cC 111012210210 (λa=>sf [10] [(44,bG a)]) (λa=>eH [44] (aP c3 e [])<|rb k6) λa b=>aF 28 (BG 43 (mC gl) λf=>rx b)<|CC 33 zV.ixZ 34 (zV.p1Y Vt) λh=>CC 36 rO.ixZ 37 (rO.p1Y tO) λi=>aF 38 (BG 43 (mC gl) λj=>rx b)<|rx b)<|aA c2 k5 []
def ph(a:Bp)(device:Int)(s1:Int):Option ((Int)⊕(Unit⊕Int)):=
 bif s1<ah a then((aS a s1).bind λb=>bif b=device then(some (.inr (.inr s1)))else(some (.inl (wI (s1+1)))))else(some (.inr (.inl ())))
def oa(a:Bp)(device:Int):JJ:=
 (AQ (ph a device) 0).bind λb=>ma b (λc=>some (ah a)) (λq=>some q)
theorem vK{a device}:DG prog gl (oa a device) 292 [aE cZ a,iG device] iG:=
 cy func292 λK=>O0 1101 (λb=>sf [1] []) (λs1=>sf [] [(5,iG s1)]) [] K (λb=>rv K) λs1 k5 c k6=>aF 9 (CC 14 rZ.ixZ 15 (rZ.p1Y tZ) λd=>aF 17 (aP c3 k6 [])<|rb k5)<|aA c2 c []
def ut(g:Ba)(l:JP)(b:Int)(a:Bool×Int):Option ((Bool×Int)⊕(Bool)):=
 bif a.2<ah l.Row then(((aS l.Row a.2).bind λc=>(N6 g l c).bind λd=>bif d then((aS l.Row a.2).bind λe=>(qW g l b e).bind λf=>some f)else(some false)).bind λh=>bif h then(some (.inl (false,wI (a.2+1))))else(some (.inl (a.1,wI (a.2+1)))))else(some (.inr a.1))
def uu(g:Ba)(l:JP)(a:Bp)(s1:Int×Int):Option ((Int×Int)⊕(Int⊕Int)):=
 bif s1.2<ah l.Row then((aS l.Row s1.2).bind λb=>(N6 g l b).bind λc=>bif(!c)then(some (.inl (s1.1,wI (s1.2+1))))else((AQ (ut g l b) (true,0)).bind λd=>bif d then(some (.inr (.inr b)))else((bif s1.1<0 then(some true)else((aS g.L b).bind λe=>(oa a e.By).bind λf=>(aS g.L (Ft s1.1 0)).bind λh=>(oa a h.By).bind λi=>some (decide (f<i)))).bind λj=>bif j then(some (.inl (b,wI (s1.2+1))))else(some (.inl (s1.1,wI (s1.2+1)))))))else(some (.inr (.inl s1.1)))
def vL(g:Ba)(l:JP)(a:Bp):JJ:=
 (AQ (uu g l a) ((-1),0)).bind λc=>ma c (λb=>some b) (λq=>some q)
theorem AZ{g l a}:DG prog gl (vL g l a) 193 [.agg (aI g),.agg (fU l),aE cZ a] iG:=
 cy func193 λK=>O0 11101 (λd=>sg [] [(7,iG d)]) (λs1=>sp [2] [(3,.ref 0 0),(4,.ref 1 0),(7,iG s1.1),(8,iG s1.2)] [ob 0 33 (aI g),ob 1 195 (fU l)] 2) [] K (λd=>rv K) λs1 k5 n k6=>aF 16 (CC 22 rZ.ixZ 23 (rZ.p1Y tZ) λe=>BG 27 (lC gl) λo=>aF 28 (rb k5)<|HU 111012210211101 (λf=>sf [] [(9,iG e),(10,bG f)]) (λb=>sf [] [(9,iG e),(10,bG b.1),(11,iG b.2)]) [] (λf=>aF 55 (aP c3 k6 [])<|NS 1110122102111110 (sf [10] []) [] 78 (rb k5) (rb k5) λh=>aF 58 (rx h)<|CC 64 eJ.ixZ 66 (eJ.fdY tZ 0) λp=>BG 67 (vK gl) λq=>CC 73 eJ.ixZ 75 (eJ.fdY tZ 0) λr=>BG 76 (vK gl) λs=>rx h) λb i m=>aF 33 (NS 111012210211101221020 (sf [] []) [] 54 (rb i) (rb i) λj=>CC 41 rZ.ixZ 42 (rZ.p1Y tZ) λt=>ak λu k=>kV (λc=>CC 51 rZ.ixZ 52 (rZ.p1Y tZ) λv=>BG 53 (yI gl) λw=>aw [hf 43 (cF (lC gl k) c)]<|rx j) λc=>aw [hf 43 (cF (lC gl k) c)]<|rx j)<|aA c1 m [])<|aA c2 n []
end
section
set_option maxHeartbeats 2000000
attribute [local irreducible] Tr dz Gp
def ng(b:Bp)(a:List Bool×Int):Option ((List Bool×Int)⊕(List Bool)):=
 bif a.2<ah b then((aS b a.2).bind λc=>(ji a.1 c true).bind λd=>some (.inl (d,wI (a.2+1))))else(some (.inr a.1))
def nh(g:Ba)(v1:JP)(c:List Bool×List Bool×Int)(a:Bp×Int):Option ((Bp×Int)⊕Bp):=
 bif a.2<ah v1.Row then((aS v1.Row a.2).bind λb=>((n9 g c.2.2 b).bind λd=>bif d then(some true)else((N6 g ({v1 with Void:=c.1,Decided:=c.2.1}) b).bind λe=>bif e then((qW g ({v1 with Void:=c.1,Decided:=c.2.1}) c.2.2 b).bind λf=>some f)else(some false)):Fl).bind λh=>bif h then((aT 8 a.1 ([b]:Bp)).bind λi=>some (.inl (i,wI (a.2+1))))else(some (.inl (a.1,wI (a.2+1)))))else(some (.inr a.1))
def tw(g:Ba)(v1:JP)(j:Bp)(a:List Bool×List Bool×Int):Option ((List Bool×List Bool×Int)⊕(List Bool×List Bool)):=
 bif 0<=a.2.2 then((Sv g ({v1 with Void:=a.1,Decided:=a.2.1})).bind λd=>(fb d a.2.2).bind λe=>(AQ (nh g v1 a) ([],0)).bind λf=>(bif(!e)then(some ([a.2.2]:Bp))else(some f)).bind λh=>(ji a.2.1 a.2.2 true).bind λb=>(AQ (ng h) (a.1,0)).bind λc=>(vL g ({v1 with Void:=c,Decided:=b}) j).bind λi=>some (.inl (c,b,i)))else(some (.inr (a.1,a.2.1)))
def oR(g:Ba)(ids:Bb):Option JP:=
 (Aa g ids).bind λv1=>(jn g ids).bind λa=>(vL g v1 a).bind λc=>(AQ (tw g v1 a) (v1.Void,v1.Decided,c)).bind λb=>some ({v1 with Void:=b.1,Decided:=b.2})
theorem Db{g ids}:DG prog gl (oR g ids) 114 [.agg (aI g),aE aj ids] (λr=> .agg (fU r)):=
 cy func114 λK=>ak λv1 e2=>Jt 18 rZ (Di gl) λy=>ak λP e6=>aw [hz 15 [] (Ts (c:=2) aH (JE gl e2) (eB aH) rn4 (rZ.imm v1.Row) (rO.imm v1.Void) (rO.imm v1.Fork) (rO.imm v1.Decided)),hq 22 [.agg (aI g),.agg (fU v1),aE cZ y] [hc (rZ.al v1.Row),hc (rO.al v1.Void),hc (rO.al v1.Fork),hc (rO.al v1.Decided)] (AZ gl e6)]<|HU 111110 (λz=>sp [] [(4,.ref 0 0),(5,.ref 1 0)] [ob 0 195 (bF [0,1,2,3] (fU AC)),ob 1 195 (fU ({v1 with Void:=z.1,Decided:=z.2}))] 2) (λa=>sp [] [(2,.ref 0 0),(4,.ref 1 0),(5,.ref 2 0),(6,aE cZ y),(7,iG a.2.2)] [ob 0 33 (aI g),ob 1 195 (bF [0,1,2,3] (fU AC)),ob 2 195 [aE cZ v1.Row,.rsl 3 0 a.1.length,aE cO v1.Fork,.rsl 4 0 a.2.1.length],ob 3 4 (a.1.flatMap cO),ob 4 4 (a.2.1.flatMap cO)] 5) [hc (rZ.al v1.Row),hc (el v1.Void),hc (rO.al v1.Fork),hc (el v1.Decided),hc (rO.imm v1.Void),hc (rO.imm v1.Decided)] (λz=>rv K) λa k11 A=>aF 24 (ak λi B=>ak λj C=>aw [ho 27 [.agg (aI g),.agg (fU ({v1 with Void:=a.1,Decided:=a.2.1}))] [hc (rO.al a.1),hc (rO.al a.2.1)] (AY gl B) (lZ i),hq 29 [aE cZ i,iG a.2.2] [hc (rZ.al i)] (DH gl C)]<|HU 11111022121101 (λq=>sf [] [(8,bG j),(9,aE cZ q)]) (λb=>so [] [(8,bG j),(9,.rsl 5 0 b.1.length),(10,iG b.2)] [ob 5 3 (b.1.flatMap cZ)] 6) [hc (el a.1),hc (el a.2.1),hc (rO.imm a.1),hc (rO.imm a.2.1),hc (rZ.imm [])] (λq=>cN 111110221211101 (sf [8] [(64,bG (!j))]) [hc (el a.1),hc (el a.2.1),hc (rO.imm a.1),hc (rO.imm a.2.1)]<|cC 111110221211101 (λk=>sf [64] [(9,aE cZ k)]) (λk=>ak λd l=>aw [AH 70 (rO.ixsZ 4 l),hw 70 (d.flatMap cO) (rO.putZ l)]<|HU 11111022121111101 (λe=>so [7,9] [] [ob 2 195 [aE cZ v1.Row,.rsl 3 0 e.length,aE cO v1.Fork,.rsl 4 0 d.length],ob 3 4 (e.flatMap cO),ob 4 4 (d.flatMap cO)] 5) (λf=>so [7] [(12,iG f.2)] [ob 2 195 [aE cZ v1.Row,.rsl 3 0 f.1.length,aE cO v1.Fork,.rsl 4 0 d.length],ob 3 4 (f.1.flatMap cO),ob 4 4 (d.flatMap cO)] 5) [hc (el a.1),hc (hZ l),hc (rO.imm a.1),hc (rO.imm d)] (λe=>ak λJ D=>aw [hq 87 [.agg (aI g),.agg (fU ({v1 with Void:=e,Decided:=d})),aE cZ y] [hc (rO.al e),hc (rO.al d)] (AZ gl D)]<|cj k11 [hc (el e),hc (el d),hc (rO.imm e),hc (rO.imm d)]) λf E F=>aF 74 (CC 81 rZ.ixZ 82 (rZ.p1Y tZ) λL=>ak λs m=>aw [AH 83 (rO.ixsZ 3 m),hw 83 (s.flatMap cO) (rO.putZ m)]<|cj E [hc (hZ m),hc (el d),hc (rO.imm s),hc (rO.imm d)])<|aA c1 F [hc (el f.1),hc (el d),hc (rO.imm f.1),hc (rO.imm d)]) λk t=>eH [64] (aA c0 t [hc (rZ.al ([a.2.2]:Bp)),hc (el a.1),hc (el a.2.1),hc (rO.imm a.1),hc (rO.imm a.2.1)])<|aA c0 t [hc (el a.1),hc (el a.2.1),hc (rO.imm a.1),hc (rO.imm a.2.1)]) λb u H=>aF 34 (CC 40 rZ.ixZ 41 (rZ.p1Y tZ) λh=>NS 111110221211012210210 (sf [] [(11,iG h)]) [hc (el b.1),hc (el a.1),hc (el a.2.1),hc (rO.imm a.1),hc (rO.imm a.2.1),hc (rZ.imm b.1)] 58 (Gb (dg 62 rZ) λv=>cj u [hc (el v),hc (el a.1),hc (el a.2.1),hc (rO.imm a.1),hc (rO.imm a.2.1),hc (rZ.imm v)]) (cj u [hc (el b.1),hc (el a.1),hc (el a.2.1),hc (rO.imm a.1),hc (rO.imm a.2.1),hc (rZ.imm b.1)]) λn=>ak λM w=>kV (λo=>aw [hf 45 (cF (mC gl w) o)]<|aA c0 n [hc (el b.1),hc (el a.1),hc (el a.2.1),hc (rO.imm a.1),hc (rO.imm a.2.1),hc (rZ.imm b.1)]) λo=>ak λN x=>aw [hf 45 (cF (mC gl w) o)]<|kV (λp=>ak λO I=>aw [hq 50 [.agg (aI g),.agg (fU ({v1 with Void:=a.1,Decided:=a.2.1})),iG h] [hc (rO.al a.1),hc (rO.al a.2.1)] (cF (lC gl x) p),hq 56 [.agg (aI g),.agg (fU ({v1 with Void:=a.1,Decided:=a.2.1})),iG a.2.2,iG h] [hc (rO.al a.1),hc (rO.al a.2.1)] (yI gl I)]<|aA c0 n [hc (el b.1),hc (el a.1),hc (el a.2.1),hc (rO.imm a.1),hc (rO.imm a.2.1),hc (rZ.imm b.1)]) λp=>aw [hq 50 [.agg (aI g),.agg (fU ({v1 with Void:=a.1,Decided:=a.2.1})),iG h] [hc (rO.al a.1),hc (rO.al a.2.1)] (cF (lC gl x) p)]<|aA c0 n [hc (el b.1),hc (el a.1),hc (el a.2.1),hc (rO.imm a.1),hc (rO.imm a.2.1),hc (rZ.imm b.1)])<|aA c1 H [hc (rZ.al b.1),hc (el a.1),hc (el a.2.1),hc (rO.imm a.1),hc (rO.imm a.2.1)])<|aA c1 A [hc (rO.al a.1),hc (rO.al a.2.1)]
def tQ(g:Ba)(b:Bp)(a:Dx×Int):Option ((Dx×Int)⊕(Dx)):=
 bif a.2<ah b then((aS b a.2).bind λc=>(aS g.L c).bind λd=>(aS b a.2).bind λe=>(aS g.IDs e).bind λf=>(DM a.1 d f).bind λh=>some (.inl (h,wI (a.2+1))))else(some (.inr a.1))
def zY(g:Ba)(ids:Bb):Option Dx:=
 (AV g.Cards).bind λv1=>(oR g ids).bind λa=>(Sv g a).bind λb=>(AQ (tQ g b) (v1,0)).bind λc=>some c
theorem Jh{g ids}:DG prog gl (zY g ids) 46 [.agg (aI g),aE aj ids] (λr=> .agg (aU r)):=
 cy func46 λK=>BG 10 (DN gl) λv1=>BG 14 (Db gl) λk=>Jt 15 rZ (AY gl) λd=>HU 111101 (λc=>sp [] [(4,.ref 0 0),(5,.ref 1 0)] [ob 0 101 (bF [0,1,2,3,5] (aU eY)),ob 1 101 (aU c)] 2) (λa=>sp [] [(2,.ref 0 0),(4,.ref 1 0),(5,.ref 2 0),(6,aE cZ d),(7,iG a.2)] [ob 0 33 (aI g),ob 1 101 (bF [0,1,2,3,5] (aU eY)),ob 2 101 (aU a.1)] 3) [] (λc=>rv K) λa k11 b=>aF 19 (CC 27 rZ.ixZ 28 (rZ.p1Y tZ) λe=>CC 29 eJ.ixZ 30 (eJ.ptZ GN) λf=>CC 35 rZ.ixZ 36 (rZ.p1Y tZ) λh=>CC 37 ac.ixZ 38 (ac.ptZ aW) λi=>BG 39 (AU gl) λj=>rb k11)<|aA c1 b []
def lu(a:Dx):Option Bp:=
 (lg a.In).bind λv1=>some v1
theorem Dc{r_}:M1 prog gl (lu r_) 45 [.agg (aU r_)] 3 cZ:=
 gc func45 λK=>ak λv1 e2=>aw [ho 5 [aE cZ r_.In] [] (vH gl e2) (lZ v1)]<|mr c0 K (rZ.imm _)
def qm(b:Bp)(c:Bp)(a:Bp×Int):Option ((Bp×Int)⊕Bp):=
 bif a.2<ah b then((aS b a.2).bind λd=>(fb c d).bind λe=>bif(!e)then((aS b a.2).bind λf=>(aT 8 a.1 ([f]:Bp)).bind λg=>some (.inl (g,wI (a.2+1))))else(some (.inl (a.1,wI (a.2+1)))))else(some (.inr a.1))
def qn(c:Bp)(b:Bp)(a:Bp×Int):Option ((Bp×Int)⊕Bp):=
 bif a.2<ah b then((aS b a.2).bind λd=>(fb c d).bind λe=>bif e then((aS b a.2).bind λf=>(aT 8 a.1 ([f]:Bp)).bind λg=>some (.inl (g,wI (a.2+1))))else(some (.inl (a.1,wI (a.2+1)))))else(some (.inr a.1))
def qo(g:Ba)(o:Bq):Option Bp:=
 (M0 g o.Past).bind λv1=>(qN v1 o.By).bind λi=>(bif 0<i then(some (decide (i<=o.Seq)))else(some false)).bind λk=>bif k then(some [])else((zY g v1).bind λj=>(pV o).bind λa=>(AX j o a).bind λd=>bif d≠0 then(some [])else((DM j o a).bind λe=>(lu e).bind λb=>(jn g v1).bind λc=>(AQ (qn b c) ([],0)).bind λf=>(AQ (qm b c) (f,0)).bind λh=>some h))
theorem GU{g o}:M1 prog gl (qo g o) 170 [.agg (aI g),.agg (aJ o)] 3 cZ:=
 gc func170 λK=>Jt 17 ac (ua gl) λv1=>BG 21 (yF gl) λs=>cN 111100 (sp [] [(2,.ref 0 0),(3,.ref 1 0),(5,aE aj v1),(6,iG s)] [ob 0 33 (aI g),ob 1 65 (aJ o)] 2) []<|cC 111100 (λm=>sf [6] [(29,bG m)]) (λm=>eH [29] (mr c0 K (rZ.imm _))<|BG 32 (Jh gl) λC=>BG 34 (AI gl) λt=>BG 38 (DO gl) λu=>aF 39 (mr c0 K (rZ.imm _))<|BG 43 (AU gl) λv=>Jt 44 rZ (Dc gl) λf=>Jt 47 rZ (Di gl) λh=>HU 1111111111101 (λc=>sk [] [(9,aE cZ f),(10,aE cZ h),(11,.rsl 0 0 c.length)] [ob 0 3 (c.flatMap cZ)] 1) (λa=>sk [] [(9,aE cZ f),(10,aE cZ h),(11,.rsl 0 0 a.1.length),(12,iG a.2)] [ob 0 3 (a.1.flatMap cZ)] 1) [hc (rZ.imm [])] (λc=>HU 11111111111101 (λd=>sp [] [(11,.rsl 0 0 d.length)] [ob 0 3 (d.flatMap cZ)] 1) (λb=>so [] [(11,.rsl 0 0 b.1.length),(13,iG b.2)] [ob 0 3 (b.1.flatMap cZ)] 1) (DL rZ c) (λd=>mr c0 K (rZ.imm _)) λb i n=>aF 70 (CC 76 rZ.ixZ 77 (rZ.p1Y tZ) λw=>BG 78 (DH gl) λx=>aF 79 (CC 83 rZ.ixZ 84 (rZ.p1Y tZ) λy=>Gb (dg 86 rZ) λp=>cj i (DL rZ p))<|cj i (DL rZ b.1))<|aA c1 n (DL rZ b.1)) λa j q=>aF 51 (CC 57 rZ.ixZ 58 (rZ.p1Y tZ) λz=>ak λA k=>kV (λe=>CC 63 rZ.ixZ 64 (rZ.p1Y tZ) λB=>Gb (dg 66 rZ) λr=>aw [hf 59 (cF (DH gl k) e)]<|cj j (DL rZ r)) λe=>aw [hf 59 (cF (DH gl k) e)]<|cj j (DL rZ a.1))<|aA c1 q (DL rZ a.1)) λm l=>aF 23 (rx l)<|rx l
def AE(n:Int)(s1:Int):Option ((Int)⊕(Int)):=
 bif wI (2*s1)<n then(some (.inl (wI (2*s1))))else(some (.inr s1))
def zZ(n:Int):JJ:=
 (AQ (AE n) 1).bind λa=>some a
theorem Ji{n}:DG prog gl (zZ n) 338 [iG n] iG:=
 cy func338 λK=>HU 1110 (λa=>sg [] [(3,iG a)]) (λs1=>sf [] [(3,iG s1)]) [] (λa=>rv K) λs1 k5 b=>aF 7 (rb k5)<|aA c1 b []
def KE:Nat->Bp->Option LQ
 |0,_=>none
 |nn+1,leaves=>
 bif ah leaves=0 then(some [])else(bif ah leaves=1 then(some [leaves])else((zZ (ah leaves)).bind λd=>(tq leaves d).bind λe=>(KE nn e).bind λf=>(aT 24 [leaves] f).bind λg=>(mc leaves d).bind λa=>(KE nn a).bind λb=>(aT 24 g b).bind λc=>some c))
theorem qp:∀(nn:Nat) {leaves:Bp},M1 prog gl (KE nn leaves) 274 [aE cZ leaves] 22 Jc
 |0,_=>λ_ h=>by cases h
 |nn+1,leaves=>gc func274 λK=>aF 7 (mr c0 K (nH.imm _))<|aF 12 (mr c0 K (nH.imm _))<|ak λg e4=>ak λi e6=>ak λj e8=>ak λk a=>ak λd b=>ak λe c=>ak λf e16=>aw [hf 16 (Ji gl e4),AH 20 (rZ.preZI e6),hf 21 ((qp nn e8).fn nH.sz (nH.len _) (nH.imm _)),eu 22 nH a,AH 26 (rZ.sufZI b),hf 27 ((qp nn c).fn nH.sz (nH.len _) (nH.imm _)),eu 28 nH e16]<|mr c0 K (nH.imm _)
def U2(a:Bp):Option LQ:=KE (a.length+1) a
theorem Jj{leaves}:M1 prog gl (U2 leaves) 274 [aE cZ leaves] 22 Jc:=qp gl _
def AF(device:Int)(v1:LQ)(s3:LQ×Int):Option ((LQ×Int)⊕LQ):=
 bif 0<=s3.2 then((aS v1 s3.2).bind λa=>(fb a device).bind λb=>bif b then((aS v1 s3.2).bind λc=>(aT 24 s3.1 [c]).bind λd=>some (.inl (d,wI (s3.2-1))))else(some (.inl (s3.1,wI (s3.2-1)))))else(some (.inr s3.1))
def N4(a:Bp)(device:Int):Option LQ:=
 (U2 a).bind λv1=>(AQ (AF device v1) ([],wI ((ah v1)-1))).bind λb=>some b
theorem Jl{leaves device}:M1 prog gl (N4 leaves device) 171 [aE cZ leaves,iG device] 22 Jc:=
 gc func171 λK=>Jt 9 nH (Jj gl) λv1=>HU 111101 (λb=>sp [] [(6,.rsl 0 0 b.length)] [ob 0 22 (b.flatMap Jc)] 1) (λs3=>so [0] [(5,aE Jc v1),(6,.rsl 0 0 s3.1.length),(7,iG s3.2)] [ob 0 22 (s3.1.flatMap Jc)] 1) [hc (nH.imm [])] (λb=>mr c0 K (nH.imm _)) λs3 d k6=>aF 14 (CC 19 nH.ixZ 20 (nH.p1Y Vs) λe=>ak λf e16=>kV (λa=>CC 26 nH.ixZ 27 (nH.p1Y Vs) λg=>Gb (dg 29 nH) λc=>aw [hf 22 (cF (DH gl e16) a)]<|cj d (DL nH c)) λa=>aw [hf 22 (cF (DH gl e16) a)]<|cj d (DL nH s3.1))<|aA c1 k6 (DL nH s3.1)
def jm(g:Ba)(o:Bq):Option LQ:=
 (E7 o.Kind).bind λv1=>bif(!v1)then(some [])else((qo g o).bind λa=>(fb a o.By).bind λb=>bif(!b)then(some [])else((N4 a o.By).bind λc=>some c))
theorem E6{g o}:M1 prog gl (jm g o) 100 [.agg (aI g),.agg (aJ o)] 22 Jc:=
 gc func100 λK=>BG 9 (N5 gl) λv1=>aF 11 (mr c0 K (nH.imm _))<|Jt 14 rZ (GU gl) λd=>BG 18 (DH gl) λe=>aF 19 (mr c0 K (nH.imm _))<|ak λb a=>aw [hz 23 [] (Vo (c:=2) aH (Jl gl a) (eB aH) (nH.imm b))]<|mr c0 K (nH.imm _)
def lw(g:Ba×Int)(b:Int)(c:Bool)(a:List Fm×Int):Option ((List Fm×Int)⊕(List Fm)):=
 (bif a.2<b then(bif c then(some (decide (a.2<5)))else(some false))else(some false)).bind λd=>bif d then(((aT 32 a.1 [(⟨wU (wI ((wI (1000+(wI (10*g.2))))+a.2)),[]⟩:Fm)]).bind λe=>some e:Option (List Fm)).bind λf=>some (.inl (f,wI (a.2+1))))else(some (.inr a.1))
def ly(l:Bp)(most:Int)(a:Ba×Int):Option ((Ba×Int)⊕(Ba)):=
 (bif a.2<most then(bif a.2<4 then(some true)else(some (decide (wI (2*a.2)<ah l))))else(some false)).bind λf=>bif f then((bif wI (2*a.2)<ah l then((aS l (wI (2*a.2))).bind λg=>some g)else(some 0)).bind λh=>(bif wI ((wI (2*a.2))+1)<ah l then((aS l (wI ((wI (2*a.2))+1))).bind λi=>some i)else(some 0)).bind λc=>(sd a.1 h c).bind λb=>(jm a.1 ({b with Path:=[]})).bind λd=>(iq c 31).bind λj=>(bif j=30 then(some (wI ((ah d)+1)))else(some (ah d))).bind λk=>(E7 b.Kind).bind λm=>(AQ (lw a k m) ([],0)).bind λn=>(nR ({b with Path:=n})).bind λo=>(AO a.1 o).bind λe=>bif e.2=0 then(some (.inl (e.1,wI (a.2+1))))else(some (.inl (a.1,wI (a.2+1)))))else(some (.inr a.1))
def vq(l:Bp)(most:Int):Option Ba:=
 (r8).bind λv1=>(ql v1).bind λa=>(Jf a).bind λb=>(AQ (ly l most) (b,0)).bind λc=>some c
theorem Jm{l most}:DG prog gl (vq l most) 35 [aE cZ l,iG most] (λr=> .agg (aI r)):=
 cy func35 λK=>Jt 15 rZ (E9 gl) λv1=>Jt 16 bT (GQ gl) λE=>BG 17 (M8 gl) λF=>HU 11101 (λz=>sp [] [(4,.ref 0 0),(5,.ref 1 0)] [ob 0 33 (bF [0,1,2,3,4] (aI xm)),ob 1 33 (aI z)] 2) (λc=>so [] [(4,.ref 0 0),(5,.ref 1 0),(6,iG c.2)] [ob 0 33 (bF [0,1,2,3,4] (aI xm)),ob 1 33 (aI c.1)] 2) [] (λz=>rv K) λc k11 q=>NS 111012200 (sf [] []) [] 31 (cN 11101221021101 (sf [31] [(7,iG 0),(8,iG 0),(38,bG (decide (wI (2*c.2)<ah l)))]) []<|cC 11101221021101 (λe=>sf [38] [(7,iG e)]) (λe=>cN 111012210211101 (sf [] [(49,bG (decide (wI ((wI (2*c.2))+1)<ah l)))]) []<|cC 111012210211101 (λf=>sf [49] [(8,iG f)]) (λf=>BG 59 (Jy gl) λa=>ak λs t=>BG 65 (iL gl) λu=>aw [hf 62 (UY [.agg (aI c.1),.agg (bF [9] (aJ ({a with Path:=[]})))] (nH.fo (E6 gl t)))]<|cN 111012210211111101 (so [7,8] [(9,.ref 2 0),(10,iG (ah s)),(66,bG (decide (u=30)))] [ob 2 65 (bF [9] (aJ ({a with Path:=[]})))] 3) []<|cC 111012210211111101 (λg=>sf [66] [(10,iG g)]) (λg=>BG 71 (N5 gl) λv=>HU 11101221021111111101 (λj=>so [10] [] [ob 2 65 (aJ ({a with Path:=j}))] 3) (λb=>so [] [(11,bG v),(12,iG b.2)] [ob 2 65 [iG a.By,iG a.Seq,iG a.Kind,iG a.At,aE aj a.Past,iG a.Device,iG a.Old,iG a.Member,iG a.Role,.rsl 3 0 b.1.length,iG a.Epoch.By,iG a.Epoch.Seq,uG a.Epoch.Sum,iG a.N,aE cY a.Body,aE cW a.Refs,iG a.Of.By,iG a.Of.Seq,uG a.Of.Sum,aE cZ a.Guards,iG a.Need,iG a.Wait,aE cz a.Boxes,uG a.Pub,aE bp a.Hist,uG a.Sig.R,uG a.Sig.S],ob 3 109 (b.1.flatMap bY)] 4) [hc (bZ.imm [])] (λj=>BG 99 (E8 gl) λA=>BG 100 (M9 gl) λB=>aF 104 (rb k11)<|rb k11) λb w x=>NS 111012210211111111012200 (sf [] []) (DL bZ b.1) 81 (cN 1110122102111111110122102 (sf [81] []) (DL bZ b.1)<|cC 1110122102111111110122102 (λd=>so [] [] [ob 2 65 [iG a.By,iG a.Seq,iG a.Kind,iG a.At,aE aj a.Past,iG a.Device,iG a.Old,iG a.Member,iG a.Role,.rsl 3 0 d.length,iG a.Epoch.By,iG a.Epoch.Seq,uG a.Epoch.Sum,iG a.N,aE cY a.Body,aE cW a.Refs,iG a.Of.By,iG a.Of.Seq,uG a.Of.Sum,aE cZ a.Guards,iG a.Need,iG a.Wait,aE cz a.Boxes,uG a.Pub,aE bp a.Hist,uG a.Sig.R,uG a.Sig.S],ob 3 109 (d.flatMap bY)] 4) (λd=>cj w (DL bZ d)) λd y=>ak λk m=>aw [AH 91 (C8 (wI ((wI (1000+(wI (10*c.2))))+b.2))),Tv 94 bZ m [uG (wU (wI ((wI (1000+(wI (10*c.2))))+b.2))),Iy] rfl]<|aA c0 y [hc (el k),ZV bZ m [uG (wU (wI ((wI (1000+(wI (10*c.2))))+b.2))),Iy]] (kd:=[(3,.app (b.1.flatMap bY) [uG (wU (wI ((wI (1000+(wI (10*c.2))))+b.2))),Iy] (bY (⟨wU (wI ((wI (1000+(wI (10*c.2))))+b.2)),[]⟩:Fm)) (k.flatMap bY))])) (aA c1 x [hc (bZ.al b.1)]) λh=>aF 74 (aF 77 (aA c0 h (DL bZ b.1))<|aA c0 h (DL bZ b.1))<|aA c0 h (DL bZ b.1)) λg n=>eH [66] (rx n)<|rx n) λf o=>eH [49] (CC 54 rZ.ixZ 55 (rZ.p1Y tZ) λC=>rx o)<|rx o) λe p=>eH [38] (CC 42 rZ.ixZ 43 (rZ.p1Y tZ) λD=>rx p)<|rx p) (aA c1 q []) λi=>aF 20 (aF 23 (rx i)<|rx i)<|rx i
end
section
set_option maxHeartbeats 2000000
attribute [local irreducible] Tr dz Gp
def Ni(g:Ba)(v1:Bb)(s3:Bb×Int):Option ((Bb×Int)⊕Bb):=
 bif s3.2<ah v1 then((aS v1 s3.2).bind λc=>(fC g c).bind λa=>bif a<0 then(some (.inl (s3.1,wI (s3.2+1))))else((aS g.L a).bind λd=>(jm g d).bind λb=>(bif 0<ah b then((aS g.L a).bind λe=>some (decide (ah b=ah e.Path)))else(some false)).bind λf=>bif f then((aS v1 s3.2).bind λh=>(aT 24 s3.1 [h]).bind λi=>some (.inl (i,wI (s3.2+1))))else(some (.inl (s3.1,wI (s3.2+1))))))else(some (.inr s3.1))
def Sd(g:Ba)(ids:Bb):Option Bb:=
 (n8 g ids).bind λv1=>(AQ (Ni g v1) ([],0)).bind λa=>some a
def Aac(g:Ba)(commit:Ab):Option LQ:=
 (fC g commit).bind λv1=>bif v1<0 then(some [])else((aS g.L v1).bind λa=>(jm g a).bind λb=>some b)
end
structure Aj where
 commit:Ab
 n:Int
 deriving DecidableEq
structure Akz where
 device:Int
 keys:FM Aj Nat
structure Alv where
 b:CY
def FR(x:JJ):Int:=x.getD 0
theorem H7(m:I1)(k:Ab):∀σ,bL prog σ 131 true (FM.g ga iG m) (.agg (aj k))=some (.tup [iG (FR (m.get k)),bG (m.get k).isSome]):=FM.look (et:=3) jt aH aH m k rfl
structure ON where
 a0:Nat
 a1:Nat
 a2:Nat
 a3:Nat
 deriving DecidableEq
def FSq(x:ON):Bn:=[uG x.a0,uG x.a1,uG x.a2,uG x.a3]
theorem aap:fg prog 136=some true:=aH
theorem aaq:bw prog 136=some 4:=aH
structure Dd where
 o:Bq
 id:Ab
 past:ON
 level:Int
def d7(x:Dd):Bn:=[iG x.o.By,iG x.o.Seq,iG x.o.Kind,iG x.o.At,aE aj x.o.Past,iG x.o.Device,iG x.o.Old,iG x.o.Member,iG x.o.Role,aE bY x.o.Path,iG x.o.Epoch.By,iG x.o.Epoch.Seq,uG x.o.Epoch.Sum,iG x.o.N,aE cY x.o.Body,aE cW x.o.Refs,iG x.o.Of.By,iG x.o.Of.Seq,uG x.o.Of.Sum,aE cZ x.o.Guards,iG x.o.Need,iG x.o.Wait,aE cz x.o.Boxes,uG x.o.Pub,aE bp x.o.Hist,uG x.o.Sig.R,uG x.o.Sig.S,iG x.id.By,iG x.id.Seq,uG x.id.Sum,uG x.past.a0,uG x.past.a1,uG x.past.a2,uG x.past.a3,iG x.level]
structure Az where
 cards:Mj
 at_:I1
 nodes:List Dd
def Ag(x:Az):Bn:=[aE bv x.cards,FM.g ga iG x.at_,aE d7 x.nodes]
theorem az:A3 prog 132 138 35 d7:=⟨aH,aH,Cd,λ_=>rfl,λ_=>rfl⟩
structure Aa4 where
 Graph:Az
def Nr(x:Aa4):Bn:=[.ptr (Ag x.Graph) 0]
structure Bh where
 Device:Int
 Seq:Int
 deriving DecidableEq
def Bv(x:Bh):Bn:=[iG x.Device,iG x.Seq]
theorem Hj:fg prog 303=some true:=aH
def DV(x:Option DQ):DQ:=x.getD ⟨0,0,0,0,0⟩
theorem Aa5(m:FM Int DQ)(k:Int):∀σ,bL prog σ 183 false (FM.g Jo (λx=> .agg (bv x)) m) (iG k)=some ((λx=> .agg (bv x)) (DV (m.get k))):=FM.look1 (et:=145) OY aH aH m k rfl
def EQ(x:Fl):Bool:=x.getD false
theorem QK(m:FM Int Bool)(k:Int):∀σ,bL prog σ 87 false (FM.g Jo bG m) (iG k)=some (bG (EQ (m.get k))):=FM.look1 (et:=4) OY aH aH m k rfl
structure C6 where
 by_:Int
 device:Int
 deriving DecidableEq
def Nh(x:C6):Bn:=[iG x.by_,iG x.device]
def Hk(x:C6):List Value:=[.int .i64 x.by_,.int .i64 x.device]
theorem UJ(d:Nat)(i j:C6):bt prog (Op.equalIn (d+3) 267 (.agg (Hk i).toArray) (.agg (Hk j).toArray))=some (decide (i=j)):=by obtain⟨a0,a1⟩:=i;obtain⟨b0,b1⟩:=j;unfold Hk;rw[xV (fs:= #[⟨ "by",3,0,false, "", "huddle/roll",0⟩,⟨ "device",3,1,false, "", "huddle/roll",8⟩]) aH aH];simp only[Array.toList];rw[uJ (k:= .i64) (k':= .i64) (a:=a0) (b:=b0) Cd aH aH aH];rw[uJ (k:= .i64) (k':= .i64) (a:=a1) (b:=b1) Cd aH aH aH];simp only[C6.mk.injEq];by_cases h0:a0=b0<;>by_cases h1:a1=b1<;>simp[h0,h1,Op.eqFields,bz]
def B5(x:C6):Value:= .agg (Hk x).toArray
theorem KY:LX prog 267 B5:=Qw (d:= .struct #[⟨ "by",3,0,false, "", "huddle/roll",0⟩,⟨ "device",3,1,false, "", "huddle/roll",8⟩]) aH (λb k=>by cases b<;>(show _=_;kernel_rfl)) (λa b=>rfl) (λa b=>UJ 9997 a b)
def LW(x:JJ):Int:=x.getD 0
theorem SB(m:FM C6 Int)(k:C6):∀σ,bL prog σ 261 true (FM.g B5 iG m) (.agg (Nh k))=some (.tup [iG (LW (m.get k)),bG (m.get k).isSome]):=FM.look (et:=3) KY aH aH m k rfl
structure CD where
 id:Ab
 guards:Bp
 need:Int
 wait:Int
 vouches:FM C6 Int
 objected:Bool
 last:Int
def Pu(x:CD):Bn:=[iG x.id.By,iG x.id.Seq,uG x.id.Sum,aE cZ x.guards,iG x.need,iG x.wait,FM.g B5 iG x.vouches,bG x.objected,iG x.last]
structure AB where
 role:Int
 guard:Option CD
def Fv(x:AB):Bn:=[iG x.role,npG Pu x.guard]
structure Ad where
 cards:FM Int DQ
 in_:FM Int Bool
 was:FM Int Bool
 members:FM Int AB
 back:Int
def CM(x:Ad):Bn:=[FM.g Jo (λx=> .agg (bv x)) x.cards,FM.g Jo bG x.in_,FM.g Jo bG x.was,FM.g Jo (λx=> .ptr (Fv x) 0) x.members,iG x.back]
def A7(x:Fl):Bool:=x.getD false
theorem SC(m:FM Ab Bool)(k:Ab):∀σ,bL prog σ 346 false (FM.g ga bG m) (.agg (aj k))=some (bG (A7 (m.get k))):=FM.look1 (et:=4) jt aH aH m k rfl
structure Bc where
 g:Az
 row:Bb
 void:FM Ab Bool
 fork:FM Ab Bool
def BX(x:Bc):Bn:=[.ptr (Ag x.g) 0,aE aj x.row,FM.g ga bG x.void,FM.g ga bG x.fork]
theorem Bi:A3 prog 301 303 2 Bv:=⟨aH,aH,Cd,λ_=>rfl,λ_=>rfl⟩
abbrev IX:=List Dd
section
set_option maxHeartbeats 2000000
attribute [local irreducible] Tr dz Gp
def fm(a:Bp)(s1:Int):Option ((Int)⊕(Unit⊕Int)):=
 bif s1<ah a then((aS a s1).bind λb=>bif b≠0 then(some (.inr (.inr b)))else(some (.inl (wI (s1+1)))))else(some (.inr (.inl ())))
def iy(a:Bp):JJ:=
 (AQ (fm a) 0).bind λb=>ma b (λc=>some 0) (λq=>some q)
theorem FT{vals}:DG prog gl (iy vals) 219 [aE cZ vals] iG:=
 cy func219 λK=>O0 11101 (λa=>sg [] [(3,iG 0)]) (λs1=>sg [] [(3,iG 0),(6,aE cZ vals),(7,iG (ah vals)),(8,iG s1)]) [] K (λa=>rv K) λs1 k5 b k6=>aF 9 (CC 10 rZ.ixZ 11 (rZ.p1Y tZ) λc=>aF 14 (aP c3 k6 [])<|rb k5)<|aA c2 b []
def Fw(a:Int):Fl:=
 some (decide (a≠a))
theorem dw{x_}:DG prog gl (Fw x_) 312 [iG x_] bG:=
 cy func312 λK=>rv K
def f8(a:Int)(y:Int):JJ:=
 (Fw a).bind λv1=>(Fw y).bind λb=>bif v1 then(bif b then(some 0)else(some (-1)))else(bif b then(some 1)else(bif a<y then(some (-1))else(bif y<a then(some 1)else(some 0))))
theorem mQ{x_ y}:DG prog gl (f8 x_ y) 220 [iG x_,iG y] iG:=
 cy func220 λK=>ak λv1 e2=>ak λc e4=>aw [hf 10 (dw gl e4)]<|kV (λb5=>aw [hf 8 (cF (dw gl e2) b5)]<|kV (λa=>aw [hf 10 (cF (dw gl e4) a)]<|rv K) λa=>aw [hf 10 (cF (dw gl e4) a)]<|rv K) λb5=>aw [hf 8 (cF (dw gl e2) b5)]<|kV (λb=>aw [hf 10 (cF (dw gl e4) b)]<|rv K) λb=>aw [hf 10 (cF (dw gl e4) b)]<|aF 16 (rv K)<|aF 19 (rv K)<|rv K
def g9(a:Nat):Fl:=
 some (decide ((a:Int)≠(a:Int)))
theorem cH{x_}:DG prog gl (g9 x_) 320 [uG x_] bG:=
 cy func320 λK=>rv K
def fQ(a:Nat)(y:Nat):JJ:=
 (g9 a).bind λv1=>(g9 y).bind λb=>bif v1 then(bif b then(some 0)else(some (-1)))else(bif b then(some 1)else(bif (a:Int)<(y:Int)then(some (-1))else(bif (y:Int)<(a:Int)then(some 1)else(some 0))))
theorem rG{x_ y}:DG prog gl (fQ x_ y) 232 [uG x_,uG y] iG:=
 cy func232 λK=>ak λv1 e2=>ak λc e4=>aw [hf 10 (cH gl e4)]<|kV (λb5=>aw [hf 8 (cF (cH gl e2) b5)]<|kV (λa=>aw [hf 10 (cF (cH gl e4) a)]<|rv K) λa=>aw [hf 10 (cF (cH gl e4) a)]<|rv K) λb5=>aw [hf 8 (cF (cH gl e2) b5)]<|kV (λb=>aw [hf 10 (cF (cH gl e4) b)]<|rv K) λb=>aw [hf 10 (cF (cH gl e4) b)]<|aF 16 (rv K)<|aF 19 (rv K)<|rv K
def pE(a:Ab)(b:Ab):Fl:=
 (f8 a.By b.By).bind λv1=>(f8 a.Seq b.Seq).bind λc=>(fQ a.Sum b.Sum).bind λd=>(iy ([v1,c,d]:Bp)).bind λe=>some (decide (e<0))
theorem Hs{a b}:DG prog gl (pE a b) 132 [.agg (aj a),.agg (aj b)] bG:=
 cy func132 λK=>BG 9 (mQ gl) λv1=>BG 14 (mQ gl) λc=>BG 19 (rG gl) λd=>ak λe e8=>aw [hq 21 [aE cZ ([v1,c,d]:Bp)] [hc (rZ.al ([v1,c,d]:Bp))] (FT gl e8)]<|rv K
def wz(a:Aj)(b:Aj):JJ:=
 (pE a.commit b.commit).bind λv1=>bif v1 then(some (-1))else((pE b.commit a.commit).bind λc=>bif c then(some 1)else(some (wI (a.n-b.n))))
def Fi(g:Az)(a:Ab):JJ:=
 bif(g.at_.get a).isSome then((aS g.nodes (FR (g.at_.get a))).bind λb=>some b.level)else(some 0)
theorem Hw{g id_}:DG prog gl (Fi g id_) 37 [.ptr (Ag g) 0,.agg (aj id_)] iG:=
 cy func37 λK=>aw [hm 13 (H7 g.at_ id_)]<|aF 15 (CC 22 az.ixZ 24 (az.fdY tZ 34) λa=>rv K)<|rv K
def iX(s:ON)(n:Int):Fl:=
 (aS ([s.a0,s.a1,s.a2,s.a3]:Br) (wI (Int.tdiv n 64))).bind λa=>(wJ (Int.tmod n 64)).bind λb=>some (decide (((bD (Jq a b) 1:Nat):Int)=((1:Nat):Int)))
def JX{α:Type}(s:List α)(f:α->Fl)(s1:Int):Option ((Int)⊕(Unit⊕Int)):=
 bif s1<ah s then((aS s s1).bind λa=>(f a).bind λb=>bif b then(some (.inr (.inr s1)))else(some (.inl (wI (s1+1)))))else(some (.inr (.inl ())))
def Y0{α:Type}(s:List α)(f:α->Fl):JJ:=
 (AQ (JX s f) 0).bind λa=>ma a (λb=>some (-1)) (λq=>some q)
def Ab8(P:Bu)(gl:CB){α:Type}(c a:α->Bn)(F:FuncId):Prop:=∀⦃s:List α⦄ ⦃f:α->Fl⦄ ⦃fi_f:FuncId⦄ ⦃fa_f fc_f:Bn⦄,Ud P gl fi_f fa_f fc_f a (λx:Bool=>bG x) f->DG P gl (Y0 s f) F [aE c s,.clo (.func fi_f) fa_f fc_f] iG
theorem pF:Ab8 prog gl cZ (λx=>[iG x]) 103:=λs f fi_f fa_f fc_f a=>
 cy func103 λK=>O0 1101 (λg=>sg [] []) (λs1=>sf [] [(7,iG (ah s)),(8,iG s1)]) [hc (a.im)] K (λg=>rv K) λs1 k5 h k6=>aF 9 (CC 14 rZ.ixZ 15 (rZ.p1Y tZ) λd=>ak λi e=>kV (λb=>aw [hz 16 [] (cS (a.cs (c:=0) e (aY (aG 20 (iG d) aH) (bf))) b)]<|aP c3 k6 []) λb=>aw [hz 16 [] (cS (a.cs (c:=0) e (aY (aG 20 (iG d) aH) (bf))) b)]<|cj k5 [hc (a.im)])<|aA c2 h []
def Aa6{α:Type}(s:List α)(f:α->Fl):Fl:=
 (Y0 s f).bind λv1=>some (decide (0<=v1))
def Ab9(P:Bu)(gl:CB){α:Type}(c a:α->Bn)(F:FuncId):Prop:=∀⦃s:List α⦄ ⦃f:α->Fl⦄ ⦃fi_f:FuncId⦄ ⦃fa_f fc_f:Bn⦄,Ud P gl fi_f fa_f fc_f a (λx:Bool=>bG x) f->DG P gl (Aa6 s f) F [aE c s,.clo (.func fi_f) fa_f fc_f] bG
theorem ml:Ab9 prog gl cZ (λx=>[iG x]) 39:=λs f fi_f fa_f fc_f a=>
 cy func39 λK=>ak λv1 e2=>aw [hz 7 [] (jf (c:=0) aH (pF gl (a) e2) (aY (aG 20 (aE cZ s) aH) (aY (a.im) (bf))))]<|rv K
def cU(s:Bb):Option Bb:=aT 24 [] s
theorem jY{s:Bb}:M1 prog gl (cU s) 125 [aE aj s] 25 aj:=λr h=>by
 unfold cU at h;refine OW func125 ?_;refine pO 1100 (s0 8 gl [(0,aE aj s)] [] 0 0) [] [] ?_;refine IA 0 3 4 29 25 rfl (D5 aH) (D5 aH) λb hb=>?_;cases b
 .exact EI [eu 7 ac h] (ac.imm _)
 .obtain rfl:=ac.isNil (hb rfl);obtain rfl:=mV h;exact EI [] (ac.imm [])
def Fj(s:CY):Option CY:=aT 1 [] s
theorem tj{s:CY}:M1 prog gl (Fj s) 151 [aE cY s] 5 cY:=λr h=>by
 unfold Fj at h;refine OW func151 ?_;refine pO 1100 (s0 8 gl [(0,aE cY s)] [] 0 0) [] [] ?_;refine IA 0 3 4 58 5 rfl (D5 aH) (D5 aH) λb hb=>?_;cases b
 .exact EI [eu 7 rY h] (rY.imm _)
 .obtain rfl:=rY.isNil (hb rfl);obtain rfl:=mV h;exact EI [] (rY.imm [])
def dK(s:Br):Option Br:=aT 8 [] s
theorem p9{s:Br}:M1 prog gl (dK s) 152 [aE cW s] 23 cW:=λr h=>by
 unfold dK at h;refine OW func152 ?_;refine pO 1100 (s0 8 gl [(0,aE cW s)] [] 0 0) [] [] ?_;refine IA 0 3 4 59 23 rfl (D5 aH) (D5 aH) λb hb=>?_;cases b
 .exact EI [eu 7 rW h] (rW.imm _)
 .obtain rfl:=rW.isNil (hb rfl);obtain rfl:=mV h;exact EI [] (rW.imm [])
def fF(s:Bp):Option Bp:=aT 8 [] s
theorem uK{s:Bp}:M1 prog gl (fF s) 153 [aE cZ s] 3 cZ:=λr h=>by
 unfold fF at h;refine OW func153 ?_;refine pO 1100 (s0 8 gl [(0,aE cZ s)] [] 0 0) [] [] ?_;refine IA 0 3 4 22 3 rfl (D5 aH) (D5 aH) λb hb=>?_;cases b
 .exact EI [eu 7 rZ h] (rZ.imm _)
 .obtain rfl:=rZ.isNil (hb rfl);obtain rfl:=mV h;exact EI [] (rZ.imm [])
def dx(s:List Ha):Option (List Ha):=aT 32 [] s
theorem uM{s:List Ha}:M1 prog gl (dx s) 154 [aE cz s] 235 cz:=λr h=>by
 unfold dx at h;refine OW func154 ?_;refine pO 1100 (s0 8 gl [(0,aE cz s)] [] 0 0) [] [] ?_;refine IA 0 3 4 60 235 rfl (D5 aH) (D5 aH) λb hb=>?_;cases b
 .exact EI [eu 7 EO h] (EO.imm _)
 .obtain rfl:=EO.isNil (hb rfl);obtain rfl:=mV h;exact EI [] (EO.imm [])
def gt(s:List Fm):Option (List Fm):=aT 32 [] s
theorem tk{s:List Fm}:M1 prog gl (gt s) 155 [aE bY s] 109 bY:=λr h=>by
 unfold gt at h;refine OW func155 ?_;refine pO 1100 (s0 8 gl [(0,aE bY s)] [] 0 0) [] [] ?_;refine IA 0 3 4 57 109 rfl (D5 aH) (D5 aH) λb hb=>?_;cases b
 .exact EI [eu 7 bZ h] (bZ.imm _)
 .obtain rfl:=bZ.isNil (hb rfl);obtain rfl:=mV h;exact EI [] (bZ.imm [])
def fu(s:List DR):Option (List DR):=aT 48 [] s
theorem qb{s:List DR}:M1 prog gl (fu s) 156 [aE bp s] 227 bp:=λr h=>by
 unfold fu at h;refine OW func156 ?_;refine pO 1100 (s0 8 gl [(0,aE bp s)] [] 0 0) [] [] ?_;refine IA 0 3 4 61 227 rfl (D5 aH) (D5 aH) λb hb=>?_;cases b
 .exact EI [eu 7 bH h] (bH.imm _)
 .obtain rfl:=bH.isNil (hb rfl);obtain rfl:=mV h;exact EI [] (bH.imm [])
def jC(b:List DR)(a:List DR×Int):Option ((List DR×Int)⊕(List DR)):=
 bif a.2<ah b then((aS a.1 a.2).bind λc=>(Fj c.Body).bind λd=>(aS a.1 a.2).bind λe=>(ji a.1 a.2 ({e with Body:=d})).bind λf=>some (.inl (f,wI (a.2+1))))else(some (.inr a.1))
def jD(b:List Fm)(a:List Fm×Int):Option ((List Fm×Int)⊕(List Fm)):=
 bif a.2<ah b then((aS a.1 a.2).bind λc=>(dx c.Boxes).bind λd=>(aS a.1 a.2).bind λe=>(ji a.1 a.2 ({e with Boxes:=d})).bind λf=>some (.inl (f,wI (a.2+1))))else(some (.inr a.1))
def pG(o:Bq):Option Bq:=
 (cU o.Past).bind λv1=>(Fj o.Body).bind λe=>(dK o.Refs).bind λf=>(fF o.Guards).bind λg=>(dx o.Boxes).bind λh=>(gt o.Path).bind λa=>(fu o.Hist).bind λb=>(AQ (jD a) (a,0)).bind λc=>(AQ (jC b) (b,0)).bind λd=>some ({o with Past:=v1,Path:=c,Body:=e,Refs:=f,Guards:=g,Boxes:=h,Hist:=d})
theorem Ds{o}:DG prog gl (pG o) 76 [.agg (aJ o)] (λr=> .agg (aJ r)):=
 cy func76 λK=>Jt 7 ac (jY gl) λv1=>Jt 10 rY (tj gl) λl=>Jt 13 rW (p9 gl) λm=>Jt 16 rZ (uK gl) λn=>Jt 19 EO (uM gl) λp=>ak λe q=>ak λa s=>aw [hz 27 [] (Vo (c:=2) aH (tk gl q) (eB aH) (bZ.imm e)),hz 30 [] (Vo (c:=3) aH (qb gl s) (eB aH) (bH.imm a))]<|HU 111101 (λf=>sp [] [(1,.ref 0 0),(2,.ref 2 0)] [ob 0 65 [iG o.By,iG o.Seq,iG o.Kind,iG o.At,aE aj v1,iG o.Device,iG o.Old,iG o.Member,iG o.Role,aE bY f,iG o.Epoch.By,iG o.Epoch.Seq,uG o.Epoch.Sum,iG o.N,aE cY l,aE cW m,iG o.Of.By,iG o.Of.Seq,uG o.Of.Sum,aE cZ n,iG o.Need,iG o.Wait,aE cz p,uG o.Pub,.rsl 1 0 a.length,uG o.Sig.R,uG o.Sig.S],ob 1 227 (a.flatMap bp),ob 2 65 (bF [4,9,14,15,19,22,24] (aJ ip))] 3) (λb=>sp [] [(1,.ref 0 0),(2,.ref 3 0),(35,iG (ah e)),(36,iG b.2)] [ob 0 65 [iG o.By,iG o.Seq,iG o.Kind,iG o.At,aE aj v1,iG o.Device,iG o.Old,iG o.Member,iG o.Role,.rsl 1 0 b.1.length,iG o.Epoch.By,iG o.Epoch.Seq,uG o.Epoch.Sum,iG o.N,aE cY l,aE cW m,iG o.Of.By,iG o.Of.Seq,uG o.Of.Sum,aE cZ n,iG o.Need,iG o.Wait,aE cz p,uG o.Pub,.rsl 2 0 a.length,uG o.Sig.R,uG o.Sig.S],ob 1 109 (b.1.flatMap bY),ob 2 227 (a.flatMap bp),ob 3 65 (bF [4,9,14,15,19,22,24] (aJ ip))] 4) [hc (el e),hc (el a),hc (bZ.imm e),hc (bH.imm a)] (λf=>HU 1111101 (λi=>sx [] [(2,.ref 1 0)] [ob 0 65 (aJ ({o with Past:=v1,Path:=f,Body:=l,Refs:=m,Guards:=n,Boxes:=p,Hist:=i})),ob 1 65 (bF [4,9,14,15,19,22,24] (aJ ip))] 2) (λd=>so [] [(54,iG (ah a)),(55,iG d.2)] [ob 0 65 [iG o.By,iG o.Seq,iG o.Kind,iG o.At,aE aj v1,iG o.Device,iG o.Old,iG o.Member,iG o.Role,aE bY f,iG o.Epoch.By,iG o.Epoch.Seq,uG o.Epoch.Sum,iG o.N,aE cY l,aE cW m,iG o.Of.By,iG o.Of.Seq,uG o.Of.Sum,aE cZ n,iG o.Need,iG o.Wait,aE cz p,uG o.Pub,.rsl 1 0 d.1.length,uG o.Sig.R,uG o.Sig.S],ob 1 227 (d.1.flatMap bp)] 3) (DL bH a) (λi=>rv K) λd t u=>aF 56 (CC 64 (bH.ixrZ 1) 66 (bH.fd0Y tLY 3) λB=>Jt 67 rY (tj gl) λv=>ak λC w=>ak λj g=>aw [hw 69 (j.flatMap bp) (bH.putF g w 3 1 (gs:=[aE cY v]) rfl Cd rfl),AH 68 (bH.ixsZ 1 g)]<|cj t [hc (hZ g),hc (bH.imm j)])<|aA c1 u [hc (bH.al d.1)]) λb x y=>aF 37 (CC 45 (bZ.ixrZ 1) 47 (bZ.fd0Y E3 1) λD=>Jt 48 EO (uM gl) λz=>ak λE A=>ak λk h=>aw [hw 50 (k.flatMap bY) (bZ.putF h A 1 1 (gs:=[aE cz z]) rfl Cd rfl),AH 49 (bZ.ixsZ 1 h)]<|cj x [hc (hZ h),hc (el a),hc (bZ.imm k),hc (bH.imm a)])<|aA c1 y [hc (bZ.al b.1),hc (el a),hc (bH.imm a)]
def Fk(s:Mj):Option Mj:=aT 40 [] s
theorem tn{s:Mj}:M1 prog gl (Fk s) 172 [aE bv s] 145 bv:=λr h=>by
 unfold Fk at h;refine OW func172 ?_;refine pO 1100 (s0 8 gl [(0,aE bv s)] [] 0 0) [] [] ?_;refine IA 0 3 4 27 145 rfl (D5 aH) (D5 aH) λb hb=>?_;cases b
 .exact EI [eu 7 bT h] (bT.imm _)
 .obtain rfl:=bT.isNil (hb rfl);obtain rfl:=mV h;exact EI [] (bT.imm [])
def KZ(f:Aa4)(a:Ab)(b:Ab):JJ:=
 (pE a b).bind λv1=>(bif v1 then(some (-1))else((pE b a).bind λc=>(bif c then(some 1)else(some 0)).bind λd=>some d)).bind λg=>(Fi f.Graph a).bind λh=>(Fi f.Graph b).bind λi=>(f8 h i).bind λj=>(iy ([j,g]:Bp)).bind λe=>some e
theorem R9{r_ a b}:DG prog gl (KZ r_ a b) 127 [.agg (Nr r_),.agg (aj a),.agg (aj b)] iG:=
 cy func127 λK=>BG 11 (Hs gl) λv1=>cN 111021 (sp [] [(3,.ref 0 0),(4,.ref 1 0),(5,.ref 2 0),(7,iG 0),(8,bG v1)] [ob 0 207 (Nr r_),ob 1 25 (aj a),ob 2 25 (aj b)] 3) []<|cC 111021 (λe=>sf [8] [(7,iG e)]) (λe=>BG 19 (Hw gl) λl=>BG 23 (Hw gl) λm=>BG 24 (mQ gl) λi=>ak λj h=>aw [hq 27 [aE cZ ([i,e]:Bp)] [hc (rZ.al ([i,e]:Bp))] (FT gl h)]<|rv K) λe k13=>eH [8] (rx k13)<|ak λk f=>cC 11102141 (λc=>sf [8] [(7,iG c)]) (λc=>rx k13) λc g=>kV (λd=>aw [hf 15 (cF (Hs gl f) d)]<|rx g) λd=>aw [hf 15 (cF (Hs gl f) d)]<|rx g
def Uw(a:Bh)(b:Bh):JJ:=
 (f8 a.Device b.Device).bind λv1=>some v1
theorem Wz{a b}:DG prog gl (Uw a b) 319 [.agg (Bv a),.agg (Bv b)] iG:=
 cy func319 λK=>BG 9 (mQ gl) λv1=>rv K
end
section
set_option maxHeartbeats 2000000
attribute [local irreducible] Tr dz Gp
theorem gS:Ab8 prog gl aj (λx=>[.agg (aj x)]) 136:=λs f fi_f fa_f fc_f a=>
 cy func136 λK=>O0 1101 (λg=>sg [] []) (λs1=>sf [] [(7,iG (ah s)),(8,iG s1)]) [hc (a.im)] K (λg=>rv K) λs1 k5 h k6=>aF 9 (CC 14 ac.ixZ 15 (ac.ptZ aW) λd=>ak λi e=>kV (λb=>aw [hz 16 [] (cS (a.cs (c:=0) e (aY (aG 20 (.agg (aj d)) aH) (bf))) b)]<|aP c3 k6 []) λb=>aw [hz 16 [] (cS (a.cs (c:=0) e (aY (aG 20 (.agg (aj d)) aH) (bf))) b)]<|cj k5 [hc (a.im)])<|aA c2 h []
def Ux(a:Ad)(device:Int):JJ:=
 some ((DV (a.cards.get device)).Member)
theorem Pv{r_ device}:DG prog gl (Ux r_ device) 178 [.ptr (CM r_) 0,iG device] iG:=
 cy func178 λK=>aw [hm 10 (Aa5 r_.cards device)]<|rv K
def Uy(b:Int)(y:Int):Fl:=
 ((Fw b).bind λc=>bif c then((Fw y).bind λa=>bif(!a)then(some true)else(some (decide (b<y))))else(some (decide (b<y)))).bind λd=>some d
theorem WA{x_ y}:DG prog gl (Uy x_ y) 358 [iG x_,iG y] bG:=
 cy func358 λK=>cN [1,0] (sf [] []) []<|cC [1,0] (λa=>sg [] [(4,bG a)]) (λa=>rv K) λa k5=>ak λd e8=>kV (λb=>BG 9 (dw gl) λc=>aw [hf 6 (cF (dw gl e8) b)]<|aF 11 (rx k5)<|rx k5) λb=>aw [hf 6 (cF (dw gl e8) b)]<|rx k5
def Pw(a:Ad)(device:Int):Fl:=
 ((Ux a device).bind λb=>bif 0<b then(some (!(EQ (a.was.get device))))else(some false)).bind λc=>some c
theorem SD{r_ device}:DG prog gl (Pw r_ device) 179 [.ptr (CM r_) 0,iG device] bG:=
 cy func179 λK=>cN [1,0] (sf [] []) []<|cC [1,0] (λa=>sg [] [(4,bG a)]) (λa=>rv K) λa k5=>BG 7 (Pv gl) λb=>aF 8 (aw [hm 15 (QK r_.was device)]<|rx k5)<|rx k5
def aa8{α:Type}[DecidableEq α](s:List α)(v:α)(s1:Int):Option ((Int)⊕(Unit⊕Int)):=
 bif s1<ah s then((aS s s1).bind λa=>bif v=a then(some (.inr (.inr s1)))else(some (.inl (wI (s1+1)))))else(some (.inr (.inl ())))
def ixT{α:Type}[DecidableEq α](s:List α)(v:α):JJ:=
 (AQ (aa8 s v) 0).bind λa=>ma a (λb=>some (-1)) (λq=>some q)
theorem Sb{s v}:DG prog gl (ixT s v) 137 [aE cZ s,iG v] iG:=
 cy func137 λK=>O0 1101 (λa=>sg [] []) (λs1=>sf [] [(7,iG (ah s)),(8,iG s1)]) [] K (λa=>rv K) λs1 k5 b k6=>aF 9 (CC 14 rZ.ixZ 15 (rZ.p1Y tZ) λc=>aF 16 (aP c3 k6 [])<|rb k5)<|aA c2 b []
def Aca{α:Type}[DecidableEq α](s:List α)(v:α):Fl:=
 (ixT s v).bind λv1=>some (decide (0<=v1))
theorem DD{s v}:DG prog gl (Aca s v) 66 [aE cZ s,iG v] bG:=
 cy func66 λK=>BG 7 (Sb gl) λv1=>rv K
def WE(kind:Int):Fl:=
 (bif kind=3 then(some true)else(bif kind=13 then(some true)else(some (decide (kind=12))))).bind λa=>some a
theorem Y1{kind}:DG prog gl (WE kind) 278 [iG kind] bG:=
 cy func278 λK=>cN [1,0] (sf [] []) []<|cC [1,0] (λa=>sg [] [(2,bG a)]) (λa=>rv K) λa k3=>aF 4 (rx k3)<|aF 8 (rx k3)<|rx k3
def SE(a:Ab)(a1:Bc):Fl:=
 some (A7 (a1.void.get a))
theorem Px{id_ a1}:DG prog gl (SE id_ a1) 279 [.agg (aj id_),.ptr [.ptr (BX a1) 0] 0] bG:=
 cy func279 λK=>aw [hm 9 (SC a1.void id_)]<|rv K
theorem PA{s v}:DG prog gl (ixT s v) 349 [aE aj s,.agg (aj v)] iG:=
 cy func349 λK=>O0 1101 (λc=>sg [] []) (λs1=>so [1] [(3,.ref 0 0),(7,iG (ah s)),(8,iG s1)] [ob 0 25 (aj v)] 1) [] K (λc=>rv K) λs1 k5 d k6=>aF 9 (CC 14 ac.ixZ 15 (ac.ptZ aW) λb=>kV (λa=>aw [hV 16 (cV (dU v b rfl) a)]<|aP c3 k6 []) λa=>aw [hV 16 (cV (dU v b rfl) a)]<|rb k5)<|aA c2 d []
theorem Jb{s v}:DG prog gl (Aca s v) 282 [aE aj s,.agg (aj v)] bG:=
 cy func282 λK=>BG 7 (PA gl) λv1=>rv K
def ij(g:Az)(device:Int)(s1:DQ×Int):Option ((DQ×Int)⊕(DQ⊕(DQ×Bool))):=
 bif s1.2<ah g.cards then((aS g.cards s1.2).bind λa=>bif a.Device=device then(some (.inr (.inr (a,true))))else(some (.inl (s1.1,wI (s1.2+1)))))else(some (.inr (.inl s1.1)))
def hY(g:Az)(device:Int):Option (DQ×Bool):=
 (AQ (ij g device) (⟨0,0,0,0,0⟩,0)).bind λa=>ma a (λb=>some (⟨0,0,0,0,0⟩,false)) (λq=>some q)
theorem uN{g device}:DG prog gl (hY g device) 78 [.ptr (Ag g) 0,iG device] (λr=> .tup [.agg (bv r.1),bG r.2]):=
 cy func78 λK=>O0 1101 (λa=>sp [] [(4,.ref 0 0)] [ob 0 145 (bv a)] 1) (λs1=>so [0] [(4,.ref 0 0),(11,aE bv g.cards),(12,iG (ah g.cards)),(13,iG s1.2)] [ob 0 145 (bv s1.1)] 1) [] K (λa=>rv K) λs1 k5 b k6=>aF 14 (CC 15 bT.ixZ 16 (bT.ptZ E2) λc=>aF 20 (aP c3 k6 [])<|rb k5)<|aA c2 b []
theorem kP:Ab9 prog gl aj (λx=>[.agg (aj x)]) 64:=λs f fi_f fa_f fc_f a=>
 cy func64 λK=>ak λv1 e2=>aw [hz 7 [] (jf (c:=0) aH (gS gl (a) e2) (aY (aG 20 (aE aj s) aH) (aY (a.im) (bf))))]<|rv K
def Kp(a:DQ)(b:DQ):JJ:=
 some (wI (a.Device-b.Device))
theorem Dt{a b}:DG prog gl (Kp a b) 174 [.agg (bv a),.agg (bv b)] iG:=
 cy func174 λK=>rv K
def FV(n:Int)(low:Int)(a:Int):Fl:=
 (bif low<=n then(some (decide (n<=a)))else(some false)).bind λb=>some b
theorem eE{n low a}:DG prog gl (FV n low a) 237 [iG n,iG low,iG a] bG:=
 cy func237 λK=>cN [1,0] (sf [] []) []<|cC [1,0] (λb=>sg [] [(6,bG b)]) (λb=>rv K) λb k3=>aF 9 (rx k3)<|rx k3
def Kq(n:Nat):Fl:=
 some (decide ((n:Int)<((2305843009213693951:Nat):Int)))
theorem Ak{n}:DG prog gl (Kq n) 247 [uG n] bG:=
 cy func247 λK=>rv K
def Al(a:Ab):Fl:=
 ((FV a.By 1 12).bind λd=>bif d then((FV a.Seq 1 2147483647).bind λb=>bif b then((Kq a.Sum).bind λc=>some c)else(some false))else(some false)).bind λe=>some e
theorem pH{id_}:DG prog gl (Al id_) 238 [.agg (aj id_)] bG:=
 cy func238 λK=>cN [1,0] (sp [] [(1,.ref 0 0)] [ob 0 25 (aj id_)] 1) []<|cC [1,0] (λa=>sk [] [(2,bG a)] [] 0) (λa=>rv K) λa k5=>ak λe e8=>kV (λb=>BG 9 (eE gl) λc=>aw [hf 5 (cF (eE gl e8) b)]<|aF 10 (BG 14 (Ak gl) λd=>rx k5)<|rx k5) λb=>aw [hf 5 (cF (eE gl e8) b)]<|rx k5
def rJ(n:Nat):Fl:=
 (bif ((1:Nat):Int)<=(n:Int)then(some (decide ((n:Int)<((2305843009213693951:Nat):Int))))else(some false)).bind λa=>some a
theorem iz{n}:DG prog gl (rJ n) 239 [uG n] bG:=
 cy func239 λK=>cN [1,0] (sf [] []) []<|cC [1,0] (λa=>sg [] [(2,bG a)]) (λa=>rv K) λa k3=>aF 4 (rx k3)<|rx k3
theorem pI:Ab8 prog gl cz (λx=>[.agg (cz x)]) 383:=λs f fi_f fa_f fc_f a=>
 cy func383 λK=>O0 1101 (λg=>sg [] []) (λs1=>sf [] [(7,iG (ah s)),(8,iG s1)]) [hc (a.im)] K (λg=>rv K) λs1 k5 h k6=>aF 9 (CC 14 EO.ixZ 15 (EO.ptZ UL) λd=>ak λi e=>kV (λb=>aw [hz 16 [] (cS (a.cs (c:=0) e (aY (aG 20 (.agg (cz d)) aH) (bf))) b)]<|aP c3 k6 []) λb=>aw [hz 16 [] (cS (a.cs (c:=0) e (aY (aG 20 (.agg (cz d)) aH) (bf))) b)]<|cj k5 [hc (a.im)])<|aA c2 h []
theorem MI:Ab9 prog gl cz (λx=>[.agg (cz x)]) 323:=λs f fi_f fa_f fc_f a=>
 cy func323 λK=>ak λv1 e2=>aw [hz 7 [] (jf (c:=0) aH (pI gl (a) e2) (aY (aG 20 (aE cz s) aH) (aY (a.im) (bf))))]<|rv K
end
section
attribute [local irreducible] Tr dz Gp
section
variable {P:Bu} {α σ X V:Type} {A:List HP} {r:α} [M:Mix P] {fn:Func} {Q:Exit->St->Prop} {Bs:List (St->Prop)} {m:Bool} {p:Br} {st:St}
theorem rdN{step:σ->Option (σ⊕(X⊕V))}{s0:σ}{F:X->Option α}{rs:V->α}{Z:V->Prop}(b:Br)(S:σ->St->St)(O:List HP)(K:∀q,r=rs q->Z q)(h:∀{B:St->Prop} {v:σ⊕(X⊕V)} (s:σ),(∀s',v= .inl s'->B (S s' st))->(∀q,v= .inr (.inr q)->Z q)->RD [] (step s) v (Gp P fn Q (Bs++[B]) false b (S s st)))(hF:∀x,F x=none)(vs:List Bk:=[])(ρ:DF:=[])(kd:List (Nat×Rk):=[])(k:Yy P fn Bs m p b A O vs ρ kd (S s0 st) st:=by exact⟨⟨aH,aH⟩,λ_=>aH⟩):RD A ((AQ step s0).bind λx=>ma x F λq=>some (rs q)) r (Gp P fn Q Bs m p st):=λh0=>by obtain⟨x,e1,h1⟩:=bS h0;refine pN (λs=>S s st) b e1 A O (λB s v hv h5 h4=>h s h5 (λz hz=>?_) hv) vs ρ kd k.1 k.2;have:=h4 _ hz;subst this;exact K z (Bo h1).symm
end
def PC(n:Int)(s1:Int):Option ((Int)⊕(Int)):=
 bif wI (2*s1)<n then(some (.inl (wI (s1*2))))else(some (.inr s1))
def SH(n:Int):JJ:=
 (AQ (PC n) 1).bind λa=>some a
theorem Aba{n}:DG prog gl (SH n) 373 [iG n] iG:=
 cy func373 λK=>HU 1110 (λa=>sg [] [(3,iG a)]) (λs1=>sf [] [(3,iG s1)]) [] (λa=>rv K) λs1 k5 b=>aF 7 (rb k5)<|aA c1 b []
def Ns(a:Bp):Option (Bp×Bp):=
 bif ah a<2 then(some ([],[]))else((SH (ah a)).bind λv2=>(tq a v2).bind λc=>(fF c).bind λd=>(mc a v2).bind λe=>(fF e).bind λb=>some (d,b))
theorem Abb{leaves}:DG prog gl (Ns leaves) 313 [aE cZ leaves] (λr=> .tup [aE cZ r.1,aE cZ r.2]):=
 cy func313 λK=>aF 7 (rv K)<|BG 10 (Aba gl) λv2=>rdv 13 rZ.preZI λb=>Jt 14 rZ (uK gl) λc=>rdv 17 rZ.sufZI λd=>Jt 18 rZ (uK gl) λa=>rv K
def PD(device:Int)(c:Bp×LQ×LQ):Option ((Bp×LQ×LQ)⊕(Unit⊕(LQ×LQ))):=
 (fF c.1).bind λd=>(aT 24 c.2.1 [d]).bind λb=>(Ns c.1).bind λa=>bif ah a.2=0 then(some (.inr (.inr (b,c.2.2))))else((Aca a.1 device).bind λe=>bif e then((aT 24 c.2.2 [a.2]).bind λf=>some (.inl (a.1,b,f)))else((aT 24 c.2.2 [a.1]).bind λg=>some (.inl (a.2,b,g))))
def PE(a:Bp)(device:Int):Option (LQ×LQ):=
 (Aca a device).bind λv1=>bif(!v1)then(some ([],[]))else((AQ (PD device) (a,[],[])).bind λb=>ma b (λc=>none) (λq=>some q))
theorem Abc{leaves device}:DG prog gl (PE leaves device) 221 [aE cZ leaves,iG device] (λr=> .tup [aE Jc r.1,aE Jc r.2]):=
 cy func221 λK=>BG 10 (DD gl) λv1=>aF 11 (rv K)<|rdN 11122 (λb=>so [] [(0,aE cZ b.1),(4,.rsl 0 0 b.2.1.length),(5,.rsl 1 0 b.2.2.length)] [ob 0 22 (b.2.1.flatMap Jc),ob 1 22 (b.2.2.flatMap Jc)] 2) [hc (nH.imm []),hc (nH.imm [])] K (λb k8 k9=>Jt 14 rZ (uK gl) λg=>Gb (dg 16 nH) λa=>BG 19 (Abb gl) λh=>aF 30 (aP c3 k9 [hc (nH.al a),hc (nH.al b.2.2)])<|ak λi d=>kV (λc=>Gb (dg 41 nH) λe=>aw [hf 36 (cF (DD gl d) c)]<|cj k8 [hc (el a),hc (el e),hc (nH.imm a),hc (nH.imm e)]) λc=>Gb (dg 26 nH) λf=>aw [hf 36 (cF (DD gl d) c)]<|cj k8 [hc (el a),hc (el f),hc (nH.imm a),hc (nH.imm f)]) (λ_=>rfl) [22,22] [(0,0),(1,1)] [(0,.row),(1,.row)]
end
abbrev UF{K V:Type}(kv:K->Value)(vg:V->G)(m:FM K V):List (Value×G×Nat):=m.es.map λe=>(kv e.1,vg e.2.1,e.2.2)
abbrev M3{K V:Type}(t:Bk)(kv:K->Value)(vg:V->G)(m:FM K V):Ob:=⟨t,[],some (.map (UF kv vg m) m.clk)⟩
def CA{K V:Type}[DecidableEq K](m:FM K V)(k:K)(p:V):FM K V:=match bu k (m.es.map (·.1)) with
 |none=>⟨m.es++[(k,p,m.clk)],m.clk+1⟩
 |some j=>⟨m.es.set j (k,p,(m.es[j]?.map (·.2.2)).getD 0),m.clk⟩
def MJ{K V:Type}[DecidableEq K](m:FM K V)(k:K):FM K V:=match bu k (m.es.map (·.1)) with
 |none=>m
 |some j=>⟨m.es.eraseIdx j,m.clk⟩
structure FxOk {K V:Type} (m:FM K V):Prop where
 nd:(m.es.map (·.2.2)).Nodup
 lt:∀e∈m.es,e.2.2<m.clk
structure QN {K V:Type} (m:FM K V):Prop extends FxOk m where
 kd:(m.es.map (·.1)).Nodup
theorem Acw{K:Type}[DecidableEq K]{k:K}:∀{l:List K} {j:Nat},bu k l=some j->l[j]?=some k
 |[],j,h=>by cases h
 |x::r,j,h=>by
  unfold bu at h;split at h
  .grind
  .rw[DP] at h;obtain⟨n,h,rfl⟩:=h;simpa using Acw h
theorem SW{K:Type}[DecidableEq K]{k:K}:∀{l:List K},bu k l=none->k∉l
 |[],h=>aC
 |x::r,h=>by
  unfold bu at h;split at h
  .cases h
  .rename_i hne;rw[Option.map_eq_none_iff] at h;simp[hne,SW h]
section
variable {P:Bu} {K V:Type} [DecidableEq K] {kt et t t':Bk} {kv:K->Value} {vg:V->G} {m:FM K V} {σ:aQ} {i:Nat} {k:K} {gk:G}
theorem PP:(UF kv vg m).map (·.1)=(m.es.map (·.1)).map kv:=by rw[Hi,Hi];rfl
theorem Q1(h:ag σ i=some (M3 t' kv vg m)):Lw σ (.mref i)=some (i,t',UF kv vg m,m.clk):=by unfold Lw;simp only[h]
theorem Q2(KT:LX P kt kv){ok:Bool}(ht:pB P t=some (kt,et))(hk:cD gk=some (kv k))(h:ag σ i=some (M3 t' kv vg m)):bL P σ t ok (.mref i) gk=bL P σ t ok (m.g kv vg) gk:=by unfold bL FM.g;rw[ht,hk];dsimp only;rw[Q1 h];dsimp only;rw[show(m.es.map λe=>kv e.1)=(m.es.map (·.1)).map kv by rw[Hi];rfl,KT.chk,KT.chk,PP,KT.key];grind
theorem Acx(KT:LX P kt kv)(hs:∀k,Instr.sameBits 10000 (kv k) (kv k)=true)(ht:pB P t=some (kt,et))(hk:cD gk=some (kv k))(h:ag σ i=some (M3 t' kv vg m))(p:V):dZ P σ t (.mref i) gk (vg p)=some (i,M3 t' kv vg (CA m k p)):=by
 unfold dZ;rw[ht,hk,Q1 h];dsimp only;rw[KT.chk,ax,PP,KT.key];unfold CA;cases hk:bu k (m.es.map (·.1)) with
 |none=>grind
 |some j=>have hj:=Acw hk;grind [List.map_set]
theorem Aas{α β:Type}(f:α->β):∀(l:List α) (j:Nat),(l.eraseIdx j).map f=(l.map f).eraseIdx j
 |[],_=>rfl
 |x::r,0=>rfl
 |x::r,j+1=>by rw[List.eraseIdx_cons_succ,Fe,Fe,List.eraseIdx_cons_succ,Aas f r j]
theorem AjO(KT:LX P kt kv)(ht:pB P t=some (kt,et))(hk:cD gk=some (kv k))(h:ag σ i=some (M3 t' kv vg m)):FN P σ t (.mref i) gk=some (i,M3 t' kv vg (MJ m k)):=by unfold FN;rw[ht,hk,Q1 h];dsimp only;rw[KT.chk,ax,PP,KT.key];grind [MJ,Aas]
def AhG(m:FM K V)(k:K):Nat:=match bu k (m.es.map (·.1)) with
 |none=>m.clk
 |some j=>(m.es[j]?.map (·.2.2)).getD 0
theorem M4{j:Nat}(h:bu k (m.es.map (·.1))=some j):∃e,m.es[j]?=some e/\e.1=k/\m.get k=some e.2.1:=by grind [FM.get,fz]
theorem S7(h:bu k (m.es.map (·.1))=none):m.get k=none:=by grind [FM.get,fz]
theorem AjP(KT:LX P kt kv)(hs:∀k,Instr.sameBits 10000 (kv k) (kv k)=true)(ht:pB P t=some (kt,et)){v0:V}(hz:((P.info? et).bind (·.zero)).map db=some (vg v0))(hk:cD gk=some (kv k))(h:ag σ i=some (M3 t' kv vg m)):
  ov P σ t (.mref i) gk=some (i,M3 t' kv vg (CA m k ((m.get k).getD v0)),.tup [vg ((m.get k).getD v0),iG (AhG m k:Nat)]):=by
 unfold ov
 rw[ht,hk,Q1 h]
 dsimp only
 rw[KT.chk,ax,PP,KT.key]
 unfold CA AhG
 cases hk:bu k (m.es.map (·.1)) with
 |none=>
  grind [DP,S7]
 |some j=>
  obtain⟨e,he,rfl,hg⟩:=M4 hk
  grind [List.map_set]
theorem XM:∀{es:List (K×V×Nat)} {j:Nat} {e:K×V×Nat},(es.map (·.2.2)).Nodup->es[j]?=some e->(es.map λe=>(kv e.1,vg e.2.1,e.2.2)).findIdx? (λx=>(x.2.2:Int)==(e.2.2:Int))=some j
 |[],j,e,_,h=>by simp at h
 |x::r,0,e,_,h=>by grind
 |x::r,j+1,e,hd,h=>by
  rw[Fe,MH] at hd;rw[List.getElem?_cons_succ] at h;have hne:x.2.2≠e.2.2:=by grind
  rw[Fe,List.findIdx?_cons,BU cq,XM hd.2 h];rfl
theorem AjQ(hm:FxOk m){v0:V}(h:ag σ i=some (M3 t' kv vg (CA m k v0)))(v:V):jX σ (.mref i) (iG (AhG m k:Nat)) (vg v)=some (i,M3 t' kv vg (CA m k v)):=by
 unfold jX;rw[Q1 h];dsimp only;unfold CA AhG at*;cases hk:bu k (m.es.map (·.1)) with
 |none=>
  dsimp only;have hx:(m.es++[(k,v0,m.clk)])[m.es.length]?=some (k,v0,m.clk):=aC;have:=XM (kv:=kv) (vg:=vg) (es:=m.es++[(k,v0,m.clk)]) (by rw[List.map_append,List.nodup_append];grind [FxOk]) hx
  rw[this];dsimp only;rw[Nd,hx,Option.map_some];dsimp only;rw[<-List.map_set (f:=λe:K×V×Nat=>(kv e.1,vg e.2.1,e.2.2)) (a:=(k,v,m.clk))];grind
 |some j=>
  obtain⟨e,he,rfl,hg⟩:=M4 hk;have hlt:=(cr he).1;dsimp only;rw[he];simp only[Option.map_some,Nf];have hx:(m.es.set j (e.1,v0,e.2.2))[j]?=some (e.1,v0,e.2.2):=by simp[hlt]
  have hd:((m.es.set j (e.1,v0,e.2.2)).map (·.2.2)).Nodup:=by grind [List.map_set,FxOk.nd]
  rw[XM hd hx];grind [List.map_set,List.set_set]
theorem Ou(hi:∀v,bB (vg v)):∀e∈UF kv vg m,bB e.2.1:=by grind
end
section
variable {K V:Type} [DecidableEq K] {m:FM K V} {k:K}
theorem Aeb:∀{es:List (K×V×Nat)} {k:K},k∉es.map (·.1)->es.find? (λe=>decide (e.1=k))=none
 |[],k,_=>rfl
 |x::r,k,h=>by grind
theorem Bz(p:V)(x:K):(CA m k p).get x=if x=k then some p else m.get x:=by
 unfold CA;cases hk:bu k (m.es.map (·.1)) with
 |none=>
  unfold FM.get;dsimp only;rw[List.find?_append];split
  .rename_i e;subst e;rw[Aeb (SW hk)];simp
  grind
 |some j=>
  obtain⟨e,he,rfl,hg⟩:=M4 hk;have key:∀{es:List (K×V×Nat)} {j:Nat} (n:Nat),bu e.1 (es.map (·.1))=some j->((es.set j (e.1,p,n)).find? (λq=>decide (q.1=x))).map (·.2.1)=if x=e.1 then some p else(es.find? λq=>decide (q.1=x)).map (·.2.1):=by
   intro es;induction es with
   |nil=>intro j n h;cases h
   |cons y r ih=>intro j n h;rw[Fe,bu] at h;grind [DP]
  exact key _ hk
theorem Q4(p:V):(CA m k p).es.map (·.1)=if k∈m.es.map (·.1)then m.es.map (·.1)else m.es.map (·.1)++[k]:=by
 unfold CA;cases hk:bu k (m.es.map (·.1)) with
 |none=>rw[BU (SW hk)];simp
 |some j=>have hj:=Acw hk;rw[BB (bO hj)];dsimp only;rw[List.map_set];apply List.ext_getElem?;grind
theorem It(h:QN m)(p:V):QN (CA m k p):=by
 refine⟨⟨?_,?_⟩,?_⟩
 .unfold CA;cases hk:bu k (m.es.map (·.1)) with
  |none=>dsimp only;rw[List.map_append,List.nodup_append];refine⟨h.nd,aC,λa ha b hb=>?_⟩;obtain⟨e,he,rfl⟩:=EH.1 ha;simp at hb;subst hb;have:=h.lt e he;omega
  |some j=>grind [QN,M4,List.map_set,FxOk.nd]
 .unfold CA;cases hk:bu k (m.es.map (·.1)) with
  |none=>
   intro e he;dsimp only at he⊢;rcases Jn.1 he with he|he
   .have:=h.lt e he;omega
   grind
  |some j=>
   obtain⟨e,he,rfl,_⟩:=M4 hk;intro x hx;dsimp only at hx⊢;rcases List.mem_or_eq_of_mem_set hx with hx|rfl
   .exact h.lt x hx
   .rw[he];exact h.lt e (bO he)
 grind [Q4,QN.kd]
theorem NN(h:QN m)(x:K):(MJ m k).get x=if x=k then none else m.get x:=by
 unfold MJ;cases hk:bu k (m.es.map (·.1)) with
 |none=>grind [S7]
 |some j=>
  have key:∀{es:List (K×V×Nat)} {j:Nat},(es.map (·.1)).Nodup->bu k (es.map (·.1))=some j->((es.eraseIdx j).find? (λq=>decide (q.1=x))).map (·.2.1)=if x=k then none else(es.find? λq=>decide (q.1=x)).map (·.2.1):=by
   intro es;induction es with
   |nil=>intro j _ h;cases h
   |cons y r ih=>intro j hd h;rw[Fe,MH] at hd;grind [bu,DP]
  exact key h.kd hk
theorem Abv{e:K×V×Nat}(h:e∈(MJ m k).es):e∈m.es:=by grind [MJ,List.mem_of_mem_eraseIdx]
theorem S8(h:QN m):QN (MJ m k):=by grind [QN,FxOk,MJ,List.eraseIdx_sublist]
theorem Gq{v:V}(h:m.get k=some v):∃n,(k,v,n)∈m.es:=by grind [FM.get,DP]
theorem JF(h:QN m){v:V}{n:Nat}(he:(k,v,n)∈m.es):m.get k=some v:=by
 unfold FM.get;have key:∀{es:List (K×V×Nat)},(es.map (·.1)).Nodup->(k,v,n)∈es->es.find? (λe=>decide (e.1=k))=some (k,v,n):=by intro es;induction es<;>grind
 rw[key h.kd he];rfl
end
section
variable {P:Bu}
inductive Ab4 (P:Bu) (c:Code) (e:Exit) (s:St):Nat->St->Prop
 |last {st:St} (he:e≠ .normal) (h:Tr P c st (λe' s'=>e'=e/\s'=s)):Ab4 P c e s 0 st
 |more {k:Nat} {st s1 s2:St} (h:Tr P c st (λe' s'=>e'= .normal/\s'=s1)) (hl:Le P s1 s2) (hr:Ab4 P c e s k s2):Ab4 P c e s (k+1) st
def jg(P:Bu)(gl:CB)(f:FuncId)(gs:Bn)(σ:aQ)(c:Nat)(r:G)(σ':aQ)(c':Nat):Prop:=
 aK P f=true/\∃fn body,P.funcs[f]?=some fn/\fn.body=some body/\gs.length<=fn.ntmps/\
  Tr P body ⟨fn.ntmps,gl,bQ 0 gs,σ,c,c,false⟩ (λe s=>(e= .normal\/e= .ret)/\s.gl=gl/\(∀k o,ag σ' k=some o->ag s.σ k=some o)/\s.c=c'/\∃a,fn.results.toList.mapM (jV P s)=some a/\r=iU a)
section
variable {ops:Array Oper} {K:St->Prop} {ty:Bk} {pos:String} {af:Array Edge} {rest:Hv} {n:Nat} {gl:CB} {fr:Fr} {σ:aQ} {c p d j:Nat} {bars:Br} {rr:Bool}
end
end
section
variable {P:Bu} {ops:Array Oper} {K:St->Prop} {op:Op} {ty:Bk} {pos:String} {af:Array Edge} {rest:Hv} {n:Nat} {gl:CB} {fr:Fr} {σ:aQ} {c p d j:Nat} {bars:Br} {rr:Bool} {gq:Option (Nat×Bool)}
end
def vi(L:Br)(i:Nat):Fo:=L.findIdx? (Nat.beq · i)
def GV(L:Br)(c:Nat)(k:Nat):Fo:=match L[k]? with
 |some i=>some i
 |none=>some (c+(k-L.length))
theorem QX{L:Br}{k:Nat}(h:vi L i=some k):L[k]?=some i:=by grind [vi,List.findIdx?_eq_some_iff_getElem,bc]
section
variable {P:Bu}
def Xx(P:Bu)(gl:CB)(f:FuncId)(gs:Bn)(σ:aQ)(c:Nat){ι:Type}(r:ι->G)(σ':ι->aQ)(c':ι->Nat):Prop:=
 aK P f=true/\∃fn body,P.funcs[f]?=some fn/\fn.body=some body/\gs.length<=fn.ntmps/\
  Tr P body ⟨fn.ntmps,gl,bQ 0 gs,σ,c,c,false⟩ (λe s=>(e= .normal\/e= .ret)/\s.gl=gl/\∃x,(∀k o,ag (σ' x) k=some o->ag s.σ k=some o)/\s.c=c' x/\∃a,fn.results.toList.mapM (jV P s)=some a/\r x=iU a)
theorem MC{o:Oper}{st:St}{f:DC}{xs:Array DC}{ats:Array Bk}{fid:FuncId}{fst cap:Bn}(L:Br){gs0:Bn}{σ0:aQ}{ι:Type}{r:ι->G}{σ1:ι->aQ}{c1:ι->Nat}(ho:o.op= .call {callee:= .value f,args:=xs,argTypes:=ats})(hd:LP o st.n)(hf:aB st f= .clo (.func fid) fst cap)
  (hM:Xx P st.gl fid gs0 σ0 L.length r σ1 c1) (hL:∀(k i:Nat),L[k]?=some i->i<st.c) (hnd:L.Nodup) (hgs:gs0=(fst++xs.toList.map (aB st)++cap).map (qg (vi L) 20))
  (hin:∀(k i:Nat),L[k]?=some i->∃o o0,ag st.σ i=some o/\ag σ0 k=some o0/\MB (vi L) o o0) (h0:∀k o,ag σ0 k=some o->k<L.length)
  (τ:ι->aQ) (y:∀x i o,ag (τ x) i=some o->(∃k p,GV L st.c k=some i/\ag (σ1 x) k=some p/\MB (GV L st.c) p o)\/(ag st.σ i=some o/\i∉L)):
  th P o st (λs'=>∃x,s'={st with σ:=τ x,c:=st.c+(c1 x-L.length)}.put o.dst (qg (GV L st.c) 20 (r x))):=by
 obtain⟨hc,fn,body,hfn,hb,hn,hT⟩:=hM
 intro cx a w K R ⟨β,h⟩ A
 obtain⟨vs,hrun,hsz,hv⟩:=lQ h ho hf hc
 refine h.loose.oper (λc hc=>by rw[ho] at hc;cases hc) ?_
 unfold Oper.wp
 rw[hrun]
 have hlive:∀i o,ag st.σ i=some o->∃x,β i=some x:=λi o ho=>by
  rcases(h.ob i o ho).at with h1|⟨b,C,_,h1,_⟩
  .exact⟨_,h1⟩
  .exact⟨_,h1⟩
 have hbound:∀i o,ag st.σ i=some o->i<st.c:=λi ob ho=>by
  rcases Je i st.c with hlt|hge
  .exact hlt
  .obtain⟨x,hx⟩:=hlive i ob ho;rw[h.fresh i hge] at hx;cases hx
 obtain⟨d,J⟩:∃d:Bm,d=λk=>match L[k]? with|some i=>β i|none=>none:=⟨_,rfl⟩
 have b0:∀{k i:Nat},L[k]?=some i->d k=β i:=λ{k i} hk=>by rw[J];simp only[hk]
 have b0n:∀{k:Nat},L.length<=k->d k=none:=λ{k} hk=>by rw[J];simp only[List.getElem?_eq_none hk]
 have hk0:∀{k:Nat} {o0:Ob},ag σ0 k=some o0->∃i o,L[k]?=some i/\i∈L/\ag st.σ i=some o/\MB (vi L) o o0:=λ{k o0} hk=>by have hlt:=h0 k o0 hk;have hi:L[k]?=some (L[k]'hlt):=EA hlt;grind
 have hmem:∀{i:Nat},i∈L->∃k o0,L[k]?=some i/\ag σ0 k=some o0:=λ{i} hi=>by obtain⟨k,hk⟩:=GL hi;obtain⟨o,o0,_,g2,_⟩:=hin k i hk;exact⟨k,o0,hk,g2⟩
 obtain⟨Hid,m⟩:∃Hid:Fs,Hid=λb=>cx.S0 b\/∃i ob C,ag st.σ i=some ob/\β i=some (some (b,C))/\i∉L:=⟨_,rfl⟩
 have hav0:∀b,Av Hid d σ0 b↔Av cx.S0 β st.σ b:=λb=>by
  rw[m];constructor
  .rintro((hb|⟨i,ob,C,h1,h2,_⟩)|⟨k,ob,C,h1,h2⟩)
   .exact .inl hb
   .exact .inr ⟨i,ob,C,h1,h2⟩
   .obtain⟨i,o,g1,_,g2,_⟩:=hk0 h1;rw[b0 g1] at h2;exact .inr ⟨i,o,C,g2,h2⟩
  .rintro(hb|⟨i,ob,C,h1,h2⟩)
   .exact .inl (.inl hb)
   .by_cases hi:i∈L
    .obtain⟨k,o0,g1,g2⟩:=hmem hi;exact .inr ⟨k,o0,C,g2,(b0 g1).trans h2⟩
    .exact .inl (.inr ⟨i,ob,C,h1,h2,hi⟩)
 have kin:∀i k,vi L i=some k->d k=β i:=λi k hk=>b0 (QX hk)
 have hlivS:∀b,GG d σ0 b->∃i o C,i∈L/\ag st.σ i=some o/\β i=some (some (b,C)):=λb ⟨k,ob,C,h1,h2⟩=>by grind
 have hsz0:vs.size=gs0.length:=by grind
 have hv0:∀(i:Nat) (g:G) (u:Value),gs0[i]?=some g->vs[i]?=some u->RV d (Av Hid d σ0) w g u:=λi g u hg hu=>by
  rw[hgs,Nd] at hg;cases hx:(fst++xs.toList.map (aB st)++cap)[i]? with
  |none=>grind
  |some x=>rw[hx] at hg;simp only[Option.map_some,Fa] at hg;subst hg;exact IG kin 20 x u ((hv i x u hx hu).step (λ_ _ x=>x) (λb _ hb=>(hav0 b).1 hb) (A9.refl _ _))
 have hfront:Bx P ⟨w,GG d σ0,Hid,d,Fence.wide,9⟩ ⟨fn.ntmps,st.gl,bQ 0 gs0,σ0,L.length,L.length,false⟩ {tmps:=vs++Array.replicate (fn.ntmps-vs.size) undef,defers:=[]} w d:={
  size:=by grind
  defers:= .nil rfl
  loose:=lP
  rnd:=λ_=>rfl
  fr:=λi=>Ca hsz0 hn hv0 i
  ob:=λk o0 hk=>by obtain⟨i,o,g1,_,g2,q⟩:=hk0 hk;exact U8 kin ((h.ob i o g2).step (λ_ _ x=>x) (λb _ hb=>(hav0 b).1 hb) (A9.refl _ _) (λ_ _ _=>rfl)) q (b0 g1)
  inj:=λk1 k2 p B b C D h1 h2 h3 h4=>by obtain⟨i1,q1,g1,_,g2,_⟩:=hk0 h1;obtain⟨W,X,e1,_,e2,_⟩:=hk0 h2;grind [Bx.inj,List.getElem?_inj]
  own:=λk o0 b C h1 h2=> .inl ⟨k,o0,C,h1,h2⟩
  sep:=λk o0 b C h1 h2 hx=>by
   obtain⟨i,o,g1,g0,g2,_⟩:=hk0 h1;rw[b0 g1] at h2;have hx':Hid b:=hx;rw[m] at hx';rcases hx' with hx|⟨j,ob,D,e1,e2,e3⟩
   .exact h.sep i o b C g2 h2 hx
   .have:=h.inj i j o ob b C D g2 e1 h2 e2;subst this;exact e3 g0
  fresh:=λk hk=>b0n hk
  glob:=λg l hl=>(h.glob g l hl).sub λb _ hb=>(hav0 b).1 hb
  keep:=A9.refl _ _
  old:=λb hb=>by
   have hx':Hid b:=hb;rw[m] at hx';rcases hx' with hb|⟨i,ob,C,h1,h2,_⟩
   .exact h.keep.lt (h.old b hb)
   .exact h.lt h1 h2
  pin:=λk x hx=>⟨(by
   rcases Je k L.length with h'|h'
   .exact h'
   .have hx':d k=some x:=hx;rw[b0n h'] at hx';cases hx'),hx⟩}
 refine rq (cx:=⟨w,GG d σ0,Hid,d,Fence.wide,9⟩) hfn hb hT rfl rfl ⟨d,hfront⟩ ?_
 rintro e s a' w' ⟨he,hgl,t,z,hsc,U,F,H⟩ ⟨O,hr⟩
 replace y:=y t
 replace A:=λs' (hs:s'={st with σ:=τ t,c:=st.c+(c1 t-L.length)}.put o.dst (qg (GV L st.c) 20 (r t)))=>A s' ⟨t,hs⟩
 generalize r t=r at H A
 generalize σ1 t=σ1 at z y
 generalize c1 t=c1 at hsc A
 generalize τ t=τ at y A
 obtain⟨v,hres,N⟩:=mP hr F
 obtain⟨β2,M⟩:∃β2:Bm,β2=λi=>if i<st.c then β i else O (L.length+(i-st.c)):=⟨_,rfl⟩
 have b2:∀{i:Nat},i<st.c->β2 i=β i:=λ{i} hi=>by rw[M];simp only[hi,if_true]
 have key:∀k i,GV L st.c k=some i->β2 i=O k:=λk i hk=>by
  unfold GV at hk;cases hx:L[k]? with
  |some j=>grind
  |none=>grind
 have hext:∀i x,β i=some x->β2 i=some x:=λi x hx=>by
  rcases Je i st.c with h'|h'
  .rw[b2 h'];exact hx
  .rw[h.fresh i h'] at hx;cases hx
 have hblk:∀i o b C,ag st.σ i=some o->β2 i=some (some (b,C))->β i=some (some (b,C)):=λi o b C ho hb=>by rw[b2 (hbound i o ho)] at hb;exact hb
 have hav:∀b,Av cx.S0 β2 τ b->Av Hid O s.σ b:=by rintro b (hb|⟨i,ob,C,h1,h2⟩);all_goals grind
 have hAo:∀b,b<w.heap.size->Av cx.S0 β2 τ b->Av cx.S0 β st.σ b:=by grind
 have hkp:A9 (Av cx.S0 β st.σ) w w':=hr.keep.mono λb _ hb=>by obtain⟨i,o,E,_,q,I⟩:=hlivS b hb;exact .inr ⟨i,o,E,q,I⟩
 have hframe:∀i o b C,ag st.σ i=some o->i∉L->β i=some (some (b,C))->w'.heap[b]?=w.heap[b]? :=λi o b C ho hn hb=>hr.keep.block b (h.lt ho hb) (λhl=>by obtain⟨j,B,E,g1,q,I⟩:=hlivS b hl;have:=h.inj i j o B b C E ho q hb I;subst this;exact hn g1)
 have hback:Bx P cx {st with σ:=τ,c:=st.c+(c1-L.length)} a w' β2:={
  size:=h.size
  defers:=h.defers.keep hr.keep (λD hD hl=>by obtain⟨j,B,E,g1,q,I⟩:=hlivS D hl;exact h.not_marks q I hD)
  loose:=h.loose
  rnd:=h.rnd
  fr:=λi=>(h.fr i).step hext hAo hkp
  ob:=λi o ho=>by
   rcases y i o ho with⟨k,p,g1,g2,q⟩|⟨g1,g2⟩
   .exact U8 key ((hr.ob k p (z k p g2)).step (λ_ _ x=>x) (λb _ hb=>hav b hb) (A9.refl _ _) (λ_ _ _=>rfl)) q (key k i g1)
   .exact(h.ob i o g1).step hext hAo hkp (λb C hb=>hframe i o b C g1 g2 hb)
  inj:=λi j o V b C D hi hj hbi Q=>by
   rcases y i o hi with⟨k,p,g1,g2,q⟩|⟨g1,g2⟩<;>rcases y j V hj with⟨k',S,e1,e2,e3⟩|⟨e1,e2⟩
   .grind
   all_goals grind
  own:=λi o b C hi hbi=>by
   rcases y i o hi with⟨k,p,g1,g2,q⟩|⟨g1,g2⟩
   .rw[key k i g1] at hbi;rcases hr.own k p b C (z k p g2) hbi with hb|hb
    .grind [Bx.own]
    .have:=h.keep.size;have hb':w.heap.size<=b:=hb;right;omega
   grind
  sep:=λi o b C hi hbi hx=>by
   rcases y i o hi with⟨k,p,g1,g2,q⟩|⟨g1,g2⟩
   .rw[key k i g1] at hbi;exact hr.sep k p b C (z k p g2) hbi (by rw[m];exact .inl hx)
   .exact h.sep i o b C g1 (hblk i o b C g1 hbi) hx
  fresh:=λi hi=>by have hi':st.c+(c1-L.length)<=i:=hi;rw[M];simp only;rw[BU aa];exact hr.fresh _ (by rw[hsc];omega)
  glob:=λg l hl=>(hr.glob g l (by rw[hgl];exact hl)).sub λb _ hb=>hav b hb
  keep:=h.keep.then hr.keep (λb hb hl=>by
   obtain⟨j,B,E,_,e3,e4⟩:=hlivS b hl;rcases h.own j B b E e3 e4 with h1|h1
   .exact h1
   .omega)
  old:=h.old
  pin:=λi x hx=>⟨(h.pin i x hx).1,hext i x (h.pin i x hx).2⟩}
 have hval:RV β2 (Av cx.S0 β2 τ) w' (qg (GV L st.c) 20 r) v:=by rw[H];exact IG key 20 _ v (N.step (λ_ _ x=>x) (λb _ hb=>hav b hb) (A9.refl _ _))
 exact⟨he,v,hres,A _ rfl _ _ ⟨β2,hback.put o.dst hd hval⟩⟩
theorem jg.F{gl:CB}{f:FuncId}{gs:Bn}{σ0:aQ}{c:Nat}{r:G}{σ1:aQ}{c1:Nat}(h:jg P gl f gs σ0 c r σ1 c1):Xx P gl f gs σ0 c (ι:=Unit) (λ_=>r) (λ_=>σ1) (λ_=>c1):=by obtain⟨hc,fn,body,hfn,hb,hn,hT⟩:=h;constructor<;>grind
theorem MD{o:Oper}{st:St}{f:DC}{xs:Array DC}{ats:Array Bk}{fid:FuncId}{fst cap:Bn}(L:Br){gs0:Bn}{σ0:aQ}{r:G}{σ1:aQ}{c1:Nat}(ho:o.op= .call {callee:= .value f,args:=xs,argTypes:=ats})(hd:LP o st.n)(hf:aB st f= .clo (.func fid) fst cap)
  (hM:jg P st.gl fid gs0 σ0 L.length r σ1 c1) (hL:∀(k i:Nat),L[k]?=some i->i<st.c) (hnd:L.Nodup) (hgs:gs0=(fst++xs.toList.map (aB st)++cap).map (qg (vi L) 20))
  (hin:∀(k i:Nat),L[k]?=some i->∃o o0,ag st.σ i=some o/\ag σ0 k=some o0/\MB (vi L) o o0) (h0:∀k o,ag σ0 k=some o->k<L.length)
  (τ:aQ) (e:∀i o,ag τ i=some o->(∃k b,GV L st.c k=some i/\ag σ1 k=some b/\MB (GV L st.c) b o)\/(ag st.σ i=some o/\i∉L)):
  th P o st (λs'=>s'={st with σ:=τ,c:=st.c+(c1-L.length)}.put o.dst (qg (GV L st.c) 20 r)):=by
 have:=MC (o:=o) (st:=st) (ι:=Unit) (r:=λ_=>r) (σ1:=λ_=>σ1) (c1:=λ_=>c1) L ho hd hf hM.F hL hnd hgs hin h0 (λ_=>τ) λ_=>e
 exact λcx a w K R h d=>this cx a w K R h λs' ⟨_,hs⟩=>d s' hs
end
section
variable {P:Bu} [M:Mix P] {c:Code} {K:List Kf} {st:St} {Q:Exit->St->Prop}
def Ok(P:Bu)(fn:Func)(gl:CB)(r:G)(σ1:aQ)(c1:Nat)(e:Exit)(s:St):Prop:=(e= .normal\/e= .ret)/\s.gl=gl/\(∀k o,ag σ1 k=some o->ag s.σ k=some o)/\s.c=c1/\∃a,fn.results.toList.mapM (jV P s)=some a/\r=iU a
theorem sMc{gl:CB}{gs:Bn}{σ0 σ1:aQ}{c0 c1:Nat}(hf:P.funcs[f]?=some fn)(h:Tr P (ai fn) ⟨fn.ntmps,gl,bQ 0 gs,σ0,c0,c0,false⟩ (dz P [] (Ok P fn gl r σ1 c1)))(hc:aK P f=true:=by kernel_rfl)(hb:fn.body.isSome=true:=by kernel_rfl)(hn:Nat.ble gs.length fn.ntmps=true:=by kernel_rfl):jg P gl f gs σ0 c0 r σ1 c1:=by
 obtain⟨body,hb'⟩:=Ww.1 hb;refine⟨hc,fn,body,hf,hb',D5 hn,?_⟩;have e:ai fn=body:=by grind [ai]
 rw[e] at h;exact Tr.leQ h
theorem Wo{gl:CB}{σ1:aQ}{c1:Nat}{S0:St}{gs:Bn}(he:tc ex=true)(hr:vR P S0 fn.results.toList=some gs)(hg:S0.gl=gl)(a:S0.σ=σ1)(hc:S0.c=c1)(h:iU gs=r):Ok P fn gl r σ1 c1 ex S0:=by constructor<;>grind [eO,gh]
def w6(κ:Nat->Fo)(σ σ0:aQ):Nat->Br->Prop
 |_,[]=>True
 |k,i::L=>(match ag σ i,ag σ0 k with|some o,some o0=>MB κ o o0|_,_=>False)/\w6 κ σ σ0 (k+1) L
def EJ(κ:Nat->Fo)(σ1:aQ):List (Nat×Ob)->Prop
 |[]=>True
 |(k,o)::U=>(match ag σ1 k with|some a=>MB κ a o|none=>False)/\EJ κ σ1 U
theorem w6.get{κ:Nat->Fo}{σ σ0:aQ}:∀{L:Br} {a:Nat},w6 κ σ σ0 a L->∀(k i:Nat),L[k]?=some i->∃o o0,ag σ i=some o/\ag σ0 (a+k)=some o0/\MB κ o o0
 |[],_,_,_,_,h=>by cases h
 |j::L,a,h,0,i,hi=>by simp at hi;subst hi;have h1:=h.1;grind
 |j::L,a,h,k+1,i,hi=>by have:=w6.get h.2 k i (by grind);grind
theorem EJ.get{κ:Nat->Fo}{σ1:aQ}:∀{U:List (Nat×Ob)},EJ κ σ1 U->∀q∈U,∃a,ag σ1 q.1=some a/\MB κ a q.2
 |[],_,q,hq=>by cases hq
 |(k,o)::U,h,q,hq=>by
  rcases EY.1 hq with rfl|hq
  .have h1:=h.1;grind
  .exact EJ.get h.2 q hq
def KQ(L:Br)(c:Nat)(U:List (Nat×Ob)):aQ:=U.map λq=>((GV L c q.1).getD 0,some q.2)
theorem Gl(L:Br)(c k:Nat):∃i,GV L c k=some i:=by unfold GV;cases L[k]? <;>grind
theorem YM{gl:CB}{gs0 gs:Bn}{σ0 σ1 σR:aQ}{r g:G}{c1 c c':Nat}(L:Br)(U:List (Nat×Ob))(hM:jg P gl fid gs0 σ0 L.length r σ1 c1)
  (hin:w6 (vi L) σR σ0 0 L) (d:EJ (GV L c) σ1 U) (hlt:L.all (λi=>Nat.blt i c)=true:=by kernel_rfl) (hnd:decide L.Nodup=true:=by kernel_rfl) (hgs:gs.map (qg (vi L) 20)=gs0:=by kernel_rfl)
  (hk0:σ0.all (λq=>Nat.blt q.1 L.length)=true:=by kernel_rfl) (hcov:(List.range L.length).all (λk=>U.any λq=>Nat.beq q.1 k)=true:=by kernel_rfl) (hg:qg (GV L c) 20 r=g:=by kernel_rfl) (hc:c+(c1-L.length)=c':=by kernel_rfl) (hR:σR.all (λq=>q.2.isSome)=true:=by kernel_rfl):oJ P gl fid gs σR c g (KQ L c U) c':=by
 intro o st y xs ats fst cap ho hd hf a hgl hq hsc
 have j:=hin.get
 have hgetR:∀i o,ag σR i=some o->ag st.σ i=some o:=λi o hh=>by
  have:∀l:aQ,(∀q∈l,q∈σR)->ag l i=some o->ag st.σ i=some o:=by
   intro l;induction l with
   |nil=>intro _ h;cases h
   |cons q t ih=>grind
  grind
 have key:=MD (o:=o) (st:=st) (f:=y) (xs:=xs) (ats:=ats) (fid:=fid) (fst:=fst) (cap:=cap) L (gs0:=gs0) (σ0:=σ0) (r:=r) (σ1:=σ1) (c1:=c1) ho hd hf (by rw[hgl];exact hM) (λk i hk=>by
   have:=GK.1 hlt i (bO hk);simp_all) (DS hnd) (by rw[a,hgs]) (by grind) (λk o hkk=>by
   have:∀l:aQ,(∀q∈l,q∈σ0)->ag l k=some o->k<L.length:=by
    intro l;induction l with
    |nil=>intro _ h;cases h
    |cons q t ih=>
     intro hs h;rw[show(q::t:aQ)=(q.1,q.2)::t from rfl,Bf] at h;split at h
     .rename_i e;subst e;exact D5 (GK.1 hk0 q (by grind))
     grind
   grind) (KQ L c U++st.σ) (λi o hh=>by
   have:∀l:List (Nat×Ob),(∀q∈l,q∈U)->ag (KQ L c l++st.σ) i=some o->(∃q∈U,GV L c q.1=some i/\q.2=o)\/(ag st.σ i=some o/\∀q∈l,GV L c q.1≠some i):=by
    intro l;induction l with
    |nil=>intro _ h;exact .inr ⟨h,(by grind)⟩
    |cons q t ih=>intro hs h;obtain⟨m,hi'⟩:=Gl L c q.1;rw[show KQ L c (q::t)++st.σ=((GV L c q.1).getD 0,some q.2)::(KQ L c t++st.σ) from rfl,hi',Nf,Bf] at h;grind
   rcases this U (λ_ h=>h) hh with⟨q,b,h1,rfl⟩|⟨h1,h2⟩
   .grind [EJ.get]
   .refine .inr ⟨h1,λhi=>?_⟩;obtain⟨k,hk⟩:=GL hi;have hkl:=(cr hk).1;obtain⟨q,b,he⟩:=List.any_eq_true.1 (GK.1 hcov k (List.mem_range.2 hkl));refine h2 q b ?_;rw[bc he];unfold GV;rw[hk])
 grind [th.gs]
end
section
variable {P:Bu} [M:Mix P] {c:Code} {K:List Kf} {st:St} {Q:Exit->St->Prop} {fn:Func} {Bs:List (St->Prop)} {m:Bool} {p:Br}
def YN:Code->Bool
 | .rangeFunc _ _ _ _=>true
 |_=>false
def rfG:Code->DC
 | .rangeFunc g _ _ _=>g
 |_=> .tmp 0
def Dy:Code->Array Tmp
 | .rangeFunc _ ps _ _=>ps
 |_=> #[]
def Dz:Code->Code
 | .rangeFunc _ _ a _=>a
 |_=> .skip
def DA:Code->Code
 | .rangeFunc _ _ _ b=>b
 |_=> .skip
theorem sRf{fst cap:Bn}(fn:Func)(hfn:P.funcs[fid]?=some fn)(hg:aB st (rfG c)= .clo (.func fid) fst cap)(h:Tr P (ai fn) ⟨fn.ntmps,st.gl,bQ 0 (fst++[G.yld st.c]++cap),(st.c,some ⟨0,[],some (.loop .ready none st.n st.fr (Dy c) (Dz c) (DA c))⟩)::st.σ,st.c+1,st.c+1,false⟩ (dz P [] (sI P st Q)))
  (hi:YN c=true:=by kernel_rfl) (hr:st.r=false:=by kernel_rfl) (hc:aK P fid=true:=by kernel_rfl) (hb:fn.body.isSome=true:=by kernel_rfl) (hn:Nat.ble (fst++[G.yld st.c]++cap).length fn.ntmps=true:=by kernel_rfl) (hres:fn.results.toList=[]:=by kernel_rfl):Tr P c st Q:=by
 obtain⟨d,hb'⟩:=Ww.1 hb
 have e:ai fn=d:=by grind [ai]
 rw[e] at h
 cases c with
 |rangeFunc g ps a b=>exact wx hr hg hc hfn hb' (D5 hn) hres (Tr.leQ h)
 |_=>cases hi
theorem QW(he:tc ex=true)(hgl:s.gl=st.gl)(ho:ag s.σ st.c=some ⟨t,[],some (.loop .ready none n fr ps a b)⟩)(h:Q .normal {st with σ:=(st.c,none)::(st.c,some ⟨t,[],some (.loop .exhausted none n fr ps a b)⟩)::s.σ,c:=s.c}):sI P st Q ex s:=
 by constructor<;>grind [eO]
def YO:Code->Bool
 | .region _ _ false=>true
 |_=>false
def pZ:Code->Hv
 | .region _ ops _=>ops.toList
 |_=>[]
def YP(o:Oper):DC:=match o.op with
 | .call {callee:= .value f,.. }=>f
 |_=> .tmp 0
def Tw(o:Oper):List DC:=match o.op with
 | .call {callee:= .value _,args:=xs,.. }=>xs.toList
 |_=>[]
def oIs(o:Oper):Bool:=match o.op with
 | .call {callee:= .value _,.. }=>true
 |_=>false
def qd(P:Bu)(ops:Array Oper)(hs:List Hn)(l:Hv)(st:St):Option (Prop×Br×St):=(Ui P ops hs l st).map λ(ps,u,s)=>(TE ps True,u,s)
theorem Mz{ops:Array Oper}{hs:List Hn}{l:Hv}{C:Prop}{u:Br}(h:qd P ops hs l st=some (C,u,s1))(a:C):D8 P ops (λs=>s=s1) l st:=by obtain⟨⟨ps,u,s⟩,hr,e⟩:=DP.1 h;cases e;exact QL l st _ _ _ hr (Gr a).1 rfl
theorem As{ops:Array Oper}{a K2:St->Prop}:∀(l l2:Hv) (st:St),D8 P ops a l st->(∀s,a s->vU P ops K2 l2 s)->vU P ops K2 (l++l2) st
 |[],l2,st,h,hk=>hk st h
 |o::r,l2,st,h,hk=>by
  rcases h with⟨hw,s1,hg,hr⟩|⟨hw,hd,hr⟩
  .exact .inl ⟨hw,hg.gsn.eqv λs hs=>⟨s,by rw[hs];exact As r l2 s1 hr hk,X8.refl _⟩⟩
  .exact .inr ⟨hw,hd,As r l2 _ hr hk⟩
def MA(P:Bu)(st:St)(i:Nat)(S:Option Code->Qt->Bk->St->Prop)(bd:Code)(e:Exit)(s:St):Prop:=e= .normal/\s.gl=st.gl/\∃t' a h b d f g,ag s.σ i=some ⟨t',[],some (.loop .ready a h b d f g)⟩/\Tr P bd {s with σ:=(i,some ⟨t',[],some (.loop .busy a h b d f g)⟩)::s.σ} (rE P st i S)
def qOf:Qt->Option Code
 | .loop _ q _ _ _ _ _=>q
 |_=>none
def Tx(b:aQ)(c2:Nat)(a:Qt)(t2:Bk)(j:Option Code)(x:Qt)(t:Bk)(s:St):Prop:=j=qOf a/\x=a/\t=t2/\s.σ=b/\s.c=c2
theorem Wp{S:Option Code->Qt->Bk->St->Prop}(he:ex= .normal)(hgl:s.gl=st.gl)(ho:ag s.σ i=some ⟨t,[],some (.loop .ready pe n fr ps a b)⟩)(h:Tr P bd {s with σ:=(i,some ⟨t,[],some (.loop .busy pe n fr ps a b)⟩)::s.σ} (dz P [] (rE P st i S))):MA P st i S bd ex s:=
 ⟨he,hgl,t,pe,n,fr,ps,a,b,ho,Tr.leQ h⟩
theorem jy{σ2:aQ}{c2:Nat}{d:Qt}{ls:LoopState}(he:ex= .normal)(hgl:s.gl=st.gl)(ho:ag s.σ i=some ⟨t2,[],some (.loop ls pe n fr ps a b)⟩)(e: .loop .ready none n fr ps a b=d)(f:s.σ=σ2)(hc:s.c=c2):rE P st i (Tx σ2 c2 d t2) ex s:=
 ⟨hgl,none,t2,ls,pe,n,fr,ps,a,b,by rw[he];rfl,ho,by rw[<-e];rfl,e,rfl,f,hc⟩
theorem sYd(j i:Nat){s3:St}{o:Oper}(k:aQ)(c2:Nat)(e:Qt)(r y u z:List HP)
  (hob:ag s1.σ i=some ⟨t,[],some (.loop .ready pe n fr ps a b)⟩)
  (h:Tr P a ⟨n,s1.gl,xU (ps.toList.zip ((Tw o).map (aB s1))) fr,s1.σ,s1.c,s1.c,true⟩ (dz P [] (MA P s1 i (Tx k c2 e t2) b)))
  (h3:dz P K Q .normal s3)
  (e1:TF r (qd P (pZ c).toArray (bK r) ((pZ c).take j) st) s1:=by exact⟨aH,aH⟩)
  (A:(pZ c)[j]?=some o:=by kernel_rfl)
  (e2:TF u (qd P (pZ c).toArray (bK u) ((pZ c).drop (j+1)) ({s1 with σ:=(i,some ⟨t2,[],some e⟩)::k,c:=c2}.put o.dst (.lit (.bool (qOf e).isNone)))) s3:=by exact⟨aH,aH⟩)
  (hi:YO c=true:=by kernel_rfl) (hw:ce s1 (pZ c).toArray o=some true:=by kernel_rfl) (d:oIs o=true:=by kernel_rfl) (hd:pj s1.n o.dst=true:=by kernel_rfl) (hf:aB s1 (YP o)= .yld i:=by kernel_rfl)
  (hsz:Nat.beq (Tw o).length ps.size=true:=by kernel_rfl) (g:ps.toList.all (λp=>Nat.blt p n)=true:=by kernel_rfl):Tr P c st (dz P K Q):=by
 cases c with
 |region id ops draw=>
  cases draw with
  |true=>cases hi
  |false=>
   have hl:(pZ (.region id ops false)).toArray=ops:=Array.toArray_toList
   rw[hl] at e1 e2 hw
   have hsplit:ops.toList=ops.toList.take j++(o::ops.toList.drop (j+1)):=by grind [List.drop_eq_getElem_cons,Pr]
   have key:Tr P (.region id ops.toList.toArray false) st (dz P K Q):=by
    refine lG ?_;rw[Array.toArray_toList];rw[hsplit];refine As _ _ _ (Mz e1.2 (kA e1.1)) λs hs=>?_;rw[hs];obtain⟨l,op,ty,pos,v,gd⟩:=o;cases op with
    |call cl=>
     obtain⟨q,xs,ats⟩:=cl;cases q with
     |value f=>
      refine .inl ⟨hw,?_⟩;have hy:=Em (P:=P) (o:=⟨l,.call {callee:= .value f,args:=xs,argTypes:=ats},ty,pos,v,gd⟩) (st:=s1) (f:=f) (xs:=xs) (ats:=ats) (i:=i) (n:=n) (t:=t) (pe:=pe) (fr:=fr) (ps:=ps) (az9:=a) (bd:=b) (S:=Tx k c2 e t2) rfl (Sx hd) hf hob (bc hsz) (λp hp=>D5 (GK.1 g p hp)) (Tr.leQ h);refine hy.eqv λs hs=>⟨s,?_,X8.refl _⟩;obtain⟨B,x,t',s',⟨rfl,rfl,rfl,w,hc⟩,rfl⟩:=hs;rw[w,hc];have:=As (K2:=dz P K Q .normal) _ [] _ (Mz e2.2 (kA e2.1)) λs hs=>by rw[hs];exact h3
      grind
     |_=>cases d
    |_=>cases d
   grind
 |_=>cases hi
def Gm(P:Bu)(hs:List Hn)(m:Code⊕Exit)(K:List Kf)(vs:List Bk)(ρ:DF)(kd:List (Nat×Rk))(J st:St):Option (Prop×Br×JK×Exit×St):=match sy P hs 1000000 1000 m K st with
 |some (C,u,.fin e s)=>match Iw P vs ρ kd J s with
  |some (L,s')=>some (C,u,L,e,s')
  |none=>none
 |_=>none
theorem C9(a:Exit)(J:St)(A O:List HP)(h:Q a J)(vs:List Bk:=[])(ρ:DF:=[])(kd:List (Nat×Rk):=[])(hk:TF A (Gm P (bK A) (LE m p (ai fn)) (bE p (ai fn) Bs []) vs ρ kd J st) (pR O,a,J):=by exact⟨aH,aH⟩):Gp P fn Q Bs m p st:=by
 obtain⟨C,u,b,e⟩:=hk.out;unfold Gp;unfold Gm at e;split at e;rotate_left
 .cases e
 rename_i d f x s1 h1;split at e;rotate_left
 .cases e
 rename_i L s' h2;simp only[Fa,Fq] at e;obtain⟨rfl,rfl,rfl,rfl,rfl⟩:=e;exact oK M.mx (out:= .fin x s1) ⟨_,sR h2 (wR O),h⟩ 1000 _ _ _ _ _ h1 b
theorem pP{gl:CB}{gs:Bn}{σ0 σ1:aQ}{c0 c1:Nat}{r:G}(hf:P.funcs[f]?=some fn)(h:Gp P fn (Ok P fn gl r σ1 c1) [] false [] ⟨fn.ntmps,gl,bQ 0 gs,σ0,c0,c0,false⟩)(hc:aK P f=true:=by kernel_rfl)(hb:fn.body.isSome=true:=by kernel_rfl)(hn:Nat.ble gs.length fn.ntmps=true:=by kernel_rfl):jg P gl f gs σ0 c0 r σ1 c1:=sMc hf h hc hb hn
theorem Hf{gl:CB}{r:G}{σ1:aQ}{c1:Nat}(a:Exit)(J:St)(gs:Bn)(A O:List HP)(hg:J.gl=gl:=by rfl)(b:J.σ=σ1:=by rfl)(hc:J.c=c1:=by rfl)(hr:iU gs=r:=by rfl)(vs:List Bk:=[])(ρ:DF:=[])(kd:List (Nat×Rk):=[])(he:tc a=true:=by rfl)(hx:vR P J fn.results.toList=some gs:=by kernel_rfl)(hk:TF A (Gm P (bK A) (LE m p (ai fn)) (bE p (ai fn) Bs []) vs ρ kd J st) (pR O,a,J):=by exact⟨aH,aH⟩):Gp P fn (Ok P fn gl r σ1 c1) Bs m p st:=
 C9 a J A O (Wo he hx hg b hc hr) vs ρ kd hk
def fnB(fn:Func)(c:Code):Func:={fn with body:=some c}
theorem Xt{fst cap:Bn}(a:Func)(hfn:P.funcs[fid]?=some a)(h:Gp P a (sI P st (dz P (bE p (ai fn) Bs []) Q)) [] false [] ⟨a.ntmps,st.gl,bQ 0 (fst++[G.yld st.c]++cap),(st.c,some ⟨0,[],some (.loop .ready none st.n st.fr (Dy (bq p (ai fn))) (Dz (bq p (ai fn))) (DA (bq p (ai fn))))⟩)::st.σ,st.c+1,st.c+1,false⟩)
  (hg:aB st (rfG (bq p (ai fn)))= .clo (.func fid) fst cap:=by kernel_rfl) (hi:YN (bq p (ai fn))=true:=by kernel_rfl) (hr:st.r=false:=by kernel_rfl) (hc:aK P fid=true:=by kernel_rfl) (hb:a.body.isSome=true:=by kernel_rfl) (hn:Nat.ble (fst++[G.yld st.c]++cap).length a.ntmps=true:=by kernel_rfl) (hres:a.results.toList=[]:=by kernel_rfl):Gp P fn Q Bs false p st:=sRf (c:=bq p (ai fn)) a hfn hg h hi hr hc hb hn hres
theorem Xu{s:St}(h:Gp P fn Q Bs true p {st with σ:=(st.c,none)::(st.c,some ⟨t,[],some (.loop .exhausted none n fr ps a b)⟩)::s.σ,c:=s.c})(ho:ag s.σ st.c=some ⟨t,[],some (.loop .ready none n fr ps a b)⟩)(hgl:s.gl=st.gl:=by rfl)(he:tc ex=true:=by rfl):sI P st (dz P (bE p (ai fn) Bs []) Q) ex s:=QW he hgl ho h
theorem Xv{S:Option Code->Qt->Bk->St->Prop}(fn:Func)(h:Gp P (fnB fn bd) (rE P st i S) [] false [] {s with σ:=(i,some ⟨t,[],some (.loop .busy pe n fr ps a b)⟩)::s.σ})(ho:ag s.σ i=some ⟨t,[],some (.loop .ready pe n fr ps a b)⟩)(hgl:s.gl=st.gl:=by rfl)(he:ex= .normal:=by rfl):MA P st i S bd ex s:=Wp he hgl ho h
def CK(c:Code)(j:Nat):Oper:=((pZ c)[j]?).getD ⟨none,.assign (.tmp 0),0, "",#[],none⟩
theorem Xw(j i:Nat){s1 s3:St}{t t2:Bk}{pe:Option Code}{n:Nat}{fr:Fr}{ps:Array Tmp}{a b:Code}(l:aQ)(c2:Nat)(d:Qt)(e f:List HP)
  (h:Gp P (fnB fn a) (MA P s1 i (Tx l c2 d t2) b) [] false [] ⟨n,s1.gl,xU (ps.toList.zip ((Tw (CK (bq p (ai fn)) j)).map (aB s1))) fr,s1.σ,s1.c,s1.c,true⟩)
  (h3:Gp P fn Q Bs true p s3)
  (hob:ag s1.σ i=some ⟨t,[],some (.loop .ready pe n fr ps a b)⟩:=by kernel_rfl)
  (e1:TF e (qd P (pZ (bq p (ai fn))).toArray (bK e) ((pZ (bq p (ai fn))).take j) st) s1:=by exact⟨aH,aH⟩)
  (o:(pZ (bq p (ai fn)))[j]?=some (CK (bq p (ai fn)) j):=by kernel_rfl)
  (e2:TF f (qd P (pZ (bq p (ai fn))).toArray (bK f) ((pZ (bq p (ai fn))).drop (j+1)) ({s1 with σ:=(i,some ⟨t2,[],some d⟩)::l,c:=c2}.put (CK (bq p (ai fn)) j).dst (.lit (.bool (qOf d).isNone)))) s3:=by exact⟨aH,aH⟩)
  (hi:YO (bq p (ai fn))=true:=by kernel_rfl) (hw:ce s1 (pZ (bq p (ai fn))).toArray (CK (bq p (ai fn)) j)=some true:=by kernel_rfl) (g:oIs (CK (bq p (ai fn)) j)=true:=by kernel_rfl) (hd:pj s1.n (CK (bq p (ai fn)) j).dst=true:=by kernel_rfl) (hf:aB s1 (YP (CK (bq p (ai fn)) j))= .yld i:=by kernel_rfl)
  (hsz:Nat.beq (Tw (CK (bq p (ai fn)) j)).length ps.size=true:=by kernel_rfl) (k:ps.toList.all (λp=>Nat.blt p n)=true:=by kernel_rfl):Gp P fn Q Bs false p st:=
 sYd (c:=bq p (ai fn)) j i l c2 d e [] f [] hob h h3 e1 o e2 hi hw g hd hf hsz k
def hmc(d:Nat)(L:Br)(c:Nat)(σR:aQ)(gs:Bn)(U:List (Nat×Ob)){gl:CB}{fid:FuncId}{gs0:Bn}{σ0 σ1:aQ}{r:G}{c1:Nat}(hM:jg P gl fid gs0 σ0 L.length r σ1 c1)
  (hin:w6 (vi L) σR σ0 0 L) (a:EJ (GV L c) σ1 U) (hlt:L.all (λi=>Nat.blt i c)=true:=by kernel_rfl) (hnd:decide L.Nodup=true:=by kernel_rfl) (hgs:gs.map (qg (vi L) 20)=gs0:=by kernel_rfl)
  (hk0:σ0.all (λq=>Nat.blt q.1 L.length)=true:=by kernel_rfl) (hcov:(List.range L.length).all (λk=>U.any λq=>Nat.beq q.1 k)=true:=by kernel_rfl) (hR:σR.all (λq=>q.2.isSome)=true:=by kernel_rfl):HP:=
 hz d L (P:=P) (gl:=gl) (f:=fid) (gs:=gs) (σR:=σR) (c:=c) (g:=qg (GV L c) 20 r) (U:=KQ L c U) (c':=c+(c1-L.length)) (YM L U hM hin a hlt hnd hgs hk0 hcov rfl rfl hR)
def YQ(P:Bu)(hs:List Hn)(cut:Nat)(m:Code⊕Exit)(K:List Kf)(a:Br)(st:St):Option (Prop×Br×St×Code×List Kf):=match sy P hs cut 1000 m K st with
 |some (C,u,.ct c' K' s)=>some (C,u,{s with fr:=a.map λk=>(k,aD s.fr k)},c',K')
 |_=>none
theorem IB{fr:Fr}{d:Nat}:∀a:Br,aD (a.map λk=>(k,aD fr k)) d=aD fr d\/aD (a.map λk=>(k,aD fr k)) d= .junk
 |[]=> .inr rfl
 |k::r=>by
  rw[Fe,aO];split
  .grind
  .exact IB r
theorem UZ(b:Br):Le P s {s with fr:=b.map λk=>(k,aD s.fr k)}:=by rintro cx a w ⟨β,r⟩;refine⟨β,{r with fr:=λi=>?_}⟩;grind [IB,RV]
theorem YR(q:Br)(J:St)(A:List HP)(kk:Gp P fn Q Bs false q J)
  (hk:TF A (YQ P (bK A) (wT (bq q (ai fn))) (LE m p (ai fn)) (bE p (ai fn) Bs []) (xb J) st) (J,bq q (ai fn),bE q (ai fn) Bs []):=by exact⟨aH,aH⟩):Gp P fn Q Bs m p st:=by
 obtain⟨C,u,a,e⟩:=hk.out
 generalize hks:xb J=ks at e
 unfold Gp
 unfold YQ at e
 split at e
 rotate_left
 .cases e
 rename_i b f c K' s1 h1
 simp only[Fa,Fq] at e
 obtain⟨rfl,rfl,d,rfl,rfl⟩:=e
 refine oK M.mx (out:= .ct (bq q (ai fn)) (bE q (ai fn) Bs []) s1) (Tr.le kk ?_) 1000 _ _ _ _ _ h1 a
 grind [UZ]
def Gn(P:Bu)(hs:List Hn)(m:Code⊕Exit)(K:List Kf)(a:Br)(st:St):Option (Prop×Br×Exit×St):=match sy P hs 1000000 1000 m K st with
 |some (C,u,.fin e s)=>some (C,u,e,{s with fr:=a.map λk=>(k,aD s.fr k)})
 |_=>none
theorem dFf(a:Exit)(J:St)(A:List HP)(h:Q a J)
  (hk:TF A (Gn P (bK A) (LE m p (ai fn)) (bE p (ai fn) Bs []) (xb J) st) (a,J):=by exact⟨aH,aH⟩):Gp P fn Q Bs m p st:=by
 obtain⟨C,u,b,e⟩:=hk.out
 generalize hks:xb J=ks at e
 unfold Gp
 unfold Gn at e
 split at e
 rotate_left
 .cases e
 rename_i d g x s1 h1
 simp only[Fa,Fq] at e
 obtain⟨rfl,rfl,rfl,f⟩:=e
 refine oK M.mx (out:= .fin x s1) ⟨J,?_,h⟩ 1000 _ _ _ _ _ h1 b
 grind [UZ]
theorem dEf{gl:CB}{σ1:aQ}{c1:Nat}(a:Exit)(J:St)(gs:Bn)(A:List HP)(b:∀k o,ag σ1 k=some o->ag J.σ k=some o)(hg:J.gl=gl:=by rfl)(hc:J.c=c1:=by rfl)(hr:iU gs=r:=by rfl)(he:tc a=true:=by rfl)(hx:vR P J fn.results.toList=some gs:=by kernel_rfl)
  (hk:TF A (Gn P (bK A) (LE m p (ai fn)) (bE p (ai fn) Bs []) (xb J) st) (a,J):=by exact⟨aH,aH⟩):Gp P fn (Ok P fn gl r σ1 c1) Bs m p st:=
 dFf a J A ⟨eO he,hg,b,hc,gs,gh hx,hr.symm⟩ hk
end
section
variable {P:Bu}
def oI(κ:Nat->Fo)(σ1:aQ):aQ->Prop
 |[]=>True
 |(k,some o)::U=>(match ag σ1 k with|some a=>MB κ a o|none=>False)/\oI κ σ1 U
 |(_,none)::U=>oI κ σ1 U
theorem oI.get{κ:Nat->Fo}{σ1:aQ}:∀{U:aQ},oI κ σ1 U->∀k o,(k,some o)∈U->∃a,ag σ1 k=some a/\MB κ a o
 |[],_,k,o,hq=>by cases hq
 |(k,some o)::U,h,k',o',hq=>by
  rcases EY.1 hq with e|hq
  .cases e;have h1:=h.1;split at h1
   .rename_i a e1;exact⟨a,e1,h1⟩
   .exact h1.elim
  .exact oI.get h.2 k' o' hq
 |(_,none)::U,h,k',o',hq=>by
  rcases EY.1 hq with e|hq
  .cases e
  .exact oI.get (U:=U) h k' o' hq
def zO(L:Br)(c:Nat)(U:aQ):aQ:=U.map λq=>((GV L c q.1).getD 0,q.2)
theorem YS{gl:CB}{gs0 gs:Bn}{σ0 σ1 σR:aQ}{r g:G}{c1 c c':Nat}(L:Br)(U:aQ)(hM:jg P gl fid gs0 σ0 L.length r σ1 c1)
  (hin:w6 (vi L) σR σ0 0 L) (b:oI (GV L c) σ1 U) (hlt:L.all (λi=>Nat.blt i c)=true:=by kernel_rfl) (hnd:decide L.Nodup=true:=by kernel_rfl) (hgs:gs.map (qg (vi L) 20)=gs0:=by kernel_rfl)
  (hk0:σ0.all (λq=>Nat.blt q.1 L.length)=true:=by kernel_rfl) (hcov:(List.range L.length).all (λk=>U.any λq=>Nat.beq q.1 k)=true:=by kernel_rfl) (hg:qg (GV L c) 20 r=g:=by kernel_rfl) (hc:c+(c1-L.length)=c':=by kernel_rfl) (hR:σR.all (λq=>q.2.isSome)=true:=by kernel_rfl):oJ P gl fid gs σR c g (zO L c U) c':=by
 intro o st y xs ats fst cap ho hd hf d hgl hq hsc
 have j:=hin.get
 have hgetR:∀i o,ag σR i=some o->ag st.σ i=some o:=λi o hh=>by
  have:∀l:aQ,(∀q∈l,q∈σR)->ag l i=some o->ag st.σ i=some o:=by
   intro l;induction l with
   |nil=>intro _ h;cases h
   |cons q t ih=>
    intro hs h;rw[show(q::t:aQ)=(q.1,q.2)::t from rfl,Bf] at h;split at h
    .rename_i e;subst e;rw[hq q (hs q aC)];exact h
    .exact ih (λx hx=>hs x (by simp[hx])) h
  exact this σR (λ_ h=>h) hh
 have key:=MD (o:=o) (st:=st) (f:=y) (xs:=xs) (ats:=ats) (fid:=fid) (fst:=fst) (cap:=cap) L (gs0:=gs0) (σ0:=σ0) (r:=r) (σ1:=σ1) (c1:=c1) ho hd hf (by rw[hgl];exact hM) (λk i hk=>by
   have:=GK.1 hlt i (bO hk);rw[hsc];exact D5 this) (DS hnd) (by rw[d,hgs]) (λk i hk=>by
   obtain⟨o,o0,h1,h2,h3⟩:=j k i hk;rw[Nat.zero_add] at h2;exact⟨o,o0,hgetR i o h1,h2,h3⟩) (λk o hkk=>by
   have:∀l:aQ,(∀q∈l,q∈σ0)->ag l k=some o->k<L.length:=by
    intro l;induction l with
    |nil=>intro _ h;cases h
    |cons q t ih=>
     intro hs h;rw[show(q::t:aQ)=(q.1,q.2)::t from rfl,Bf] at h;split at h
     .rename_i e;subst e;exact D5 (GK.1 hk0 q (hs q aC))
     .exact ih (λx hx=>hs x (by simp[hx])) h
   exact this σ0 (λ_ h=>h) hkk) (zO L c U++st.σ) (λi o hh=>by
   have:∀l:aQ,(∀q∈l,q∈U)->ag (zO L c l++st.σ) i=some o->(∃k,(k,some o)∈U/\GV L c k=some i)\/(ag st.σ i=some o/\∀q∈l,GV L c q.1≠some i):=by
    intro l;induction l with
    |nil=>intro _ h;exact .inr ⟨h,λq hq=>by cases hq⟩
    |cons q t ih=>
     intro hs h;obtain⟨n,hi'⟩:=Gl L c q.1;rw[show zO L c (q::t)++st.σ=((GV L c q.1).getD 0,q.2)::(zO L c t++st.σ) from rfl,hi',Nf,Bf] at h;split at h
     .rename_i e;subst e;exact .inl ⟨q.1,by rw[<-h];exact hs q aC,hi'⟩
     .rename_i hne;rcases ih (λx hx=>hs x (by simp[hx])) h with h|⟨h,h2⟩
      .exact .inl h
      .refine .inr ⟨h,λx hx=>?_⟩;rcases EY.1 hx with rfl|hx
       .rw[hi'];intro e;cases e;exact hne rfl
       .exact h2 x hx
   rcases this U (λ_ h=>h) hh with⟨k,a,h1⟩|⟨h1,h2⟩
   .obtain⟨m,e1,e2⟩:=b.get k o a;exact .inl ⟨k,m,by rw[hsc];exact h1,e1,by rw[hsc];exact e2⟩
   .refine .inr ⟨h1,λhi=>?_⟩;obtain⟨k,hk⟩:=GL hi;have hkl:=(cr hk).1;obtain⟨q,a,he⟩:=List.any_eq_true.1 (GK.1 hcov k (List.mem_range.2 hkl));refine h2 q a ?_;rw[bc he];unfold GV;rw[hk])
 have:=key.gs (st':={st with σ:=zO L c U++st.σ,c:=c'}.put o.dst g) λs hs=>by rw[hs,hsc,hg,hc]
 exact this
def tN(d:Nat)(L:Br)(c:Nat)(σR:aQ)(gs:Bn)(U:aQ){gl:CB}{fid:FuncId}{gs0:Bn}{σ0 σ1:aQ}{r:G}{c1:Nat}(hM:jg P gl fid gs0 σ0 L.length r σ1 c1)
  (hin:w6 (vi L) σR σ0 0 L) (a:oI (GV L c) σ1 U) (hlt:L.all (λi=>Nat.blt i c)=true:=by kernel_rfl) (hnd:decide L.Nodup=true:=by kernel_rfl) (hgs:gs.map (qg (vi L) 20)=gs0:=by kernel_rfl)
  (hk0:σ0.all (λq=>Nat.blt q.1 L.length)=true:=by kernel_rfl) (hcov:(List.range L.length).all (λk=>U.any λq=>Nat.beq q.1 k)=true:=by kernel_rfl) (hR:σR.all (λq=>q.2.isSome)=true:=by kernel_rfl):HP:=
 hz d L (P:=P) (gl:=gl) (f:=fid) (gs:=gs) (σR:=σR) (c:=c) (g:=qg (GV L c) 20 r) (U:=zO L c U) (c':=c+(c1-L.length)) (YS L U hM hin a hlt hnd hgs hk0 hcov rfl rfl hR)
end
end Go.Proofs.YtdpdicldkohflaaGreatDoor
