/- Texts. -/
import Derived.Laws.Bits64b
import Derived.Test.YtjbfcillbjiajaaGreatDoorD6
namespace Go.Proofs.YtjbfcillbjiajaaGreatDoor
set_option linter.unusedSectionVars false
set_option linter.unusedVariables false
set_option linter.unusedSimpArgs false
open Go.RowKit Tryz
variable (gl:CC)
variable {α:Type}{f fi_a1 fi_may fid:FuncId}{fa_a1 fa_may fc_a1 fc_may:Bk}{l:List Hd}{i k n r:Nat}{fn:Func}{ex:Exit}{s s1:St}{t t2:Bj}{fr:Fr}{ps:Array Tmp}{a b bd:Code}{pe:Option Code}{P:Bu}{x y:DC}{label:CY}{z:Int}{o:Bo}
section
set_option maxHeartbeats 2000000
attribute [local irreducible] Tr dz Gp
def SN{α:Type}(a:α)(a1:α->Fo):Fo:=
 (a1 a).bind λv1=>some (!v1)
theorem Ce{x_:Hd}{a1:Hd->Fo}(a:Uk prog gl fi_a1 fa_a1 fc_a1 (λx:Hd=>[.agg (cz x)]) (λx:Bool=>bG x) a1):DL prog gl (SN x_ a1) 346 [.agg (cz x_),.ptr [.clo (.func fi_a1) fa_a1 fc_a1] 0] bG:=
 cy func346 λK=>ak λv1 e2=>aw [hz 6 [] (a.cs (c:=1) e2 (aY (aG 20 (.agg (cz x_)) aH) (bf)))]<|rv K
def On{α:Type}(l:List α)(a:α->Fo):Fo:=
 (Aa7 l (λz=>SN z a)).bind λv1=>some (!v1)
theorem wA{may:Hd->Fo}(a:Uk prog gl fi_may fa_may fc_may (λx:Hd=>[.agg (cz x)]) (λx:Bool=>bG x) may):DL prog gl (On l may) 265 [aE cz l,.clo (.func fi_may) fa_may fc_may] bG:=
 cy func265 λK=>cN [1,0] (sf [1] [(3,.ptr [.clo (.func fi_may) fa_may fc_may] 0)]) [hc (a.im),hc (aY (a.im) (bf))]<|ak λv1 e2=>aw [hz 7 [] (jf (c:=0) aH (M1 gl (⟨aH,bf,eB aH,λ_ _ e=>Ce gl a e⟩) e2) (aY (aG 20 (aE cz l) aH) (aY (aG 20 (.clo (.func 346) [] [.ptr [.clo (.func fi_may) fa_may fc_may] 0]) aH) (bf))))]<|rv K
def wB(b:Hd):Fo:=
 ((rJ b.To).bind λe=>bif e then((rJ b.Eph).bind λa=>bif a then((Kq b.Body).bind λc=>bif c then((Kq b.Tag).bind λd=>some d)else(some false))else(some false))else(some false)).bind λf=>some f
theorem Cf{b}:DL prog gl (wB b) 266 [.agg (cz b)] bG:=
 cy func266 λK=>cN [1,0] (sp [] [(1,.ref 0 0)] [ob 0 186 (cz b)] 1) []<|cC [1,0] (λa=>sk [] [(2,bG a)] [] 0) (λa=>rv K) λa k5=>ak λg e8=>kV (λc=>BG 9 (iz gl) λd=>aw [hf 5 (cF (iz gl e8) c)]<|aF 10 (BG 14 (Ak gl) λe=>aF 15 (BG 19 (Ak gl) λf=>rx k5)<|rx k5)<|rx k5) λc=>aw [hf 5 (cF (iz gl e8) c)]<|rx k5
def uP(n:Fp):Fo:=
 ((rJ n.Pub).bind λb=>bif b then((On n.Boxes (λz=>wB z)).bind λa=>some a)else(some false)).bind λc=>some c
theorem Du{n}:DL prog gl (uP n) 264 [.agg (bY n)] bG:=
 cy func264 λK=>cN [1,0] (sp [] [(1,.ref 0 0)] [ob 0 102 (bY n)] 1) []<|cC [1,0] (λa=>sk [] [(2,bG a)] [] 0) (λa=>rv K) λa k5=>ak λd e8=>kV (λb=>BG 9 (wA gl (⟨aH,bf,eB aH,λ_ _ e=>Cf gl e⟩)) λc=>aw [hf 5 (cF (iz gl e8) b)]<|rx k5) λb=>aw [hf 5 (cF (iz gl e8) b)]<|rx k5
def uQ(s:DT):Fo:=
 (Al s.Of).bind λv1=>some v1
theorem Dv{s}:DL prog gl (uQ s) 267 [.agg (bp s)] bG:=
 cy func267 λK=>BG 5 (pH gl) λv1=>rv K
def uR(n:Int):Fo:=
 (FV n 1 12).bind λv1=>some v1
theorem Dw{n}:DL prog gl (uR n) 268 [iG n] bG:=
 cy func268 λK=>BG 4 (eE gl) λv1=>rv K
theorem Cg{x_:Int}{a1:Int->Fo}(a:Uk prog gl fi_a1 fa_a1 fc_a1 (λx:Int=>[iG x]) (λx:Bool=>bG x) a1):DL prog gl (SN x_ a1) 347 [iG x_,.ptr [.clo (.func fi_a1) fa_a1 fc_a1] 0] bG:=
 cy func347 λK=>ak λv1 e2=>aw [hz 6 [] (a.cs (c:=0) e2 (aY (aG 20 (iG x_) aH) (bf)))]<|rv K
theorem FW{l:Bn}{may:Int->Fo}(a:Uk prog gl fi_may fa_may fc_may (λx:Int=>[iG x]) (λx:Bool=>bG x) may):DL prog gl (On l may) 269 [aE cZ l,.clo (.func fi_may) fa_may fc_may] bG:=
 cy func269 λK=>cN [1,0] (sf [1] [(3,.ptr [.clo (.func fi_may) fa_may fc_may] 0)]) [hc (a.im),hc (aY (a.im) (bf))]<|ak λv1 e2=>aw [hz 7 [] (jf (c:=0) aH (ml gl (⟨aH,bf,eB aH,λ_ _ e=>Cg gl a e⟩) e2) (aY (aG 20 (aE cZ l) aH) (aY (aG 20 (.clo (.func 347) [] [.ptr [.clo (.func fi_may) fa_may fc_may] 0]) aH) (bf))))]<|rv K
theorem mo:Aca prog gl cW (λx=>[uG x]) 380:=λs f fi_f fa_f fc_f a=>
 cy func380 λK=>O7 1101 (λg=>sg [] []) (λs1=>sf [] [(7,iG (ah s)),(8,iG s1)]) [hc (a.im)] K (λg=>rv K) λs1 k5 h k6=>aF 9 (CD 14 rW.ixZ 15 (rW.p1Y tW) λd=>ak λi e=>kV (λb=>aw [hz 16 [] (cS (a.cs (c:=0) e (aY (aG 20 (uG d) aH) (bf))) b)]<|aP c3 k6 []) λb=>aw [hz 16 [] (cS (a.cs (c:=0) e (aY (aG 20 (uG d) aH) (bf))) b)]<|cj k5 [hc (a.im)])<|aA c2 h []
theorem ku:Acb prog gl cW (λx=>[uG x]) 348:=λs f fi_f fa_f fc_f a=>
 cy func348 λK=>ak λv1 e2=>aw [hz 7 [] (jf (c:=0) aH (mo gl (a) e2) (aY (aG 20 (aE cW s) aH) (aY (a.im) (bf))))]<|rv K
theorem wC{x_:Nat}{a1:Nat->Fo}(a:Uk prog gl fi_a1 fa_a1 fc_a1 (λx:Nat=>[uG x]) (λx:Bool=>bG x) a1):DL prog gl (SN x_ a1) 349 [uG x_,.ptr [.clo (.func fi_a1) fa_a1 fc_a1] 0] bG:=
 cy func349 λK=>ak λv1 e2=>aw [hz 6 [] (a.cs (c:=0) e2 (aY (aG 20 (uG x_) aH) (bf)))]<|rv K
theorem zL{l:Br}{may:Nat->Fo}(a:Uk prog gl fi_may fa_may fc_may (λx:Nat=>[uG x]) (λx:Bool=>bG x) may):DL prog gl (On l may) 270 [aE cW l,.clo (.func fi_may) fa_may fc_may] bG:=
 cy func270 λK=>cN [1,0] (sf [1] [(3,.ptr [.clo (.func fi_may) fa_may fc_may] 0)]) [hc (a.im),hc (aY (a.im) (bf))]<|ak λv1 e2=>aw [hz 7 [] (jf (c:=0) aH (ku gl (⟨aH,bf,eB aH,λ_ _ e=>wC gl a e⟩) e2) (aY (aG 20 (aE cW l) aH) (aY (aG 20 (.clo (.func 349) [] [.ptr [.clo (.func fi_may) fa_may fc_may] 0]) aH) (bf))))]<|rv K
theorem xY{x_:Ab}{a1:Ab->Fo}(a:Uk prog gl fi_a1 fa_a1 fc_a1 (λx:Ab=>[.agg (aj x)]) (λx:Bool=>bG x) a1):DL prog gl (SN x_ a1) 350 [.agg (aj x_),.ptr [.clo (.func fi_a1) fa_a1 fc_a1] 0] bG:=
 cy func350 λK=>ak λv1 e2=>aw [hz 6 [] (a.cs (c:=1) e2 (aY (aG 20 (.agg (aj x_)) aH) (bf)))]<|rv K
theorem Ch{l:Ba}{may:Ab->Fo}(a:Uk prog gl fi_may fa_may fc_may (λx:Ab=>[.agg (aj x)]) (λx:Bool=>bG x) may):DL prog gl (On l may) 272 [aE aj l,.clo (.func fi_may) fa_may fc_may] bG:=
 cy func272 λK=>cN [1,0] (sf [1] [(3,.ptr [.clo (.func fi_may) fa_may fc_may] 0)]) [hc (a.im),hc (aY (a.im) (bf))]<|ak λv1 e2=>aw [hz 7 [] (jf (c:=0) aH (kP gl (⟨aH,bf,eB aH,λ_ _ e=>xY gl a e⟩) e2) (aY (aG 20 (aE aj l) aH) (aY (aG 20 (.clo (.func 350) [] [.ptr [.clo (.func fi_may) fa_may fc_may] 0]) aH) (bf))))]<|rv K
theorem oB:Aca prog gl bY (λx=>[.agg (bY x)]) 381:=λs f fi_f fa_f fc_f a=>
 cy func381 λK=>O7 1101 (λg=>sg [] []) (λs1=>sf [] [(7,iG (ah s)),(8,iG s1)]) [hc (a.im)] K (λg=>rv K) λs1 k5 h k6=>aF 9 (CD 14 bZ.ixZ 15 (bZ.ptZ Pc) λd=>ak λi e=>kV (λb=>aw [hz 16 [] (cS (a.cs (c:=0) e (aY (aG 20 (.agg (bY d)) aH) (bf))) b)]<|aP c3 k6 []) λb=>aw [hz 16 [] (cS (a.cs (c:=0) e (aY (aG 20 (.agg (bY d)) aH) (bf))) b)]<|cj k5 [hc (a.im)])<|aA c2 h []
theorem lV:Acb prog gl bY (λx=>[.agg (bY x)]) 351:=λs f fi_f fa_f fc_f a=>
 cy func351 λK=>ak λv1 e2=>aw [hz 7 [] (jf (c:=0) aH (oB gl (a) e2) (aY (aG 20 (aE bY s) aH) (aY (a.im) (bf))))]<|rv K
theorem zM{x_:Fp}{a1:Fp->Fo}(a:Uk prog gl fi_a1 fa_a1 fc_a1 (λx:Fp=>[.agg (bY x)]) (λx:Bool=>bG x) a1):DL prog gl (SN x_ a1) 352 [.agg (bY x_),.ptr [.clo (.func fi_a1) fa_a1 fc_a1] 0] bG:=
 cy func352 λK=>ak λv1 e2=>aw [hz 6 [] (a.cs (c:=1) e2 (aY (aG 20 (.agg (bY x_)) aH) (bf)))]<|rv K
theorem tK{l:List Fp}{may:Fp->Fo}(a:Uk prog gl fi_may fa_may fc_may (λx:Fp=>[.agg (bY x)]) (λx:Bool=>bG x) may):DL prog gl (On l may) 273 [aE bY l,.clo (.func fi_may) fa_may fc_may] bG:=
 cy func273 λK=>cN [1,0] (sf [1] [(3,.ptr [.clo (.func fi_may) fa_may fc_may] 0)]) [hc (a.im),hc (aY (a.im) (bf))]<|ak λv1 e2=>aw [hz 7 [] (jf (c:=0) aH (lV gl (⟨aH,bf,eB aH,λ_ _ e=>zM gl a e⟩) e2) (aY (aG 20 (aE bY l) aH) (aY (aG 20 (.clo (.func 352) [] [.ptr [.clo (.func fi_may) fa_may fc_may] 0]) aH) (bf))))]<|rv K
theorem mq:Aca prog gl bp (λx=>[.agg (bp x)]) 382:=λs f fi_f fa_f fc_f a=>
 cy func382 λK=>O7 1101 (λg=>sg [] []) (λs1=>sf [] [(7,iG (ah s)),(8,iG s1)]) [hc (a.im)] K (λg=>rv K) λs1 k5 h k6=>aF 9 (CD 14 bH.ixZ 15 (bH.ptZ GM) λd=>ak λi e=>kV (λb=>aw [hz 16 [] (cS (a.cs (c:=0) e (aY (aG 20 (.agg (bp d)) aH) (bf))) b)]<|aP c3 k6 []) λb=>aw [hz 16 [] (cS (a.cs (c:=0) e (aY (aG 20 (.agg (bp d)) aH) (bf))) b)]<|cj k5 [hc (a.im)])<|aA c2 h []
theorem kw:Acb prog gl bp (λx=>[.agg (bp x)]) 353:=λs f fi_f fa_f fc_f a=>
 cy func353 λK=>ak λv1 e2=>aw [hz 7 [] (jf (c:=0) aH (mq gl (a) e2) (aY (aG 20 (aE bp s) aH) (aY (a.im) (bf))))]<|rv K
theorem wD{x_:DT}{a1:DT->Fo}(a:Uk prog gl fi_a1 fa_a1 fc_a1 (λx:DT=>[.agg (bp x)]) (λx:Bool=>bG x) a1):DL prog gl (SN x_ a1) 354 [.agg (bp x_),.ptr [.clo (.func fi_a1) fa_a1 fc_a1] 0] bG:=
 cy func354 λK=>ak λv1 e2=>aw [hz 6 [] (a.cs (c:=1) e2 (aY (aG 20 (.agg (bp x_)) aH) (bf)))]<|rv K
theorem pY{l:List DT}{may:DT->Fo}(a:Uk prog gl fi_may fa_may fc_may (λx:DT=>[.agg (bp x)]) (λx:Bool=>bG x) may):DL prog gl (On l may) 274 [aE bp l,.clo (.func fi_may) fa_may fc_may] bG:=
 cy func274 λK=>cN [1,0] (sf [1] [(3,.ptr [.clo (.func fi_may) fa_may fc_may] 0)]) [hc (a.im),hc (aY (a.im) (bf))]<|ak λv1 e2=>aw [hz 7 [] (jf (c:=0) aH (kw gl (⟨aH,bf,eB aH,λ_ _ e=>wD gl a e⟩) e2) (aY (aG 20 (aE bp l) aH) (aY (aG 20 (.clo (.func 354) [] [.ptr [.clo (.func fi_may) fa_may fc_may] 0]) aH) (bf))))]<|rv K
def wE(n:Fp):Fo:=
 some (decide (ah n.Boxes<=12))
theorem H8{n}:DL prog gl (wE n) 275 [.agg (bY n)] bG:=
 cy func275 λK=>rv K
def wF(s:DT):Fo:=
 some (decide (ah s.Body<=208))
theorem H9{s}:DL prog gl (wF s) 276 [.agg (bp s)] bG:=
 cy func276 λK=>rv K
def FX(o:Bo):Fo:=
 (bif 12<ah o.Past then(some true)else(bif 5<ah o.Path then(some true)else((On o.Path (λz=>wE z)).bind λa=>bif(!a)then(some true)else(bif 208<ah o.Body then(some true)else(bif 8<ah o.Refs then(some true)else(bif 20<ah o.Hist then(some true)else((On o.Hist (λz=>wF z)).bind λv22=>bif(!v22)then(some true)else(some (decide (6<ah o.Guards)))))))))).bind λb=>bif b then(some true)else(bif o.Kind=7 then((FV (ah o.Body) 1 20).bind λv5=>some (!v5))else(bif o.Kind=9 then(some (decide (ah o.Boxes≠ah o.Guards)))else(bif o.Kind=10 then((FV (ah o.Boxes) 1 6).bind λv9=>some (!v9))else(bif o.Kind=11 then(some (decide (ah o.Boxes≠1)))else(some false)))))
theorem Es{o}:DL prog gl (FX o) 182 [.agg (aJ o)] bG:=
 cy func182 λK=>cN 111100 (sp [] [(1,.ref 0 0),(3,.clo (.func 275) [] []),(4,.clo (.func 276) [] [])] [ob 0 70 (aJ o)] 1) [hc (aG 20 (.clo (.func 275) [] []) aH),hc (aG 20 (.clo (.func 276) [] []) aH)]<|cC 111100 (λa=>sg [1] [(52,bG a)]) (λa=>eH [52] (rv K)<|aF 56 (BG 60 (eE gl) λv5=>rv K)<|aF 63 (rv K)<|aF 72 (BG 76 (eE gl) λv9=>rv K)<|aF 79 (rv K)<|rv K) λa k12=>aF 8 (rx k12)<|aF 14 (rx k12)<|BG 19 (tK gl (⟨aH,bf,eB aH,λ_ _ e=>H8 gl e⟩)) λb=>aF 21 (rx k12)<|aF 27 (rx k12)<|aF 33 (rx k12)<|aF 39 (rx k12)<|BG 44 (pY gl (⟨aH,bf,eB aH,λ_ _ e=>H9 gl e⟩)) λv22=>aF 46 (rx k12)<|rx k12
def eR(n:Nat):Fq:=
 bif ((2305843009213693951:Nat):Int)<=((wU (((bD n 2305843009213693951:Nat):Int)+((JH n 61:Nat):Int)):Nat):Int)then(some (wU (((wU (((bD n 2305843009213693951:Nat):Int)+((JH n 61:Nat):Int)):Nat):Int)-((2305843009213693951:Nat):Int))))else(some (wU (((bD n 2305843009213693951:Nat):Int)+((JH n 61:Nat):Int))))
theorem E5{n}:DL prog gl (eR n) 229 [uG n] (λr:Nat=>uG r):=
 cy func229 λK=>aw [hV 4 (ju (P:=prog) (t:=36) n 2305843009213693951),hV 6 (Ui (P:=prog) (t:=36) (k':= .u64) n 61),hbb 7 (gV ((bD n 2305843009213693951:Nat):Int) ((JH n 61:Nat):Int))]<|aF 9 (aw [hbb 11 (YH ((wU (((bD n 2305843009213693951:Nat):Int)+((JH n 61:Nat):Int)):Nat):Int) ((2305843009213693951:Nat):Int))]<|rv K)<|rv K
def jZ(a:Nat)(b:Nat):Fq:=
 (eR a).bind λv1=>(eR b).bind λv3=>(sL v1 v3).bind λv5=>(eR v5.2).bind λc=>(eR (wU ((c:Int)+((It v5.1 3:Nat):Int)))).bind λv9=>some v9
theorem j0{a b}:DL prog gl (jZ a b) 164 [uG a,uG b] (λr:Nat=>uG r):=
 cy func164 λK=>BG 9 (E5 gl) λv1=>BG 11 (E5 gl) λv3=>BG 12 (FY gl) λv5=>BG 16 (E5 gl) λc=>BG 20 (E5 gl) λv9=>aw [hV 18 (Ks (P:=prog) (t:=36) (k':= .u64) v5.1 3),hbb 19 (gV (c:Int) ((It v5.1 3:Nat):Int))]<|rv K
def iB(n:Nat)(low:Nat)(a:Nat):Fo:=
 (bif (low:Int)<=(n:Int)then(some (decide ((n:Int)<=(a:Int))))else(some false)).bind λb=>some b
theorem GJ{n low a}:DL prog gl (iB n low a) 294 [uG n,uG low,uG a] bG:=
 cy func294 λK=>cN [1,0] (sf [] []) []<|cC [1,0] (λb=>sg [] [(6,bG b)]) (λb=>rv K) λb k3=>aF 9 (rx k3)<|rx k3
end
section
set_option maxHeartbeats 2000000
attribute [local irreducible] Tr dz Gp
def df(a:Ab)(a1:Az):Fo:=
 some ((a1.at_.get a).isSome)
theorem jk{id_ a1}:DL prog gl (df id_ a1) 188 [.agg (aj id_),.ptr [.ptr (Ag a1) 0] 0] bG:=
 cy func188 λK=>aw [hm 12 (H7 a1.at_ id_)]<|rv K
def wG(a:Nat)(b:Nat):Fq:=
 (eR a).bind λv1=>(eR b).bind λv3=>(eR (wU ((v1:Int)+(v3:Int)))).bind λv5=>some v5
theorem Ia{a b}:DL prog gl (wG a b) 383 [uG a,uG b] (λr:Nat=>uG r):=
 cy func383 λK=>BG 6 (E5 gl) λv1=>BG 8 (E5 gl) λv3=>BG 10 (E5 gl) λv5=>aw [hbb 9 (gV (v1:Int) (v3:Int))]<|rv K
def Oo(d:Int)(a1:Ad):Fo:=
 some (!(EY (a1.in_.get d)))
theorem OQ{d a1}:DL prog gl (Oo d a1) 418 [iG d,.ptr [.ptr (CO a1) 0] 0] bG:=
 cy func418 λK=>aw [hm 9 (Q2 a1.in_ d)]<|rv K
def Xg(a:Ad)(o:Bo)(m:Int):JQ:=
 (Aa7 o.Guards (λz=>Oo z a)).bind λv1=>bif v1 then(some 17)else(some 0)
theorem Y6{r_ o m}:DL prog gl (Xg r_ o m) 417 [.ptr (CO r_) 0,.agg (aJ o),iG m] iG:=
 cy func417 λK=>cN 1100 (sp [] [(3,.ptr [.ptr (CO r_) 0] 0),(4,.ref 0 0)] [ob 0 70 (aJ o)] 1) [hc (aY (Ah (CO r_) 0) (bf))]<|ak λv1 e2=>kV (λb3=>aw [hf 10 (cF (ml gl (⟨aH,bf,eB aH,λ_ _ e=>OQ gl e⟩) e2) b3)]<|rv K) λb3=>aw [hf 10 (cF (ml gl (⟨aH,bf,eB aH,λ_ _ e=>OQ gl e⟩) e2) b3)]<|rv K
end
section
variable {P:Bu}
inductive Ab6 (P:Bu) (c:Code) (e:Exit) (s:St):Nat->St->Prop
 |last {st:St} (he:e≠ .normal) (h:Tr P c st (λe' s'=>e'=e/\s'=s)):Ab6 P c e s 0 st
 |more {k:Nat} {st s1 s2:St} (h:Tr P c st (λe' s'=>e'= .normal/\s'=s1)) (hl:Le P s1 s2) (hr:Ab6 P c e s k s2):Ab6 P c e s (k+1) st
def jg(P:Bu)(gl:CC)(f:FuncId)(gs:Bk)(σ:aQ)(c:Nat)(r:G)(σ':aQ)(c':Nat):Prop:=
 aK P f=true/\∃fn body,P.funcs[f]?=some fn/\fn.body=some body/\gs.length<=fn.ntmps/\
  Tr P body ⟨fn.ntmps,gl,bQ 0 gs,σ,c,c,false⟩ (λe s=>(e= .normal\/e= .ret)/\s.gl=gl/\(∀k o,ag σ' k=some o->ag s.σ k=some o)/\s.c=c'/\∃a,fn.results.toList.mapM (jV P s)=some a/\r=iU a)
section
variable {ops:Array Oper} {K:St->Prop} {ty:Bj} {pos:String} {af:Array Edge} {rest:HE} {n:Nat} {gl:CC} {fr:Fr} {σ:aQ} {c p d j:Nat} {bars:Br} {rr:Bool}
end
end
section
variable {P:Bu} {ops:Array Oper} {K:St->Prop} {op:Op} {ty:Bj} {pos:String} {af:Array Edge} {rest:HE} {n:Nat} {gl:CC} {fr:Fr} {σ:aQ} {c p d j:Nat} {bars:Br} {rr:Bool} {gq:Option (Nat×Bool)}
end
def vi(L:Br)(i:Nat):Fq:=L.findIdx? (Nat.beq · i)
def G4(L:Br)(c:Nat)(k:Nat):Fq:=match L[k]? with
 |some i=>some i
 |none=>some (c+(k-L.length))
theorem QX{L:Br}(h:vi L i=some k):L[k]?=some i:=by grind [vi,List.findIdx?_eq_some_iff_getElem,bc]
section
variable {P:Bu}
def Xx(P:Bu)(gl:CC)(f:FuncId)(gs:Bk)(σ:aQ)(c:Nat){ι:Type}(r:ι->G)(σ':ι->aQ)(c':ι->Nat):Prop:=
 aK P f=true/\∃fn body,P.funcs[f]?=some fn/\fn.body=some body/\gs.length<=fn.ntmps/\
  Tr P body ⟨fn.ntmps,gl,bQ 0 gs,σ,c,c,false⟩ (λe s=>(e= .normal\/e= .ret)/\s.gl=gl/\∃x,(∀k o,ag (σ' x) k=some o->ag s.σ k=some o)/\s.c=c' x/\∃a,fn.results.toList.mapM (jV P s)=some a/\r x=iU a)
theorem MC{o:Oper}{st:St}{f:DC}{xs:Array DC}{ats:Array Bj}{fid:FuncId}{fst cap:Bk}(L:Br){gs0:Bk}{σ0:aQ}{ι:Type}{r:ι->G}{σ1:ι->aQ}{c1:ι->Nat}(ho:o.op= .call {callee:= .value f,args:=xs,argTypes:=ats})(hd:LV o st.n)(hf:aB st f= .clo (.func fid) fst cap)
  (hM:Xx P st.gl fid gs0 σ0 L.length r σ1 c1) (hL:∀(k i:Nat),L[k]?=some i->i<st.c) (hnd:L.Nodup) (hgs:gs0=(fst++xs.toList.map (aB st)++cap).map (qg (vi L) 20))
  (hin:∀(k i:Nat),L[k]?=some i->∃o o0,ag st.σ i=some o/\ag σ0 k=some o0/\MB (vi L) o o0) (h0:∀k o,ag σ0 k=some o->k<L.length)
  (τ:ι->aQ) (y:∀x i o,ag (τ x) i=some o->(∃k p,G4 L st.c k=some i/\ag (σ1 x) k=some p/\MB (G4 L st.c) p o)\/(ag st.σ i=some o/\i∉L)):
  th P o st (λs'=>∃x,s'={st with σ:=τ x,c:=st.c+(c1 x-L.length)}.put o.dst (qg (G4 L st.c) 20 (r x))):=by
 obtain⟨hc,fn,body,hfn,hb,hn,hT⟩:=hM
 intro cx a w K R ⟨β,h⟩ A
 obtain⟨vs,hrun,hsz,hv⟩:=lQ h ho hf hc
 refine h.loose.oper (λc hc=>by rw[ho] at hc;cases hc) ?_
 unfold Oper.wp
 rw[hrun]
 have hlive:∀i o,ag st.σ i=some o->∃x,β i=some x:=λi o ho=>by
  rcases(h.ob i o ho).at with h1|⟨b,C,_,h1,_⟩
  .exact⟨_,h1⟩
  .exact⟨_,h1⟩
 have hbound:∀i o,ag st.σ i=some o->i<st.c:=λi ob ho=>by
  rcases JB i st.c with hlt|hge
  .exact hlt
  .obtain⟨x,hx⟩:=hlive i ob ho;rw[h.fresh i hge] at hx;cases hx
 obtain⟨d,J⟩:∃d:Bm,d=λk=>match L[k]? with|some i=>β i|none=>none:=⟨_,rfl⟩
 have b0:∀{k i:Nat},L[k]?=some i->d k=β i:=λ{k i} hk=>by rw[J];simp only[hk]
 have b0n:∀{k:Nat},L.length<=k->d k=none:=λ{k} hk=>by rw[J];simp only[List.getElem?_eq_none hk]
 have hk0:∀{k:Nat} {o0:Ob},ag σ0 k=some o0->∃i o,L[k]?=some i/\i∈L/\ag st.σ i=some o/\MB (vi L) o o0:=λ{k o0} hk=>by have hlt:=h0 k o0 hk;have hi:L[k]?=some (L[k]'hlt):=EA hlt;grind
 have hmem:∀{i:Nat},i∈L->∃k o0,L[k]?=some i/\ag σ0 k=some o0:=λ{i} hi=>by obtain⟨k,hk⟩:=Gu hi;obtain⟨o,o0,_,g2,_⟩:=hin k i hk;exact⟨k,o0,hk,g2⟩
 obtain⟨Hid,m⟩:∃Hid:Fu,Hid=λb=>cx.S0 b\/∃i ob C,ag st.σ i=some ob/\β i=some (some (b,C))/\i∉L:=⟨_,rfl⟩
 have hav0:∀b,Av Hid d σ0 b↔Av cx.S0 β st.σ b:=λb=>by
  rw[m];constructor
  .rintro((hb|⟨i,ob,C,h1,h2,_⟩)|⟨k,ob,C,h1,h2⟩)
   .exact .inl hb
   .exact .inr ⟨i,ob,C,h1,h2⟩
   .obtain⟨i,o,g1,_,g2,_⟩:=hk0 h1;rw[b0 g1] at h2;exact .inr ⟨i,o,C,g2,h2⟩
  .rintro(hb|⟨i,ob,C,h1,h2⟩)
   .exact .inl (.inl hb)
   .by_cases hi:i∈L
    .obtain⟨k,o0,g1,g2⟩:=hmem hi;exact .inr ⟨k,o0,C,g2,(b0 g1).trans h2⟩
    .exact .inl (.inr ⟨i,ob,C,h1,h2,hi⟩)
 have kin:∀i k,vi L i=some k->d k=β i:=λi k hk=>b0 (QX hk)
 have hlivS:∀b,GG d σ0 b->∃i o C,i∈L/\ag st.σ i=some o/\β i=some (some (b,C)):=λb ⟨k,ob,C,h1,h2⟩=>by grind
 have hsz0:vs.size=gs0.length:=by grind
 have hv0:∀(i:Nat) (g:G) (u:Value),gs0[i]?=some g->vs[i]?=some u->RV d (Av Hid d σ0) w g u:=λi g u hg hu=>by
  rw[hgs,Mu] at hg;cases hx:(fst++xs.toList.map (aB st)++cap)[i]? with
  |none=>grind
  |some x=>rw[hx] at hg;simp only[Option.map_some,Fe] at hg;subst hg;exact IG kin 20 x u ((hv i x u hx hu).step (λ_ _ x=>x) (λb _ hb=>(hav0 b).1 hb) (A3.refl _ _))
 have hfront:Bx P ⟨w,GG d σ0,Hid,d,Fence.wide,9⟩ ⟨fn.ntmps,st.gl,bQ 0 gs0,σ0,L.length,L.length,false⟩ {tmps:=vs++Array.replicate (fn.ntmps-vs.size) undef,defers:=[]} w d:={
  size:=by grind
  defers:= .nil rfl
  loose:=lP
  rnd:=λ_=>rfl
  fr:=λi=>Ca hsz0 hn hv0 i
  ob:=λk o0 hk=>by obtain⟨i,o,g1,_,g2,q⟩:=hk0 hk;exact U8 kin ((h.ob i o g2).step (λ_ _ x=>x) (λb _ hb=>(hav0 b).1 hb) (A3.refl _ _) (λ_ _ _=>rfl)) q (b0 g1)
  inj:=λk1 k2 p B b C D h1 h2 h3 h4=>by obtain⟨i1,q1,g1,_,g2,_⟩:=hk0 h1;obtain⟨W,X,e1,_,e2,_⟩:=hk0 h2;grind [Bx.inj,List.getElem?_inj]
  own:=λk o0 b C h1 h2=> .inl ⟨k,o0,C,h1,h2⟩
  sep:=λk o0 b C h1 h2 hx=>by
   obtain⟨i,o,g1,g0,g2,_⟩:=hk0 h1;rw[b0 g1] at h2;have hx':Hid b:=hx;rw[m] at hx';rcases hx' with hx|⟨j,ob,D,e1,e2,e3⟩
   .exact h.sep i o b C g2 h2 hx
   .have:=h.inj i j o ob b C D g2 e1 h2 e2;subst this;exact e3 g0
  fresh:=λk hk=>b0n hk
  glob:=λg l hl=>(h.glob g l hl).sub λb _ hb=>(hav0 b).1 hb
  keep:=A3.refl _ _
  old:=λb hb=>by
   have hx':Hid b:=hb;rw[m] at hx';rcases hx' with hb|⟨i,ob,C,h1,h2,_⟩
   .exact h.keep.lt (h.old b hb)
   .exact h.lt h1 h2
  pin:=λk x hx=>⟨(by
   rcases JB k L.length with h'|h'
   .exact h'
   .have hx':d k=some x:=hx;rw[b0n h'] at hx';cases hx'),hx⟩}
 refine rq (cx:=⟨w,GG d σ0,Hid,d,Fence.wide,9⟩) hfn hb hT rfl rfl ⟨d,hfront⟩ ?_
 rintro e s a' w' ⟨he,hgl,t,z,hsc,U,F,H⟩ ⟨O,hr⟩
 replace y:=y t
 replace A:=λs' (hs:s'={st with σ:=τ t,c:=st.c+(c1 t-L.length)}.put o.dst (qg (G4 L st.c) 20 (r t)))=>A s' ⟨t,hs⟩
 generalize r t=r at H A
 generalize σ1 t=σ1 at z y
 generalize c1 t=c1 at hsc A
 generalize τ t=τ at y A
 obtain⟨v,hres,N⟩:=mP hr F
 obtain⟨β2,M⟩:∃β2:Bm,β2=λi=>if i<st.c then β i else O (L.length+(i-st.c)):=⟨_,rfl⟩
 have b2:∀{i:Nat},i<st.c->β2 i=β i:=λ{i} hi=>by rw[M];simp only[hi,if_true]
 have key:∀k i,G4 L st.c k=some i->β2 i=O k:=λk i hk=>by
  unfold G4 at hk;cases hx:L[k]? with
  |some j=>grind
  |none=>grind
 have hext:∀i x,β i=some x->β2 i=some x:=λi x hx=>by
  rcases JB i st.c with h'|h'
  .rw[b2 h'];exact hx
  .rw[h.fresh i h'] at hx;cases hx
 have hblk:∀i o b C,ag st.σ i=some o->β2 i=some (some (b,C))->β i=some (some (b,C)):=λi o b C ho hb=>by rw[b2 (hbound i o ho)] at hb;exact hb
 have hav:∀b,Av cx.S0 β2 τ b->Av Hid O s.σ b:=by rintro b (hb|⟨i,ob,C,h1,h2⟩);all_goals grind
 have hAo:∀b,b<w.heap.size->Av cx.S0 β2 τ b->Av cx.S0 β st.σ b:=by grind
 have hkp:A3 (Av cx.S0 β st.σ) w w':=hr.keep.mono λb _ hb=>by obtain⟨i,o,E,_,q,I⟩:=hlivS b hb;exact .inr ⟨i,o,E,q,I⟩
 have hframe:∀i o b C,ag st.σ i=some o->i∉L->β i=some (some (b,C))->w'.heap[b]?=w.heap[b]? :=λi o b C ho hn hb=>hr.keep.block b (h.lt ho hb) (λhl=>by obtain⟨j,B,E,g1,q,I⟩:=hlivS b hl;have:=h.inj i j o B b C E ho q hb I;subst this;exact hn g1)
 have hback:Bx P cx {st with σ:=τ,c:=st.c+(c1-L.length)} a w' β2:={
  size:=h.size
  defers:=h.defers.keep hr.keep (λD hD hl=>by obtain⟨j,B,E,g1,q,I⟩:=hlivS D hl;exact h.not_marks q I hD)
  loose:=h.loose
  rnd:=h.rnd
  fr:=λi=>(h.fr i).step hext hAo hkp
  ob:=λi o ho=>by
   rcases y i o ho with⟨k,p,g1,g2,q⟩|⟨g1,g2⟩
   .exact U8 key ((hr.ob k p (z k p g2)).step (λ_ _ x=>x) (λb _ hb=>hav b hb) (A3.refl _ _) (λ_ _ _=>rfl)) q (key k i g1)
   .exact(h.ob i o g1).step hext hAo hkp (λb C hb=>hframe i o b C g1 g2 hb)
  inj:=λi j o V b C D hi hj hbi Q=>by
   rcases y i o hi with⟨k,p,g1,g2,q⟩|⟨g1,g2⟩<;>rcases y j V hj with⟨k',S,e1,e2,e3⟩|⟨e1,e2⟩
   .grind
   all_goals grind
  own:=λi o b C hi hbi=>by
   rcases y i o hi with⟨k,p,g1,g2,q⟩|⟨g1,g2⟩
   .rw[key k i g1] at hbi;rcases hr.own k p b C (z k p g2) hbi with hb|hb
    .grind [Bx.own]
    .have:=h.keep.size;have hb':w.heap.size<=b:=hb;right;omega
   grind
  sep:=λi o b C hi hbi hx=>by
   rcases y i o hi with⟨k,p,g1,g2,q⟩|⟨g1,g2⟩
   .rw[key k i g1] at hbi;exact hr.sep k p b C (z k p g2) hbi (by rw[m];exact .inl hx)
   .exact h.sep i o b C g1 (hblk i o b C g1 hbi) hx
  fresh:=λi hi=>by have hi':st.c+(c1-L.length)<=i:=hi;rw[M];simp only;rw[BX aa];exact hr.fresh _ (by rw[hsc];omega)
  glob:=λg l hl=>(hr.glob g l (by rw[hgl];exact hl)).sub λb _ hb=>hav b hb
  keep:=h.keep.then hr.keep (λb hb hl=>by
   obtain⟨j,B,E,_,e3,e4⟩:=hlivS b hl;rcases h.own j B b E e3 e4 with h1|h1
   .exact h1
   .omega)
  old:=h.old
  pin:=λi x hx=>⟨(h.pin i x hx).1,hext i x (h.pin i x hx).2⟩}
 have hval:RV β2 (Av cx.S0 β2 τ) w' (qg (G4 L st.c) 20 r) v:=by rw[H];exact IG key 20 _ v (N.step (λ_ _ x=>x) (λb _ hb=>hav b hb) (A3.refl _ _))
 exact⟨he,v,hres,A _ rfl _ _ ⟨β2,hback.put o.dst hd hval⟩⟩
theorem jg.F{gl:CC}{f:FuncId}{gs:Bk}{σ0:aQ}{c:Nat}{r:G}{σ1:aQ}{c1:Nat}(h:jg P gl f gs σ0 c r σ1 c1):Xx P gl f gs σ0 c (ι:=Unit) (λ_=>r) (λ_=>σ1) (λ_=>c1):=by obtain⟨hc,fn,body,hfn,hb,hn,hT⟩:=h;constructor<;>grind
theorem MD{o:Oper}{st:St}{f:DC}{xs:Array DC}{ats:Array Bj}{fid:FuncId}{fst cap:Bk}(L:Br){gs0:Bk}{σ0:aQ}{r:G}{σ1:aQ}{c1:Nat}(ho:o.op= .call {callee:= .value f,args:=xs,argTypes:=ats})(hd:LV o st.n)(hf:aB st f= .clo (.func fid) fst cap)
  (hM:jg P st.gl fid gs0 σ0 L.length r σ1 c1) (hL:∀(k i:Nat),L[k]?=some i->i<st.c) (hnd:L.Nodup) (hgs:gs0=(fst++xs.toList.map (aB st)++cap).map (qg (vi L) 20))
  (hin:∀(k i:Nat),L[k]?=some i->∃o o0,ag st.σ i=some o/\ag σ0 k=some o0/\MB (vi L) o o0) (h0:∀k o,ag σ0 k=some o->k<L.length)
  (τ:aQ) (e:∀i o,ag τ i=some o->(∃k b,G4 L st.c k=some i/\ag σ1 k=some b/\MB (G4 L st.c) b o)\/(ag st.σ i=some o/\i∉L)):
  th P o st (λs'=>s'={st with σ:=τ,c:=st.c+(c1-L.length)}.put o.dst (qg (G4 L st.c) 20 r)):=by
 have:=MC (o:=o) (st:=st) (ι:=Unit) (r:=λ_=>r) (σ1:=λ_=>σ1) (c1:=λ_=>c1) L ho hd hf hM.F hL hnd hgs hin h0 (λ_=>τ) λ_=>e
 exact λcx a w K R h d=>this cx a w K R h λs' ⟨_,hs⟩=>d s' hs
end
section
variable {P:Bu} [M:Mix P] {c:Code} {K:List Kf} {st:St} {Q:Exit->St->Prop}
def Ok(P:Bu)(fn:Func)(gl:CC)(r:G)(σ1:aQ)(c1:Nat)(e:Exit)(s:St):Prop:=(e= .normal\/e= .ret)/\s.gl=gl/\(∀k o,ag σ1 k=some o->ag s.σ k=some o)/\s.c=c1/\∃a,fn.results.toList.mapM (jV P s)=some a/\r=iU a
theorem sMc{gl:CC}{gs:Bk}{σ0 σ1:aQ}{c0 c1:Nat}{r:G}(hf:P.funcs[f]?=some fn)(h:Tr P (ai fn) ⟨fn.ntmps,gl,bQ 0 gs,σ0,c0,c0,false⟩ (dz P [] (Ok P fn gl r σ1 c1)))(hc:aK P f=true:=by kernel_rfl)(hb:fn.body.isSome=true:=by kernel_rfl)(hn:Nat.ble gs.length fn.ntmps=true:=by kernel_rfl):jg P gl f gs σ0 c0 r σ1 c1:=by
 obtain⟨body,hb'⟩:=WE.1 hb;refine⟨hc,fn,body,hf,hb',Ef hn,?_⟩;have e:ai fn=body:=by grind [ai]
 rw[e] at h;exact Tr.leQ h
theorem Wo{gl:CC}{r:G}{σ1:aQ}{c1:Nat}{S0:St}{gs:Bk}(he:tc ex=true)(hr:vR P S0 fn.results.toList=some gs)(hg:S0.gl=gl)(a:S0.σ=σ1)(hc:S0.c=c1)(h:iU gs=r):Ok P fn gl r σ1 c1 ex S0:=by constructor<;>grind [eO,gh]
def w6(κ:Nat->Fq)(σ σ0:aQ):Nat->Br->Prop
 |_,[]=>True
 |k,i::L=>(match ag σ i,ag σ0 k with|some o,some o0=>MB κ o o0|_,_=>False)/\w6 κ σ σ0 (k+1) L
def EJ(κ:Nat->Fq)(σ1:aQ):List (Nat×Ob)->Prop
 |[]=>True
 |(k,o)::U=>(match ag σ1 k with|some a=>MB κ a o|none=>False)/\EJ κ σ1 U
theorem w6.get{κ:Nat->Fq}{σ σ0:aQ}:∀{L:Br} {a:Nat},w6 κ σ σ0 a L->∀(k i:Nat),L[k]?=some i->∃o o0,ag σ i=some o/\ag σ0 (a+k)=some o0/\MB κ o o0
 |[],_,_,_,_,h=>by cases h
 |j::L,a,h,0,i,hi=>by simp at hi;subst hi;have h1:=h.1;grind
 |j::L,a,h,k+1,i,hi=>by have:=w6.get h.2 k i (by grind);grind
theorem EJ.get{κ:Nat->Fq}{σ1:aQ}:∀{U:List (Nat×Ob)},EJ κ σ1 U->∀q∈U,∃a,ag σ1 q.1=some a/\MB κ a q.2
 |[],_,q,hq=>by cases hq
 |(k,o)::U,h,q,hq=>by
  rcases EG.1 hq with rfl|hq
  .have h1:=h.1;grind
  .exact EJ.get h.2 q hq
def KQ(L:Br)(c:Nat)(U:List (Nat×Ob)):aQ:=U.map λq=>((G4 L c q.1).getD 0,some q.2)
theorem Gl(L:Br)(c k:Nat):∃i,G4 L c k=some i:=by unfold G4;cases L[k]? <;>grind
theorem YM{gl:CC}{gs0 gs:Bk}{σ0 σ1 σR:aQ}{r g:G}{c1 c c':Nat}(L:Br)(U:List (Nat×Ob))(hM:jg P gl fid gs0 σ0 L.length r σ1 c1)
  (hin:w6 (vi L) σR σ0 0 L) (d:EJ (G4 L c) σ1 U) (hlt:L.all (λi=>Nat.blt i c)=true:=by kernel_rfl) (hnd:decide L.Nodup=true:=by kernel_rfl) (hgs:gs.map (qg (vi L) 20)=gs0:=by kernel_rfl)
  (hk0:σ0.all (λq=>Nat.blt q.1 L.length)=true:=by kernel_rfl) (hcov:(List.range L.length).all (λk=>U.any λq=>Nat.beq q.1 k)=true:=by kernel_rfl) (hg:qg (G4 L c) 20 r=g:=by kernel_rfl) (hc:c+(c1-L.length)=c':=by kernel_rfl) (hR:σR.all (λq=>q.2.isSome)=true:=by kernel_rfl):oJ P gl fid gs σR c g (KQ L c U) c':=by
 intro o st y xs ats fst cap ho hd hf a hgl hq hsc
 have j:=hin.get
 have hgetR:∀i o,ag σR i=some o->ag st.σ i=some o:=λi o hh=>by
  have:∀l:aQ,(∀q∈l,q∈σR)->ag l i=some o->ag st.σ i=some o:=by
   intro l;induction l with
   |nil=>intro _ h;cases h
   |cons q t ih=>grind
  grind
 have key:=MD (o:=o) (st:=st) (f:=y) (xs:=xs) (ats:=ats) (fid:=fid) (fst:=fst) (cap:=cap) L (gs0:=gs0) (σ0:=σ0) (r:=r) (σ1:=σ1) (c1:=c1) ho hd hf (by rw[hgl];exact hM) (λk i hk=>by
   have:=GV.1 hlt i (bO hk);simp_all) (DV hnd) (by rw[a,hgs]) (by grind) (λk o hkk=>by
   have:∀l:aQ,(∀q∈l,q∈σ0)->ag l k=some o->k<L.length:=by
    intro l;induction l with
    |nil=>intro _ h;cases h
    |cons q t ih=>
     intro hs h;rw[show(q::t:aQ)=(q.1,q.2)::t from rfl,A9] at h;split at h
     .rename_i e;subst e;exact Ef (GV.1 hk0 q (by grind))
     grind
   grind) (KQ L c U++st.σ) (λi o hh=>by
   have:∀l:List (Nat×Ob),(∀q∈l,q∈U)->ag (KQ L c l++st.σ) i=some o->(∃q∈U,G4 L c q.1=some i/\q.2=o)\/(ag st.σ i=some o/\∀q∈l,G4 L c q.1≠some i):=by
    intro l;induction l with
    |nil=>intro _ h;exact .inr ⟨h,(by grind)⟩
    |cons q t ih=>intro hs h;obtain⟨m,hi'⟩:=Gl L c q.1;rw[show KQ L c (q::t)++st.σ=((G4 L c q.1).getD 0,some q.2)::(KQ L c t++st.σ) from rfl,hi',Nt,A9] at h;grind
   rcases this U (λ_ h=>h) hh with⟨q,b,h1,rfl⟩|⟨h1,h2⟩
   .grind [EJ.get]
   .refine .inr ⟨h1,λhi=>?_⟩;obtain⟨k,hk⟩:=Gu hi;have hkl:=(cr hk).1;obtain⟨q,b,he⟩:=List.any_eq_true.1 (GV.1 hcov k (List.mem_range.2 hkl));refine h2 q b ?_;rw[bc he];unfold G4;rw[hk])
 grind [th.gs]
end
section
variable {P:Bu} [M:Mix P] {c:Code} {K:List Kf} {st:St} {Q:Exit->St->Prop} {fn:Func} {Bs:List (St->Prop)} {m:Bool} {p:Br}
def YN:Code->Bool
 | .rangeFunc _ _ _ _=>true
 |_=>false
def rfG:Code->DC
 | .rangeFunc g _ _ _=>g
 |_=> .tmp 0
def Dy:Code->Array Tmp
 | .rangeFunc _ ps _ _=>ps
 |_=> #[]
def Dz:Code->Code
 | .rangeFunc _ _ a _=>a
 |_=> .skip
def DA:Code->Code
 | .rangeFunc _ _ _ b=>b
 |_=> .skip
theorem sRf{fst cap:Bk}(fn:Func)(hfn:P.funcs[fid]?=some fn)(hg:aB st (rfG c)= .clo (.func fid) fst cap)(h:Tr P (ai fn) ⟨fn.ntmps,st.gl,bQ 0 (fst++[G.yld st.c]++cap),(st.c,some ⟨0,[],some (.loop .ready none st.n st.fr (Dy c) (Dz c) (DA c))⟩)::st.σ,st.c+1,st.c+1,false⟩ (dz P [] (sI P st Q)))
  (hi:YN c=true:=by kernel_rfl) (hr:st.r=false:=by kernel_rfl) (hc:aK P fid=true:=by kernel_rfl) (hb:fn.body.isSome=true:=by kernel_rfl) (hn:Nat.ble (fst++[G.yld st.c]++cap).length fn.ntmps=true:=by kernel_rfl) (hres:fn.results.toList=[]:=by kernel_rfl):Tr P c st Q:=by
 obtain⟨d,hb'⟩:=WE.1 hb
 have e:ai fn=d:=by grind [ai]
 rw[e] at h
 cases c with
 |rangeFunc g ps a b=>exact wx hr hg hc hfn hb' (Ef hn) hres (Tr.leQ h)
 |_=>cases hi
theorem QW(he:tc ex=true)(hgl:s.gl=st.gl)(ho:ag s.σ st.c=some ⟨t,[],some (.loop .ready none n fr ps a b)⟩)(h:Q .normal {st with σ:=(st.c,none)::(st.c,some ⟨t,[],some (.loop .exhausted none n fr ps a b)⟩)::s.σ,c:=s.c}):sI P st Q ex s:=
 by constructor<;>grind [eO]
def YO:Code->Bool
 | .region _ _ false=>true
 |_=>false
def pZ:Code->HE
 | .region _ ops _=>ops.toList
 |_=>[]
def YP(o:Oper):DC:=match o.op with
 | .call {callee:= .value f,.. }=>f
 |_=> .tmp 0
def Tw(o:Oper):List DC:=match o.op with
 | .call {callee:= .value _,args:=xs,.. }=>xs.toList
 |_=>[]
def oIs(o:Oper):Bool:=match o.op with
 | .call {callee:= .value _,.. }=>true
 |_=>false
def qd(P:Bu)(ops:Array Oper)(hs:List Hn)(l:HE)(st:St):Option (Prop×Br×St):=(Um P ops hs l st).map λ(ps,u,s)=>(TE ps True,u,s)
theorem Mz{ops:Array Oper}{hs:List Hn}{l:HE}{C:Prop}{u:Br}(h:qd P ops hs l st=some (C,u,s1))(a:C):D8 P ops (λs=>s=s1) l st:=by obtain⟨⟨ps,u,s⟩,hr,e⟩:=DQ.1 h;cases e;exact Q4 l st _ _ _ hr (Gr a).1 rfl
theorem As{ops:Array Oper}{a K2:St->Prop}:∀(l l2:HE) (st:St),D8 P ops a l st->(∀s,a s->vU P ops K2 l2 s)->vU P ops K2 (l++l2) st
 |[],l2,st,h,hk=>hk st h
 |o::r,l2,st,h,hk=>by
  rcases h with⟨hw,s1,hg,hr⟩|⟨hw,hd,hr⟩
  .exact .inl ⟨hw,hg.gsn.eqv λs hs=>⟨s,by rw[hs];exact As r l2 s1 hr hk,Yi.refl _⟩⟩
  .exact .inr ⟨hw,hd,As r l2 _ hr hk⟩
def MA(P:Bu)(st:St)(i:Nat)(S:Option Code->QN->Bj->St->Prop)(bd:Code)(e:Exit)(s:St):Prop:=e= .normal/\s.gl=st.gl/\∃t' a h b d f g,ag s.σ i=some ⟨t',[],some (.loop .ready a h b d f g)⟩/\Tr P bd {s with σ:=(i,some ⟨t',[],some (.loop .busy a h b d f g)⟩)::s.σ} (rE P st i S)
def qOf:QN->Option Code
 | .loop _ q _ _ _ _ _=>q
 |_=>none
def Tx(b:aQ)(c2:Nat)(a:QN)(t2:Bj)(j:Option Code)(x:QN)(t:Bj)(s:St):Prop:=j=qOf a/\x=a/\t=t2/\s.σ=b/\s.c=c2
theorem Wp{S:Option Code->QN->Bj->St->Prop}(he:ex= .normal)(hgl:s.gl=st.gl)(ho:ag s.σ i=some ⟨t,[],some (.loop .ready pe n fr ps a b)⟩)(h:Tr P bd {s with σ:=(i,some ⟨t,[],some (.loop .busy pe n fr ps a b)⟩)::s.σ} (dz P [] (rE P st i S))):MA P st i S bd ex s:=
 ⟨he,hgl,t,pe,n,fr,ps,a,b,ho,Tr.leQ h⟩
theorem jy{σ2:aQ}{c2:Nat}{d:QN}{ls:LoopState}(he:ex= .normal)(hgl:s.gl=st.gl)(ho:ag s.σ i=some ⟨t2,[],some (.loop ls pe n fr ps a b)⟩)(e: .loop .ready none n fr ps a b=d)(f:s.σ=σ2)(hc:s.c=c2):rE P st i (Tx σ2 c2 d t2) ex s:=
 ⟨hgl,none,t2,ls,pe,n,fr,ps,a,b,by rw[he];rfl,ho,by rw[<-e];rfl,e,rfl,f,hc⟩
theorem sYd(j i:Nat){s3:St}{o:Oper}(k:aQ)(c2:Nat)(e:QN)(r y u z:List HP)
  (hob:ag s1.σ i=some ⟨t,[],some (.loop .ready pe n fr ps a b)⟩)
  (h:Tr P a ⟨n,s1.gl,xU (ps.toList.zip ((Tw o).map (aB s1))) fr,s1.σ,s1.c,s1.c,true⟩ (dz P [] (MA P s1 i (Tx k c2 e t2) b)))
  (h3:dz P K Q .normal s3)
  (e1:Ua r (qd P (pZ c).toArray (bK r) ((pZ c).take j) st) s1:=by exact⟨aH,aH⟩)
  (A:(pZ c)[j]?=some o:=by kernel_rfl)
  (e2:Ua u (qd P (pZ c).toArray (bK u) ((pZ c).drop (j+1)) ({s1 with σ:=(i,some ⟨t2,[],some e⟩)::k,c:=c2}.put o.dst (.lit (.bool (qOf e).isNone)))) s3:=by exact⟨aH,aH⟩)
  (hi:YO c=true:=by kernel_rfl) (hw:ce s1 (pZ c).toArray o=some true:=by kernel_rfl) (d:oIs o=true:=by kernel_rfl) (hd:pj s1.n o.dst=true:=by kernel_rfl) (hf:aB s1 (YP o)= .yld i:=by kernel_rfl)
  (hsz:Nat.beq (Tw o).length ps.size=true:=by kernel_rfl) (g:ps.toList.all (λp=>Nat.blt p n)=true:=by kernel_rfl):Tr P c st (dz P K Q):=by
 cases c with
 |region id ops draw=>
  cases draw with
  |true=>cases hi
  |false=>
   have hl:(pZ (.region id ops false)).toArray=ops:=Array.toArray_toList
   rw[hl] at e1 e2 hw
   have hsplit:ops.toList=ops.toList.take j++(o::ops.toList.drop (j+1)):=by grind [List.drop_eq_getElem_cons,Pw]
   have key:Tr P (.region id ops.toList.toArray false) st (dz P K Q):=by
    refine lG ?_;rw[Array.toArray_toList];rw[hsplit];refine As _ _ _ (Mz e1.2 (kA e1.1)) λs hs=>?_;rw[hs];obtain⟨l,op,ty,pos,v,gd⟩:=o;cases op with
    |call cl=>
     obtain⟨q,xs,ats⟩:=cl;cases q with
     |value f=>
      refine .inl ⟨hw,?_⟩;have hy:=Em (P:=P) (o:=⟨l,.call {callee:= .value f,args:=xs,argTypes:=ats},ty,pos,v,gd⟩) (st:=s1) (f:=f) (xs:=xs) (ats:=ats) (i:=i) (n:=n) (t:=t) (pe:=pe) (fr:=fr) (ps:=ps) (az9:=a) (bd:=b) (S:=Tx k c2 e t2) rfl (SG hd) hf hob (bc hsz) (λp hp=>Ef (GV.1 g p hp)) (Tr.leQ h);refine hy.eqv λs hs=>⟨s,?_,Yi.refl _⟩;obtain⟨B,x,t',s',⟨rfl,rfl,rfl,w,hc⟩,rfl⟩:=hs;rw[w,hc];have:=As (K2:=dz P K Q .normal) _ [] _ (Mz e2.2 (kA e2.1)) λs hs=>by rw[hs];exact h3
      grind
     |_=>cases d
    |_=>cases d
   grind
 |_=>cases hi
def Gm(P:Bu)(hs:List Hn)(m:Code⊕Exit)(K:List Kf)(vs:List Bj)(ρ:DH)(kd:List (Nat×Rk))(J st:St):Option (Prop×Br×JR×Exit×St):=match sy P hs 1000000 1000 m K st with
 |some (C,u,.fin e s)=>match Iw P vs ρ kd J s with
  |some (L,s')=>some (C,u,L,e,s')
  |none=>none
 |_=>none
theorem C9(a:Exit)(J:St)(A O:List HP)(h:Q a J)(vs:List Bj:=[])(ρ:DH:=[])(kd:List (Nat×Rk):=[])(hk:Ua A (Gm P (bK A) (LQ m p (ai fn)) (bE p (ai fn) Bs []) vs ρ kd J st) (pR O,a,J):=by exact⟨aH,aH⟩):Gp P fn Q Bs m p st:=by
 obtain⟨C,u,b,e⟩:=hk.out;unfold Gp;unfold Gm at e;split at e;rotate_left
 .cases e
 rename_i d f x s1 h1;split at e;rotate_left
 .cases e
 rename_i L s' h2;simp only[Fe,Ft] at e;obtain⟨rfl,rfl,rfl,rfl,rfl⟩:=e;exact oK M.mx (out:= .fin x s1) ⟨_,sR h2 (wR O),h⟩ 1000 _ _ _ _ _ h1 b
theorem pP{gl:CC}{gs:Bk}{σ0 σ1:aQ}{c0 c1:Nat}{r:G}(hf:P.funcs[f]?=some fn)(h:Gp P fn (Ok P fn gl r σ1 c1) [] false [] ⟨fn.ntmps,gl,bQ 0 gs,σ0,c0,c0,false⟩)(hc:aK P f=true:=by kernel_rfl)(hb:fn.body.isSome=true:=by kernel_rfl)(hn:Nat.ble gs.length fn.ntmps=true:=by kernel_rfl):jg P gl f gs σ0 c0 r σ1 c1:=sMc hf h hc hb hn
theorem mt{gl:CC}{r:G}{σ1:aQ}{c1:Nat}(a:Exit)(J:St)(gs:Bk)(A O:List HP)(hg:J.gl=gl:=by rfl)(b:J.σ=σ1:=by rfl)(hc:J.c=c1:=by rfl)(hr:iU gs=r:=by rfl)(vs:List Bj:=[])(ρ:DH:=[])(kd:List (Nat×Rk):=[])(he:tc a=true:=by rfl)(hx:vR P J fn.results.toList=some gs:=by kernel_rfl)(hk:Ua A (Gm P (bK A) (LQ m p (ai fn)) (bE p (ai fn) Bs []) vs ρ kd J st) (pR O,a,J):=by exact⟨aH,aH⟩):Gp P fn (Ok P fn gl r σ1 c1) Bs m p st:=
 C9 a J A O (Wo he hx hg b hc hr) vs ρ kd hk
def fnB(fn:Func)(c:Code):Func:={fn with body:=some c}
theorem Xt{fst cap:Bk}(a:Func)(hfn:P.funcs[fid]?=some a)(h:Gp P a (sI P st (dz P (bE p (ai fn) Bs []) Q)) [] false [] ⟨a.ntmps,st.gl,bQ 0 (fst++[G.yld st.c]++cap),(st.c,some ⟨0,[],some (.loop .ready none st.n st.fr (Dy (bq p (ai fn))) (Dz (bq p (ai fn))) (DA (bq p (ai fn))))⟩)::st.σ,st.c+1,st.c+1,false⟩)
  (hg:aB st (rfG (bq p (ai fn)))= .clo (.func fid) fst cap:=by kernel_rfl) (hi:YN (bq p (ai fn))=true:=by kernel_rfl) (hr:st.r=false:=by kernel_rfl) (hc:aK P fid=true:=by kernel_rfl) (hb:a.body.isSome=true:=by kernel_rfl) (hn:Nat.ble (fst++[G.yld st.c]++cap).length a.ntmps=true:=by kernel_rfl) (hres:a.results.toList=[]:=by kernel_rfl):Gp P fn Q Bs false p st:=sRf (c:=bq p (ai fn)) a hfn hg h hi hr hc hb hn hres
theorem Xu{s:St}(h:Gp P fn Q Bs true p {st with σ:=(st.c,none)::(st.c,some ⟨t,[],some (.loop .exhausted none n fr ps a b)⟩)::s.σ,c:=s.c})(ho:ag s.σ st.c=some ⟨t,[],some (.loop .ready none n fr ps a b)⟩)(hgl:s.gl=st.gl:=by rfl)(he:tc ex=true:=by rfl):sI P st (dz P (bE p (ai fn) Bs []) Q) ex s:=QW he hgl ho h
theorem Xv{S:Option Code->QN->Bj->St->Prop}(fn:Func)(h:Gp P (fnB fn bd) (rE P st i S) [] false [] {s with σ:=(i,some ⟨t,[],some (.loop .busy pe n fr ps a b)⟩)::s.σ})(ho:ag s.σ i=some ⟨t,[],some (.loop .ready pe n fr ps a b)⟩)(hgl:s.gl=st.gl:=by rfl)(he:ex= .normal:=by rfl):MA P st i S bd ex s:=Wp he hgl ho h
def CK(c:Code)(j:Nat):Oper:=((pZ c)[j]?).getD ⟨none,.assign (.tmp 0),0, "",#[],none⟩
theorem Xw(j i:Nat){s1 s3:St}{t t2:Bj}{pe:Option Code}{n:Nat}{fr:Fr}{ps:Array Tmp}{a b:Code}(l:aQ)(c2:Nat)(d:QN)(e f:List HP)
  (h:Gp P (fnB fn a) (MA P s1 i (Tx l c2 d t2) b) [] false [] ⟨n,s1.gl,xU (ps.toList.zip ((Tw (CK (bq p (ai fn)) j)).map (aB s1))) fr,s1.σ,s1.c,s1.c,true⟩)
  (h3:Gp P fn Q Bs true p s3)
  (hob:ag s1.σ i=some ⟨t,[],some (.loop .ready pe n fr ps a b)⟩:=by kernel_rfl)
  (e1:Ua e (qd P (pZ (bq p (ai fn))).toArray (bK e) ((pZ (bq p (ai fn))).take j) st) s1:=by exact⟨aH,aH⟩)
  (o:(pZ (bq p (ai fn)))[j]?=some (CK (bq p (ai fn)) j):=by kernel_rfl)
  (e2:Ua f (qd P (pZ (bq p (ai fn))).toArray (bK f) ((pZ (bq p (ai fn))).drop (j+1)) ({s1 with σ:=(i,some ⟨t2,[],some d⟩)::l,c:=c2}.put (CK (bq p (ai fn)) j).dst (.lit (.bool (qOf d).isNone)))) s3:=by exact⟨aH,aH⟩)
  (hi:YO (bq p (ai fn))=true:=by kernel_rfl) (hw:ce s1 (pZ (bq p (ai fn))).toArray (CK (bq p (ai fn)) j)=some true:=by kernel_rfl) (g:oIs (CK (bq p (ai fn)) j)=true:=by kernel_rfl) (hd:pj s1.n (CK (bq p (ai fn)) j).dst=true:=by kernel_rfl) (hf:aB s1 (YP (CK (bq p (ai fn)) j))= .yld i:=by kernel_rfl)
  (hsz:Nat.beq (Tw (CK (bq p (ai fn)) j)).length ps.size=true:=by kernel_rfl) (k:ps.toList.all (λp=>Nat.blt p n)=true:=by kernel_rfl):Gp P fn Q Bs false p st:=
 sYd (c:=bq p (ai fn)) j i l c2 d e [] f [] hob h h3 e1 o e2 hi hw g hd hf hsz k
def hmc(d:Nat)(L:Br)(c:Nat)(σR:aQ)(gs:Bk)(U:List (Nat×Ob)){gl:CC}{fid:FuncId}{gs0:Bk}{σ0 σ1:aQ}{r:G}{c1:Nat}(hM:jg P gl fid gs0 σ0 L.length r σ1 c1)
  (hin:w6 (vi L) σR σ0 0 L) (a:EJ (G4 L c) σ1 U) (hlt:L.all (λi=>Nat.blt i c)=true:=by kernel_rfl) (hnd:decide L.Nodup=true:=by kernel_rfl) (hgs:gs.map (qg (vi L) 20)=gs0:=by kernel_rfl)
  (hk0:σ0.all (λq=>Nat.blt q.1 L.length)=true:=by kernel_rfl) (hcov:(List.range L.length).all (λk=>U.any λq=>Nat.beq q.1 k)=true:=by kernel_rfl) (hR:σR.all (λq=>q.2.isSome)=true:=by kernel_rfl):HP:=
 hz d L (P:=P) (gl:=gl) (f:=fid) (gs:=gs) (σR:=σR) (c:=c) (g:=qg (G4 L c) 20 r) (U:=KQ L c U) (c':=c+(c1-L.length)) (YM L U hM hin a hlt hnd hgs hk0 hcov rfl rfl hR)
def YQ(P:Bu)(hs:List Hn)(cut:Nat)(m:Code⊕Exit)(K:List Kf)(a:Br)(st:St):Option (Prop×Br×St×Code×List Kf):=match sy P hs cut 1000 m K st with
 |some (C,u,.ct c' K' s)=>some (C,u,{s with fr:=a.map λk=>(k,aD s.fr k)},c',K')
 |_=>none
theorem IB{fr:Fr}{d:Nat}:∀a:Br,aD (a.map λk=>(k,aD fr k)) d=aD fr d\/aD (a.map λk=>(k,aD fr k)) d= .junk
 |[]=> .inr rfl
 |k::r=>by
  rw[Fi,aO];split
  .grind
  .exact IB r
theorem UZ(b:Br):Le P s {s with fr:=b.map λk=>(k,aD s.fr k)}:=by rintro cx a w ⟨β,r⟩;refine⟨β,{r with fr:=λi=>?_}⟩;grind [IB,RV]
theorem YR(q:Br)(J:St)(A:List HP)(kk:Gp P fn Q Bs false q J)
  (hk:Ua A (YQ P (bK A) (wT (bq q (ai fn))) (LQ m p (ai fn)) (bE p (ai fn) Bs []) (xb J) st) (J,bq q (ai fn),bE q (ai fn) Bs []):=by exact⟨aH,aH⟩):Gp P fn Q Bs m p st:=by
 obtain⟨C,u,a,e⟩:=hk.out
 generalize hks:xb J=ks at e
 unfold Gp
 unfold YQ at e
 split at e
 rotate_left
 .cases e
 rename_i b f c K' s1 h1
 simp only[Fe,Ft] at e
 obtain⟨rfl,rfl,d,rfl,rfl⟩:=e
 refine oK M.mx (out:= .ct (bq q (ai fn)) (bE q (ai fn) Bs []) s1) (Tr.le kk ?_) 1000 _ _ _ _ _ h1 a
 grind [UZ]
def Gn(P:Bu)(hs:List Hn)(m:Code⊕Exit)(K:List Kf)(a:Br)(st:St):Option (Prop×Br×Exit×St):=match sy P hs 1000000 1000 m K st with
 |some (C,u,.fin e s)=>some (C,u,e,{s with fr:=a.map λk=>(k,aD s.fr k)})
 |_=>none
theorem dFf(a:Exit)(J:St)(A:List HP)(h:Q a J)
  (hk:Ua A (Gn P (bK A) (LQ m p (ai fn)) (bE p (ai fn) Bs []) (xb J) st) (a,J):=by exact⟨aH,aH⟩):Gp P fn Q Bs m p st:=by
 obtain⟨C,u,b,e⟩:=hk.out
 generalize hks:xb J=ks at e
 unfold Gp
 unfold Gn at e
 split at e
 rotate_left
 .cases e
 rename_i d g x s1 h1
 simp only[Fe,Ft] at e
 obtain⟨rfl,rfl,rfl,f⟩:=e
 refine oK M.mx (out:= .fin x s1) ⟨J,?_,h⟩ 1000 _ _ _ _ _ h1 b
 grind [UZ]
theorem dEf{gl:CC}{r:G}{σ1:aQ}{c1:Nat}(a:Exit)(J:St)(gs:Bk)(A:List HP)(b:∀k o,ag σ1 k=some o->ag J.σ k=some o)(hg:J.gl=gl:=by rfl)(hc:J.c=c1:=by rfl)(hr:iU gs=r:=by rfl)(he:tc a=true:=by rfl)(hx:vR P J fn.results.toList=some gs:=by kernel_rfl)
  (hk:Ua A (Gn P (bK A) (LQ m p (ai fn)) (bE p (ai fn) Bs []) (xb J) st) (a,J):=by exact⟨aH,aH⟩):Gp P fn (Ok P fn gl r σ1 c1) Bs m p st:=
 dFf a J A ⟨eO he,hg,b,hc,gs,gh hx,hr.symm⟩ hk
end
section
attribute [local irreducible] Tr dz Gp
abbrev u1(n:Nat):Option Ob:=some ⟨36,[uG n],none⟩
theorem Kt(a n:Nat):jg prog gl 163 [uG a,uG n] [] 0 (.clo (.func 228) [] [.ref 0 0,.ref 1 0]) [(0,u1 a),(1,u1 n)] 2:=by refine pP func163 ?_;exact dEf .ret (s0 6 gl [(4,.clo (.func 228) [] [.ref 0 0,.ref 1 0])] [(1,u1 n),(0,u1 a)] 2 0) [.clo (.func 228) [] [.ref 0 0,.ref 1 0]] [] (λk o hk=>by rcases k with _|_|k<;>exact hk)
def mW(s:Nat×Nat×Nat):Option ((Nat×Nat×Nat)⊕Nat):=
 bif ((0:Nat):Int)<(s.2.1:Int)then((bif ((bD s.2.1 1:Nat):Int)=((1:Nat):Int)then(jZ s.2.2 s.1)else some s.2.2).bind λo=>(jZ s.1 s.1).bind λb=>some (.inl (b,JH s.2.1 1,o)))else some (.inr s.2.2)
def j7(a n:Nat):Fq:=(eR a).bind λv=>AH mW (v,n,1)
noncomputable abbrev FZ:Code:=bq 111012 (ai Tryz.f83)
noncomputable abbrev tL(st:LoopState)(fr:Fr):Option Ob:=some ⟨0,[],some (.loop st none 18 fr (Dy FZ) (Dz FZ) (DA FZ))⟩
noncomputable abbrev Yo:Fr:=[(5,.ref 0 0),(10,.clo (.func 228) [] [.ref 1 0,.ref 2 0])]
abbrev r4:DH:=[(0,0),(1,1),(2,2),(3,3)]
theorem mX{a:Nat}(h:j7 a n=some r):ba prog gl 83 [uG a,uG n] (uG r):=by
 unfold j7 at h;obtain⟨v,ev,h⟩:=bS h;refine Gh func83 ?_;refine YR [1,1,0,1,2] (s0 18 gl Yo [(1,u1 a),(2,u1 n),(0,u1 1)] 3 0) [hmc 10 [] 1 [] [uG a,uG n] [(0,⟨36,[uG a],none⟩),(1,⟨36,[uG n],none⟩)] (Kt gl a n) trivial ⟨⟨rfl,.inl rfl⟩,⟨rfl,.inl rfl⟩,trivial⟩] ?_;refine Xt (fst:=[]) (cap:=[.ref 1 0,.ref 2 0]) Tryz.f228 func228 ?_;refine pN (λs:Nat×Nat×Nat=>(s0 22 gl [(0,.yld 3),(1,.ref 1 0),(2,.ref 2 0),(4,uG s.1)] [(0,u1 s.2.2),(2,u1 s.2.1),(3,tL .ready [(5,.ref 0 0)])] 4 4)) 1122 h [hf 6 (E5 gl ev)] [] (λB s w hs k5 d=>?_) [] r4;unfold mW at hs;rcases bC hs with⟨b1,hs⟩|⟨b1,hs⟩
 .obtain⟨o,c,hs⟩:=bS hs;obtain⟨b,eb,hs⟩:=bS hs;obtain rfl:=Bp hs;refine pO 112200 (s0 22 gl [(0,.yld 3),(1,.ref 1 0),(2,.ref 2 0),(4,uG s.1)] [(0,u1 s.2.2),(2,u1 s.2.1),(3,tL .ready [(5,.ref 0 0)])] 4 4) [] [] ?_ [] r4;refine Xw (i:=3) (j:=8) (n:=18) (t:=0) (t2:=0) (pe:=none) (fr:=[(5,.ref 0 0)]) (ps:=Dy FZ) (a:=Dz FZ) (b:=DA FZ) (s1:=(s0 22 gl [(14,bG (decide (((bD s.2.1 1:Nat):Int)=((1:Nat):Int)))),(13,uG (bD s.2.1 1)),(12,uG s.2.1),(11,uG s.1),(10,.yld 3),(9,bG true),(8,bG true),(7,uG s.2.1),(0,.yld 3),(1,.ref 1 0),(2,.ref 2 0),(4,uG s.1)] [(0,u1 s.2.2),(2,u1 s.2.1),(3,tL .ready [(5,.ref 0 0)])] 4 4))
   (s3:=(s0 22 gl [(16,bG true),(15,bG true),(14,bG (decide (((bD s.2.1 1:Nat):Int)=((1:Nat):Int)))),(13,uG (bD s.2.1 1)),(12,uG s.2.1),(11,uG s.1),(10,.yld 3),(9,bG true),(8,bG true),(7,uG s.2.1),(0,.yld 3),(1,.ref 1 0),(2,.ref 2 0),(4,uG s.1)] ((3,tL .ready [(5,.ref 0 0)])::[(0,u1 o),(2,u1 s.2.1),(3,tL .busy [(5,.ref 0 0)])]) 4 4))
   [(0,u1 o),(2,u1 s.2.1),(3,tL .busy [(5,.ref 0 0)])] 4 (.loop .ready none 18 [(5,.ref 0 0)] (Dy FZ) (Dz FZ) (DA FZ)) [hr 8 b1,hV 13 (ju (P:=prog) (t:=36) s.2.1 1)] [] ?_ ?_
  .refine C9 .normal ⟨18,gl,[(5,.ref 0 0),(6,uG s.1),(7,bG (decide (((bD s.2.1 1:Nat):Int)=((1:Nat):Int))))],[(0,u1 s.2.2),(2,u1 s.2.1),(3,tL .ready [(5,.ref 0 0)])],4,4,true⟩ [] [] (Xv Tryz.f83 ?_ rfl) [] r4;rcases bC c with⟨b2,c⟩|⟨b2,c⟩
   .rw[b2];exact C9 .normal ⟨18,gl,[],[(0,u1 o),(2,u1 s.2.1),(3,tL .busy [(5,.ref 0 0)])],4,4,true⟩ [hf 16 (j0 gl c)] [] (jy rfl rfl rfl rfl rfl rfl) [] r4
   .rw[b2];obtain rfl:=Bp c;exact C9 .normal ⟨18,gl,[],[(0,u1 s.2.2),(2,u1 s.2.1),(3,tL .busy [(5,.ref 0 0)])],4,4,true⟩ [] [] (jy rfl rfl rfl rfl rfl rfl) [] r4
  .exact jw [hf 21 (j0 gl eb),hV 18 (Ui (P:=prog) (t:=36) (k':= .u64) s.2.1 1)] [] (k5 _ rfl) [] r4
 .obtain rfl:=Bp hs;obtain rfl:=d _ rfl;refine C9 .normal (s0 22 gl [] [(0,u1 s.2.2),(3,tL .ready [(5,.ref 0 0)])] 4 4) [hr 8 b1] [] (Xu ?_ rfl) [] r4;exact Ar [] []
def kE(s k w:Nat):Fq:=(jZ 37 s).bind λa=>(eR (wU ((w:Int)+((wU ((k:Int)+((1:Nat):Int)):Nat):Int)))).bind λb=>(wG a b).bind λc=>j7 c 17
def rK(l:Br)(x:Nat×Nat×Int):Option ((Nat×Nat×Int)⊕(Nat×Nat)):=bif x.2.2<ah l then(aS l x.2.2).bind λw=>(kE x.1 x.2.1 w).bind λs=>some (.inl (s,wU ((x.2.1:Int)+((1:Nat):Int)),wI (x.2.2+1)))else some (.inr (x.1,x.2.1))
abbrev Ku(s k:Nat):Option Ob:=some ⟨388,[uG s,uG k],none⟩
abbrev Ci(l:Br):Option Ob:=some ⟨36,l.flatMap cW,none⟩
theorem Th{l:Br}{s:Nat}{r:Nat×Nat}(h:AH (rK l) (s,k,0)=some r):jg prog gl 355 [.ref 0 0,.rsl 1 0 l.length] [(0,Ku s k),(1,Ci l)] 2 (.tup []) [(0,Ku r.1 r.2),(1,Ci l)] 2:=by
 refine pP func355 ?_;refine pN (λx:Nat×Nat×Int=>(s0 37 gl [(0,.ref 0 0),(6,.rsl 1 0 l.length),(7,iG (ah l)),(8,iG x.2.2)] [(0,Ku x.1 x.2.1),(1,Ci l)] 2 2)) 1122 h [] [hc (rfl:l.length=l.length),hc (rW.imm l)] (λB x w hs k5 e=>?_) (kd:=[(1,.row)]);unfold rK at hs;rcases bC hs with⟨b1,hs⟩|⟨b1,hs⟩
 .obtain⟨y,d,hs⟩:=bS hs;obtain⟨s',es,hs⟩:=bS hs;obtain rfl:=Bp hs;unfold kE at es;obtain⟨a,f,es⟩:=bS es;obtain⟨b,eb,es⟩:=bS es;obtain⟨c,g,es⟩:=bS es;exact jw [hr 9 b1,AB 10 (rW.ixrZ 1 d),AB 11 (rW.p10Z tW d),hbb 16 (gV (x.2.1:Int) ((1:Nat):Int)),hf 24 (j0 gl f),hbb 30 (gV (y:Int) ((wU ((x.2.1:Int)+((1:Nat):Int)):Nat):Int)),hf 31 (E5 gl eb),hf 32 (Ia gl g),hf 33 (mX gl es)] [hc (rfl:l.length=l.length),hc (rW.imm l)] (k5 _ rfl) (kd:=[(1,.row)])
 .obtain rfl:=Bp hs;obtain rfl:=e _ rfl;exact mt .normal (s0 37 gl [] [(0,Ku x.1 x.2.1),(1,Ci l)] 2 2) [] [hr 9 b1] [hc (rW.imm l)] (kd:=[(1,.row)])
abbrev ny(b:CY):G:= .clo (.func 357) [] [.ptr [aE cY b] 0]
abbrev Kv(b:CY):G:= .clo (.func 384) [] [.ptr [aE cY b] 0,.ptr [iG 7] 0]
theorem Ic(b:CY):ba prog gl 279 [aE cY b] (ny b):=by refine Gh func279 ?_;refine pO [1,0] (s0 4 gl [(1,.ptr [aE cY b] 0)] [] 0 0) [] [hc (aY (aG 20 (aE cY b) aH) bf)] ?_;exact Ar [] []
theorem Ie(b:CY):ba prog gl 358 [aE cY b,iG 7] (Kv b):=by refine Gh func358 ?_;refine pO 1100 (s0 9 gl [(2,.ptr [aE cY b] 0),(3,.ptr [iG 7] 0)] [] 0 0) [] [hc (aY (aG 20 (aE cY b) aH) bf),hc (aY (aG 20 (iG 7) aH) bf)] ?_;exact Ar [] []
def hcv(d:Nat){g:G}{p:Prop}(t:p):HP:=⟨some (.c d g),p,t⟩
theorem Yp{ts te:Bj}{f:α->Bk}(R:AQ P ts te k f){l y z:List α}{i j:Int}(h1:tq l j=some y)(h2:mc y i=some z):sJ P ts (aE f l) (iG i) (iG j) (iG j)=some (aE f z):=by obtain⟨a1,a2,rfl⟩:=ym h1;obtain⟨b1,b2,rfl⟩:=yn h2;rw[Lv] at b2;simp only[sJ,R.el,R.sz,aE,iG,UM];grind [AQ,yk,sQ]
def oD(q:CY)(x:Nat×Int):Option ((Nat×Int)⊕Nat):=bif x.2<ah q then(aS q x.2).bind λy=>(wJ (wI (8*x.2))).bind λn=>some (.inl (gM x.1 (It (wU (y.toNat:Int)) n),wI (x.2+1)))else some (.inr x.1)
def xZ(b:CY)(x:Br×Int):Option ((Br×Int)⊕Br):=bif x.2<ah b then(mc b x.2).bind λq0=>(tq b (wI (x.2+iI 7 (ah q0)))).bind λy=>(mc y x.2).bind λq=>(AH (oD q) (0,0)).bind λw=>(aT 8 x.1 [w]).bind λa=>some (.inl (a,wI (x.2+7)))else some (.inr x.1)
def Cj(b:CY):Option Br:=AH (xZ b) ([],0)
noncomputable abbrev OV:Code:=bq 11012 (ai Tryz.f356)
noncomputable abbrev Kw:Code:=bq 1112 (ai Tryz.f357)
noncomputable abbrev uS(st:LoopState):Option Ob:=some ⟨0,[],some (.loop st none 13 [(2,.ref 0 0)] (Dy OV) (Dz OV) (DA OV))⟩
noncomputable abbrev PH(st:LoopState):Option Ob:=some ⟨0,[],some (.loop st none 29 [(2,.ref 2 0)] (Dy Kw) (Dz Kw) (DA Kw))⟩
abbrev I8(g:G):Option Ob:=some ⟨64,[g],none⟩
abbrev Kx(i:Nat):Option Ob:=some ⟨285,[.yld i],none⟩
abbrev aar(b:CY)(i m:Int):Fr:=[(0,.yld 3),(1,.ptr [aE cY b] 0),(2,.ptr [iG 7] 0),(4,iG i),(5,iG m)]
noncomputable abbrev σCh(acc:Br):aQ:=[(0,I8 (.rsl 4 0 acc.length)),(1,uS .ready),(2,Kx 1),(3,PH .ready),(4,Ci acc)]
abbrev Ti(b q:CY)(i m:Int):Fr:=[(28,aE cY q),(27,iG (wI (i+m))),(26,iG m),(25,iG i),(24,iG (wI (i+m))),(23,iG m),(22,iG i),(21,iG i),(20,aE cY b),(19,.yld 3)]++aar b i m
noncomputable abbrev σRd(acc:Br):aQ:=[(0,I8 (.rsl 5 0 acc.length)),(1,uS .ready),(2,Kx 1),(3,PH .busy),(5,Ci acc)]
theorem F0{b:CY}{r:Br}(h:Cj b=some r):iV prog gl 356 [.lit (.slice none 0 0),ny b] 36 r.length (r.flatMap cW):=by
 unfold Cj at h;refine OW func356 ?_;refine YR [1,0,1,2] (s0 13 gl [(2,.ref 0 0),(6,ny b)] [(0,I8 (.lit (.slice none 0 0)))] 1 0) [] ?_;refine Xt (fst:=[]) (cap:=[.ptr [aE cY b] 0]) Tryz.f357 func357 ?_;refine YR [1,1,2] (s0 29 gl [(2,.ref 2 0),(8,Kv b)] [(2,Kx 1),(1,some ⟨0,[],some (.loop .ready none 13 [(2,.ref 0 0),(6,ny b)] (Dy OV) (Dz OV) (DA OV))⟩),(0,I8 (.lit (.slice none 0 0)))] 3 2) [hf 8 (Ie gl b)] ?_;refine Xt (fst:=[]) (cap:=[.ptr [aE cY b] 0,.ptr [iG 7] 0]) Tryz.f384 func384 ?_;refine pN (λx:Br×Int=>(s0 31 gl [(0,.yld 3),(1,.ptr [aE cY b] 0),(2,.ptr [iG 7] 0),(4,iG x.2)] [(0,I8 (.rsl 4 0 x.1.length)),(1,uS .ready),(2,Kx 1),(3,PH .ready),(4,Ci x.1)] 5 4)) 1122 h [] [hc (rW.imm [])] (λB x w hs k5 d=>?_) (vs:=[36]) (ρ:=rI 5) (kd:=[(4,.row)]);unfold xZ at hs;rcases bC hs with⟨b1,hs⟩|⟨b1,hs⟩
 .obtain⟨q0,e0,hs⟩:=bS hs;obtain⟨y,k,hs⟩:=bS hs;obtain⟨q,l,hs⟩:=bS hs;obtain⟨w,ew,hs⟩:=bS hs;obtain⟨a,m,hs⟩:=bS hs;obtain rfl:=Bp hs;refine pO 112210210 (s0 31 gl [(0,.yld 3),(1,.ptr [aE cY b] 0),(2,.ptr [iG 7] 0),(4,iG x.2),(5,iG (iI 7 (ah q0)))] [(0,I8 (.rsl 4 0 x.1.length)),(1,uS .ready),(2,Kx 1),(3,PH .ready),(4,Ci x.1)] 5 4) [hr 9 b1,AB 16 (rY.sufZI e0)] [hc (rfl:x.1.length=x.1.length),hc (rW.imm x.1)] ?_ (ρ:=rI 5) (kd:=[(4,.row)]);refine Xw (i:=3) (j:=10) (n:=29) (t:=0) (t2:=0) (pe:=none) (fr:=[(2,.ref 2 0)]) (ps:=Dy Kw) (a:=Dz Kw) (b:=DA Kw) (s1:=(s0 31 gl (Ti b q x.2 (iI 7 (ah q0))) (σCh x.1) 5 4))
   (s3:=(s0 31 gl ([(30,bG false),(29,bG true)]++Ti b q x.2 (iI 7 (ah q0))) ((3,PH .ready)::σRd a) 6 4))
   (σRd a) 6 (.loop .ready none 29 [(2,.ref 2 0)] (Dy Kw) (Dz Kw) (DA Kw)) [hcv 28 (g:=aE cY q) (Yp rY k l)] [] ?_ ?_
  .refine C9 .normal ⟨29,gl,[(2,.ref 2 0),(3,aE cY q)],σCh x.1,5,5,true⟩ [] [hc (rfl:x.1.length=x.1.length),hc (rW.imm x.1)] (Xv Tryz.f357 ?_ rfl) (ρ:=rI 5) (kd:=[(4,.row)]);refine Ix 12101 ⟨29,gl,[(2,.ref 2 0),(4,uG w)],[(0,I8 (.rsl 4 0 x.1.length)),(1,uS .ready),(2,Kx 1),(3,PH .busy),(4,Ci x.1)],5,5,true⟩ ?_ λkk=>?_
   .refine pO 12110 ⟨29,gl,[(2,.ref 2 0),(4,uG w)],[(0,I8 (.rsl 4 0 x.1.length)),(1,uS .ready),(2,Kx 1),(3,PH .busy),(4,Ci x.1)],5,5,true⟩ [] [hc (rfl:x.1.length=x.1.length),hc (rW.imm x.1)] ?_ (ρ:=rI 5) (kd:=[(4,.row)]);refine Xw (i:=1) (j:=2) (n:=13) (t:=0) (t2:=0) (pe:=none) (fr:=[(2,.ref 0 0)]) (ps:=Dy OV) (a:=Dz OV) (b:=DA OV) (s1:=⟨29,gl,[(26,uG w),(25,.yld 1),(2,.ref 2 0),(4,uG w)],[(0,I8 (.rsl 4 0 x.1.length)),(1,uS .ready),(2,Kx 1),(3,PH .busy),(4,Ci x.1)],5,5,true⟩)
     (s3:=⟨29,gl,[(28,bG false),(27,bG true),(26,uG w),(25,.yld 1),(2,.ref 2 0),(4,uG w)],(1,uS .ready)::[(0,I8 (.rsl 5 0 a.length)),(1,uS .busy),(2,Kx 1),(3,PH .busy),(5,Ci a)],6,5,true⟩)
     [(0,I8 (.rsl 5 0 a.length)),(1,uS .busy),(2,Kx 1),(3,PH .busy),(5,Ci a)] 6 (.loop .ready none 13 [(2,.ref 0 0)] (Dy OV) (Dz OV) (DA OV)) [] [] ?_ ?_
    .refine C9 .normal ⟨13,gl,[(2,.ref 0 0),(5,uG w)],[(0,I8 (.rsl 4 0 x.1.length)),(1,uS .ready),(2,Kx 1),(3,PH .busy),(4,Ci x.1)],5,5,true⟩ [] [hc (rfl:x.1.length=x.1.length),hc (rW.imm x.1)] (Xv Tryz.f356 ?_ rfl) (ρ:=rI 5) (kd:=[(4,.row)]);exact C9 .normal ⟨13,gl,[],[(0,I8 (.rsl 5 0 a.length)),(1,uS .busy),(2,Kx 1),(3,PH .busy),(5,Ci a)],6,5,true⟩ [dg 11 rW m] [hc (el a),hc (rW.imm a)] (by grind [jy]) (ρ:=rI 5++[(5,6)]) (kd:=[(5,.row)])
    .exact C9 .normal ⟨29,gl,[],σRd a,6,5,true⟩ [] [hc (el a),hc (rW.imm a)] (by grind [jy]) (ρ:=rI 6) (kd:=[(5,.row)])
   refine pN (λz:Nat×Int=>⟨29,gl,[(2,.ref 2 0),(4,uG z.1),(10,aE cY q),(11,iG (ah q)),(12,iG z.2)],[(0,I8 (.rsl 4 0 x.1.length)),(1,uS .ready),(2,Kx 1),(3,PH .busy),(4,Ci x.1)],5,5,true⟩) [2,1,0,1,2,2] ew [] [hc (rfl:x.1.length=x.1.length),hc (rW.imm x.1)] (λo z v hz e f=>?_) (ρ:=rI 5) (kd:=[(4,.row)]);unfold oD at hz;rcases bC hz with⟨c1,hz⟩|⟨c1,hz⟩
   .obtain⟨c,e1,hz⟩:=bS hz;obtain⟨n1,e2,hz⟩:=bS hz;obtain rfl:=Bp hz;exact jw [hr 13 c1,AB 15 (rY.ixZ e1),AB 16 (rY.p1Z tY e1),AB 19 (C8 (c.toNat:Int)),hV 22 (sM (P:=prog) (t:=36) (wU (c.toNat:Int)) e2),hV 23 (jc (P:=prog) (t:=36) z.1 (It (wU (c.toNat:Int)) n1))] [hc (rfl:x.1.length=x.1.length),hc (rW.imm x.1)] (e _ rfl) (ρ:=rI 5) (kd:=[(4,.row)])
   .obtain rfl:=Bp hz;obtain rfl:=f _ rfl;exact yl 12101 [hr 13 c1] [hc (rfl:x.1.length=x.1.length),hc (rW.imm x.1)] kk (ρ:=rI 5) (kd:=[(4,.row)])
  .exact jw [] [hc (rfl:a.length=a.length),hc (rW.imm a)] (k5 _ rfl) (ρ:=rI 4++[(4,5)]) (kd:=[(4,.row)])
 .obtain rfl:=Bp hs;obtain rfl:=d _ rfl;refine C9 .normal (s0 31 gl [] [(0,I8 (.rsl 4 0 x.1.length)),(1,uS .ready),(3,PH .ready),(4,Ci x.1)] 5 4) [hr 9 b1] [hc (rfl:x.1.length=x.1.length),hc (rW.imm x.1)] (Xu ?_ rfl) (ρ:=rI 5) (kd:=[(4,.row)]);refine C9 .normal (s0 29 gl [] [(0,I8 (.rsl 4 0 x.1.length)),(1,uS .ready),(4,Ci x.1)] 5 2) [] [hc (rfl:x.1.length=x.1.length),hc (rW.imm x.1)] (Xu ?_ rfl) (ρ:=[(0,0),(1,1),(4,4)]) (kd:=[(4,.row)]);exact EI [] (rW.imm _)
theorem Ky{b:CY}{r:Br}(h:Cj b=some r):iV prog gl 278 [ny b] 36 r.length (r.flatMap cW):=by refine OW func278 ?_;exact EI [ho 4 [.lit (.slice none 0 0),ny b] [] (F0 gl h) (Gj (λx g hg=>by simp only[cW,List.mem_singleton] at hg;exact⟨_,hg⟩) r)] (rW.imm _)
theorem Qx{σ ρ:Type}{step:σ->Option (σ⊕ρ)}{s s':σ}{r:ρ}(h1:step s=some (.inl s'))(h2:step s'=some (.inr r)):AH step s=some r:=by unfold AH FU;rw[show(4611686018427387904:Nat)=4611686018427387902+1+1 from rfl];unfold KN;rw[h1];show KN step (4611686018427387902+1) s'=some r;unfold KN;rw[h2]
def k1(k:Nat):Nat:=wU ((k:Int)+((1:Nat):Int))
theorem Qy{s w s':Nat}(h:kE s k w=some s'):jg prog gl 355 [.ref 0 0,.rsl 1 0 1] [(0,Ku s k),(1,Ci [w])] 2 (.tup []) [(0,Ku s' (k1 k)),(1,Ci [w])] 2:=by
 have e:AH (rK [w]) (s,k,0)=some (s',k1 k):=by
  refine Qx (s':=(s',k1 k,1)) ?_ ?_
  .unfold rK;rw[C6 (show((s,k,0):Nat×Nat×Int).2.2<ah [w] by simp[ah]),ax];show(some w:Fq).bind _=_;rw[aL];show(kE s k w).bind _=_;rw[h,aL];rfl
  .unfold rK;rw[Dl (show¬((s',k1 k,1):Nat×Nat×Int).2.2<ah [w] by simp[ah]),Bf]
 exact Th gl e
def F1(b:CY)(x:(Nat×Nat)×Int):Option (((Nat×Nat)×Int)⊕(Nat×Nat)):=bif x.2<ah b then(mc b x.2).bind λq0=>(tq b (wI (x.2+iI 7 (ah q0)))).bind λy=>(mc y x.2).bind λq=>(AH (oD q) (0,0)).bind λw=>(kE x.1.1 x.1.2 w).bind λs=>some (.inl ((s,k1 x.1.2),wI (x.2+7)))else some (.inr x.1)
def F3(l:Br)(x:(Nat×Nat)×Int):Option (((Nat×Nat)×Int)⊕(Nat×Nat)):=bif x.2<ah l then(aS l x.2).bind λy=>(eR y).bind λn=>(kE x.1.1 x.1.2 n).bind λs=>some (.inl ((s,k1 x.1.2),wI (x.2+1)))else some (.inr x.1)
def x6(label:CY)(l:Br):Fq:=(Gk label).bind λt=>(AH (F1 t) ((wU (ah label),0),0)).bind λa=>(kE a.1 a.2 (wU (ah l))).bind λs1=>(AH (F3 l) ((s1,k1 a.2),0)).bind λc=>kE c.1 c.2 0
end
def T{α:Type}(x:Option α)(Q:α->Prop):Prop:=∃v,x=some v/\Q v
section
variable {α β γ σ ρ:Type}
theorem T.mono{x:Option α}{Q R:α->Prop}(h:T x Q)(k:∀v,Q v->R v):T x R:=by obtain⟨v,e,q⟩:=h;exact⟨v,e,k v q⟩
theorem T.some{v:α}{Q:α->Prop}(h:Q v):T (some v) Q:=⟨v,rfl,h⟩
theorem T.bind{x:Option α}{f:α->Option β}{Q:β->Prop}(h:T x λv=>T (f v) Q):T (x.bind f) Q:=by obtain⟨v,e,w,e2,q⟩:=h;exact⟨w,by grind,q⟩
theorem T.eqb{x:Option α}{f:α->Option β}{Q:β->Prop}{v:α}(e:x= .some v)(h:T (f v) Q):T (x.bind f) Q:=by grind
theorem T.ite{c:Bool}{a b:Option α}{Q:α->Prop}(h1:c=true->T a Q)(h2:c=false->T b Q):T (bif c then a else b) Q:=by grind
theorem T.dec{p:Prop}[Decidable p]{a b:Option α}{Q:α->Prop}(h1:p->T a Q)(h2:¬p->T b Q):T (bif decide p then a else b) Q:=by grind
theorem T.eq{x:Option α}{v:α}(h:T x λw=>w=v):x= .some v:=by obtain⟨w,e,rfl⟩:=h;exact e
theorem T.of{x:Option α}{v:α}{Q:α->Prop}(h:x= .some v)(q:Q v):T x Q:=⟨v,h,q⟩
theorem T.ix{l:List α}{i:Int}{Q:α->Prop}{x:α}(h0:0<=i)(hx:l[i.toNat]?= .some x)(h:Q x):T (aS l i) Q:=⟨x,by grind [aS],h⟩
theorem T.ixl{l:List α}{i:Int}{Q:α->Prop}(h0:0<=i)(h1:i<l.length)(h:∀x,l[i.toNat]?= .some x->x∈l->Q x):T (aS l i) Q:=by have hx:l[i.toNat]?= .some (l[i.toNat]'aa):=EA _;grind [ix]
theorem T.app{b:Nat}{l r:List α}{Q:List α->Prop}(h:(l.length+r.length)*b<=140737488355328)(q:Q (l++r)):T (aT b l r) Q:=⟨_,by grind [aT],q⟩
theorem T.rem{a b:Int}{Q:Int->Prop}(h:b≠0)(q:Q (a.tmod b)):T (u9 a b) Q:=⟨_,by grind [u9],q⟩
theorem T.quo{a b:Int}{Q:Int->Prop}(h:b≠0)(q:Q (IntKind.i64.wrap (a.tdiv b))):T (Gg a b) Q:=⟨_,by grind [Gg],q⟩
theorem T.set{l:List α}{i:Int}{x:α}{Q:List α->Prop}(h0:0<=i)(h1:i<l.length)(q:Q (l.set i.toNat x)):T (ji l i x) Q:=⟨_,by grind [ji],q⟩
theorem T.pre{l:List α}{i:Int}{Q:List α->Prop}(h0:0<=i)(h1:i<=l.length)(q:Q (l.take i.toNat)):T (tq l i) Q:=⟨_,by grind [tq],q⟩
theorem T.suf{l:List α}{i:Int}{Q:List α->Prop}(h0:0<=i)(h1:i<=l.length)(q:Q (l.drop i.toNat)):T (mc l i) Q:=⟨_,by grind [mc],q⟩
theorem T.make{b:Nat}{z:α}{n:Int}{Q:List α->Prop}(h0:0<=n)(h1:b*n.toNat<=281474976710656)(h2:n<=9223372036854775807)(q:Q (List.replicate n.toNat z)):T (rP b z n) Q:=⟨_,by grind [rP],q⟩
def Rd(N:σ->Prop)(Q:ρ->Prop):σ⊕ρ->Prop
 | .inl s=>N s
 | .inr r=>Q r
theorem T.lpN{step:σ->Option (σ⊕ρ)}{Q:ρ->Prop}(I:σ->Prop)(μ:σ->Nat)(h:∀s,I s->T (step s) (Rd (λs'=>I s'/\μ s'<μ s) Q)):∀(n:Nat) (s:σ),μ s<n->I s->T (KN step n s) Q
 |0,s,hn,_=>(by grind)
 |n+1,s,hn,hi=>by
  obtain⟨r,e,q⟩:=h s hi;unfold KN;rw[e];cases r with
  |inl s'=>exact T.lpN I μ h n s' (by have:=q.2;omega) q.1
  |inr r=>exact⟨r,rfl,q⟩
theorem T.loop{step:σ->Option (σ⊕ρ)}{Q:ρ->Prop}{s:σ}(I:σ->Prop)(μ:σ->Nat)(hi:I s)(hm:μ s<4611686018427387904)(h:∀s,I s->T (step s) (Rd (λs'=>I s'/\μ s'<μ s) Q)):T (AH step s) Q:=T.lpN I μ h _ s hm hi
theorem T.forA{step:σ×Int->Option ((σ×Int)⊕ρ)}{Q:ρ->Prop}{a:σ}(n:Nat)(J:Nat->σ->Prop)(hn:n<2305843009213693952)(h0:J 0 a)(h:∀k acc,k<n->J k acc->T (step (acc,(k:Int))) (Rd (λs'=>s'.2=((k+1:Nat):Int)/\J (k+1) s'.1) Q))(he:∀acc,J n acc->T (step (acc,(n:Int))) (Rd (λ_=>False) Q)):T (AH step (a,0)) Q:=by
 refine T.loop (λs=>∃k:Nat,k<=n/\s.2=(k:Int)/\J k s.1) (λs=>n-s.2.toNat) (by grind) cq ?_;rintro⟨acc,i⟩ ⟨k,hk,hik,hj⟩;simp only at hik hj;subst hik;rcases JB k n with hlt|hge
 .refine(h k acc hlt hj).mono λr hr=>?_;cases r with
  |inl s'=>refine⟨⟨k+1,aa,hr.1,hr.2⟩,?_⟩;rw[hr.1];simp;omega
  |inr r=>exact hr
 grind
theorem T.forI{step:Int->Option (Int⊕ρ)}{Q:ρ->Prop}(n:Nat)(J:Fu)(hn:n<2305843009213693952)(h0:J 0)(h:∀k,k<n->J k->T (step (k:Int)) (Rd (λs'=>s'=((k+1:Nat):Int)/\J (k+1)) Q))(he:J n->T (step (n:Int)) (Rd (λ_=>False) Q)):T (AH step 0) Q:=by
 refine T.loop (λs=>∃k:Nat,k<=n/\s=(k:Int)/\J k) (λs=>n-s.toNat) (by grind) cq ?_;rintro i ⟨k,hk,hik,hj⟩;subst hik;rcases JB k n with hlt|hge
 .refine(h k hlt hj).mono λr hr=>?_;cases r with
  |inl s'=>refine⟨⟨k+1,aa,hr.1,hr.2⟩,?_⟩;rw[hr.1];simp;omega
  |inr r=>exact hr
 grind
theorem bM{z:Int}(h1: -9223372036854775808<=z)(h2:z<=9223372036854775807):wI z=z:=by grind [wI,IntKind.wrap_i64]
theorem aq(h:k<2305843009213693952):wI ((k:Int)+1)=((k+1:Nat):Int):=by grind [bM]
theorem rM(h:n<18446744073709551616):wU (n:Int)=n:=by grind [wU,IntKind.wrap_u64]
theorem au{l:List α}:aS l (k:Int)=l[k]? :=by grind [aS]
theorem eA{l:List α}{k:Nat}(h:k<l.length):decide ((k:Int)<ah l)=true:=by grind [ah]
theorem eF{l:List α}:decide ((l.length:Int)<ah l)=false:=by grind [ah]
theorem T.forE{step:List β×Int->Option ((List β×Int)⊕List β)}(l:List α)(a:List β)(enc:α->List β)(c:Nat)(hn:l.length<2305843009213693952)(hc:∀x∈l,(enc x).length<=c)(h:∀(k:Nat) (acc:List β) (x:α),l[k]?= .some x->x∈l->k<l.length->acc.length<=a.length+k*c->T (step (acc,(k:Int))) (Rd (λs'=>s'.2=((k+1:Nat):Int)/\s'.1=acc++enc x) (λ_=>False)))(he:∀acc,step (acc,(l.length:Int))= .some (.inr acc)):T (AH step (a,0)) (λr=>r=a++l.flatMap enc):=by
 refine T.forA l.length (λk acc=>acc=a++(l.take k).flatMap enc/\acc.length<=a.length+k*c) hn aC (λk acc hk hj=>?_) λacc hj=>?_
 .have hx:l[k]?= .some (l[k]'hk):=EA hk;refine(h k acc _ hx (by simp_all) hk hj.2).mono λr hr=>?_;cases r with
  |inr r=>exact hr.elim
  |inl s'=>obtain⟨h1,h2⟩:=hr;constructor<;>grind [JD]
 .rw[he];refine .some ?_;show acc=_;grind
theorem d8{l:List α}{enc:α->List β}{c:Nat}(hc:∀x∈l,(enc x).length<=c):(l.flatMap enc).length<=l.length*c:=by induction l<;>grind [Nat.succ_mul]
theorem T.appL{l r:List α}{n m:Nat}{Q:List α->Prop}(h1:l.length<=n)(h2:r.length<=m)(hnm:n+m<=140737488355328)(q:(l++r).length<=n+m->Q (l++r)):T (aT 1 l r) Q:=by grind [app]
theorem T.then{x:Option α}{f:α->Option β}{v:α}{Q:β->Prop}(h:T x λw=>w=v)(q:T (f v) Q):T (x.bind f) Q:=by grind [bind,mono]
end
section
attribute [local irreducible] Tr D8 GS Le Wk ve ba bB YD J6 Dp
section
variable {P:Bu} {t:Bj} {x y:DC}
theorem SS{a b:Nat}(ha:a<2^63)(hb:b<2^63):b8 P .or t x y (.lit (.int .i64 (a:Int))) (.lit (.int .i64 (b:Int)))=some (.lit (.int .i64 ((a|||b:Nat):Int))):=by
 have h:b8 P .or t x y (.lit (.int .i64 (a:Int))) (.lit (.int .i64 (b:Int)))=some (.lit (.int .i64 (IntKind.i64.wrap ((BitVec.ofInt IntKind.i64.bits (a:Int)|||BitVec.ofInt IntKind.i64.bits (b:Int)).toNat:Nat)))):=by simp[b8,cD,eqGuard,binOp,Op.intBits,bz,db]
 have h1:(BitVec.ofInt IntKind.i64.bits (a:Int)|||BitVec.ofInt IntKind.i64.bits (b:Int)).toNat=a|||b:=by show(BitVec.ofInt 64 (a:Int)|||BitVec.ofInt 64 (b:Int)).toNat=a|||b;rw[BitVec.ofInt_natCast,BitVec.ofInt_natCast,BitVec.toNat_or,BitVec.toNat_ofNat,BitVec.toNat_ofNat,LO aa,LO aa]
 have h2:a|||b<2^63:=Nat.or_lt_two_pow ha hb;rw[h,h1,w64 aa]
end
section
variable {P:Bu} {ops:Array Oper} {K:St->Prop} {rest:HE} {n:Nat} {gl:CC} {fr:Fr} {σ:aQ} {c p:Nat} {rr:Bool} {d:Tmp} {ty:Bj} {pos:String} {af:Array Edge}
end
end
section
variable {P:Bu} {x y:DC} {t:Bj}
end
theorem im1{a:G}(ha:bB a):∀g∈[a],bB g:=λg hg=>by simp only[EG,K3,or_false] at hg;subst hg;exact ha
theorem im2{a b:G}(ha:bB a)(hb:bB b):∀g∈[a,b],bB g:=λg hg=>by
 simp only[EG,K3,or_false] at hg;rcases hg with rfl|rfl
 .exact ha
 .exact hb
abbrev gU'(n:Nat):G:= .lit (.int .u64 (n:Int))
def nb(k:Nat):CY:=if h:k<128 then[UInt8.ofNat k]else UInt8.ofNat (k%128+128)::nb (k/128)
 termination_by k
 decreasing_by omega
theorem H6(h:k<128):nb k=[UInt8.ofNat k]:=by rw[nb,dif_pos h]
theorem Er(h:¬k<128):nb k=UInt8.ofNat (k%128+128)::nb (k/128):=by rw[nb,dif_neg h]
theorem Qu:∀(f k:Nat),k<128^(f+1)->(nb k).length<=f+1
 |0,k,h=>by grind [H6]
 |f+1,k,h=>by
  by_cases h1:k<128
  .rw[H6 h1];simp
  .rw[Er h1];have:=Qu f (k/128) (by grind);simp;omega
theorem ow(h:k<18446744073709551616):(nb k).length<=10:=Qu 9 k (by grind)
theorem Yj(k:Nat):nb k≠[]:=by grind [H6,Er]
theorem Yk(h:n<256):gY (UInt8.ofNat n)= .lit (.int .u8 (n:Int)):=by
 have:(UInt8.ofNat n).toNat=n:=by simp;omega
 grind
set_option maxRecDepth 100000 in
theorem V4:∀a:Fin 256,a.1|||128=a.1%128+128:=BU
theorem Yl{k:IntKind}{a b:Int}:b8 P .or t x y (.lit (.int k a)) (.lit (.int k b))=some (.lit (.int k (k.wrap ((BitVec.ofInt k.bits a|||BitVec.ofInt k.bits b).toNat:Nat)))):=by simp[b8,cD,eqGuard,binOp,Op.intBits,bz,db]
theorem V5{k:IntKind}{a b:Int}:b8 P .xor t x y (.lit (.int k a)) (.lit (.int k b))=some (.lit (.int k (k.wrap ((BitVec.ofInt k.bits a^^^BitVec.ofInt k.bits b).toNat:Nat)))):=by simp[b8,cD,eqGuard,binOp,Op.intBits,bz,db]
theorem V6:b8 P .or t x y (.lit (.int .u8 (n:Int))) (.lit (.int .u8 128))=some (.lit (.int .u8 ((n%128+128:Nat):Int))):=by
 rw[Yl];have h:(BitVec.ofInt IntKind.u8.bits (n:Int)|||BitVec.ofInt IntKind.u8.bits 128).toNat=n%128+128:=by show(BitVec.ofInt 8 (n:Int)|||BitVec.ofInt 8 ((128:Nat):Int)).toNat=_;rw[BitVec.ofInt_natCast,BitVec.ofInt_natCast,BitVec.toNat_or,BitVec.toNat_ofNat,BitVec.toNat_ofNat];have:=V4 ⟨n%256,aa⟩;grind
 grind [wu8]
def Mk(n:Int):Nat:=if n<0 then(-(n+1)).toNat*2+1 else n.toNat*2
theorem FQ{n:Int}(h: -9223372036854775808<=n/\n<=9223372036854775807):Mk n<18446744073709551616:=by grind [Mk]
theorem Ym{n:Int}(h: -9223372036854775808<=n/\n<=9223372036854775807):b8 P .xor t x y (.lit (.int .u64 (IntKind.u64.wrap (IntKind.u64.wrap n*2^1)))) (.lit (.int .u64 (IntKind.u64.wrap (n.fdiv (2^63)))))=some (gU' (Mk n)):=by
 rw[V5];have h64:∀z:Int,IntKind.u64.wrap z=z%18446744073709551616:=λz=>IntKind.wrap_u64 z;congr 3;by_cases hn:n<0
 .have e1:n.fdiv (2^63)= -1:=by grind
  have e2:IntKind.u64.wrap (IntKind.u64.wrap n*2^1)=(((18446744073709551616+2*n)%18446744073709551616).toNat:Int):=by grind
  rw[e1,e2,h64 (-1)];show IntKind.u64.wrap ((BitVec.ofInt 64 _^^^BitVec.ofInt 64 ((18446744073709551615:Nat):Int)).toNat:Nat)=_;rw[BitVec.ofInt_natCast,BitVec.ofInt_natCast];have e3:BitVec.ofNat 64 18446744073709551615=BitVec.allOnes 64:=BU;rw[e3,BitVec.xor_allOnes,BitVec.toNat_not,BitVec.toNat_ofNat,h64];grind [Mk]
 .have e1:n.fdiv (2^63)=0:=by grind
  have e2:IntKind.u64.wrap (IntKind.u64.wrap n*2^1)=((n.toNat*2:Nat):Int):=by grind
  rw[e1,e2,h64 0];show IntKind.u64.wrap ((BitVec.ofInt 64 _^^^BitVec.ofInt 64 ((0:Nat):Int)).toNat:Nat)=_;rw[BitVec.ofInt_natCast,BitVec.ofInt_natCast];grind [Mk]
theorem Cm:wY (n:Int)=UInt8.ofNat n:=by
 unfold wY;apply UInt8.toNat_inj.1;have e:IntKind.u8.wrap (n:Int)=((n%256:Nat):Int):=by show(n:Int)%256=_;omega
 rw[e];simp;omega
theorem ya(hk:k<18446744073709551616):jl k=some (nb k):=by
 unfold jl;refine T.eq (.bind ?_);refine T.loop (Q:=λx=>T _ _) (λs=>s.2++nb s.1=nb k/\s.1<18446744073709551616) (λs=>(nb s.1).length) ⟨rfl,hk⟩ (by grind [ow]) ?_;rintro⟨m,out⟩ ⟨h1,h2⟩;simp only at h1 h2;have hl:out.length+(nb m).length<=10:=by grind [ow]
 have hp:0<(nb m).length:=List.length_pos_iff.2 (Yj m);unfold DJ;dsimp only;refine .dec (λh=>?_) λh=>?_
 .have hm:¬m<128:=aa;refine .bind (.app cq (.some ?_));have e1:wU ((m/128:Nat):Int)=m/128:=rM aa;have e2:wY (((wY ((m%128:Nat):Int)).toNat:Int)+((128:UInt8).toNat:Int))=UInt8.ofNat (m%128+128):=by grind [Cm,UInt8.toNat_ofNat']
  constructor<;>grind [Er]
 .have hm:m<128:=aa;refine .some ?_;show T _ _;grind [T.app,Cm,H6]
theorem F4{n:Int}(h: -9223372036854775808<=n/\n<=9223372036854775807):cg n=some (nb (Mk n)):=by
 obtain⟨h1,h2⟩:=h;unfold cg;refine T.eq (.dec (λhn=>?_) λhn=>?_)
 .have e1:wI (n+1)=n+1:=by grind [bM]
  have e2:wI (0-(n+1))= -(n+1):=by grind [bM]
  have e3:wU (-(n+1))=(-(n+1)).toNat:=by grind [rM]
  have e4:wU (((wU (((-(n+1)).toNat:Int)*((2:Nat):Int)):Nat):Int)+((1:Nat):Int))=Mk n:=by unfold Mk;rw[BB hn];generalize hm:(-(n+1)).toNat=m;rw[show(m:Int)*((2:Nat):Int)=((m*2:Nat):Int) by omega,rM aa,show((m*2:Nat):Int)+((1:Nat):Int)=((m*2+1:Nat):Int) by omega,rM aa]
  grind [ya,FQ,T.some]
 grind [rM,Mk,T.eqb,ya,T.some]
def bl(n:Nat):Nat:=if h:n=0 then 0 else bl (n/2)+1
theorem Mo(h:0<n):bl (n/2)<bl n:=by grind [bl.eq_1]
theorem QB:∀(k n:Nat),n<2^k->bl n<=k
 |0,n,h=>by grind [bl.eq_1]
 |k+1,n,h=>by
  rw[bl.eq_1];by_cases h0:n=0
  .grind
  .rw[dif_neg h0];have:=QB k (n/2) (by grind);omega
theorem wL(a b:Nat):T (oQ a b) λv=>v<2305843009213693951:=⟨_,rfl,(by grind)⟩
theorem Il(a b:Nat):T (qi a b) λv=>v<2305843009213693951:=⟨_,rfl,(by grind)⟩
theorem Adb(h:n<18446744073709551616):wU ((n/2:Nat):Int)=n/2:=rM aa
theorem ka(a:Nat){n:Nat}(hn:n<18446744073709551616):T (iK a n) λv=>v<2305843009213693951:=by unfold iK;refine .bind (T.loop (λs=>s.1<2305843009213693951/\s.2.2<18446744073709551616) (λs=>bl s.2.2) (by grind) (by have:=QB 64 n (by grind);grind) ?_);rintro⟨x,y,m⟩ ⟨hx,hm⟩;simp only at hx hm;unfold r6;dsimp only;refine .dec (λh=>?_) λh=> .some (.some hx);refine .bind (T.mono (Q:=λv=>v<2305843009213693951) (by grind [wL,T.some]) λv hv=>?_);refine .bind ((wL _ _).mono λw _=> .some ⟨⟨hv,?_⟩,?_⟩);all_goals grind [Adb,Mo]
theorem Cn{b:CY}(hb:b.length<=1099511627776):T (Mj b) λr=>r.length<=b.length:=by
 unfold Mj;refine .bind (T.loop (λs=>0<=s.2/\s.2<=b.length+6/\(s.1.length:Int)<=s.2/\s.1.length<=b.length) (λs=>(b.length+7-s.2).toNat) (by grind) cq ?_);rintro⟨acc,i⟩ ⟨h0,h1,h2,h3⟩;simp only at h0 h1 h2 h3;unfold qh;dsimp only;refine .dec (λh=>?_) λh=> .some (.some h3);unfold ah at h;have e7:wI (i+7)=i+7:=by grind [bM]
 have em:0<=iI (ah b) (i+7)/\iI (ah b) (i+7)<=b.length:=by grind [iI,ah]
 refine .bind (T.mono (Q:=λ_=>True) (T.loop (λs=>s.2<b.length) (λs=>(s.2+1-i).toNat) ?_ ?_ ?_) λx _=>?_)
 .grind [bM]
 .grind [bM]
 .rintro⟨u,j⟩ hj;simp only at hj;unfold my;dsimp only;refine .dec (λh=>?_) λh=> .some trivial;refine .bind (.ixl aa hj λx _ _=> .some ⟨?_,?_⟩);all_goals grind [bM]
 .refine .bind (.app cq (.some ⟨?_,?_⟩));all_goals grind
theorem T.strB{s:CY}{Q:CY->Prop}(h:s.length<=1099511627776)(q:Q s):T (Gk s) Q:=⟨s,by grind [Gk],q⟩
theorem Mp(z:Int):wU z<18446744073709551616:=by grind [wU,IntKind.wrap_u64]
theorem F5{l:Br}(h1:label.length<=1000)(h2:l.length<=1099511627776):T (yA label l) λv=>v<18446744073709551616:=by
 unfold yA;refine .bind (.strB aa (.bind ((Cn (b:=label) aa).mono λw hw=> .bind (.app cq (.bind ?_)))));refine T.forA l.length (λk acc=>acc.length<=w.length+1+k) aa aC (λk acc hk hj=>?_) λacc hj=>?_
 .unfold qk;dsimp only;rw[eA hk,ax,au,EA hk,aL];exact .bind (.app cq (.some ⟨aq aa,by simp;omega⟩))
 .unfold qk;dsimp only;rw[eF,Bf];refine .some (.bind (.app cq (.bind ?_)));have hl:(acc++[0]).length<=w.length+2+l.length:=by simp;omega
  generalize acc++[0]=v at hl;refine T.forA v.length (λ_ x=>x<18446744073709551616) aa (Mp _) (λk x hk _=>?_) λx hx=>?_
  .unfold qj;dsimp only;rw[eA hk,ax,au,EA hk];refine .bind ((wL _ _).mono λ_ _=> .bind (.some (.bind ((Il _ _).mono λ_ _=> .bind ((Il _ _).mono λ_ _=> .bind ((ka _ aa).mono λ_ h=> .some ⟨aq aa,(by grind)⟩))))))
  .unfold qj;dsimp only;rw[eF,Bf];exact .some (.some hx)
theorem yX{l:Br}(h1:label.length<=1000)(h2:l.length<=1099511627776):T (Ns label l) λv=>1<=v/\v<=2305843009213693949:=by unfold Ns;refine .bind ((F5 h1 h2).mono λv _=> .some ?_);rw[show((1:Nat):Int)+((v%2305843009213693949:Nat):Int)=((1+v%2305843009213693949:Nat):Int) by omega,rM aa];omega
theorem Im{kind:CY}{d:Int}(h1:kind.length<=1000):T (lf kind d) λv=>1<=v/\v<=2305843009213693949:= .bind (by grind [T.mono,yX,T.some])
theorem QC{s:Nat}(h:s<18446744073709551616):T (xo s) λv=>v<2305843009213693951:= .bind ((ka _ h).mono λ_ h=> .some h)
theorem Co{label b:CY}(h1:label.length<=1000)(h2:b.length<=1073741824):T (jI label b) λv=>v<18446744073709551616:= .bind (by grind [T.mono,Cn,T.bind,T.app,F5])
theorem QD{b:CY}(h2:b.length<=1073741824):T (Ph b) λv=>v<18446744073709551616:= .bind (by grind [T.mono,Co,T.some])
theorem QE{p:Nat}{b:CY}(h2:b.length<=1073741824):T (Pi r p b) λv=>v<18446744073709551616:= .bind (by grind [T.mono,QD,F5])
theorem Kz{a b:Nat}(hb:b<18446744073709551616):T (vp a b) λv=>v<2305843009213693950:=by unfold vp;refine .bind (.some (.bind ⟨_,rfl,.bind (.some (.bind ⟨_,rfl,.bind ?_⟩))⟩));have hq:b%2305843009213693950<2^64:=aa;refine T.loop (λs=>s.2.1<18446744073709551616/\s.2.2<2305843009213693950) (λs=>bl s.2.1) (by grind) (by have:=QB 64 _ hq;grind) ?_;rintro⟨x,m,y⟩ ⟨hm,hy⟩;simp only at hm hy;unfold yC;dsimp only;refine .dec (λh=>?_) λh=> .some (.some hy);refine .bind (T.mono (Q:=λv=>v<2305843009213693950) (.ite (λ_=> .bind (.some (.bind ⟨_,rfl,(by grind [T.some])⟩))) λ_=> .some hy) λv hv=>?_);refine .bind (.some (.bind ⟨_,rfl,.some ⟨⟨?_,hv⟩,?_⟩⟩));all_goals grind [Adb,Mo]
def c8(z:Int):Prop:= -9223372036854775808<=z/\z<=9223372036854775807
def fS(n:Nat):Prop:=n<18446744073709551616
theorem NY{b:CY}(hk:k<18446744073709551616)(hb:b.length<=1073741824):T (zX k b) λs=>fS s.R/\fS s.S:=by unfold zX;refine .bind ((QD hb).mono λv1 _=> .bind ((yX BU aC).mono λv3 h3=> .bind ((ka _ aa).mono λv5 h5=> .bind ((QC hk).mono λc _=> .bind ((QE hb).mono λv9 _=> .bind ((Kz hk).mono λa _=> .bind (.some (.bind ⟨_,rfl,.some ⟨Nat.lt_trans h5 BU,Nat.lt_trans (Nat.mod_lt _ BU) BU⟩⟩))))))))
structure Ko (i:Ab):Prop where
 a:c8 i.By
 b:c8 i.Seq
 c:fS i.Sum
structure Fs (i:Hd):Prop where
 a:fS i.To
 b:fS i.Eph
 c:fS i.Body
 d:fS i.Tag
structure Jd (i:Fp):Prop where
 a:fS i.Pub
 n:i.Boxes.length<=1000
 b:∀x∈i.Boxes,Fs x
structure Hr (i:DT):Prop where
 a:Ko i.Of
 n:i.Body.length<=1000
structure Be (o:Bo):Prop where
 ints:∀z∈[o.By,o.Seq,o.Kind,o.At,o.Device,o.Old,o.Member,o.Role,o.N,o.Need,o.Wait],c8 z
 nPast:o.Past.length<=1000
 past:∀x∈o.Past,Ko x
 nPath:o.Path.length<=1000
 path:∀x∈o.Path,Jd x
 epoch:Ko o.Epoch
 nBody:o.Body.length<=1000
 nRefs:o.Refs.length<=1000
 refs:∀x∈o.Refs,fS x
 of_:Ko o.Of
 nGuards:o.Guards.length<=1000
 guards:∀x∈o.Guards,c8 x
 nBoxes:o.Boxes.length<=1000
 boxes:∀x∈o.Boxes,Fs x
 pub:fS o.Pub
 nHist:o.Hist.length<=1000
 hist:∀x∈o.Hist,Hr x
def aV(z:Int):CY:=nb (Mk z)
def sN(i:Ab):CY:=aV i.By++aV i.Seq++nb i.Sum
def tM(s:CY):CY:=aV (s.length:Int)++s
def uT(b:Hd):CY:=[b.To,b.Eph,b.Body,b.Tag].flatMap nb
def uU(l:List Hd):CY:=aV (l.length:Int)++l.flatMap uT
def ke(n:Fp):CY:=nb n.Pub++uU n.Boxes
def lX(x:DT):CY:=sN x.Of++tM x.Body
def qc(o:Bo):CY:=[o.By,o.Seq,o.Kind,o.At,(o.Past.length:Int)].flatMap aV++o.Past.flatMap sN++[o.Device,o.Old,o.Member,o.Role,(o.Path.length:Int)].flatMap aV++o.Path.flatMap ke++sN o.Epoch++aV o.N++tM o.Body++aV (o.Refs.length:Int)++o.Refs.flatMap nb++sN o.Of++aV (o.Guards.length:Int)++o.Guards.flatMap aV++[o.Need,o.Wait].flatMap aV++uU o.Boxes++nb o.Pub++aV (o.Hist.length:Int)++o.Hist.flatMap lX
theorem gH(h:fS k):(nb k).length<=10:=ow h
theorem aR(h:c8 z):(aV z).length<=10:=ow (FQ h)
theorem Lz{i:Ab}(h:Ko i):(sN i).length<=30:=by grind [aR,Ko.a,Ko.b,gH,Ko.c,sN]
theorem dO{l:List α}(h:l.length<=1000000):c8 (l.length:Int):=by unfold c8;omega
theorem Ao{b:Hd}(h:Fs b):(uT b).length<=40:=by grind [gH,Fs.a,Fs.b,Fs.c,Fs.d,uT]
theorem wM{l:List Hd}(hn:l.length<=1000)(h:∀x∈l,Fs x):(uU l).length<=40010:=by have h1:=aR (dO (l:=l) aa);have h2:=d8 (l:=l) (enc:=uT) (c:=40) (by grind [Ao]);grind [uU]
theorem Ap{s:CY}(hn:s.length<=1000):(tM s).length<=1010:=by grind [aR,dO,tM]
theorem Aq{n:Fp}(h:Jd n):(ke n).length<=40020:=by grind [gH,Jd.a,wM,Jd.n,Jd.b,ke]
theorem F6{n:DT}(h:Hr n):(lX n).length<=1040:=by grind [Lz,Hr.a,Ap,Hr.n,lX]
theorem oF(h:fS k):T (jl k) λv=>v=nb k:= .of (ya h) rfl
theorem cK(h:c8 z):T (cg z) λv=>v=aV z:= .of (F4 h) rfl
theorem l6{i:Ab}(h:Ko i):T (iJ i) λv=>v=sN i:=by have h1:=aR h.a;have h2:=aR h.b;have h3:=gH h.c;unfold iJ;refine .bind ((cK h.a).mono ?_);rintro v rfl;refine .bind ((cK h.b).mono ?_);rintro v rfl;refine .bind (.app aa (.bind ((oF h.c).mono ?_)));rintro v rfl;exact .bind (.app (by grind) (.some rfl))
theorem Ey{s:CY}(h:s.length<=1000):T (vu s) λv=>v=tM s:=by have h1:=aR (dO (l:=s) aa);refine .bind ((cK (dO (l:=s) aa)).mono ?_);rintro v rfl;exact .bind (.app aa (.some rfl))
theorem sO{l:Bn}(hn:l.length<=1000)(h:∀x∈l,c8 x):T (QL l) λv=>v=l.flatMap aV:=by
 refine .bind (T.mono (T.forE l [] aV 10 aa (by grind [aR]) (λk acc x hx hm hk hl=>?_) λacc=>?_) (by grind [T.some]))
 .unfold tR;dsimp only;rw[eA hk,ax,au,hx,aL];refine .bind ((cK (h x hm)).mono ?_);rintro v rfl;have:=aR (h x hm);exact .bind (.app (by grind) (.some ⟨aq aa,rfl⟩))
 grind [tR,eF]
theorem Ez{l:Br}(hn:l.length<=1000)(h:∀x∈l,fS x):T (vt l) λv=>v=l.flatMap nb:=by
 refine .bind (T.mono (T.forE l [] nb 10 aa (by grind [gH]) (λk acc x hx hm hk hl=>?_) λacc=>?_) (by grind [T.some]))
 .unfold tS;dsimp only;rw[eA hk,ax,au,hx,aL];refine .bind ((oF (h x hm)).mono ?_);rintro v rfl;have:=gH (h x hm);exact .bind (.app (by grind) (.some ⟨aq aa,rfl⟩))
 grind [tS,eF]
theorem Cp(hn:l.length<=1000)(h:∀x∈l,Fs x):T (nQ l) λv=>v=uU l:=by
 have h1:=aR (dO (l:=l) aa);unfold nQ;refine .bind ((cK (dO (l:=l) aa)).mono ?_);rintro v rfl;refine .bind (T.mono (T.forE l (aV (ah l)) uT 40 aa (by grind [Ao]) (λk acc x hx hm hk hl=>?_) λacc=>?_) λv hv=> .some (by rw[hv];rfl))
 .have hb:=h x hm;unfold qq;dsimp only;rw[eA hk,ax,au,hx];simp only[aL];refine .bind ((Ez aC (by grind [Fs.a,Fs.b,Fs.c,Fs.d])).mono ?_);rintro v rfl;have h4:=Ao hb;unfold uT at h4;unfold ah at hl;exact .bind (.app aa (.some ⟨aq aa,rfl⟩))
 grind [qq,eF]
theorem yY(h:Be o):(qc o).length<=50000000:=by have e1:=d8 (l:=o.Past) (enc:=sN) (c:=30) λx hx=>Lz (h.past x hx);have e2:=d8 (l:=o.Path) (enc:=ke) (c:=40020) λx hx=>Aq (h.path x hx);have e3:=Lz h.epoch;have e4:=Lz h.of_;have e5:=Ap h.nBody;have e6:=d8 (l:=o.Refs) (enc:=nb) (c:=10) λx hx=>gH (h.refs x hx);have e7:=d8 (l:=o.Guards) (enc:=aV) (c:=10) λx hx=>aR (h.guards x hx);have e8:=wM h.nBoxes h.boxes;have e:=d8 (l:=o.Hist) (enc:=lX) (c:=1040) λx hx=>F6 (h.hist x hx);have a:=gH h.pub;have i1:=aR (h.ints o.By aC);have f:=aR (h.ints o.Seq aC);have g:=aR (h.ints o.Kind aC);have i:=aR (h.ints o.At aC);have j:=aR (h.ints o.Device aC);have i6:=aR (h.ints o.Old aC);have k:=aR (h.ints o.Member aC);have m:=aR (h.ints o.Role aC);have n:=aR (h.ints o.N aC);have b:=aR (h.ints o.Need aC);have d:=aR (h.ints o.Wait aC);have l1:=aR (dO (l:=o.Past) (by have:=h.nPast;omega));have l2:=aR (dO (l:=o.Path) (by have:=h.nPath;omega));have l3:=aR (dO (l:=o.Refs) (by have:=h.nRefs;omega));have l4:=aR (dO (l:=o.Guards) (by have:=h.nGuards;omega));have l5:=aR (dO (l:=o.Hist) (by have:=h.nHist;omega));have n1:=h.nPast;have n2:=h.nPath;have p:=h.nRefs;have q:=h.nGuards;have r:=h.nHist;simp only[qc,List.flatMap_cons,List.flatMap_nil,UQ,List.length_nil];omega
theorem uV(h:Be o):T (lz o) λv=>v=qc o:=by
 have e1:=d8 (l:=o.Past) (enc:=sN) (c:=30) λx hx=>Lz (h.past x hx);have e2:=d8 (l:=o.Path) (enc:=ke) (c:=40020) λx hx=>Aq (h.path x hx);have e6:=d8 (l:=o.Refs) (enc:=nb) (c:=10) λx hx=>gH (h.refs x hx);have e7:=d8 (l:=o.Guards) (enc:=aV) (c:=10) λx hx=>aR (h.guards x hx);have n1:=h.nPast;have n2:=h.nPath;have p:=h.nRefs;have q:=h.nGuards;have r:=h.nHist;have l1:c8 (ah o.Past):=dO (l:=o.Past) aa;have l2:c8 (ah o.Path):=dO (l:=o.Path) aa;have l3:c8 (ah o.Refs):=dO (l:=o.Refs) aa;have l4:c8 (ah o.Guards):=dO (l:=o.Guards) aa;have l5:c8 (ah o.Hist):=dO (l:=o.Hist) aa;have A:∀z∈[o.By,o.Seq,o.Kind,o.At,ah o.Past],c8 z:=by grind [Be.ints]
 have B:∀z∈[o.Device,o.Old,o.Member,o.Role,ah o.Path],c8 z:=λz hz=>by simp only[EG,K3,or_false] at hz;rcases hz with rfl|rfl|rfl|rfl|rfl<;>first|exact l2|exact h.ints _ aC
 have C:∀z∈[o.Need,o.Wait],c8 z:=by grind [Be.ints]
 have a5:([o.By,o.Seq,o.Kind,o.At,ah o.Past].flatMap aV).length<=50:=d8 λx hx=>aR (A x hx);have b5:([o.Device,o.Old,o.Member,o.Role,ah o.Path].flatMap aV).length<=50:=d8 λx hx=>aR (B x hx);have c2:([o.Need,o.Wait].flatMap aV).length<=20:=by grind [aR]
 unfold lz;refine .then (sO aC A) (.then (T.forE o.Past _ sN 30 aa (by grind [Lz,Be.past]) (λk acc x hx hm hk hl=>?_) λacc=>?_) ?_)
 .unfold qt;dsimp only;rw[eA hk,ax,au,hx,aL];have:=Lz (h.past x hm);exact .then (l6 (h.past x hm)) (.bind (.app aa (.some ⟨aq aa,rfl⟩)))
 .grind [qt,eF]
 refine .then (sO aC B) (.bind (.appL (n:=50+30000) (by grind) b5 BU λk1=>?_));refine .then (T.forE o.Path _ ke 40020 aa (by grind [Aq,Be.path]) (λk acc x hx hm hk hl=>?_) λacc=>?_) ?_
 .have hp:=h.path x hm;unfold qs;dsimp only;rw[eA hk,ax,au,hx];simp only[aL];have q1:=gH hp.a;have f:=wM hp.n hp.b;refine .then (oF hp.a) (.bind (.appL (n:=50000000) (m:=10) aa q1 BU λd=> .then (Cp hp.n hp.b) (.bind (.appL d f BU λ_=> .some ⟨aq aa,?_⟩))));simp[ke]
 .grind [qs,eF]
 have k2:∀(u:CY),u.length<=30100->(u++o.Path.flatMap ke).length<=41000000:=by grind
 refine .then (l6 h.epoch) (.bind (.appL (k2 _ k1) (Lz h.epoch) BU λk3=>?_));refine .then (cK (h.ints o.N aC)) (.bind (.appL k3 (aR (h.ints o.N aC)) BU λg=>?_));refine .then (Ey h.nBody) (.bind (.appL g (Ap h.nBody) BU λk5=>?_));refine .then (cK l3) (.bind (.appL k5 (aR l3) BU λk6=>?_));refine .then (Ez h.nRefs h.refs) (.bind (.appL (m:=10000) k6 aa BU λi=>?_));refine .then (l6 h.of_) (.bind (.appL i (Lz h.of_) BU λk8=>?_));refine .then (cK l4) (.bind (.appL k8 (aR l4) BU λk9=>?_));refine .then (sO h.nGuards h.guards) (.bind (.appL (m:=10000) k9 aa BU λe=>?_));refine .then (sO aC C) (.bind (.appL e c2 BU λk11=>?_));refine .then (Cp h.nBoxes h.boxes) (.bind (.appL k11 (wM h.nBoxes h.boxes) BU λk12=>?_));refine .then (oF h.pub) (.bind (.appL k12 (gH h.pub) BU λk13=>?_));refine .then (cK l5) (.bind (.appL k13 (aR l5) BU λj=>?_));refine .then (T.forE o.Hist _ lX 1040 aa (λx hx=>F6 (h.hist x hx)) (λk acc x hx hm hk hl=>?_) λacc=>?_) (.some rfl)
 .have hp:=h.hist x hm;unfold Pp;dsimp only;rw[eA hk,ax,au,hx];simp only[aL];refine .then (l6 hp.a) (.bind (.appL (n:=50000000) aa (Lz hp.a) BU λd=> .then (Ey hp.n) (.bind (.appL d (Ap hp.n) BU λ_=> .some ⟨aq aa,?_⟩))));simp[lX]
 .unfold Pp;dsimp only;rw[eF,Bf]
theorem wN(h:Be o):T (pV o) λi=>i.By=o.By/\i.Seq=o.Seq/\jI [111,112] (qc o)=some i.Sum/\Ko i:=by refine .then (uV h) (.bind ?_);obtain⟨v,e,hv⟩:=Co (label:=[111,112]) (b:=qc o) BU (by grind [yY]);exact⟨v,e,.some ⟨rfl,rfl,e,⟨h.ints _ aC,h.ints _ aC,hv⟩⟩⟩
theorem Be.sig{o:Bo}(h:Be o)(s:YB):Be {o with Sig:=s}:=by grind [Be]
theorem Io(h:Be o):T (nR o) λr=>∃s:YB,r={o with Sig:=s}/\fS s.R/\fS s.S:=by refine .bind ((Im BU).mono (by grind [uV,T.bind,T.mono,NY,yY,T.some]))
section
variable {P:Bu}
def oI(κ:Nat->Fq)(σ1:aQ):aQ->Prop
 |[]=>True
 |(k,some o)::U=>(match ag σ1 k with|some a=>MB κ a o|none=>False)/\oI κ σ1 U
 |(_,none)::U=>oI κ σ1 U
theorem oI.get{κ:Nat->Fq}{σ1:aQ}:∀{U:aQ},oI κ σ1 U->∀k o,(k,some o)∈U->∃a,ag σ1 k=some a/\MB κ a o
 |[],_,k,o,hq=>by cases hq
 |(k,some o)::U,h,k',o',hq=>by
  rcases EG.1 hq with e|hq
  .cases e;have h1:=h.1;split at h1
   .rename_i a e1;exact⟨a,e1,h1⟩
   .exact h1.elim
  .exact oI.get h.2 k' o' hq
 |(_,none)::U,h,k',o',hq=>by
  rcases EG.1 hq with e|hq
  .cases e
  .exact oI.get (U:=U) h k' o' hq
def zO(L:Br)(c:Nat)(U:aQ):aQ:=U.map λq=>((G4 L c q.1).getD 0,q.2)
theorem YS{gl:CC}{gs0 gs:Bk}{σ0 σ1 σR:aQ}{r g:G}{c1 c c':Nat}(L:Br)(U:aQ)(hM:jg P gl fid gs0 σ0 L.length r σ1 c1)
  (hin:w6 (vi L) σR σ0 0 L) (b:oI (G4 L c) σ1 U) (hlt:L.all (λi=>Nat.blt i c)=true:=by kernel_rfl) (hnd:decide L.Nodup=true:=by kernel_rfl) (hgs:gs.map (qg (vi L) 20)=gs0:=by kernel_rfl)
  (hk0:σ0.all (λq=>Nat.blt q.1 L.length)=true:=by kernel_rfl) (hcov:(List.range L.length).all (λk=>U.any λq=>Nat.beq q.1 k)=true:=by kernel_rfl) (hg:qg (G4 L c) 20 r=g:=by kernel_rfl) (hc:c+(c1-L.length)=c':=by kernel_rfl) (hR:σR.all (λq=>q.2.isSome)=true:=by kernel_rfl):oJ P gl fid gs σR c g (zO L c U) c':=by
 intro o st y xs ats fst cap ho hd hf d hgl hq hsc
 have j:=hin.get
 have hgetR:∀i o,ag σR i=some o->ag st.σ i=some o:=λi o hh=>by
  have:∀l:aQ,(∀q∈l,q∈σR)->ag l i=some o->ag st.σ i=some o:=by
   intro l;induction l with
   |nil=>intro _ h;cases h
   |cons q t ih=>
    intro hs h;rw[show(q::t:aQ)=(q.1,q.2)::t from rfl,A9] at h;split at h
    .rename_i e;subst e;rw[hq q (hs q aC)];exact h
    .exact ih (λx hx=>hs x (by simp[hx])) h
  exact this σR (λ_ h=>h) hh
 have key:=MD (o:=o) (st:=st) (f:=y) (xs:=xs) (ats:=ats) (fid:=fid) (fst:=fst) (cap:=cap) L (gs0:=gs0) (σ0:=σ0) (r:=r) (σ1:=σ1) (c1:=c1) ho hd hf (by rw[hgl];exact hM) (λk i hk=>by
   have:=GV.1 hlt i (bO hk);rw[hsc];exact Ef this) (DV hnd) (by rw[d,hgs]) (λk i hk=>by
   obtain⟨o,o0,h1,h2,h3⟩:=j k i hk;rw[Nat.zero_add] at h2;exact⟨o,o0,hgetR i o h1,h2,h3⟩) (λk o hkk=>by
   have:∀l:aQ,(∀q∈l,q∈σ0)->ag l k=some o->k<L.length:=by
    intro l;induction l with
    |nil=>intro _ h;cases h
    |cons q t ih=>
     intro hs h;rw[show(q::t:aQ)=(q.1,q.2)::t from rfl,A9] at h;split at h
     .rename_i e;subst e;exact Ef (GV.1 hk0 q (hs q aC))
     .exact ih (λx hx=>hs x (by simp[hx])) h
   exact this σ0 (λ_ h=>h) hkk) (zO L c U++st.σ) (λi o hh=>by
   have:∀l:aQ,(∀q∈l,q∈U)->ag (zO L c l++st.σ) i=some o->(∃k,(k,some o)∈U/\G4 L c k=some i)\/(ag st.σ i=some o/\∀q∈l,G4 L c q.1≠some i):=by
    intro l;induction l with
    |nil=>intro _ h;exact .inr ⟨h,λq hq=>by cases hq⟩
    |cons q t ih=>
     intro hs h;obtain⟨n,hi'⟩:=Gl L c q.1;rw[show zO L c (q::t)++st.σ=((G4 L c q.1).getD 0,q.2)::(zO L c t++st.σ) from rfl,hi',Nt,A9] at h;split at h
     .rename_i e;subst e;exact .inl ⟨q.1,by rw[<-h];exact hs q aC,hi'⟩
     .rename_i hne;rcases ih (λx hx=>hs x (by simp[hx])) h with h|⟨h,h2⟩
      .exact .inl h
      .refine .inr ⟨h,λx hx=>?_⟩;rcases EG.1 hx with rfl|hx
       .rw[hi'];intro e;cases e;exact hne rfl
       .exact h2 x hx
   rcases this U (λ_ h=>h) hh with⟨k,a,h1⟩|⟨h1,h2⟩
   .obtain⟨m,e1,e2⟩:=b.get k o a;exact .inl ⟨k,m,by rw[hsc];exact h1,e1,by rw[hsc];exact e2⟩
   .refine .inr ⟨h1,λhi=>?_⟩;obtain⟨k,hk⟩:=Gu hi;have hkl:=(cr hk).1;obtain⟨q,a,he⟩:=List.any_eq_true.1 (GV.1 hcov k (List.mem_range.2 hkl));refine h2 q a ?_;rw[bc he];unfold G4;rw[hk])
 have:=key.gs (st':={st with σ:=zO L c U++st.σ,c:=c'}.put o.dst g) λs hs=>by rw[hs,hsc,hg,hc]
 exact this
def tN(d:Nat)(L:Br)(c:Nat)(σR:aQ)(gs:Bk)(U:aQ){gl:CC}{fid:FuncId}{gs0:Bk}{σ0 σ1:aQ}{r:G}{c1:Nat}(hM:jg P gl fid gs0 σ0 L.length r σ1 c1)
  (hin:w6 (vi L) σR σ0 0 L) (a:oI (G4 L c) σ1 U) (hlt:L.all (λi=>Nat.blt i c)=true:=by kernel_rfl) (hnd:decide L.Nodup=true:=by kernel_rfl) (hgs:gs.map (qg (vi L) 20)=gs0:=by kernel_rfl)
  (hk0:σ0.all (λq=>Nat.blt q.1 L.length)=true:=by kernel_rfl) (hcov:(List.range L.length).all (λk=>U.any λq=>Nat.beq q.1 k)=true:=by kernel_rfl) (hR:σR.all (λq=>q.2.isSome)=true:=by kernel_rfl):HP:=
 hz d L (P:=P) (gl:=gl) (f:=fid) (gs:=gs) (σR:=σR) (c:=c) (g:=qg (G4 L c) 20 r) (U:=zO L c U) (c':=c+(c1-L.length)) (YS L U hM hin a hlt hnd hgs hk0 hcov rfl rfl hR)
end
section
attribute [local irreducible] Tr dz Gp
abbrev oO(i:Nat)(l:CY):Option Ob:=some ⟨336,[.rsl i 0 l.length],none⟩
abbrev oY(l:CY):Option Ob:=some ⟨5,l.flatMap cY,none⟩
theorem MN{P:Bu}{t:Bj}(y:UInt8):∀p q:DC,b8 P .or t p q (gY y) (gY 128)=some (gY (UInt8.ofNat (y.toNat%128+128))):=by grind [Yk,V6]
def Aad(s:Bool×CY×Nat):Option ((Bool×CY×Nat)⊕(Bool×CY×Nat)):=
 bif ((128:Nat):Int)<=(s.2.2:Int)then(aT 1 s.2.1 [UInt8.ofNat ((wY (s.2.2:Int)).toNat%128+128)]).bind λa=>some (.inl (true,a,JH s.2.2 7))else some (.inr s)
theorem WH(l:CY)(n:Nat)(hn:n<18446744073709551616)(hl:l.length<=100000000000000):T (AH Aad (false,l,n)) λr=>T (aT 1 r.2.1 [wY (r.2.2:Int)]) λv=>v=l++nb n:=by
 refine T.loop (λs=>s.2.1++nb s.2.2=l++nb n/\s.2.2<18446744073709551616) (λs=>(nb s.2.2).length) ⟨rfl,hn⟩ (by grind [ow]) ?_;rintro⟨a,o,m⟩ ⟨h1,h2⟩;simp only at h1 h2;have hln:o.length+(nb m).length<=l.length+10:=by grind [UQ,ow]
 unfold Aad;dsimp only;refine .dec (λh=>?_) λh=>?_
 .have hm:¬m<128:=aa;refine .bind (.app cq (.some ?_));have e1:JH m 7=m/128:=by unfold JH;congr 1
  have e2:(wY (m:Int)).toNat%128+128=m%128+128:=by rw[Cm,UInt8.toNat_ofNat'];omega
  constructor<;>grind [Er]
 .have hm:m<128:=aa;refine .some ?_;show T _ _;grind [T.app,Cm,H6]
def MO(s:Bool×CY×Nat):St:=match s.1 with
 |true=>(s0 31 gl [(0,.ref 0 0),(1,uG s.2.2)] [(0,oO 2 s.2.1),(2,oY s.2.1)] 3 2)
 |false=>(s0 31 gl [(0,.ref 0 0),(1,uG s.2.2)] [(0,oO 1 s.2.1),(1,oY s.2.1)] 2 2)
theorem KE{l r:CY}(hn:n<18446744073709551616)(hl:l.length<=100000000000000)(d:l++nb n=r):jg prog gl 283 [.ref 0 0,uG n] [(0,oO 1 l),(1,oY l)] 2 (.tup []) [(0,oO 2 r),(2,oY r)] 3:=by
 obtain⟨⟨f,o,m⟩,hL,v,c,e⟩:=WH l n hn hl;obtain rfl:=e.trans d;refine pP func283 ?_;refine Ix [0] (MO gl (f,o,m)) ?_ λkk=>?_
 .cases f
  .exact mt .normal (s0 31 gl [] [(0,oO 2 v),(2,oY v)] 3 2) [] [AB 26 (Iz (m:Int)),dg 28 rY c] [hc (el v),hc (rY.imm v)] (ρ:=[(0,0),(1,1),(2,3)]) (kd:=[(2,.row)])
  .exact mt .normal (s0 31 gl [] [(0,oO 2 v),(2,oY v)] 3 2) [] [AB 26 (Iz (m:Int)),dg 28 rY c] [hc (el v),hc (rY.imm v)] (ρ:=[(0,0),(1,1),(2,4)]) (kd:=[(2,.row)])
 refine pN (MO gl) [0,2,2] hL [] [hc (el l),hc (rY.imm l)] (λB s w hs k5 i=>?_);obtain⟨g,j,b⟩:=s;unfold Aad at hs;rcases bC hs with⟨b1,hs⟩|⟨b1,hs⟩
 .obtain⟨a,h,hs⟩:=bS hs;obtain rfl:=Bp hs;have k:=k5 _ rfl;cases g
  .exact jw [hr 5 b1,AB 12 (Iz (b:Int)),hV 13 (MN (P:=prog) (t:=5) (wY (b:Int))),dg 15 rY h,hV 19 (Ui (P:=prog) (t:=36) (k':= .u64) b 7)] [hc (el a),hc (rY.imm a)] k (ρ:=[(0,0),(1,1),(2,3)])
  .exact jw [hr 5 b1,AB 12 (Iz (b:Int)),hV 13 (MN (P:=prog) (t:=5) (wY (b:Int))),dg 15 rY h,hV 19 (Ui (P:=prog) (t:=36) (k':= .u64) b 7)] [hc (el a),hc (rY.imm a)] k (ρ:=[(0,0),(1,1),(2,4)])
 .obtain rfl:=Bp hs;obtain e:=i _ rfl;cases e;cases f
  .exact yl [0] [hr 5 b1] [hc (el o),hc (rY.imm o)] kk
  .exact yl [0] [hr 5 b1] [hc (el o),hc (rY.imm o)] kk (ρ:=rI 3)
theorem WI{P:Bu}{t:Bj}{n:Int}(h:c8 n):∀p q:DC,b8 P .xor t p q (uG (It (wU n) 1)) (uG (wU (Tf n 63)))=some (uG (Mk n)):=λp q=>by
 have e1:((It (wU n) 1:Nat):Int)=IntKind.u64.wrap (IntKind.u64.wrap n*2^1):=by have h1:=zk n;rw[<-h1,IntKind.wrap_u64];grind [It]
 have e2:((wU (Tf n 63):Nat):Int)=IntKind.u64.wrap (n.fdiv (2^63)):=by rw[zk];rfl
 rw[e1,e2];exact Ym h
theorem TL{n:Int}(h:c8 n):ba prog gl 359 [iG n] (uG (Mk n)):=by refine Gh func359 ?_;exact Ar [AB 4 (C8 n),hV 5 (Ks (P:=prog) (t:=36) (k':= .u64) (wU n) 1),hV 7 (V9 (P:=prog) (t:=3) (k':= .u64) n 63),AB 8 (C8 (Tf n 63)),hV 9 (WI (P:=prog) (t:=36) h)] []
theorem cA{l r:CY}{n:Int}(hn:c8 n)(hl:l.length<=100000000000000)(a:l++aV n=r):jg prog gl 281 [.ref 0 0,iG n] [(0,oO 1 l),(1,oY l)] 2 (.tup []) [(0,oO 2 r),(2,oY r)] 3:=by refine pP func281 ?_;exact mt .normal (s0 8 gl [] [(0,oO 2 r),(2,oY r)] 3 2) [] [hf 6 (TL gl hn),tN 7 [0,1] 2 [(0,oO 1 l),(1,oY l)] [.ref 0 0,uG (Mk n)] [(0,oO 2 r),(1,none),(2,oY r)] (KE gl (FQ hn) hl a) ⟨⟨rfl,.inl rfl⟩,⟨rfl,.inr ⟨rfl,rY.imm l⟩⟩,trivial⟩ ⟨⟨rfl,.inl rfl⟩,⟨rfl,.inr ⟨rfl,rY.imm r⟩⟩,trivial⟩] [hc (el r),hc (rY.imm r)] (ρ:=rI 3) (kd:=[(2,.row)])
def gD(d i k c:Nat)(gs:Bk){gl:CC}{fid:FuncId}{gs0:Bk}{l r:CY}(h:jg prog gl fid gs0 [(0,oO 1 l),(1,oY l)] [i,k].length (.tup []) [(0,oO 2 r),(2,oY r)] 3)
  (hin:w6 (vi [i,k]) [(i,oO k l),(k,oY l)] [(0,oO 1 l),(1,oY l)] 0 [i,k]:=by exact⟨⟨rfl,.inl rfl⟩,⟨rfl,.inr ⟨rfl,rY.imm _⟩⟩,trivial⟩) (a:oI (G4 [i,k] c) [(0,oO 2 r),(2,oY r)] [(0,oO c r),(1,none),(2,oY r)]:=by exact⟨⟨rfl,.inl rfl⟩,⟨rfl,.inr ⟨rfl,rY.imm _⟩⟩,trivial⟩)
  (hlt:[i,k].all (λi=>Nat.blt i c)=true:=by kernel_rfl) (hnd:decide [i,k].Nodup=true:=by kernel_rfl) (hgs:gs.map (qg (vi [i,k]) 20)=gs0:=by kernel_rfl):HP:=
 tN d [i,k] c [(i,oO k l),(k,oY l)] gs [(0,oO c r),(1,none),(2,oY r)] h hin a hlt hnd hgs (by rfl) (by rfl) (by rfl)
theorem aaT(a b c d:List α):a++b++c++d=a++(b++c++d):=by grind
theorem kh{l r:CY}{i:Ab}(hi:Ko i)(hl:l.length<=10000000000000)(d:l++sN i=r):jg prog gl 285 [.ref 0 0,.agg (aj i)] [(0,oO 1 l),(1,oY l)] 2 (.tup []) [(0,oO 2 r),(2,oY r)] 3:=by
 have h1:=aR hi.a;have h2:=aR hi.b;have e:l++aV i.By++aV i.Seq++nb i.Sum=r:=by rw[aaT];exact d
 refine pP func285 ?_;exact mt .normal (s0 16 gl [] [(0,oO 2 r),(2,oY r)] 3 2) [] [gD 7 0 1 3 [.ref 0 0,iG i.By] (cA gl hi.a aa (r:=l++aV i.By) rfl),gD 11 0 3 4 [.ref 0 0,iG i.Seq] (cA gl hi.b cq (r:=l++aV i.By++aV i.Seq) rfl),gD 15 0 4 5 [.ref 0 0,uG i.Sum] (KE gl hi.c cq e)] [hc (el r),hc (rY.imm r)] (ρ:=[(0,0),(1,1),(2,5)]) (kd:=[(2,.row)])
theorem CR{l r s:CY}(hs:s.length<=1000000)(hl:l.length<=10000000000000)(a:l++tM s=r):jg prog gl 289 [.ref 0 0,sG s] [(0,oO 1 l),(1,oY l)] 2 (.tup []) [(0,oO 2 r),(2,oY r)] 3:=by
 have h1:=aR (dO hs);have e:aT 1 (l++aV (s.length:Int)) s=some r:=by grind [aT,tM]
 refine pP func289 ?_;exact mt .normal (s0 17 gl [] [(0,oO 2 r),(2,oY r)] 3 2) [] [hL 6 s,gD 7 0 1 2 [.ref 0 0,iG (ah s)] (cA gl (dO hs) aa (r:=l++aV (s.length:Int)) rfl),XZ 14 e] [hc (el r),hc (rY.imm r)] (ρ:=[(0,0),(1,1),(2,3)]) (kd:=[(2,.row)])
theorem rS{l:CY}(hl:l.length<=10000000000000):jg prog gl 185 [.ref 0 0] [(0,oO 1 l),(1,oY l)] 2 (.rsl 2 0 l.length) [(0,oO 1 l),(1,oY l),(2,oY l)] 3:=by refine pP func185 ?_;exact mt .ret (s0 8 gl [(2,.rsl 2 0 l.length)] [(0,oO 1 l),(1,oY l),(2,oY l)] 3 2) [.rsl 2 0 l.length] [YL 7 rY (show aT 1 [] l=some l by unfold aT;rw[BB cq];rfl)] [hc (el l),hc (el l),hc (rY.imm l),hc (rY.imm l)] (kd:=[(1,.row),(2,.row)])
end
end Go.Proofs.YtjbfcillbjiajaaGreatDoor
