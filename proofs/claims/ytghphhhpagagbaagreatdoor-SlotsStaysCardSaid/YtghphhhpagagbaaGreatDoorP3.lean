/- Texts. -/
import Derived.Test.YtghphhhpagagbaaGreatDoorFM
namespace Go.Proofs.YtghphhhpagagbaaGreatDoor
set_option linter.unusedSectionVars false
set_option linter.unusedVariables false
set_option linter.unusedSimpArgs false
open Go.RowKit Tryz
attribute [local irreducible] Tr dz Gp
variable (gl:CB)
variable {α:Type}{fi_a1 fi_may:FuncId}{fa_a1 fa_may fc_a1 fc_may:Bn}{l:Bq}{a k n pub r s w:Nat}{b label:CD}{z:Int}{i:Ab}{o:Bp}{L:List (Nat×Bool)}
section
set_option maxHeartbeats 2000000
def Sg{α:Type}(b:α)(a1:α->Fl):Fl:=
 (a1 b).bind λa=>some (!a)
theorem Ce{x_:Ha}{a1:Ha->Fl}(a:SP prog gl fi_a1 fa_a1 fc_a1 (λx:Ha=>[.agg (cz x)]) (λx:Bool=>bG x) a1):DF prog gl (Sg x_ a1) 365 [.agg (cz x_),.ptr [.clo (.func fi_a1) fa_a1 fc_a1] 0] bG:=
 cy func365 λK=>ak λb e2=>aw [hz 6 [] (a.cs (c:=1) e2 (aY (aG 20 (.agg (cz x_)) aH) (bf)))]<|rv K
def Nw{α:Type}(l:List α)(a:α->Fl):Fl:=
 (Aad l (λz=>Sg z a)).bind λb=>some (!b)
theorem wA{l:List Ha}{may:Ha->Fl}(a:SP prog gl fi_may fa_may fc_may (λx:Ha=>[.agg (cz x)]) (λx:Bool=>bG x) may):DF prog gl (Nw l may) 326 [aE cz l,.clo (.func fi_may) fa_may fc_may] bG:=
 cy func326 λK=>cN [1,0] (sf [1] [(3,.ptr [.clo (.func fi_may) fa_may fc_may] 0)]) [hc (a.im),hc (aY (a.im) (bf))]<|ak λb e2=>aw [hz 7 [] (jf (c:=0) aH (LT gl (⟨aH,bf,eB aH,λ_ _ e=>Ce gl a e⟩) e2) (aY (aG 20 (aE cz l) aH) (aY (aG 20 (.clo (.func 365) [] [.ptr [.clo (.func fi_may) fa_may fc_may] 0]) aH) (bf))))]<|rv K
def wB(b:Ha):Fl:=
 ((rJ b.To).bind λe=>bif e then((rJ b.Eph).bind λa=>bif a then((Kq b.Body).bind λc=>bif c then((Kq b.Tag).bind λd=>some d)else(some false))else(some false))else(some false)).bind λf=>some f
theorem Cf{b}:DF prog gl (wB b) 327 [.agg (cz b)] bG:=
 cy func327 λK=>cN [1,0] (sp [] [(1,.ref 0 0)] [ob 0 181 (cz b)] 1) []<|cC [1,0] (λa=>sk [] [(2,bG a)] [] 0) (λa=>rv K) λa k5=>ak λg e8=>kV (λc=>BB 9 (iz gl) λd=>aw [hf 5 (cF (iz gl e8) c)]<|aF 10 (BB 14 (Ak gl) λe=>aF 15 (BB 19 (Ak gl) λf=>rx k5)<|rx k5)<|rx k5) λc=>aw [hf 5 (cF (iz gl e8) c)]<|rx k5
def uP(n:Fj):Fl:=
 ((rJ n.Pub).bind λb=>bif b then((Nw n.Boxes (λz=>wB z)).bind λa=>some a)else(some false)).bind λc=>some c
theorem Du{n}:DF prog gl (uP n) 325 [.agg (bY n)] bG:=
 cy func325 λK=>cN [1,0] (sp [] [(1,.ref 0 0)] [ob 0 70 (bY n)] 1) []<|cC [1,0] (λa=>sk [] [(2,bG a)] [] 0) (λa=>rv K) λa k5=>ak λd e8=>kV (λb=>BB 9 (wA gl (⟨aH,bf,eB aH,λ_ _ e=>Cf gl e⟩)) λc=>aw [hf 5 (cF (iz gl e8) b)]<|rx k5) λb=>aw [hf 5 (cF (iz gl e8) b)]<|rx k5
def uQ(s:DP):Fl:=
 (Al s.Of).bind λa=>some a
theorem Dv{s}:DF prog gl (uQ s) 328 [.agg (bp s)] bG:=
 cy func328 λK=>BB 5 (pH gl) λa=>rv K
def uR(n:Int):Fl:=
 (FV n 1 12).bind λa=>some a
theorem Dw{n}:DF prog gl (uR n) 329 [iG n] bG:=
 cy func329 λK=>BB 4 (eE gl) λa=>rv K
theorem Cg{x_:Int}{a1:Int->Fl}(a:SP prog gl fi_a1 fa_a1 fc_a1 (λx:Int=>[iG x]) (λx:Bool=>bG x) a1):DF prog gl (Sg x_ a1) 366 [iG x_,.ptr [.clo (.func fi_a1) fa_a1 fc_a1] 0] bG:=
 cy func366 λK=>ak λb e2=>aw [hz 6 [] (a.cs (c:=0) e2 (aY (aG 20 (iG x_) aH) (bf)))]<|rv K
theorem FW{l:Bk}{may:Int->Fl}(a:SP prog gl fi_may fa_may fc_may (λx:Int=>[iG x]) (λx:Bool=>bG x) may):DF prog gl (Nw l may) 330 [aE cZ l,.clo (.func fi_may) fa_may fc_may] bG:=
 cy func330 λK=>cN [1,0] (sf [1] [(3,.ptr [.clo (.func fi_may) fa_may fc_may] 0)]) [hc (a.im),hc (aY (a.im) (bf))]<|ak λb e2=>aw [hz 7 [] (jf (c:=0) aH (ml gl (⟨aH,bf,eB aH,λ_ _ e=>Cg gl a e⟩) e2) (aY (aG 20 (aE cZ l) aH) (aY (aG 20 (.clo (.func 366) [] [.ptr [.clo (.func fi_may) fa_may fc_may] 0]) aH) (bf))))]<|rv K
theorem mo:Aac prog gl cW (λx=>[uG x]) 381:=λs f fi_f fa_f fc_f a=>
 cy func381 λK=>N8 1101 (λg=>sg [] []) (λs1=>sf [] [(7,iG (ah s)),(8,iG s1)]) [hc (a.im)] K (λg=>rv K) λs1 k5 h k6=>aF 9 (B5 14 rW.ixZ 15 (rW.p1Y tW) λd=>ak λi e=>kV (λb=>aw [hz 16 [] (cS (a.cs (c:=0) e (aY (aG 20 (uG d) aH) (bf))) b)]<|aP c3 k6 []) λb=>aw [hz 16 [] (cS (a.cs (c:=0) e (aY (aG 20 (uG d) aH) (bf))) b)]<|cj k5 [hc (a.im)])<|aA c2 h []
theorem ku:Aa5 prog gl cW (λx=>[uG x]) 367:=λs f fi_f fa_f fc_f a=>
 cy func367 λK=>ak λb e2=>aw [hz 7 [] (jf (c:=0) aH (mo gl (a) e2) (aY (aG 20 (aE cW s) aH) (aY (a.im) (bf))))]<|rv K
theorem wC{x_:Nat}{a1:Nat->Fl}(a:SP prog gl fi_a1 fa_a1 fc_a1 (λx:Nat=>[uG x]) (λx:Bool=>bG x) a1):DF prog gl (Sg x_ a1) 368 [uG x_,.ptr [.clo (.func fi_a1) fa_a1 fc_a1] 0] bG:=
 cy func368 λK=>ak λb e2=>aw [hz 6 [] (a.cs (c:=0) e2 (aY (aG 20 (uG x_) aH) (bf)))]<|rv K
theorem zL{may:Nat->Fl}(a:SP prog gl fi_may fa_may fc_may (λx:Nat=>[uG x]) (λx:Bool=>bG x) may):DF prog gl (Nw l may) 331 [aE cW l,.clo (.func fi_may) fa_may fc_may] bG:=
 cy func331 λK=>cN [1,0] (sf [1] [(3,.ptr [.clo (.func fi_may) fa_may fc_may] 0)]) [hc (a.im),hc (aY (a.im) (bf))]<|ak λb e2=>aw [hz 7 [] (jf (c:=0) aH (ku gl (⟨aH,bf,eB aH,λ_ _ e=>wC gl a e⟩) e2) (aY (aG 20 (aE cW l) aH) (aY (aG 20 (.clo (.func 368) [] [.ptr [.clo (.func fi_may) fa_may fc_may] 0]) aH) (bf))))]<|rv K
theorem xY{x_:Ab}{a1:Ab->Fl}(a:SP prog gl fi_a1 fa_a1 fc_a1 (λx:Ab=>[.agg (aj x)]) (λx:Bool=>bG x) a1):DF prog gl (Sg x_ a1) 369 [.agg (aj x_),.ptr [.clo (.func fi_a1) fa_a1 fc_a1] 0] bG:=
 cy func369 λK=>ak λb e2=>aw [hz 6 [] (a.cs (c:=1) e2 (aY (aG 20 (.agg (aj x_)) aH) (bf)))]<|rv K
theorem Ch{l:Bc}{may:Ab->Fl}(a:SP prog gl fi_may fa_may fc_may (λx:Ab=>[.agg (aj x)]) (λx:Bool=>bG x) may):DF prog gl (Nw l may) 333 [aE aj l,.clo (.func fi_may) fa_may fc_may] bG:=
 cy func333 λK=>cN [1,0] (sf [1] [(3,.ptr [.clo (.func fi_may) fa_may fc_may] 0)]) [hc (a.im),hc (aY (a.im) (bf))]<|ak λb e2=>aw [hz 7 [] (jf (c:=0) aH (kP gl (⟨aH,bf,eB aH,λ_ _ e=>xY gl a e⟩) e2) (aY (aG 20 (aE aj l) aH) (aY (aG 20 (.clo (.func 369) [] [.ptr [.clo (.func fi_may) fa_may fc_may] 0]) aH) (bf))))]<|rv K
theorem oB:Aac prog gl bY (λx=>[.agg (bY x)]) 382:=λs f fi_f fa_f fc_f a=>
 cy func382 λK=>N8 1101 (λg=>sg [] []) (λs1=>sf [] [(7,iG (ah s)),(8,iG s1)]) [hc (a.im)] K (λg=>rv K) λs1 k5 h k6=>aF 9 (B5 14 bZ.ixZ 15 (bZ.ptZ Pc) λd=>ak λi e=>kV (λb=>aw [hz 16 [] (cS (a.cs (c:=0) e (aY (aG 20 (.agg (bY d)) aH) (bf))) b)]<|aP c3 k6 []) λb=>aw [hz 16 [] (cS (a.cs (c:=0) e (aY (aG 20 (.agg (bY d)) aH) (bf))) b)]<|cj k5 [hc (a.im)])<|aA c2 h []
theorem lV:Aa5 prog gl bY (λx=>[.agg (bY x)]) 370:=λs f fi_f fa_f fc_f a=>
 cy func370 λK=>ak λb e2=>aw [hz 7 [] (jf (c:=0) aH (oB gl (a) e2) (aY (aG 20 (aE bY s) aH) (aY (a.im) (bf))))]<|rv K
theorem zM{x_:Fj}{a1:Fj->Fl}(a:SP prog gl fi_a1 fa_a1 fc_a1 (λx:Fj=>[.agg (bY x)]) (λx:Bool=>bG x) a1):DF prog gl (Sg x_ a1) 371 [.agg (bY x_),.ptr [.clo (.func fi_a1) fa_a1 fc_a1] 0] bG:=
 cy func371 λK=>ak λb e2=>aw [hz 6 [] (a.cs (c:=1) e2 (aY (aG 20 (.agg (bY x_)) aH) (bf)))]<|rv K
theorem tK{l:List Fj}{may:Fj->Fl}(a:SP prog gl fi_may fa_may fc_may (λx:Fj=>[.agg (bY x)]) (λx:Bool=>bG x) may):DF prog gl (Nw l may) 334 [aE bY l,.clo (.func fi_may) fa_may fc_may] bG:=
 cy func334 λK=>cN [1,0] (sf [1] [(3,.ptr [.clo (.func fi_may) fa_may fc_may] 0)]) [hc (a.im),hc (aY (a.im) (bf))]<|ak λb e2=>aw [hz 7 [] (jf (c:=0) aH (lV gl (⟨aH,bf,eB aH,λ_ _ e=>zM gl a e⟩) e2) (aY (aG 20 (aE bY l) aH) (aY (aG 20 (.clo (.func 371) [] [.ptr [.clo (.func fi_may) fa_may fc_may] 0]) aH) (bf))))]<|rv K
theorem mq:Aac prog gl bp (λx=>[.agg (bp x)]) 383:=λs f fi_f fa_f fc_f a=>
 cy func383 λK=>N8 1101 (λg=>sg [] []) (λs1=>sf [] [(7,iG (ah s)),(8,iG s1)]) [hc (a.im)] K (λg=>rv K) λs1 k5 h k6=>aF 9 (B5 14 bH.ixZ 15 (bH.ptZ GM) λd=>ak λi e=>kV (λb=>aw [hz 16 [] (cS (a.cs (c:=0) e (aY (aG 20 (.agg (bp d)) aH) (bf))) b)]<|aP c3 k6 []) λb=>aw [hz 16 [] (cS (a.cs (c:=0) e (aY (aG 20 (.agg (bp d)) aH) (bf))) b)]<|cj k5 [hc (a.im)])<|aA c2 h []
theorem kw:Aa5 prog gl bp (λx=>[.agg (bp x)]) 372:=λs f fi_f fa_f fc_f a=>
 cy func372 λK=>ak λb e2=>aw [hz 7 [] (jf (c:=0) aH (mq gl (a) e2) (aY (aG 20 (aE bp s) aH) (aY (a.im) (bf))))]<|rv K
theorem wD{x_:DP}{a1:DP->Fl}(a:SP prog gl fi_a1 fa_a1 fc_a1 (λx:DP=>[.agg (bp x)]) (λx:Bool=>bG x) a1):DF prog gl (Sg x_ a1) 373 [.agg (bp x_),.ptr [.clo (.func fi_a1) fa_a1 fc_a1] 0] bG:=
 cy func373 λK=>ak λb e2=>aw [hz 6 [] (a.cs (c:=1) e2 (aY (aG 20 (.agg (bp x_)) aH) (bf)))]<|rv K
theorem pY{l:List DP}{may:DP->Fl}(a:SP prog gl fi_may fa_may fc_may (λx:DP=>[.agg (bp x)]) (λx:Bool=>bG x) may):DF prog gl (Nw l may) 335 [aE bp l,.clo (.func fi_may) fa_may fc_may] bG:=
 cy func335 λK=>cN [1,0] (sf [1] [(3,.ptr [.clo (.func fi_may) fa_may fc_may] 0)]) [hc (a.im),hc (aY (a.im) (bf))]<|ak λb e2=>aw [hz 7 [] (jf (c:=0) aH (kw gl (⟨aH,bf,eB aH,λ_ _ e=>wD gl a e⟩) e2) (aY (aG 20 (aE bp l) aH) (aY (aG 20 (.clo (.func 373) [] [.ptr [.clo (.func fi_may) fa_may fc_may] 0]) aH) (bf))))]<|rv K
def wE(n:Fj):Fl:=
 some (decide (ah n.Boxes<=12))
theorem H8{n}:DF prog gl (wE n) 336 [.agg (bY n)] bG:=
 cy func336 λK=>rv K
def wF(s:DP):Fl:=
 some (decide (ah s.Body<=208))
theorem H9{s}:DF prog gl (wF s) 337 [.agg (bp s)] bG:=
 cy func337 λK=>rv K
def FX(o:Bp):Fl:=
 (bif 12<ah o.Past then(some true)else(bif 5<ah o.Path then(some true)else((Nw o.Path (λz=>wE z)).bind λa=>bif(!a)then(some true)else(bif 208<ah o.Body then(some true)else(bif 8<ah o.Refs then(some true)else(bif 20<ah o.Hist then(some true)else((Nw o.Hist (λz=>wF z)).bind λb=>bif(!b)then(some true)else(some (decide (6<ah o.Guards)))))))))).bind λc=>bif c then(some true)else(bif o.Kind=7 then((FV (ah o.Body) 1 20).bind λd=>some (!d))else(bif o.Kind=9 then(some (decide (ah o.Boxes≠ah o.Guards)))else(bif o.Kind=10 then((FV (ah o.Boxes) 1 6).bind λe=>some (!e))else(bif o.Kind=11 then(some (decide (ah o.Boxes≠1)))else(some false)))))
theorem Es{o}:DF prog gl (FX o) 264 [.agg (aJ o)] bG:=
 cy func264 λK=>cN 111100 (sp [] [(1,.ref 0 0),(3,.clo (.func 336) [] []),(4,.clo (.func 337) [] [])] [ob 0 64 (aJ o)] 1) [hc (aG 20 (.clo (.func 336) [] []) aH),hc (aG 20 (.clo (.func 337) [] []) aH)]<|cC 111100 (λa=>sg [1] [(52,bG a)]) (λa=>eH [52] (rv K)<|aF 56 (BB 60 (eE gl) λd=>rv K)<|aF 63 (rv K)<|aF 72 (BB 76 (eE gl) λf=>rv K)<|aF 79 (rv K)<|rv K) λa k12=>aF 8 (rx k12)<|aF 14 (rx k12)<|BB 19 (tK gl (⟨aH,bf,eB aH,λ_ _ e=>H8 gl e⟩)) λb=>aF 21 (rx k12)<|aF 27 (rx k12)<|aF 33 (rx k12)<|aF 39 (rx k12)<|BB 44 (pY gl (⟨aH,bf,eB aH,λ_ _ e=>H9 gl e⟩)) λc=>aF 46 (rx k12)<|rx k12
def eR(n:Nat):Fp:=
 bif ((2305843009213693951:Nat):Int)<=((wU (((bD n 2305843009213693951:Nat):Int)+((Jn n 61:Nat):Int)):Nat):Int)then(some (wU (((wU (((bD n 2305843009213693951:Nat):Int)+((Jn n 61:Nat):Int)):Nat):Int)-((2305843009213693951:Nat):Int))))else(some (wU (((bD n 2305843009213693951:Nat):Int)+((Jn n 61:Nat):Int))))
theorem dr{n}:DF prog gl (eR n) 294 [uG n] (λr:Nat=>uG r):=
 cy func294 λK=>aw [hV 4 (ju (P:=prog) (t:=23) n 2305843009213693951),hV 6 (SO (P:=prog) (t:=23) (k':= .u64) n 61),hbb 7 (gV ((bD n 2305843009213693951:Nat):Int) ((Jn n 61:Nat):Int))]<|aF 9 (aw [hbb 11 (YH ((wU (((bD n 2305843009213693951:Nat):Int)+((Jn n 61:Nat):Int)):Nat):Int) ((2305843009213693951:Nat):Int))]<|rv K)<|rv K
def jZ(a:Nat)(b:Nat):Fp:=
 (eR a).bind λd=>(eR b).bind λe=>(sL d e).bind λc=>(eR c.2).bind λf=>(eR (wU ((f:Int)+((HU c.1 3:Nat):Int)))).bind λg=>some g
theorem j0{a b}:DF prog gl (jZ a b) 341 [uG a,uG b] (λr:Nat=>uG r):=
 cy func341 λK=>BB 9 (dr gl) λe=>BB 11 (dr gl) λf=>BB 12 (FY gl) λc=>BB 16 (dr gl) λd=>BB 20 (dr gl) λg=>aw [hV 18 (Ks (P:=prog) (t:=23) (k':= .u64) c.1 3),hbb 19 (gV (d:Int) ((HU c.1 3:Nat):Int))]<|rv K
def iB(n:Nat)(low:Nat)(a:Nat):Fl:=
 (bif (low:Int)<=(n:Int)then(some (decide ((n:Int)<=(a:Int))))else(some false)).bind λb=>some b
theorem GI{n low a}:DF prog gl (iB n low a) 338 [uG n,uG low,uG a] bG:=
 cy func338 λK=>cN [1,0] (sf [] []) []<|cC [1,0] (λb=>sg [] [(6,bG b)]) (λb=>rv K) λb k3=>aF 9 (rx k3)<|rx k3
def df(a:Ab)(a1:Aj):Fl:=
 some ((a1.at_.get a).isSome)
theorem jk{id_ a1}:DF prog gl (df id_ a1) 266 [.agg (aj id_),.ptr [.ptr (Ag a1) 0] 0] bG:=
 cy func266 λK=>aw [hm 12 (H7 a1.at_ id_)]<|rv K
def wG(a:Nat)(b:Nat):Fp:=
 (eR a).bind λc=>(eR b).bind λd=>(eR (wU ((c:Int)+(d:Int)))).bind λe=>some e
theorem Ia{a b}:DF prog gl (wG a b) 355 [uG a,uG b] (λr:Nat=>uG r):=
 cy func355 λK=>BB 6 (dr gl) λc=>BB 8 (dr gl) λd=>BB 10 (dr gl) λe=>aw [hbb 9 (gV (c:Int) (d:Int))]<|rv K
def Ny(d:Int)(a1:Ad):Fl:=
 some (!(Hg (a1.in_.get d)))
theorem N7{d a1}:DF prog gl (Ny d a1) 413 [iG d,.ptr [.ptr (CA a1) 0] 0] bG:=
 cy func413 λK=>aw [hm 9 (Sb a1.in_ d)]<|rv K
def US(b:Ad)(o:Bp)(m:Int):JL:=
 (Aad o.Guards (λz=>Ny z b)).bind λa=>bif a then(some 17)else(some 0)
theorem XK{r_ o m}:DF prog gl (US r_ o m) 412 [.ptr (CA r_) 0,.agg (aJ o),iG m] iG:=
 cy func412 λK=>cN 1100 (sp [] [(3,.ptr [.ptr (CA r_) 0] 0),(4,.ref 0 0)] [ob 0 64 (aJ o)] 1) [hc (aY (Ah (CA r_) 0) (bf))]<|ak λa e2=>kV (λb3=>aw [hf 10 (cF (ml gl (⟨aH,bf,eB aH,λ_ _ e=>N7 gl e⟩) e2) b3)]<|rv K) λb3=>aw [hf 10 (cF (ml gl (⟨aH,bf,eB aH,λ_ _ e=>N7 gl e⟩) e2) b3)]<|rv K
end
abbrev u1(n:Nat):Option Ob:=some ⟨23,[uG n],none⟩
theorem Kt(a n:Nat):jg prog gl 374 [uG a,uG n] [] 0 (.clo (.func 384) [] [.ref 0 0,.ref 1 0]) [(0,u1 a),(1,u1 n)] 2:=by refine pP func374 ?_;exact dEf .ret (s0 6 gl [(4,.clo (.func 384) [] [.ref 0 0,.ref 1 0])] [(1,u1 n),(0,u1 a)] 2 0) [.clo (.func 384) [] [.ref 0 0,.ref 1 0]] [] (λk o hk=>by rcases k with _|_|k<;>exact hk)
def mW(s:Nat×Nat×Nat):Option ((Nat×Nat×Nat)⊕Nat):=
 bif ((0:Nat):Int)<(s.2.1:Int)then((bif ((bD s.2.1 1:Nat):Int)=((1:Nat):Int)then(jZ s.2.2 s.1)else some s.2.2).bind λo=>(jZ s.1 s.1).bind λb=>some (.inl (b,Jn s.2.1 1,o)))else some (.inr s.2.2)
def j7(a n:Nat):Fp:=(eR a).bind λv=>AA mW (v,n,1)
noncomputable abbrev FZ:Code:=bq 111012 (ai Tryz.f340)
noncomputable abbrev tL(st:LoopState)(fr:Fr):Option Ob:=some ⟨0,[],some (.loop st none 18 fr (Dy FZ) (Dz FZ) (DA FZ))⟩
noncomputable abbrev Yo:Fr:=[(5,.ref 0 0),(10,.clo (.func 384) [] [.ref 1 0,.ref 2 0])]
abbrev r4:DD:=[(0,0),(1,1),(2,2),(3,3)]
theorem mX(h:j7 a n=some r):ba prog gl 340 [uG a,uG n] (uG r):=by
 unfold j7 at h;obtain⟨v,ev,h⟩:=bS h;refine Gh func340 ?_;refine YR [1,1,0,1,2] (s0 18 gl Yo [(1,u1 a),(2,u1 n),(0,u1 1)] 3 0) [hmc 10 [] 1 [] [uG a,uG n] [(0,⟨23,[uG a],none⟩),(1,⟨23,[uG n],none⟩)] (Kt gl a n) trivial ⟨⟨rfl,.inl rfl⟩,⟨rfl,.inl rfl⟩,trivial⟩] ?_;refine Xt (fst:=[]) (cap:=[.ref 1 0,.ref 2 0]) Tryz.f384 func384 ?_;refine pN (λs:Nat×Nat×Nat=>(s0 22 gl [(0,.yld 3),(1,.ref 1 0),(2,.ref 2 0),(4,uG s.1)] [(0,u1 s.2.2),(2,u1 s.2.1),(3,tL .ready [(5,.ref 0 0)])] 4 4)) 1122 h [hf 6 (dr gl ev)] [] (λB s w hs k5 d=>?_) [] r4;unfold mW at hs;rcases bC hs with⟨b1,hs⟩|⟨b1,hs⟩
 .obtain⟨o,c,hs⟩:=bS hs;obtain⟨b,eb,hs⟩:=bS hs;obtain rfl:=Bf hs;refine pO 112200 (s0 22 gl [(0,.yld 3),(1,.ref 1 0),(2,.ref 2 0),(4,uG s.1)] [(0,u1 s.2.2),(2,u1 s.2.1),(3,tL .ready [(5,.ref 0 0)])] 4 4) [] [] ?_ [] r4;refine Xw (i:=3) (j:=8) (n:=18) (t:=0) (t2:=0) (pe:=none) (fr:=[(5,.ref 0 0)]) (ps:=Dy FZ) (a:=Dz FZ) (b:=DA FZ) (s1:=(s0 22 gl [(14,bG (decide (((bD s.2.1 1:Nat):Int)=((1:Nat):Int)))),(13,uG (bD s.2.1 1)),(12,uG s.2.1),(11,uG s.1),(10,.yld 3),(9,bG true),(8,bG true),(7,uG s.2.1),(0,.yld 3),(1,.ref 1 0),(2,.ref 2 0),(4,uG s.1)] [(0,u1 s.2.2),(2,u1 s.2.1),(3,tL .ready [(5,.ref 0 0)])] 4 4))
   (s3:=(s0 22 gl [(16,bG true),(15,bG true),(14,bG (decide (((bD s.2.1 1:Nat):Int)=((1:Nat):Int)))),(13,uG (bD s.2.1 1)),(12,uG s.2.1),(11,uG s.1),(10,.yld 3),(9,bG true),(8,bG true),(7,uG s.2.1),(0,.yld 3),(1,.ref 1 0),(2,.ref 2 0),(4,uG s.1)] ((3,tL .ready [(5,.ref 0 0)])::[(0,u1 o),(2,u1 s.2.1),(3,tL .busy [(5,.ref 0 0)])]) 4 4))
   [(0,u1 o),(2,u1 s.2.1),(3,tL .busy [(5,.ref 0 0)])] 4 (.loop .ready none 18 [(5,.ref 0 0)] (Dy FZ) (Dz FZ) (DA FZ)) [hr 8 b1,hV 13 (ju (P:=prog) (t:=23) s.2.1 1)] [] ?_ ?_
  .refine C9 .normal ⟨18,gl,[(5,.ref 0 0),(6,uG s.1),(7,bG (decide (((bD s.2.1 1:Nat):Int)=((1:Nat):Int))))],[(0,u1 s.2.2),(2,u1 s.2.1),(3,tL .ready [(5,.ref 0 0)])],4,4,true⟩ [] [] (Xv Tryz.f340 ?_ rfl) [] r4;rcases bC c with⟨b2,c⟩|⟨b2,c⟩
   .rw[b2];exact C9 .normal ⟨18,gl,[],[(0,u1 o),(2,u1 s.2.1),(3,tL .busy [(5,.ref 0 0)])],4,4,true⟩ [hf 16 (j0 gl c)] [] (jy rfl rfl rfl rfl rfl rfl) [] r4
   .rw[b2];obtain rfl:=Bf c;exact C9 .normal ⟨18,gl,[],[(0,u1 s.2.2),(2,u1 s.2.1),(3,tL .busy [(5,.ref 0 0)])],4,4,true⟩ [] [] (jy rfl rfl rfl rfl rfl rfl) [] r4
  .exact jw [hf 21 (j0 gl eb),hV 18 (SO (P:=prog) (t:=23) (k':= .u64) s.2.1 1)] [] (k5 _ rfl) [] r4
 .obtain rfl:=Bf hs;obtain rfl:=d _ rfl;refine C9 .normal (s0 22 gl [] [(0,u1 s.2.2),(3,tL .ready [(5,.ref 0 0)])] 4 4) [hr 8 b1] [] (Xu ?_ rfl) [] r4;exact Ar [] []
def kE(s k w:Nat):Fp:=(jZ 37 s).bind λa=>(eR (wU ((w:Int)+((wU ((k:Int)+((1:Nat):Int)):Nat):Int)))).bind λb=>(wG a b).bind λc=>j7 c 17
def rK(l:Bq)(x:Nat×Nat×Int):Option ((Nat×Nat×Int)⊕(Nat×Nat)):=bif x.2.2<ah l then(aS l x.2.2).bind λw=>(kE x.1 x.2.1 w).bind λs=>some (.inl (s,wU ((x.2.1:Int)+((1:Nat):Int)),wI (x.2.2+1)))else some (.inr (x.1,x.2.1))
abbrev Ku(s k:Nat):Option Ob:=some ⟨336,[uG s,uG k],none⟩
abbrev Ci(l:Bq):Option Ob:=some ⟨23,l.flatMap cW,none⟩
theorem Th{r:Nat×Nat}(h:AA (rK l) (s,k,0)=some r):jg prog gl 293 [.ref 0 0,.rsl 1 0 l.length] [(0,Ku s k),(1,Ci l)] 2 (.tup []) [(0,Ku r.1 r.2),(1,Ci l)] 2:=by
 refine pP func293 ?_;refine pN (λx:Nat×Nat×Int=>(s0 37 gl [(0,.ref 0 0),(6,.rsl 1 0 l.length),(7,iG (ah l)),(8,iG x.2.2)] [(0,Ku x.1 x.2.1),(1,Ci l)] 2 2)) 1122 h [] [hc (rfl:l.length=l.length),hc (rW.imm l)] (λB x w hs k5 e=>?_) (kd:=[(1,.row)]);unfold rK at hs;rcases bC hs with⟨b1,hs⟩|⟨b1,hs⟩
 .obtain⟨y,d,hs⟩:=bS hs;obtain⟨s',es,hs⟩:=bS hs;obtain rfl:=Bf hs;unfold kE at es;obtain⟨a,f,es⟩:=bS es;obtain⟨b,eb,es⟩:=bS es;obtain⟨c,g,es⟩:=bS es;exact jw [hr 9 b1,AB 10 (rW.ixrZ 1 d),AB 11 (rW.p10Z tW d),hbb 16 (gV (x.2.1:Int) ((1:Nat):Int)),hf 24 (j0 gl f),hbb 30 (gV (y:Int) ((wU ((x.2.1:Int)+((1:Nat):Int)):Nat):Int)),hf 31 (dr gl eb),hf 32 (Ia gl g),hf 33 (mX gl es)] [hc (rfl:l.length=l.length),hc (rW.imm l)] (k5 _ rfl) (kd:=[(1,.row)])
 .obtain rfl:=Bf hs;obtain rfl:=e _ rfl;exact mt .normal (s0 37 gl [] [(0,Ku x.1 x.2.1),(1,Ci l)] 2 2) [] [hr 9 b1] [hc (rW.imm l)] (kd:=[(1,.row)])
abbrev ny(b:CD):G:= .clo (.func 296) [] [.ptr [aE cY b] 0]
abbrev Kv(b:CD):G:= .clo (.func 356) [] [.ptr [aE cY b] 0,.ptr [iG 7] 0]
theorem Ic(b:CD):ba prog gl 222 [aE cY b] (ny b):=by refine Gh func222 ?_;refine pO [1,0] (s0 4 gl [(1,.ptr [aE cY b] 0)] [] 0 0) [] [hc (aY (aG 20 (aE cY b) aH) bf)] ?_;exact Ar [] []
theorem Ie(b:CD):ba prog gl 297 [aE cY b,iG 7] (Kv b):=by refine Gh func297 ?_;refine pO 1100 (s0 9 gl [(2,.ptr [aE cY b] 0),(3,.ptr [iG 7] 0)] [] 0 0) [] [hc (aY (aG 20 (aE cY b) aH) bf),hc (aY (aG 20 (iG 7) aH) bf)] ?_;exact Ar [] []
def hcv(d:Nat){g:G}{p:Prop}(t:p):HP:=⟨some (.c d g),p,t⟩
theorem Yp{P:Br}{ts te:Bo}{f:α->Bn}(R:AH P ts te k f){l y z:List α}{i j:Int}(h1:tq l j=some y)(h2:mc y i=some z):sJ P ts (aE f l) (iG i) (iG j) (iG j)=some (aE f z):=by obtain⟨a1,a2,rfl⟩:=ym h1;obtain⟨b1,b2,rfl⟩:=yn h2;rw[Nv] at b2;simp only[sJ,R.el,R.sz,aE,iG,xL];grind [AH,yk,sQ]
def oD(q:CD)(x:Nat×Int):Option ((Nat×Int)⊕Nat):=bif x.2<ah q then(aS q x.2).bind λy=>(wJ (wI (8*x.2))).bind λn=>some (.inl (gM x.1 (HU (wU (y.toNat:Int)) n),wI (x.2+1)))else some (.inr x.1)
def xZ(b:CD)(x:Bq×Int):Option ((Bq×Int)⊕Bq):=bif x.2<ah b then(mc b x.2).bind λq0=>(tq b (wI (x.2+iI 7 (ah q0)))).bind λy=>(mc y x.2).bind λq=>(AA (oD q) (0,0)).bind λw=>(aT 8 x.1 [w]).bind λa=>some (.inl (a,wI (x.2+7)))else some (.inr x.1)
def Cj(b:CD):Option Bq:=AA (xZ b) ([],0)
noncomputable abbrev OV:Code:=bq 11012 (ai Tryz.f295)
noncomputable abbrev Kw:Code:=bq 1112 (ai Tryz.f296)
noncomputable abbrev uS(st:LoopState):Option Ob:=some ⟨0,[],some (.loop st none 13 [(2,.ref 0 0)] (Dy OV) (Dz OV) (DA OV))⟩
noncomputable abbrev O7(st:LoopState):Option Ob:=some ⟨0,[],some (.loop st none 29 [(2,.ref 2 0)] (Dy Kw) (Dz Kw) (DA Kw))⟩
abbrev I8(g:G):Option Ob:=some ⟨58,[g],none⟩
abbrev Kx(i:Nat):Option Ob:=some ⟨329,[.yld i],none⟩
abbrev aar(b:CD)(i m:Int):Fr:=[(0,.yld 3),(1,.ptr [aE cY b] 0),(2,.ptr [iG 7] 0),(4,iG i),(5,iG m)]
noncomputable abbrev σCh(acc:Bq):aQ:=[(0,I8 (.rsl 4 0 acc.length)),(1,uS .ready),(2,Kx 1),(3,O7 .ready),(4,Ci acc)]
abbrev Ti(b q:CD)(i m:Int):Fr:=[(28,aE cY q),(27,iG (wI (i+m))),(26,iG m),(25,iG i),(24,iG (wI (i+m))),(23,iG m),(22,iG i),(21,iG i),(20,aE cY b),(19,.yld 3)]++aar b i m
noncomputable abbrev σRd(acc:Bq):aQ:=[(0,I8 (.rsl 5 0 acc.length)),(1,uS .ready),(2,Kx 1),(3,O7 .busy),(5,Ci acc)]
theorem F0{r:Bq}(h:Cj b=some r):iV prog gl 295 [.lit (.slice none 0 0),ny b] 23 r.length (r.flatMap cW):=by
 unfold Cj at h;refine OW func295 ?_;refine YR [1,0,1,2] (s0 13 gl [(2,.ref 0 0),(6,ny b)] [(0,I8 (.lit (.slice none 0 0)))] 1 0) [] ?_;refine Xt (fst:=[]) (cap:=[.ptr [aE cY b] 0]) Tryz.f296 func296 ?_;refine YR [1,1,2] (s0 29 gl [(2,.ref 2 0),(8,Kv b)] [(2,Kx 1),(1,some ⟨0,[],some (.loop .ready none 13 [(2,.ref 0 0),(6,ny b)] (Dy OV) (Dz OV) (DA OV))⟩),(0,I8 (.lit (.slice none 0 0)))] 3 2) [hf 8 (Ie gl b)] ?_;refine Xt (fst:=[]) (cap:=[.ptr [aE cY b] 0,.ptr [iG 7] 0]) Tryz.f356 func356 ?_;refine pN (λx:Bq×Int=>(s0 31 gl [(0,.yld 3),(1,.ptr [aE cY b] 0),(2,.ptr [iG 7] 0),(4,iG x.2)] [(0,I8 (.rsl 4 0 x.1.length)),(1,uS .ready),(2,Kx 1),(3,O7 .ready),(4,Ci x.1)] 5 4)) 1122 h [] [hc (rW.imm [])] (λB x w hs k5 d=>?_) (vs:=[23]) (ρ:=rI 5) (kd:=[(4,.row)]);unfold xZ at hs;rcases bC hs with⟨b1,hs⟩|⟨b1,hs⟩
 .obtain⟨q0,e0,hs⟩:=bS hs;obtain⟨y,k,hs⟩:=bS hs;obtain⟨q,l,hs⟩:=bS hs;obtain⟨w,ew,hs⟩:=bS hs;obtain⟨a,m,hs⟩:=bS hs;obtain rfl:=Bf hs;refine pO 112210210 (s0 31 gl [(0,.yld 3),(1,.ptr [aE cY b] 0),(2,.ptr [iG 7] 0),(4,iG x.2),(5,iG (iI 7 (ah q0)))] [(0,I8 (.rsl 4 0 x.1.length)),(1,uS .ready),(2,Kx 1),(3,O7 .ready),(4,Ci x.1)] 5 4) [hr 9 b1,AB 16 (rY.sufZI e0)] [hc (rfl:x.1.length=x.1.length),hc (rW.imm x.1)] ?_ (ρ:=rI 5) (kd:=[(4,.row)]);refine Xw (i:=3) (j:=10) (n:=29) (t:=0) (t2:=0) (pe:=none) (fr:=[(2,.ref 2 0)]) (ps:=Dy Kw) (a:=Dz Kw) (b:=DA Kw) (s1:=(s0 31 gl (Ti b q x.2 (iI 7 (ah q0))) (σCh x.1) 5 4))
   (s3:=(s0 31 gl ([(30,bG false),(29,bG true)]++Ti b q x.2 (iI 7 (ah q0))) ((3,O7 .ready)::σRd a) 6 4))
   (σRd a) 6 (.loop .ready none 29 [(2,.ref 2 0)] (Dy Kw) (Dz Kw) (DA Kw)) [hcv 28 (g:=aE cY q) (Yp rY k l)] [] ?_ ?_
  .refine C9 .normal ⟨29,gl,[(2,.ref 2 0),(3,aE cY q)],σCh x.1,5,5,true⟩ [] [hc (rfl:x.1.length=x.1.length),hc (rW.imm x.1)] (Xv Tryz.f296 ?_ rfl) (ρ:=rI 5) (kd:=[(4,.row)]);refine Ix 12101 ⟨29,gl,[(2,.ref 2 0),(4,uG w)],[(0,I8 (.rsl 4 0 x.1.length)),(1,uS .ready),(2,Kx 1),(3,O7 .busy),(4,Ci x.1)],5,5,true⟩ ?_ λkk=>?_
   .refine pO 12110 ⟨29,gl,[(2,.ref 2 0),(4,uG w)],[(0,I8 (.rsl 4 0 x.1.length)),(1,uS .ready),(2,Kx 1),(3,O7 .busy),(4,Ci x.1)],5,5,true⟩ [] [hc (rfl:x.1.length=x.1.length),hc (rW.imm x.1)] ?_ (ρ:=rI 5) (kd:=[(4,.row)]);refine Xw (i:=1) (j:=2) (n:=13) (t:=0) (t2:=0) (pe:=none) (fr:=[(2,.ref 0 0)]) (ps:=Dy OV) (a:=Dz OV) (b:=DA OV) (s1:=⟨29,gl,[(26,uG w),(25,.yld 1),(2,.ref 2 0),(4,uG w)],[(0,I8 (.rsl 4 0 x.1.length)),(1,uS .ready),(2,Kx 1),(3,O7 .busy),(4,Ci x.1)],5,5,true⟩)
     (s3:=⟨29,gl,[(28,bG false),(27,bG true),(26,uG w),(25,.yld 1),(2,.ref 2 0),(4,uG w)],(1,uS .ready)::[(0,I8 (.rsl 5 0 a.length)),(1,uS .busy),(2,Kx 1),(3,O7 .busy),(5,Ci a)],6,5,true⟩)
     [(0,I8 (.rsl 5 0 a.length)),(1,uS .busy),(2,Kx 1),(3,O7 .busy),(5,Ci a)] 6 (.loop .ready none 13 [(2,.ref 0 0)] (Dy OV) (Dz OV) (DA OV)) [] [] ?_ ?_
    .refine C9 .normal ⟨13,gl,[(2,.ref 0 0),(5,uG w)],[(0,I8 (.rsl 4 0 x.1.length)),(1,uS .ready),(2,Kx 1),(3,O7 .busy),(4,Ci x.1)],5,5,true⟩ [] [hc (rfl:x.1.length=x.1.length),hc (rW.imm x.1)] (Xv Tryz.f295 ?_ rfl) (ρ:=rI 5) (kd:=[(4,.row)]);exact C9 .normal ⟨13,gl,[],[(0,I8 (.rsl 5 0 a.length)),(1,uS .busy),(2,Kx 1),(3,O7 .busy),(5,Ci a)],6,5,true⟩ [dg 11 rW m] [hc (el a),hc (rW.imm a)] (by grind [jy]) (ρ:=rI 5++[(5,6)]) (kd:=[(5,.row)])
    .exact C9 .normal ⟨29,gl,[],σRd a,6,5,true⟩ [] [hc (el a),hc (rW.imm a)] (by grind [jy]) (ρ:=rI 6) (kd:=[(5,.row)])
   refine pN (λz:Nat×Int=>⟨29,gl,[(2,.ref 2 0),(4,uG z.1),(10,aE cY q),(11,iG (ah q)),(12,iG z.2)],[(0,I8 (.rsl 4 0 x.1.length)),(1,uS .ready),(2,Kx 1),(3,O7 .busy),(4,Ci x.1)],5,5,true⟩) [2,1,0,1,2,2] ew [] [hc (rfl:x.1.length=x.1.length),hc (rW.imm x.1)] (λo z v hz e f=>?_) (ρ:=rI 5) (kd:=[(4,.row)]);unfold oD at hz;rcases bC hz with⟨c1,hz⟩|⟨c1,hz⟩
   .obtain⟨c,e1,hz⟩:=bS hz;obtain⟨n1,e2,hz⟩:=bS hz;obtain rfl:=Bf hz;exact jw [hr 13 c1,AB 15 (rY.ixZ e1),AB 16 (rY.p1Z tY e1),AB 19 (C8 (c.toNat:Int)),hV 22 (sM (P:=prog) (t:=23) (wU (c.toNat:Int)) e2),hV 23 (jc (P:=prog) (t:=23) z.1 (HU (wU (c.toNat:Int)) n1))] [hc (rfl:x.1.length=x.1.length),hc (rW.imm x.1)] (e _ rfl) (ρ:=rI 5) (kd:=[(4,.row)])
   .obtain rfl:=Bf hz;obtain rfl:=f _ rfl;exact yl 12101 [hr 13 c1] [hc (rfl:x.1.length=x.1.length),hc (rW.imm x.1)] kk (ρ:=rI 5) (kd:=[(4,.row)])
  .exact jw [] [hc (rfl:a.length=a.length),hc (rW.imm a)] (k5 _ rfl) (ρ:=rI 4++[(4,5)]) (kd:=[(4,.row)])
 .obtain rfl:=Bf hs;obtain rfl:=d _ rfl;refine C9 .normal (s0 31 gl [] [(0,I8 (.rsl 4 0 x.1.length)),(1,uS .ready),(3,O7 .ready),(4,Ci x.1)] 5 4) [hr 9 b1] [hc (rfl:x.1.length=x.1.length),hc (rW.imm x.1)] (Xu ?_ rfl) (ρ:=rI 5) (kd:=[(4,.row)]);refine C9 .normal (s0 29 gl [] [(0,I8 (.rsl 4 0 x.1.length)),(1,uS .ready),(4,Ci x.1)] 5 2) [] [hc (rfl:x.1.length=x.1.length),hc (rW.imm x.1)] (Xu ?_ rfl) (ρ:=[(0,0),(1,1),(4,4)]) (kd:=[(4,.row)]);exact EI [] (rW.imm _)
theorem Ky{r:Bq}(h:Cj b=some r):iV prog gl 221 [ny b] 23 r.length (r.flatMap cW):=by refine OW func221 ?_;exact EI [ho 4 [.lit (.slice none 0 0),ny b] [] (F0 gl h) (Gj (λx g hg=>by simp only[cW,List.mem_singleton] at hg;exact⟨_,hg⟩) r)] (rW.imm _)
theorem Qx{σ ρ:Type}{step:σ->Option (σ⊕ρ)}{s s':σ}{r:ρ}(h1:step s=some (.inl s'))(h2:step s'=some (.inr r)):AA step s=some r:=by unfold AA FU;rw[show(4611686018427387904:Nat)=4611686018427387902+1+1 from rfl];unfold KN;rw[h1];show KN step (4611686018427387902+1) s'=some r;unfold KN;rw[h2]
def k1(k:Nat):Nat:=wU ((k:Int)+((1:Nat):Int))
theorem Qy{s':Nat}(h:kE s k w=some s'):jg prog gl 293 [.ref 0 0,.rsl 1 0 1] [(0,Ku s k),(1,Ci [w])] 2 (.tup []) [(0,Ku s' (k1 k)),(1,Ci [w])] 2:=by
 have e:AA (rK [w]) (s,k,0)=some (s',k1 k):=by
  refine Qx (s':=(s',k1 k,1)) ?_ ?_
  .unfold rK;rw[CO (show((s,k,0):Nat×Nat×Int).2.2<ah [w] by simp[ah]),ax];show(some w:Fp).bind _=_;rw[aL];show(kE s k w).bind _=_;rw[h,aL];rfl
  .unfold rK;rw[C6 (show¬((s',k1 k,1):Nat×Nat×Int).2.2<ah [w] by simp[ah]),Be]
 exact Th gl e
def F1(b:CD)(x:(Nat×Nat)×Int):Option (((Nat×Nat)×Int)⊕(Nat×Nat)):=bif x.2<ah b then(mc b x.2).bind λq0=>(tq b (wI (x.2+iI 7 (ah q0)))).bind λy=>(mc y x.2).bind λq=>(AA (oD q) (0,0)).bind λw=>(kE x.1.1 x.1.2 w).bind λs=>some (.inl ((s,k1 x.1.2),wI (x.2+7)))else some (.inr x.1)
def F3(l:Bq)(x:(Nat×Nat)×Int):Option (((Nat×Nat)×Int)⊕(Nat×Nat)):=bif x.2<ah l then(aS l x.2).bind λy=>(eR y).bind λn=>(kE x.1.1 x.1.2 n).bind λs=>some (.inl ((s,k1 x.1.2),wI (x.2+1)))else some (.inr x.1)
def x6(label:CD)(l:Bq):Fp:=(Gk label).bind λt=>(AA (F1 t) ((wU (ah label),0),0)).bind λa=>(kE a.1 a.2 (wU (ah l))).bind λs1=>(AA (F3 l) ((s1,k1 a.2),0)).bind λc=>kE c.1 c.2 0
theorem Cm:wY (n:Int)=UInt8.ofNat n:=by
 unfold wY;apply UInt8.toNat_inj.1;have e:IntKind.u8.wrap (n:Int)=((n%256:Nat):Int):=by show(n:Int)%256=_;omega
 rw[e];simp;omega
theorem ya(hk:k<18446744073709551616):jl k=some (nb k):=by
 unfold jl;refine T.eq (.bind ?_);refine T.loop (Q:=λx=>T _ _) (λs=>s.2++nb s.1=nb k/\s.1<18446744073709551616) (λs=>(nb s.1).length) ⟨rfl,hk⟩ (by grind [ow]) ?_;rintro⟨m,out⟩ ⟨h1,h2⟩;simp only at h1 h2;have hl:out.length+(nb m).length<=10:=by grind [ow]
 have hp:0<(nb m).length:=List.length_pos_iff.2 (Yj m);unfold DJ;dsimp only;refine .dec (λh=>?_) λh=>?_
 .have hm:¬m<128:=aa;refine .bind (.app cq (.some ?_));have e1:wU ((m/128:Nat):Int)=m/128:=rM aa;have e2:wY (((wY ((m%128:Nat):Int)).toNat:Int)+((128:UInt8).toNat:Int))=UInt8.ofNat (m%128+128):=by grind [Cm,UInt8.toNat_ofNat']
  constructor<;>grind [Er]
 .have hm:m<128:=aa;refine .some ?_;show T _ _;grind [T.app,Cm,H6]
theorem F4{n:Int}(h: -9223372036854775808<=n/\n<=9223372036854775807):cg n=some (nb (Mk n)):=by
 obtain⟨h1,h2⟩:=h;unfold cg;refine T.eq (.dec (λhn=>?_) λhn=>?_)
 .have e1:wI (n+1)=n+1:=by grind [bM]
  have e2:wI (0-(n+1))= -(n+1):=by grind [bM]
  have e3:wU (-(n+1))=(-(n+1)).toNat:=by grind [rM]
  have e4:wU (((wU (((-(n+1)).toNat:Int)*((2:Nat):Int)):Nat):Int)+((1:Nat):Int))=Mk n:=by unfold Mk;rw[Bx hn];generalize hm:(-(n+1)).toNat=m;rw[show(m:Int)*((2:Nat):Int)=((m*2:Nat):Int) by omega,rM aa,show((m*2:Nat):Int)+((1:Nat):Int)=((m*2+1:Nat):Int) by omega,rM aa]
  grind [ya,FQ,T.some]
 grind [rM,Mk,T.eqb,ya,T.some]
def bl(n:Nat):Nat:=if h:n=0 then 0 else bl (n/2)+1
theorem Mo(h:0<n):bl (n/2)<bl n:=by grind [bl.eq_1]
theorem QB:∀(k n:Nat),n<2^k->bl n<=k
 |0,n,h=>by grind [bl.eq_1]
 |k+1,n,h=>by
  rw[bl.eq_1];by_cases h0:n=0
  .grind
  .rw[dif_neg h0];have:=QB k (n/2) (by grind);omega
theorem wL(a b:Nat):T (oQ a b) λv=>v<2305843009213693951:=⟨_,rfl,(by grind)⟩
theorem Il(a b:Nat):T (qi a b) λv=>v<2305843009213693951:=⟨_,rfl,(by grind)⟩
theorem AbV(h:n<18446744073709551616):wU ((n/2:Nat):Int)=n/2:=rM aa
theorem ka(a:Nat){n:Nat}(hn:n<18446744073709551616):T (iK a n) λv=>v<2305843009213693951:=by unfold iK;refine .bind (T.loop (λs=>s.1<2305843009213693951/\s.2.2<18446744073709551616) (λs=>bl s.2.2) (by grind) (by have:=QB 64 n (by grind);grind) ?_);rintro⟨x,y,m⟩ ⟨hx,hm⟩;simp only at hx hm;unfold r6;dsimp only;refine .dec (λh=>?_) λh=> .some (.some hx);refine .bind (T.mono (Q:=λv=>v<2305843009213693951) (by grind [wL,T.some]) λv hv=>?_);refine .bind ((wL _ _).mono λw _=> .some ⟨⟨hv,?_⟩,?_⟩);all_goals grind [AbV,Mo]
theorem Cn{b:CD}(hb:b.length<=1099511627776):T (LC b) λr=>r.length<=b.length:=by
 unfold LC;refine .bind (T.loop (λs=>0<=s.2/\s.2<=b.length+6/\(s.1.length:Int)<=s.2/\s.1.length<=b.length) (λs=>(b.length+7-s.2).toNat) (by grind) cq ?_);rintro⟨acc,i⟩ ⟨h0,h1,h2,h3⟩;simp only at h0 h1 h2 h3;unfold qh;dsimp only;refine .dec (λh=>?_) λh=> .some (.some h3);unfold ah at h;have e7:wI (i+7)=i+7:=by grind [bM]
 have em:0<=iI (ah b) (i+7)/\iI (ah b) (i+7)<=b.length:=by grind [iI,ah]
 refine .bind (T.mono (Q:=λ_=>True) (T.loop (λs=>s.2<b.length) (λs=>(s.2+1-i).toNat) ?_ ?_ ?_) λx _=>?_)
 .grind [bM]
 .grind [bM]
 .rintro⟨u,j⟩ hj;simp only at hj;unfold my;dsimp only;refine .dec (λh=>?_) λh=> .some trivial;refine .bind (.ixl aa hj λx _ _=> .some ⟨?_,?_⟩);all_goals grind [bM]
 .refine .bind (.app cq (.some ⟨?_,?_⟩));all_goals grind
theorem T.strB{s:CD}{Q:CD->Prop}(h:s.length<=1099511627776)(q:Q s):T (Gk s) Q:=⟨s,by grind [Gk],q⟩
theorem Mp(z:Int):wU z<18446744073709551616:=by grind [wU,IntKind.wrap_u64]
theorem F5(h1:label.length<=1000)(h2:l.length<=1099511627776):T (yA label l) λv=>v<18446744073709551616:=by
 unfold yA;refine .bind (.strB aa (.bind ((Cn (b:=label) aa).mono λw hw=> .bind (.app cq (.bind ?_)))));refine T.forA l.length (λk acc=>acc.length<=w.length+1+k) aa aC (λk acc hk hj=>?_) λacc hj=>?_
 .unfold qk;dsimp only;rw[eA hk,ax,au,DR hk,aL];exact .bind (.app cq (.some ⟨aq aa,by simp;omega⟩))
 .unfold qk;dsimp only;rw[eF,Be];refine .some (.bind (.app cq (.bind ?_)));have hl:(acc++[0]).length<=w.length+2+l.length:=by simp;omega
  generalize acc++[0]=v at hl;refine T.forA v.length (λ_ x=>x<18446744073709551616) aa (Mp _) (λk x hk _=>?_) λx hx=>?_
  .unfold qj;dsimp only;rw[eA hk,ax,au,DR hk];refine .bind ((wL _ _).mono λ_ _=> .bind (.some (.bind ((Il _ _).mono λ_ _=> .bind ((Il _ _).mono λ_ _=> .bind ((ka _ aa).mono λ_ h=> .some ⟨aq aa,(by grind)⟩))))))
  .unfold qj;dsimp only;rw[eF,Be];exact .some (.some hx)
theorem yX(h1:label.length<=1000)(h2:l.length<=1099511627776):T (M0 label l) λv=>1<=v/\v<=2305843009213693949:=by unfold M0;refine .bind ((F5 h1 h2).mono λv _=> .some ?_);rw[show((1:Nat):Int)+((v%2305843009213693949:Nat):Int)=((1+v%2305843009213693949:Nat):Int) by omega,rM aa];omega
theorem Im{kind:CD}{d:Int}(h1:kind.length<=1000):T (lf kind d) λv=>1<=v/\v<=2305843009213693949:= .bind (by grind [T.mono,yX,T.some])
theorem QC(h:s<18446744073709551616):T (xo s) λv=>v<2305843009213693951:= .bind ((ka _ h).mono λ_ h=> .some h)
theorem Co{label b:CD}(h1:label.length<=1000)(h2:b.length<=1073741824):T (jI label b) λv=>v<18446744073709551616:= .bind (by grind [T.mono,Cn,T.bind,T.app,F5])
theorem QD(h2:b.length<=1073741824):T (Ph b) λv=>v<18446744073709551616:= .bind (by grind [T.mono,Co,T.some])
theorem QE{p:Nat}(h2:b.length<=1073741824):T (Pi r p b) λv=>v<18446744073709551616:= .bind (by grind [T.mono,QD,F5])
theorem Kz{b:Nat}(hb:b<18446744073709551616):T (vp a b) λv=>v<2305843009213693950:=by unfold vp;refine .bind (.some (.bind ⟨_,rfl,.bind (.some (.bind ⟨_,rfl,.bind ?_⟩))⟩));have hq:b%2305843009213693950<2^64:=aa;refine T.loop (λs=>s.2.1<18446744073709551616/\s.2.2<2305843009213693950) (λs=>bl s.2.1) (by grind) (by have:=QB 64 _ hq;grind) ?_;rintro⟨x,m,y⟩ ⟨hm,hy⟩;simp only at hm hy;unfold yC;dsimp only;refine .dec (λh=>?_) λh=> .some (.some hy);refine .bind (T.mono (Q:=λv=>v<2305843009213693950) (.ite (λ_=> .bind (.some (.bind ⟨_,rfl,(by grind [T.some])⟩))) λ_=> .some hy) λv hv=>?_);refine .bind (.some (.bind ⟨_,rfl,.some ⟨⟨?_,hv⟩,?_⟩⟩));all_goals grind [AbV,Mo]
def c8(z:Int):Prop:= -9223372036854775808<=z/\z<=9223372036854775807
def fS(n:Nat):Prop:=n<18446744073709551616
theorem NY(hk:k<18446744073709551616)(hb:b.length<=1073741824):T (zX k b) λs=>fS s.R/\fS s.S:=by unfold zX;refine .bind ((QD hb).mono λc _=> .bind ((yX BX aC).mono λd h3=> .bind ((ka _ aa).mono λe h5=> .bind ((QC hk).mono λf _=> .bind ((QE hb).mono λg _=> .bind ((Kz hk).mono λa _=> .bind (.some (.bind ⟨_,rfl,.some ⟨Nat.lt_trans h5 BX,Nat.lt_trans (Nat.mod_lt _ BX) BX⟩⟩))))))))
structure JU (i:Ab):Prop where
 a:c8 i.By
 b:c8 i.Seq
 c:fS i.Sum
structure Fm (i:Ha):Prop where
 a:fS i.To
 b:fS i.Eph
 c:fS i.Body
 d:fS i.Tag
structure I5 (i:Fj):Prop where
 a:fS i.Pub
 n:i.Boxes.length<=1000
 b:∀x∈i.Boxes,Fm x
structure Hp (i:DP):Prop where
 a:JU i.Of
 n:i.Body.length<=1000
structure Bb (o:Bp):Prop where
 ints:∀z∈[o.By,o.Seq,o.Kind,o.At,o.Device,o.Old,o.Member,o.Role,o.N,o.Need,o.Wait],c8 z
 nPast:o.Past.length<=1000
 past:∀x∈o.Past,JU x
 nPath:o.Path.length<=1000
 path:∀x∈o.Path,I5 x
 epoch:JU o.Epoch
 nBody:o.Body.length<=1000
 nRefs:o.Refs.length<=1000
 refs:∀x∈o.Refs,fS x
 of_:JU o.Of
 nGuards:o.Guards.length<=1000
 guards:∀x∈o.Guards,c8 x
 nBoxes:o.Boxes.length<=1000
 boxes:∀x∈o.Boxes,Fm x
 pub:fS o.Pub
 nHist:o.Hist.length<=1000
 hist:∀x∈o.Hist,Hp x
def aV(z:Int):CD:=nb (Mk z)
def sN(i:Ab):CD:=aV i.By++aV i.Seq++nb i.Sum
def tM(s:CD):CD:=aV (s.length:Int)++s
def uT(b:Ha):CD:=[b.To,b.Eph,b.Body,b.Tag].flatMap nb
def uU(l:List Ha):CD:=aV (l.length:Int)++l.flatMap uT
def ke(n:Fj):CD:=nb n.Pub++uU n.Boxes
def lX(x:DP):CD:=sN x.Of++tM x.Body
def qc(o:Bp):CD:=[o.By,o.Seq,o.Kind,o.At,(o.Past.length:Int)].flatMap aV++o.Past.flatMap sN++[o.Device,o.Old,o.Member,o.Role,(o.Path.length:Int)].flatMap aV++o.Path.flatMap ke++sN o.Epoch++aV o.N++tM o.Body++aV (o.Refs.length:Int)++o.Refs.flatMap nb++sN o.Of++aV (o.Guards.length:Int)++o.Guards.flatMap aV++[o.Need,o.Wait].flatMap aV++uU o.Boxes++nb o.Pub++aV (o.Hist.length:Int)++o.Hist.flatMap lX
theorem gH(h:fS k):(nb k).length<=10:=ow h
theorem aR(h:c8 z):(aV z).length<=10:=ow (FQ h)
theorem K4(h:JU i):(sN i).length<=30:=by grind [aR,JU.a,JU.b,gH,JU.c,sN]
theorem dO{l:List α}(h:l.length<=1000000):c8 (l.length:Int):=by unfold c8;omega
theorem Ao{b:Ha}(h:Fm b):(uT b).length<=40:=by grind [gH,Fm.a,Fm.b,Fm.c,Fm.d,uT]
theorem wM{l:List Ha}(hn:l.length<=1000)(h:∀x∈l,Fm x):(uU l).length<=40010:=by have h1:=aR (dO (l:=l) aa);have h2:=d8 (l:=l) (enc:=uT) (c:=40) (by grind [Ao]);grind [uU]
theorem Ap{s:CD}(hn:s.length<=1000):(tM s).length<=1010:=by grind [aR,dO,tM]
theorem Aq{n:Fj}(h:I5 n):(ke n).length<=40020:=by grind [gH,I5.a,wM,I5.n,I5.b,ke]
theorem F6{n:DP}(h:Hp n):(lX n).length<=1040:=by grind [K4,Hp.a,Ap,Hp.n,lX]
theorem oF(h:fS k):T (jl k) λv=>v=nb k:= .of (ya h) rfl
theorem cK(h:c8 z):T (cg z) λv=>v=aV z:= .of (F4 h) rfl
theorem l6(h:JU i):T (iJ i) λv=>v=sN i:=by have h1:=aR h.a;have h2:=aR h.b;have h3:=gH h.c;unfold iJ;refine .bind ((cK h.a).mono ?_);rintro v rfl;refine .bind ((cK h.b).mono ?_);rintro v rfl;refine .bind (.app aa (.bind ((oF h.c).mono ?_)));rintro v rfl;exact .bind (.app (by grind) (.some rfl))
theorem Ey{s:CD}(h:s.length<=1000):T (vu s) λv=>v=tM s:=by have h1:=aR (dO (l:=s) aa);refine .bind ((cK (dO (l:=s) aa)).mono ?_);rintro v rfl;exact .bind (.app aa (.some rfl))
theorem sO{l:Bk}(hn:l.length<=1000)(h:∀x∈l,c8 x):T (PD l) λv=>v=l.flatMap aV:=by
 refine .bind (T.mono (T.forE l [] aV 10 aa (by grind [aR]) (λk acc x hx hm hk hl=>?_) λacc=>?_) (by grind [T.some]))
 .unfold tR;dsimp only;rw[eA hk,ax,au,hx,aL];refine .bind ((cK (h x hm)).mono ?_);rintro v rfl;have:=aR (h x hm);exact .bind (.app (by grind) (.some ⟨aq aa,rfl⟩))
 grind [tR,eF]
theorem Ez(hn:l.length<=1000)(h:∀x∈l,fS x):T (vt l) λv=>v=l.flatMap nb:=by
 refine .bind (T.mono (T.forE l [] nb 10 aa (by grind [gH]) (λk acc x hx hm hk hl=>?_) λacc=>?_) (by grind [T.some]))
 .unfold tS;dsimp only;rw[eA hk,ax,au,hx,aL];refine .bind ((oF (h x hm)).mono ?_);rintro v rfl;have:=gH (h x hm);exact .bind (.app (by grind) (.some ⟨aq aa,rfl⟩))
 grind [tS,eF]
theorem Cp{l:List Ha}(hn:l.length<=1000)(h:∀x∈l,Fm x):T (nQ l) λv=>v=uU l:=by
 have h1:=aR (dO (l:=l) aa);unfold nQ;refine .bind ((cK (dO (l:=l) aa)).mono ?_);rintro v rfl;refine .bind (T.mono (T.forE l (aV (ah l)) uT 40 aa (by grind [Ao]) (λk acc x hx hm hk hl=>?_) λacc=>?_) λv hv=> .some (by rw[hv];rfl))
 .have hb:=h x hm;unfold qq;dsimp only;rw[eA hk,ax,au,hx];simp only[aL];refine .bind ((Ez aC (by grind [Fm.a,Fm.b,Fm.c,Fm.d])).mono ?_);rintro v rfl;have h4:=Ao hb;unfold uT at h4;unfold ah at hl;exact .bind (.app aa (.some ⟨aq aa,rfl⟩))
 grind [qq,eF]
theorem yY(h:Bb o):(qc o).length<=50000000:=by have e1:=d8 (l:=o.Past) (enc:=sN) (c:=30) λx hx=>K4 (h.past x hx);have e2:=d8 (l:=o.Path) (enc:=ke) (c:=40020) λx hx=>Aq (h.path x hx);have e3:=K4 h.epoch;have e4:=K4 h.of_;have e5:=Ap h.nBody;have e6:=d8 (l:=o.Refs) (enc:=nb) (c:=10) λx hx=>gH (h.refs x hx);have e7:=d8 (l:=o.Guards) (enc:=aV) (c:=10) λx hx=>aR (h.guards x hx);have e8:=wM h.nBoxes h.boxes;have e:=d8 (l:=o.Hist) (enc:=lX) (c:=1040) λx hx=>F6 (h.hist x hx);have a:=gH h.pub;have i1:=aR (h.ints o.By aC);have f:=aR (h.ints o.Seq aC);have g:=aR (h.ints o.Kind aC);have i:=aR (h.ints o.At aC);have j:=aR (h.ints o.Device aC);have i6:=aR (h.ints o.Old aC);have k:=aR (h.ints o.Member aC);have m:=aR (h.ints o.Role aC);have n:=aR (h.ints o.N aC);have b:=aR (h.ints o.Need aC);have d:=aR (h.ints o.Wait aC);have l1:=aR (dO (l:=o.Past) (by have:=h.nPast;omega));have l2:=aR (dO (l:=o.Path) (by have:=h.nPath;omega));have l3:=aR (dO (l:=o.Refs) (by have:=h.nRefs;omega));have l4:=aR (dO (l:=o.Guards) (by have:=h.nGuards;omega));have l5:=aR (dO (l:=o.Hist) (by have:=h.nHist;omega));have n1:=h.nPast;have n2:=h.nPath;have p:=h.nRefs;have q:=h.nGuards;have r:=h.nHist;simp only[qc,List.flatMap_cons,List.flatMap_nil,Uh,List.length_nil];omega
theorem uV(h:Bb o):T (lz o) λv=>v=qc o:=by
 have e1:=d8 (l:=o.Past) (enc:=sN) (c:=30) λx hx=>K4 (h.past x hx);have e2:=d8 (l:=o.Path) (enc:=ke) (c:=40020) λx hx=>Aq (h.path x hx);have e6:=d8 (l:=o.Refs) (enc:=nb) (c:=10) λx hx=>gH (h.refs x hx);have e7:=d8 (l:=o.Guards) (enc:=aV) (c:=10) λx hx=>aR (h.guards x hx);have n1:=h.nPast;have n2:=h.nPath;have p:=h.nRefs;have q:=h.nGuards;have r:=h.nHist;have l1:c8 (ah o.Past):=dO (l:=o.Past) aa;have l2:c8 (ah o.Path):=dO (l:=o.Path) aa;have l3:c8 (ah o.Refs):=dO (l:=o.Refs) aa;have l4:c8 (ah o.Guards):=dO (l:=o.Guards) aa;have l5:c8 (ah o.Hist):=dO (l:=o.Hist) aa;have A:∀z∈[o.By,o.Seq,o.Kind,o.At,ah o.Past],c8 z:=by grind [Bb.ints]
 have B:∀z∈[o.Device,o.Old,o.Member,o.Role,ah o.Path],c8 z:=λz hz=>by simp only[EG,KY,or_false] at hz;rcases hz with rfl|rfl|rfl|rfl|rfl<;>first|exact l2|exact h.ints _ aC
 have C:∀z∈[o.Need,o.Wait],c8 z:=by grind [Bb.ints]
 have a5:([o.By,o.Seq,o.Kind,o.At,ah o.Past].flatMap aV).length<=50:=d8 λx hx=>aR (A x hx);have b5:([o.Device,o.Old,o.Member,o.Role,ah o.Path].flatMap aV).length<=50:=d8 λx hx=>aR (B x hx);have c2:([o.Need,o.Wait].flatMap aV).length<=20:=by grind [aR]
 unfold lz;refine .then (sO aC A) (.then (T.forE o.Past _ sN 30 aa (by grind [K4,Bb.past]) (λk acc x hx hm hk hl=>?_) λacc=>?_) ?_)
 .unfold qt;dsimp only;rw[eA hk,ax,au,hx,aL];have:=K4 (h.past x hm);exact .then (l6 (h.past x hm)) (.bind (.app aa (.some ⟨aq aa,rfl⟩)))
 .grind [qt,eF]
 refine .then (sO aC B) (.bind (.appL (n:=50+30000) (by grind) b5 BX λk1=>?_));refine .then (T.forE o.Path _ ke 40020 aa (by grind [Aq,Bb.path]) (λk acc x hx hm hk hl=>?_) λacc=>?_) ?_
 .have hp:=h.path x hm;unfold qs;dsimp only;rw[eA hk,ax,au,hx];simp only[aL];have q1:=gH hp.a;have f:=wM hp.n hp.b;refine .then (oF hp.a) (.bind (.appL (n:=50000000) (m:=10) aa q1 BX λd=> .then (Cp hp.n hp.b) (.bind (.appL d f BX λ_=> .some ⟨aq aa,?_⟩))));simp[ke]
 .grind [qs,eF]
 have k2:∀(u:CD),u.length<=30100->(u++o.Path.flatMap ke).length<=41000000:=by grind
 refine .then (l6 h.epoch) (.bind (.appL (k2 _ k1) (K4 h.epoch) BX λk3=>?_));refine .then (cK (h.ints o.N aC)) (.bind (.appL k3 (aR (h.ints o.N aC)) BX λg=>?_));refine .then (Ey h.nBody) (.bind (.appL g (Ap h.nBody) BX λk5=>?_));refine .then (cK l3) (.bind (.appL k5 (aR l3) BX λk6=>?_));refine .then (Ez h.nRefs h.refs) (.bind (.appL (m:=10000) k6 aa BX λi=>?_));refine .then (l6 h.of_) (.bind (.appL i (K4 h.of_) BX λk8=>?_));refine .then (cK l4) (.bind (.appL k8 (aR l4) BX λk9=>?_));refine .then (sO h.nGuards h.guards) (.bind (.appL (m:=10000) k9 aa BX λe=>?_));refine .then (sO aC C) (.bind (.appL e c2 BX λk11=>?_));refine .then (Cp h.nBoxes h.boxes) (.bind (.appL k11 (wM h.nBoxes h.boxes) BX λk12=>?_));refine .then (oF h.pub) (.bind (.appL k12 (gH h.pub) BX λk13=>?_));refine .then (cK l5) (.bind (.appL k13 (aR l5) BX λj=>?_));refine .then (T.forE o.Hist _ lX 1040 aa (λx hx=>F6 (h.hist x hx)) (λk acc x hx hm hk hl=>?_) λacc=>?_) (.some rfl)
 .have hp:=h.hist x hm;unfold OJ;dsimp only;rw[eA hk,ax,au,hx];simp only[aL];refine .then (l6 hp.a) (.bind (.appL (n:=50000000) aa (K4 hp.a) BX λd=> .then (Ey hp.n) (.bind (.appL d (Ap hp.n) BX λ_=> .some ⟨aq aa,?_⟩))));simp[lX]
 .unfold OJ;dsimp only;rw[eF,Be]
theorem wN(h:Bb o):T (pV o) λi=>i.By=o.By/\i.Seq=o.Seq/\jI [111,112] (qc o)=some i.Sum/\JU i:=by refine .then (uV h) (.bind ?_);obtain⟨v,e,hv⟩:=Co (label:=[111,112]) (b:=qc o) BX (by grind [yY]);exact⟨v,e,.some ⟨rfl,rfl,e,⟨h.ints _ aC,h.ints _ aC,hv⟩⟩⟩
theorem Bb.sig{o:Bp}(h:Bb o)(s:Xf):Bb {o with Sig:=s}:=by grind [Bb]
theorem Io(h:Bb o):T (nR o) λr=>∃s:Xf,r={o with Sig:=s}/\fS s.R/\fS s.S:=by refine .bind ((Im BX).mono (by grind [uV,T.bind,T.mono,NY,yY,T.some]))
abbrev oO(i:Nat)(l:CD):Option Ob:=some ⟨281,[.rsl i 0 l.length],none⟩
abbrev oY(l:CD):Option Ob:=some ⟨5,l.flatMap cY,none⟩
theorem MN{P:Br}{t:Bo}(y:UInt8):∀p q:Dl,b8 P .or t p q (gY y) (gY 128)=some (gY (UInt8.ofNat (y.toNat%128+128))):=by grind [Yk,V6]
def Gv(s:Bool×CD×Nat):Option ((Bool×CD×Nat)⊕(Bool×CD×Nat)):=
 bif ((128:Nat):Int)<=(s.2.2:Int)then(aT 1 s.2.1 [UInt8.ofNat ((wY (s.2.2:Int)).toNat%128+128)]).bind λa=>some (.inl (true,a,Jn s.2.2 7))else some (.inr s)
theorem WH(l:CD)(n:Nat)(hn:n<18446744073709551616)(hl:l.length<=100000000000000):T (AA Gv (false,l,n)) λr=>T (aT 1 r.2.1 [wY (r.2.2:Int)]) λv=>v=l++nb n:=by
 refine T.loop (λs=>s.2.1++nb s.2.2=l++nb n/\s.2.2<18446744073709551616) (λs=>(nb s.2.2).length) ⟨rfl,hn⟩ (by grind [ow]) ?_;rintro⟨a,o,m⟩ ⟨h1,h2⟩;simp only at h1 h2;have hln:o.length+(nb m).length<=l.length+10:=by grind [Uh,ow]
 unfold Gv;dsimp only;refine .dec (λh=>?_) λh=>?_
 .have hm:¬m<128:=aa;refine .bind (.app cq (.some ?_));have e1:Jn m 7=m/128:=by unfold Jn;congr 1
  have e2:(wY (m:Int)).toNat%128+128=m%128+128:=by rw[Cm,UInt8.toNat_ofNat'];omega
  constructor<;>grind [Er]
 .have hm:m<128:=aa;refine .some ?_;show T _ _;grind [T.app,Cm,H6]
def MO(s:Bool×CD×Nat):St:=match s.1 with
 |true=>(s0 31 gl [(0,.ref 0 0),(1,uG s.2.2)] [(0,oO 2 s.2.1),(2,oY s.2.1)] 3 2)
 |false=>(s0 31 gl [(0,.ref 0 0),(1,uG s.2.2)] [(0,oO 1 s.2.1),(1,oY s.2.1)] 2 2)
theorem JV{l r:CD}(hn:n<18446744073709551616)(hl:l.length<=100000000000000)(d:l++nb n=r):jg prog gl 226 [.ref 0 0,uG n] [(0,oO 1 l),(1,oY l)] 2 (.tup []) [(0,oO 2 r),(2,oY r)] 3:=by
 obtain⟨⟨f,o,m⟩,hL,v,c,e⟩:=WH l n hn hl;obtain rfl:=e.trans d;refine pP func226 ?_;refine Ix [0] (MO gl (f,o,m)) ?_ λkk=>?_
 .cases f
  .exact mt .normal (s0 31 gl [] [(0,oO 2 v),(2,oY v)] 3 2) [] [AB 26 (Iz (m:Int)),dg 28 rY c] [hc (el v),hc (rY.imm v)] (ρ:=[(0,0),(1,1),(2,3)]) (kd:=[(2,.row)])
  .exact mt .normal (s0 31 gl [] [(0,oO 2 v),(2,oY v)] 3 2) [] [AB 26 (Iz (m:Int)),dg 28 rY c] [hc (el v),hc (rY.imm v)] (ρ:=[(0,0),(1,1),(2,4)]) (kd:=[(2,.row)])
 refine pN (MO gl) [0,2,2] hL [] [hc (el l),hc (rY.imm l)] (λB s w hs k5 i=>?_) (kd:=[(1,.row)]);obtain⟨g,j,b⟩:=s;unfold Gv at hs;rcases bC hs with⟨b1,hs⟩|⟨b1,hs⟩
 .obtain⟨a,h,hs⟩:=bS hs;obtain rfl:=Bf hs;have k:=k5 _ rfl;cases g
  .exact jw [hr 5 b1,AB 12 (Iz (b:Int)),hV 13 (MN (P:=prog) (t:=5) (wY (b:Int))),dg 15 rY h,hV 19 (SO (P:=prog) (t:=23) (k':= .u64) b 7)] [hc (el a),hc (rY.imm a)] k (ρ:=[(0,0),(1,1),(2,3)]) (kd:=[(2,.row)])
  .exact jw [hr 5 b1,AB 12 (Iz (b:Int)),hV 13 (MN (P:=prog) (t:=5) (wY (b:Int))),dg 15 rY h,hV 19 (SO (P:=prog) (t:=23) (k':= .u64) b 7)] [hc (el a),hc (rY.imm a)] k (ρ:=[(0,0),(1,1),(2,4)]) (kd:=[(2,.row)])
 .obtain rfl:=Bf hs;obtain e:=i _ rfl;cases e;cases f
  .exact yl [0] [hr 5 b1] [hc (el o),hc (rY.imm o)] kk (kd:=[(1,.row)])
  .exact yl [0] [hr 5 b1] [hc (el o),hc (rY.imm o)] kk (ρ:=rI 3) (kd:=[(2,.row)])
theorem WI{P:Br}{t:Bo}{n:Int}(h:c8 n):∀p q:Dl,b8 P .xor t p q (uG (HU (wU n) 1)) (uG (wU (Tf n 63)))=some (uG (Mk n)):=λp q=>by
 have e1:((HU (wU n) 1:Nat):Int)=IntKind.u64.wrap (IntKind.u64.wrap n*2^1):=by have h1:=zk n;rw[<-h1,IntKind.wrap_u64];grind [HU]
 have e2:((wU (Tf n 63):Nat):Int)=IntKind.u64.wrap (n.fdiv (2^63)):=by rw[zk];rfl
 rw[e1,e2];exact Ym h
theorem TL{n:Int}(h:c8 n):ba prog gl 298 [iG n] (uG (Mk n)):=by refine Gh func298 ?_;exact Ar [AB 4 (C8 n),hV 5 (Ks (P:=prog) (t:=23) (k':= .u64) (wU n) 1),hV 7 (V9 (P:=prog) (t:=3) (k':= .u64) n 63),AB 8 (C8 (Tf n 63)),hV 9 (WI (P:=prog) (t:=23) h)] []
theorem cA{l r:CD}{n:Int}(hn:c8 n)(hl:l.length<=100000000000000)(a:l++aV n=r):jg prog gl 224 [.ref 0 0,iG n] [(0,oO 1 l),(1,oY l)] 2 (.tup []) [(0,oO 2 r),(2,oY r)] 3:=by refine pP func224 ?_;exact mt .normal (s0 8 gl [] [(0,oO 2 r),(2,oY r)] 3 2) [] [hf 6 (TL gl hn),tN 7 [0,1] 2 [(0,oO 1 l),(1,oY l)] [.ref 0 0,uG (Mk n)] [(0,oO 2 r),(1,none),(2,oY r)] (JV gl (FQ hn) hl a) ⟨⟨rfl,.inl rfl⟩,⟨rfl,.inr ⟨rfl,rY.imm l⟩⟩,trivial⟩ ⟨⟨rfl,.inl rfl⟩,⟨rfl,.inr ⟨rfl,rY.imm r⟩⟩,trivial⟩] [hc (el r),hc (rY.imm r)] (ρ:=rI 3) (kd:=[(2,.row)])
def gD(d i k c:Nat)(gs:Bn){gl:CB}{fid:FuncId}{gs0:Bn}{l r:CD}(h:jg prog gl fid gs0 [(0,oO 1 l),(1,oY l)] [i,k].length (.tup []) [(0,oO 2 r),(2,oY r)] 3)
  (hin:w6 (vi [i,k]) [(i,oO k l),(k,oY l)] [(0,oO 1 l),(1,oY l)] 0 [i,k]:=by exact⟨⟨rfl,.inl rfl⟩,⟨rfl,.inr ⟨rfl,rY.imm _⟩⟩,trivial⟩) (a:oI (GL [i,k] c) [(0,oO 2 r),(2,oY r)] [(0,oO c r),(1,none),(2,oY r)]:=by exact⟨⟨rfl,.inl rfl⟩,⟨rfl,.inr ⟨rfl,rY.imm _⟩⟩,trivial⟩)
  (hlt:[i,k].all (λi=>Nat.blt i c)=true:=by kernel_rfl) (hnd:decide [i,k].Nodup=true:=by kernel_rfl) (hgs:gs.map (qg (vi [i,k]) 20)=gs0:=by kernel_rfl):HP:=
 tN d [i,k] c [(i,oO k l),(k,oY l)] gs [(0,oO c r),(1,none),(2,oY r)] h hin a hlt hnd hgs (by rfl) (by rfl) (by rfl)
theorem aaT(a b c d:List α):a++b++c++d=a++(b++c++d):=by grind
theorem kh{l r:CD}(hi:JU i)(hl:l.length<=10000000000000)(d:l++sN i=r):jg prog gl 228 [.ref 0 0,.agg (aj i)] [(0,oO 1 l),(1,oY l)] 2 (.tup []) [(0,oO 2 r),(2,oY r)] 3:=by
 have h1:=aR hi.a;have h2:=aR hi.b;have e:l++aV i.By++aV i.Seq++nb i.Sum=r:=by rw[aaT];exact d
 refine pP func228 ?_;exact mt .normal (s0 16 gl [] [(0,oO 2 r),(2,oY r)] 3 2) [] [gD 7 0 1 3 [.ref 0 0,iG i.By] (cA gl hi.a aa (r:=l++aV i.By) rfl),gD 11 0 3 4 [.ref 0 0,iG i.Seq] (cA gl hi.b cq (r:=l++aV i.By++aV i.Seq) rfl),gD 15 0 4 5 [.ref 0 0,uG i.Sum] (JV gl hi.c cq e)] [hc (el r),hc (rY.imm r)] (ρ:=[(0,0),(1,1),(2,5)]) (kd:=[(2,.row)])
theorem CR{l r s:CD}(hs:s.length<=1000000)(hl:l.length<=10000000000000)(a:l++tM s=r):jg prog gl 232 [.ref 0 0,sG s] [(0,oO 1 l),(1,oY l)] 2 (.tup []) [(0,oO 2 r),(2,oY r)] 3:=by
 have h1:=aR (dO hs);have e:aT 1 (l++aV (s.length:Int)) s=some r:=by grind [aT,tM]
 refine pP func232 ?_;exact mt .normal (s0 17 gl [] [(0,oO 2 r),(2,oY r)] 3 2) [] [hL 6 s,gD 7 0 1 2 [.ref 0 0,iG (ah s)] (cA gl (dO hs) aa (r:=l++aV (s.length:Int)) rfl),XZ 14 e] [hc (el r),hc (rY.imm r)] (ρ:=[(0,0),(1,1),(2,3)]) (kd:=[(2,.row)])
theorem rS{l:CD}(hl:l.length<=10000000000000):jg prog gl 140 [.ref 0 0] [(0,oO 1 l),(1,oY l)] 2 (.rsl 2 0 l.length) [(0,oO 1 l),(1,oY l),(2,oY l)] 3:=by refine pP func140 ?_;exact mt .ret (s0 8 gl [(2,.rsl 2 0 l.length)] [(0,oO 1 l),(1,oY l),(2,oY l)] 3 2) [.rsl 2 0 l.length] [YL 7 rY (show aT 1 [] l=some l by unfold aT;rw[Bx cq];rfl)] [hc (el l),hc (el l),hc (rY.imm l),hc (rY.imm l)] (ρ:=rI 3) (kd:=[(1,.row),(2,.row)])
section
def md{α:Type}(N:Nat)(enc:α->CD)(ok:α->Bool)(L:List α)(s:Bool×CD×Int):Option ((Bool×CD×Int)⊕(Bool×CD)):=
 bif s.2.2<ah L then(aS L s.2.2).bind λy=>bif ok y&&decide (s.2.1.length<=N)then some (.inl (true,s.2.1++enc y,wI (s.2.2+1)))else none else some (.inr (s.1,s.2.1))
theorem zp(N:Nat){enc:α->CD}{ok:α->Bool}{L:List α}(c:Nat)(b:Bool){l:CD}(hok:∀x∈L,ok x=true)(hc:∀x∈L,(enc x).length<=c)(hn:L.length<=1000000)(hl:l.length+L.length*c<=N):AA (md N enc ok L) (b,l,0)=some (b||decide (0<L.length),l++L.flatMap enc):=by
 have h:T (AA (md N enc ok L) (b,l,0)) λr=>r=(b||decide (0<L.length),l++L.flatMap enc):=by
  refine T.loop (λs=>∃k:Nat,s.2.2=(k:Int)/\k<=L.length/\s.2.1=l++(L.take k).flatMap enc/\s.1=(b||decide (0<k))) (λs=>L.length-s.2.2.toNat) (by grind) (by show L.length-_<_;omega) ?_;rintro⟨a,acc,i⟩ ⟨k,h1,h2,h3,h0⟩;simp only at h1 h2 h3 h0;subst h1;subst h3;subst h0;unfold md;refine .dec (λh=>?_) λh=>?_
  .have hk:k<L.length:=by grind [ah]
   refine .bind (.ix (by dsimp only;omega) (x:=L[k]) (by rw[Fs,DR hk]) ?_);have hm:L[k]∈L:=List.getElem_mem hk;have h4:((L.take k).flatMap enc).length<=(L.take k).length*c:=d8 (by grind);have h5:(L.take k).length*c<=L.length*c:=Nat.mul_le_mul_right c (by rw[Nv];omega);rw[hok _ hm,Bool.true_and,CO (by grind),ax];refine .some ⟨⟨k+1,aq aa,hk,?_,aC⟩,?_⟩;all_goals grind [List.take_succ_eq_append_getElem,aq]
  .have hk:k=L.length:=by grind [ah]
   refine .some ?_;show((b||decide (0<k)),l++(L.take k).flatMap enc)=_;rw[hk,EQ]
 exact h.eq
instance (z:Int):Decidable (c8 z):=by unfold c8;infer_instance
instance (n:Nat):Decidable (fS n):=by unfold fS;infer_instance
def okI(z:Int):Bool:=decide (c8 z)
def okU(n:Nat):Bool:=decide (fS n)
theorem rT{c:Bool}{N:Nat}{x:Option α}{r:α}(h:(bif c&&decide (n<=N)then x else none)=some r):c=true/\n<=N/\x=some r:=by grind
variable {P:Br}
end
abbrev bx:Option Ob:=some ⟨193,[.ref 1 0],none⟩
abbrev bb:Option Ob:=some ⟨284,[.clo (.func 225) [] [.ref 0 0]],none⟩
def oN(k:Nat):Bool->Nat:=λb=>bif b then k else 2
instance (x:Ab):Decidable (JU x):=decidable_of_iff (c8 x.By/\c8 x.Seq/\fS x.Sum) ⟨λ⟨a,b,c⟩=>⟨a,b,c⟩,λ⟨a,b,c⟩=>⟨a,b,c⟩⟩
instance (x:Ha):Decidable (Fm x):=decidable_of_iff (fS x.To/\fS x.Eph/\fS x.Body/\fS x.Tag) ⟨λ⟨a,b,c,d⟩=>⟨a,b,c,d⟩,λ⟨a,b,c,d⟩=>⟨a,b,c,d⟩⟩
instance (x:Fj):Decidable (I5 x):=decidable_of_iff (fS x.Pub/\x.Boxes.length<=1000/\∀b∈x.Boxes,Fm b) ⟨λ⟨a,b,c⟩=>⟨a,b,c⟩,λ⟨a,b,c⟩=>⟨a,b,c⟩⟩
instance (x:DP):Decidable (Hp x):=decidable_of_iff (JU x.Of/\x.Body.length<=1000) ⟨λ⟨a,b⟩=>⟨a,b⟩,λ⟨a,b⟩=>⟨a,b⟩⟩
def WJ(L:Bk)(s:Bool×CD×Int):St:=match s.1 with
 |true=>(s0 15 gl [(1,.ref 0 0),(5,.rsl 3 0 L.length),(6,iG (ah L)),(7,iG s.2.2)] [(0,bx),(1,oO 4 s.2.1),(4,oY s.2.1),ob 3 3 (L.flatMap cZ)] 5 4)
 |false=>(s0 15 gl [(1,.ref 0 0),(5,.rsl 3 0 L.length),(6,iG (ah L)),(7,iG s.2.2)] [(0,bx),(1,oO 2 s.2.1),(2,oY s.2.1),ob 3 3 (L.flatMap cZ)] 4 4)
theorem CS{l r:CD}{L:Bk}(hL:∀x∈L,c8 x)(hn:L.length<=1000000)(h0:0<L.length)(hl:l.length<=900000000000)(b:l++L.flatMap aV=r):jg prog gl 223 [.rsl 3 0 L.length,.ref 0 0] [(0,bx),(1,oO 2 l),(2,oY l),ob 3 3 (L.flatMap cZ)] 4 (.tup []) [(0,bx),(1,oO 4 r),(4,oY r),ob 3 3 (L.flatMap cZ)] 5:=by
 have hs:=zp 1000000000000 (enc:=aV) (ok:=okI) (L:=L) 10 false (l:=l) (λx hx=>CO (hL x hx)) (λx hx=>aR (hL x hx)) hn aa;rw[b,CO h0,Bool.false_or] at hs;refine pP func223 ?_;refine pN (WJ gl L) [1,2,2] hs [] [hc (rfl:L.length=L.length),hc (el l),hc (rY.imm l),hc (rZ.imm L)] (λB s w hs k5 c=>?_) (kd:=[(2,.row),(3,.row)]) (ρ:=rI 4);obtain⟨d,acc,i⟩:=s;unfold md at hs;rcases bC hs with⟨b1,hs⟩|⟨b1,hs⟩
 .obtain⟨y,a,hs⟩:=bS hs;obtain⟨e,hacc,hs⟩:=rT hs;obtain rfl:=Bf hs;have hy:c8 y:=DL e;have hacc:acc.length<=1000000000000:=hacc;have k:=k5 _ rfl;cases d
  .exact jw [hr 8 b1,AB 9 (rZ.ixrZ 3 a),AB 10 (rZ.p10Z tZ a),gD 13 1 2 4 [.ref 1 0,iG y] (cA gl hy aa (r:=acc++aV y) rfl)] [hc (rfl:L.length=L.length),hc (el (acc++aV y)),hc (rY.imm (acc++aV y)),hc (rZ.imm L)] k (ρ:=rI 5) (kd:=[(4,.row),(3,.row)])
  .exact jw [hr 8 b1,AB 9 (rZ.ixrZ 3 a),AB 10 (rZ.p10Z tZ a),gD 13 1 4 5 [.ref 1 0,iG y] (cA gl hy aa (r:=acc++aV y) rfl)] [hc (rfl:L.length=L.length),hc (el (acc++aV y)),hc (rY.imm (acc++aV y)),hc (rZ.imm L)] k (ρ:=rI 4++[(4,5)]) (kd:=[(4,.row),(3,.row)])
 .obtain rfl:=Bf hs;cases c _ rfl;exact mt .normal (s0 15 gl [] [(0,bx),(1,oO 4 acc),(4,oY acc),ob 3 3 (L.flatMap cZ)] 5 4) [] [hr 8 b1] [hc (el acc),hc (rY.imm acc),hc (rZ.imm L)] (ρ:=rI 5) (kd:=[(4,.row),(3,.row)])
def WK(x:Ha)(s:Bool×CD×Int):St:=match s.1 with
 |true=>(s0 23 gl [(1,.ref 0 0),(13,.rsl 3 0 4),(14,iG 4),(15,iG s.2.2)] [(0,bx),(1,oO 4 s.2.1),(4,oY s.2.1),ob 3 23 ([x.To,x.Eph,x.Body,x.Tag].flatMap cW)] 5 3)
 |false=>(s0 23 gl [(1,.ref 0 0),(13,.rsl 3 0 4),(14,iG 4),(15,iG s.2.2)] [(0,bx),(1,oO 2 s.2.1),(2,oY s.2.1),ob 3 23 ([x.To,x.Eph,x.Body,x.Tag].flatMap cW)] 4 3)
theorem Ri{l r:CD}{x:Ha}(hx:Fm x)(hl:l.length<=900000000000)(f:l++uT x=r):jg prog gl 225 [.agg (cz x),.ref 0 0] [(0,bx),(1,oO 2 l),(2,oY l)] 3 (.tup []) [(0,bx),(1,oO 3 r),(3,oY r)] 4:=by
 have hU:∀n∈[x.To,x.Eph,x.Body,x.Tag],fS n:=by grind [Fm.a,Fm.b,Fm.c,Fm.d]
 have hs:=zp 1000000000000 (enc:=nb) (ok:=okU) (L:=[x.To,x.Eph,x.Body,x.Tag]) 10 false (l:=l) (λx hx=>CO (hU x hx)) (λx hx=>gH (hU x hx)) aC cq;rw[show l++[x.To,x.Eph,x.Body,x.Tag].flatMap nb=r from f,CO (by grind),Bool.false_or] at hs;refine pP func225 ?_;refine pN (WK gl x) [1,1,2,2] hs [] [hc (rfl:(4:Nat)=4),hc (el l),hc (rY.imm l),hc (rW.imm [x.To,x.Eph,x.Body,x.Tag])] (λB s w hs k5 g=>?_) (kd:=[(2,.row),(3,.row)]) (ρ:=rI 3++[(3,4)]);obtain⟨h,acc,i⟩:=s;unfold md at hs;rcases bC hs with⟨b1,hs⟩|⟨b1,hs⟩
 .obtain⟨y,e,hs⟩:=bS hs;obtain⟨j,hacc,hs⟩:=rT hs;obtain rfl:=Bf hs;have hy:fS y:=DL j;have hacc:acc.length<=1000000000000:=hacc;have k:=k5 _ rfl;cases h
  .exact jw [hr 16 b1,AB 17 (rW.ixrZ 3 e),AB 18 (rW.p10Z tW e),gD 21 1 2 4 [.ref 1 0,uG y] (JV gl hy aa (r:=acc++nb y) rfl)] [hc (rfl:(4:Nat)=4),hc (el (acc++nb y)),hc (rY.imm (acc++nb y)),hc (rW.imm [x.To,x.Eph,x.Body,x.Tag])] k (ρ:=rI 5) (kd:=[(4,.row),(3,.row)])
  .exact jw [hr 16 b1,AB 17 (rW.ixrZ 3 e),AB 18 (rW.p10Z tW e),gD 21 1 4 5 [.ref 1 0,uG y] (JV gl hy aa (r:=acc++nb y) rfl)] [hc (rfl:(4:Nat)=4),hc (el (acc++nb y)),hc (rY.imm (acc++nb y)),hc (rW.imm [x.To,x.Eph,x.Body,x.Tag])] k (ρ:=rI 4++[(4,5)]) (kd:=[(4,.row),(3,.row)])
 .obtain rfl:=Bf hs;cases g _ rfl;exact mt .normal (s0 23 gl [] [(0,bx),(1,oO 3 acc),(3,oY acc)] 4 3) [] [hr 16 b1] [hc (el acc),hc (rY.imm acc)] (ρ:=rI 3++[(3,4)]) (kd:=[(3,.row)])
abbrev sW(k:Nat)(l:CD):aQ:=[(0,bx),(1,oO k l),(k,oY l),(3,bb)]
def IN(d k c:Nat)(gs:Bn){gl:CB}{fid:FuncId}{gs0:Bn}{l r:CD}(h:jg prog gl fid gs0 (sW 2 l) [0,1,k,3].length (.tup []) (sW 4 r) 5)
  (hin:w6 (vi [0,1,k,3]) (sW k l) (sW 2 l) 0 [0,1,k,3]:=by exact⟨⟨rfl,.inl rfl⟩,⟨rfl,.inl rfl⟩,⟨rfl,.inr ⟨rfl,rY.imm _⟩⟩,⟨rfl,.inl rfl⟩,trivial⟩) (a:oI (GL [0,1,k,3] c) (sW 4 r) [(0,bx),(1,oO c r),(2,none),(3,bb),(4,oY r)]:=by exact⟨⟨rfl,.inl rfl⟩,⟨rfl,.inl rfl⟩,⟨rfl,.inl rfl⟩,⟨rfl,.inr ⟨rfl,rY.imm _⟩⟩,trivial⟩)
  (hlt:[0,1,k,3].all (λi=>Nat.blt i c)=true:=by kernel_rfl) (hnd:decide [0,1,k,3].Nodup=true:=by kernel_rfl) (hgs:gs.map (qg (vi [0,1,k,3]) 20)=gs0:=by kernel_rfl):HP:=
 tN d [0,1,k,3] c (sW k l) gs [(0,bx),(1,oO c r),(2,none),(3,bb),(4,oY r)] h hin a hlt hnd hgs (by rfl) (by rfl) (by rfl)
def Zc(d k c:Nat)(gs:Bn){gl:CB}{fid:FuncId}{gs0:Bn}{l r:CD}(h:jg prog gl fid gs0 [(0,bx),(1,oO 2 l),(2,oY l)] [0,1,k].length (.tup []) [(0,bx),(1,oO 3 r),(3,oY r)] 4)
  (hin:w6 (vi [0,1,k]) [(0,bx),(1,oO k l),(k,oY l)] [(0,bx),(1,oO 2 l),(2,oY l)] 0 [0,1,k]:=by exact⟨⟨rfl,.inl rfl⟩,⟨rfl,.inl rfl⟩,⟨rfl,.inr ⟨rfl,rY.imm _⟩⟩,trivial⟩) (a:oI (GL [0,1,k] c) [(0,bx),(1,oO 3 r),(3,oY r)] [(0,bx),(1,oO c r),(2,none),(3,oY r)]:=by exact⟨⟨rfl,.inl rfl⟩,⟨rfl,.inl rfl⟩,⟨rfl,.inr ⟨rfl,rY.imm _⟩⟩,trivial⟩)
  (hlt:[0,1,k].all (λi=>Nat.blt i c)=true:=by kernel_rfl) (hnd:decide [0,1,k].Nodup=true:=by kernel_rfl) (hgs:gs.map (qg (vi [0,1,k]) 20)=gs0:=by kernel_rfl):HP:=
 tN d [0,1,k] c [(0,bx),(1,oO k l),(k,oY l)] gs [(0,bx),(1,oO c r),(2,none),(3,oY r)] h hin a hlt hnd hgs (by rfl) (by rfl) (by rfl)
theorem Rj{l r:CD}{L:Bc}(hL:∀x∈L,JU x)(hn:L.length<=1000)(hl:l.length<=900000000000)(a:l++(aV (L.length:Int)++L.flatMap sN)=r):jg prog gl 227 [.ref 1 0,aE aj L,.clo (.func 228) [.ref 1 0] []] (sW 2 l) 4 (.tup []) (sW 4 r) 5:=by
 have h1:=aR (dO (l:=L) aa);have hs:=zp 1000000000000 (enc:=sN) (ok:=λx=>decide (JU x)) (L:=L) 30 true (l:=l++aV (L.length:Int)) (λx hx=>CO (hL x hx)) (λx hx=>K4 (hL x hx)) aa cq;rw[List.append_assoc,a,Bool.true_or] at hs;refine pP func227 ?_;refine pN (λs:Bool×CD×Int=>(s0 22 gl [(2,.clo (.func 228) [.ref 1 0] []),(12,aE aj L),(13,iG (ah L)),(14,iG s.2.2)] (sW 4 s.2.1) 5 4)) 11122 hs [gD 11 1 2 4 [.ref 1 0,iG (ah L)] (cA gl (dO (l:=L) aa) aa (r:=l++aV (L.length:Int)) rfl)] [hc (el (l++aV (L.length:Int))),hc (rY.imm (l++aV (L.length:Int)))] (λB s w hs k5 c=>?_) (kd:=[(4,.row),(999999,.clo)]) (ρ:=rI 5);obtain⟨e,acc,i⟩:=s;unfold md at hs;rcases bC hs with⟨b1,hs⟩|⟨b1,hs⟩
 .obtain⟨y,b,hs⟩:=bS hs;obtain⟨d,hacc,hs⟩:=rT hs;obtain rfl:=Bf hs;have hy:JU y:=DL d;have hacc:acc.length<=1000000000000:=hacc;exact jw [hr 15 b1,AB 16 (ac.ixZ b),AB 17 (ac.ptZ aW b),gD 20 1 4 6 [.ref 1 0,.agg (aj y)] (kh gl hy aa (r:=acc++sN y) rfl)] [hc (el (acc++sN y)),hc (rY.imm (acc++sN y))] (k5 _ rfl) (ρ:=rI 4++[(4,6)]) (kd:=[(4,.row),(999999,.clo)])
 .obtain rfl:=Bf hs;cases c _ rfl;exact mt .normal (s0 22 gl [] (sW 4 acc) 5 4) [] [hr 15 b1] [hc (el acc),hc (rY.imm acc)] (ρ:=rI 5) (kd:=[(4,.row),(999999,.clo)])
theorem IO_q{l r:CD}{L:List Ha}(hL:∀x∈L,Fm x)(hn:L.length<=1000)(hl:l.length<=800000000000)(a:l++(aV (L.length:Int)++L.flatMap uT)=r):jg prog gl 231 [.ref 1 0,aE cz L,.clo (.func 225) [] [.ref 0 0]] (sW 2 l) 4 (.tup []) (sW 4 r) 5:=by
 have h1:=aR (dO (l:=L) aa);have hs:=zp 900000000000 (enc:=uT) (ok:=λx=>decide (Fm x)) (L:=L) 40 true (l:=l++aV (L.length:Int)) (λx hx=>CO (hL x hx)) (λx hx=>Ao (hL x hx)) aa cq;rw[List.append_assoc,a,Bool.true_or] at hs;refine pP func231 ?_;refine pN (λs:Bool×CD×Int=>(s0 22 gl [(2,.clo (.func 225) [] [.ref 0 0]),(12,aE cz L),(13,iG (ah L)),(14,iG s.2.2)] (sW 4 s.2.1) 5 4)) 11122 hs [gD 11 1 2 4 [.ref 1 0,iG (ah L)] (cA gl (dO (l:=L) aa) aa (r:=l++aV (L.length:Int)) rfl)] [hc (el (l++aV (L.length:Int))),hc (rY.imm (l++aV (L.length:Int)))] (λB s w hs k5 c=>?_) (kd:=[(4,.row),(999999,.clo)]) (ρ:=rI 5);obtain⟨e,acc,i⟩:=s;unfold md at hs;rcases bC hs with⟨b1,hs⟩|⟨b1,hs⟩
 .obtain⟨y,b,hs⟩:=bS hs;obtain⟨d,hacc,hs⟩:=rT hs;obtain rfl:=Bf hs;have hy:Fm y:=DL d;have hacc:acc.length<=900000000000:=hacc;exact jw [hr 15 b1,AB 16 (D5.ixZ b),AB 17 (D5.ptZ UL b),Zc 20 4 6 [.agg (cz y),.ref 0 0] (Ri gl hy aa (r:=acc++uT y) rfl)] [hc (el (acc++uT y)),hc (rY.imm (acc++uT y))] (k5 _ rfl) (ρ:=rI 4++[(4,6)]) (kd:=[(4,.row),(999999,.clo)])
 .obtain rfl:=Bf hs;cases c _ rfl;exact mt .normal (s0 22 gl [] (sW 4 acc) 5 4) [] [hr 15 b1] [hc (el acc),hc (rY.imm acc)] (ρ:=rI 5) (kd:=[(4,.row),(999999,.clo)])
theorem TM{l r:CD}{L:Bq}(hL:∀x∈L,fS x)(hn:L.length<=1000)(hl:l.length<=900000000000)(a:l++(aV (L.length:Int)++L.flatMap nb)=r):jg prog gl 233 [.ref 1 0,aE cW L,.clo (.func 226) [.ref 1 0] []] (sW 2 l) 4 (.tup []) (sW 4 r) 5:=by
 have h1:=aR (dO (l:=L) aa);have hs:=zp 1000000000000 (enc:=nb) (ok:=λx=>decide (fS x)) (L:=L) 10 true (l:=l++aV (L.length:Int)) (λx hx=>CO (hL x hx)) (λx hx=>gH (hL x hx)) aa cq;rw[List.append_assoc,a,Bool.true_or] at hs;refine pP func233 ?_;refine pN (λs:Bool×CD×Int=>(s0 22 gl [(2,.clo (.func 226) [.ref 1 0] []),(12,aE cW L),(13,iG (ah L)),(14,iG s.2.2)] (sW 4 s.2.1) 5 4)) 11122 hs [gD 11 1 2 4 [.ref 1 0,iG (ah L)] (cA gl (dO (l:=L) aa) aa (r:=l++aV (L.length:Int)) rfl)] [hc (el (l++aV (L.length:Int))),hc (rY.imm (l++aV (L.length:Int)))] (λB s w hs k5 c=>?_) (kd:=[(4,.row),(999999,.clo)]) (ρ:=rI 5);obtain⟨e,acc,i⟩:=s;unfold md at hs;rcases bC hs with⟨b1,hs⟩|⟨b1,hs⟩
 .obtain⟨y,b,hs⟩:=bS hs;obtain⟨d,hacc,hs⟩:=rT hs;obtain rfl:=Bf hs;have hy:fS y:=DL d;have hacc:acc.length<=1000000000000:=hacc;exact jw [hr 15 b1,AB 16 (rW.ixZ b),AB 17 (rW.p1Z tW b),gD 20 1 4 5 [.ref 1 0,uG y] (JV gl hy aa (r:=acc++nb y) rfl)] [hc (el (acc++nb y)),hc (rY.imm (acc++nb y))] (k5 _ rfl) (ρ:=rI 4++[(4,5)]) (kd:=[(4,.row),(999999,.clo)])
 .obtain rfl:=Bf hs;cases c _ rfl;exact mt .normal (s0 22 gl [] (sW 4 acc) 5 4) [] [hr 15 b1] [hc (el acc),hc (rY.imm acc)] (ρ:=rI 5) (kd:=[(4,.row),(999999,.clo)])
theorem TN{l r:CD}{L:Bk}(hL:∀x∈L,c8 x)(hn:L.length<=1000)(hl:l.length<=900000000000)(a:l++(aV (L.length:Int)++L.flatMap aV)=r):jg prog gl 234 [.ref 1 0,aE cZ L,.clo (.func 224) [.ref 1 0] []] (sW 2 l) 4 (.tup []) (sW 4 r) 5:=by
 have h1:=aR (dO (l:=L) aa);have hs:=zp 1000000000000 (enc:=aV) (ok:=λx=>decide (c8 x)) (L:=L) 10 true (l:=l++aV (L.length:Int)) (λx hx=>CO (hL x hx)) (λx hx=>aR (hL x hx)) aa cq;rw[List.append_assoc,a,Bool.true_or] at hs;refine pP func234 ?_;refine pN (λs:Bool×CD×Int=>(s0 22 gl [(2,.clo (.func 224) [.ref 1 0] []),(12,aE cZ L),(13,iG (ah L)),(14,iG s.2.2)] (sW 4 s.2.1) 5 4)) 11122 hs [gD 11 1 2 4 [.ref 1 0,iG (ah L)] (cA gl (dO (l:=L) aa) aa (r:=l++aV (L.length:Int)) rfl)] [hc (el (l++aV (L.length:Int))),hc (rY.imm (l++aV (L.length:Int)))] (λB s w hs k5 c=>?_) (kd:=[(4,.row),(999999,.clo)]) (ρ:=rI 5);obtain⟨e,acc,i⟩:=s;unfold md at hs;rcases bC hs with⟨b1,hs⟩|⟨b1,hs⟩
 .obtain⟨y,b,hs⟩:=bS hs;obtain⟨d,hacc,hs⟩:=rT hs;obtain rfl:=Bf hs;have hy:c8 y:=DL d;have hacc:acc.length<=1000000000000:=hacc;exact jw [hr 15 b1,AB 16 (rZ.ixZ b),AB 17 (rZ.p1Z tZ b),gD 20 1 4 5 [.ref 1 0,iG y] (cA gl hy aa (r:=acc++aV y) rfl)] [hc (el (acc++aV y)),hc (rY.imm (acc++aV y))] (k5 _ rfl) (ρ:=rI 4++[(4,5)]) (kd:=[(4,.row),(999999,.clo)])
 .obtain rfl:=Bf hs;cases c _ rfl;exact mt .normal (s0 22 gl [] (sW 4 acc) 5 4) [] [hr 15 b1] [hc (el acc),hc (rY.imm acc)] (ρ:=rI 5) (kd:=[(4,.row),(999999,.clo)])
theorem Rl{l r:CD}{x:Fj}(hx:I5 x)(hl:l.length<=700000000000)(c:l++ke x=r):jg prog gl 230 [.agg (bY x),.ref 0 0,.ref 3 0] (sW 2 l) 4 (.tup []) (sW 4 r) 5:=by
 have h1:=gH hx.a;have e:l++nb x.Pub++(aV (x.Boxes.length:Int)++x.Boxes.flatMap uT)=r:=by grind [ke,uU]
 refine pP func230 ?_;exact mt .normal (s0 13 gl [] (sW 4 r) 5 4) [] [gD 7 1 2 5 [.ref 1 0,uG x.Pub] (JV gl hx.a aa (r:=l++nb x.Pub) rfl),IN 12 5 6 [.ref 1 0,aE cz x.Boxes,.clo (.func 225) [] [.ref 0 0]] (IO_q gl hx.b hx.n cq e)] [hc (el r),hc (rY.imm r)] (ρ:=rI 4++[(4,6)]) (kd:=[(4,.row),(999999,.clo)])
theorem Rm{l r:CD}{x:DP}(hx:Hp x)(hl:l.length<=9000000000000)(b:l++lX x=r):jg prog gl 236 [.agg (bp x),.ref 0 0] [(0,bx),(1,oO 2 l),(2,oY l)] 3 (.tup []) [(0,bx),(1,oO 3 r),(3,oY r)] 4:=by
 have h1:=K4 hx.a;have e:l++sN x.Of++tM x.Body=r:=by grind [lX]
 refine pP func236 ?_;exact mt .normal (s0 12 gl [] [(0,bx),(1,oO 3 r),(3,oY r)] 4 3) [] [gD 6 1 2 4 [.ref 1 0,.agg (aj x.Of)] (kh gl hx.a aa (r:=l++sN x.Of) rfl),XY 10 x.Body,gD 11 1 4 5 [.ref 1 0,sG x.Body] (CR gl (by have:=hx.n;omega) cq e)] [hc (el r),hc (rY.imm r)] (ρ:=rI 3++[(3,5)]) (kd:=[(3,.row)])
theorem Ro{l r:CD}{L:List Fj}(hL:∀x∈L,I5 x)(hn:L.length<=1000)(hl:l.length<=600000000000)(a:l++(aV (L.length:Int)++L.flatMap ke)=r):jg prog gl 229 [.ref 1 0,aE bY L,.clo (.func 230) [] [.ref 0 0,.ref 3 0]] (sW 2 l) 4 (.tup []) (sW 4 r) 5:=by
 have h1:=aR (dO (l:=L) aa);have hs:=zp 700000000000 (enc:=ke) (ok:=λx=>decide (I5 x)) (L:=L) 40020 true (l:=l++aV (L.length:Int)) (λx hx=>CO (hL x hx)) (λx hx=>Aq (hL x hx)) aa cq;rw[List.append_assoc,a,Bool.true_or] at hs;refine pP func229 ?_;refine pN (λs:Bool×CD×Int=>(s0 22 gl [(2,.clo (.func 230) [] [.ref 0 0,.ref 3 0]),(12,aE bY L),(13,iG (ah L)),(14,iG s.2.2)] (sW 4 s.2.1) 5 4)) 11122 hs [gD 11 1 2 4 [.ref 1 0,iG (ah L)] (cA gl (dO (l:=L) aa) aa (r:=l++aV (L.length:Int)) rfl)] [hc (el (l++aV (L.length:Int))),hc (rY.imm (l++aV (L.length:Int)))] (λB s w hs k5 c=>?_) (kd:=[(4,.row),(999999,.clo)]) (ρ:=rI 5);obtain⟨e,acc,i⟩:=s;unfold md at hs;rcases bC hs with⟨b1,hs⟩|⟨b1,hs⟩
 .obtain⟨y,b,hs⟩:=bS hs;obtain⟨d,hacc,hs⟩:=rT hs;obtain rfl:=Bf hs;have hy:I5 y:=DL d;have hacc:acc.length<=700000000000:=hacc;exact jw [hr 15 b1,AB 16 (bZ.ixZ b),AB 17 (bZ.ptZ Pc b),IN 20 4 6 [.agg (bY y),.ref 0 0,.ref 3 0] (Rl gl hy aa (r:=acc++ke y) rfl)] [hc (el (acc++ke y)),hc (rY.imm (acc++ke y))] (k5 _ rfl) (ρ:=rI 4++[(4,6)]) (kd:=[(4,.row),(999999,.clo)])
 .obtain rfl:=Bf hs;cases c _ rfl;exact mt .normal (s0 22 gl [] (sW 4 acc) 5 4) [] [hr 15 b1] [hc (el acc),hc (rY.imm acc)] (ρ:=rI 5) (kd:=[(4,.row),(999999,.clo)])
theorem Rp{l r:CD}{L:List DP}(hL:∀x∈L,Hp x)(hn:L.length<=1000)(hl:l.length<=900000000000)(a:l++(aV (L.length:Int)++L.flatMap lX)=r):jg prog gl 235 [.ref 1 0,aE bp L,.clo (.func 236) [] [.ref 0 0]] (sW 2 l) 4 (.tup []) (sW 4 r) 5:=by
 have h1:=aR (dO (l:=L) aa);have hs:=zp 1000000000000 (enc:=lX) (ok:=λx=>decide (Hp x)) (L:=L) 1040 true (l:=l++aV (L.length:Int)) (λx hx=>CO (hL x hx)) (λx hx=>F6 (hL x hx)) aa cq;rw[List.append_assoc,a,Bool.true_or] at hs;refine pP func235 ?_;refine pN (λs:Bool×CD×Int=>(s0 22 gl [(2,.clo (.func 236) [] [.ref 0 0]),(12,aE bp L),(13,iG (ah L)),(14,iG s.2.2)] (sW 4 s.2.1) 5 4)) 11122 hs [gD 11 1 2 4 [.ref 1 0,iG (ah L)] (cA gl (dO (l:=L) aa) aa (r:=l++aV (L.length:Int)) rfl)] [hc (el (l++aV (L.length:Int))),hc (rY.imm (l++aV (L.length:Int)))] (λB s w hs k5 c=>?_) (kd:=[(4,.row),(999999,.clo)]) (ρ:=rI 5);obtain⟨e,acc,i⟩:=s;unfold md at hs;rcases bC hs with⟨b1,hs⟩|⟨b1,hs⟩
 .obtain⟨y,b,hs⟩:=bS hs;obtain⟨d,hacc,hs⟩:=rT hs;obtain rfl:=Bf hs;have hy:Hp y:=DL d;have hacc:acc.length<=1000000000000:=hacc;exact jw [hr 15 b1,AB 16 (bH.ixZ b),AB 17 (bH.ptZ GM b),Zc 20 4 6 [.agg (bp y),.ref 0 0] (Rm gl hy aa (r:=acc++lX y) rfl)] [hc (el (acc++lX y)),hc (rY.imm (acc++lX y))] (k5 _ rfl) (ρ:=rI 4++[(4,6)]) (kd:=[(4,.row),(999999,.clo)])
 .obtain rfl:=Bf hs;cases c _ rfl;exact mt .normal (s0 22 gl [] (sW 4 acc) 5 4) [] [hr 15 b1] [hc (el acc),hc (rY.imm acc)] (ρ:=rI 5) (kd:=[(4,.row),(999999,.clo)])
noncomputable abbrev OZ:Code:=bq 111012 (ai Tryz.f220)
abbrev WL(l:Bq):Fr:=[(1,aE cW l),(5,.ref 0 0)]
noncomputable abbrev TO(l:Bq)(st:LoopState):Option Ob:=some ⟨0,[],some (.loop st none 40 (WL l) (Dy OZ) (Dz OZ) (DA OZ))⟩
noncomputable abbrev K5(l:Bq)(s k:Nat)(a b:LoopState):aQ:=[(0,Ku s k),(1,TO l a),(2,Kx 1),(3,O7 b)]
def Z3(d j c s k w:Nat){s':Nat}{gl:CB}(h:kE s k w=some s')
  (hin:w6 (vi [0,j]) [(0,Ku s k),(j,Ci [w])] [(0,Ku s k),(1,Ci [w])] 0 [0,j]:=by exact⟨⟨rfl,.inl rfl⟩,⟨rfl,.inl rfl⟩,trivial⟩) (hlt:[0,j].all (λi=>Nat.blt i c)=true:=by kernel_rfl) (hnd:decide [0,j].Nodup=true:=by kernel_rfl) (hgs:[G.ref 0 0,.rsl j 0 1].map (qg (vi [0,j]) 20)=[.ref 0 0,.rsl 1 0 1]:=by kernel_rfl):HP:=
 hmc d [0,j] c [(0,Ku s k),(j,Ci [w])] [.ref 0 0,.rsl j 0 1] [(0,⟨336,[uG s',uG (k1 k)],none⟩),(1,⟨23,[w].flatMap cW,none⟩)] (Qy gl h) hin ⟨⟨rfl,.inl rfl⟩,⟨rfl,.inl rfl⟩,trivial⟩ hlt hnd hgs (by rfl) (by rfl) (by rfl)
theorem ES(h:x6 label l=some r):ba prog gl 220 [sG label,aE cW l] (uG r):=by
 unfold x6 at h;obtain⟨t,et,h⟩:=bS h;obtain⟨a,o,h⟩:=bS h;obtain⟨s1,e1,h⟩:=bS h;obtain⟨c,p,h⟩:=bS h;refine Gh func220 ?_;refine pO 111012 (s0 40 gl [(1,aE cW l),(5,.ref 0 0),(15,ny t)] [(0,Ku (wU (ah label)) 0)] 1 0) [hL 10 label,AB 11 (C8 (ah label)),hcB 14 et,hf 15 (Ic gl t)] [hc (aG 20 (ny t) aH)] ?_ [] [(0,0)];refine Xt (fst:=[]) (cap:=[.ptr [aE cY t] 0]) Tryz.f296 func296 ?_;refine YR [1,1,2] (s0 29 gl [(2,.ref 2 0),(8,Kv t)] [(2,Kx 1),(1,some ⟨0,[],some (.loop .ready none 40 [(1,aE cW l),(5,.ref 0 0),(15,ny t)] (Dy OZ) (Dz OZ) (DA OZ))⟩),(0,Ku (wU (ah label)) 0)] 3 2) [hf 8 (Ie gl t)] ?_;refine Xt (fst:=[]) (cap:=[.ptr [aE cY t] 0,.ptr [iG 7] 0]) Tryz.f356 func356 ?_;refine pN (λx:(Nat×Nat)×Int=>(s0 31 gl [(0,.yld 3),(1,.ptr [aE cY t] 0),(2,.ptr [iG 7] 0),(4,iG x.2)] (K5 l x.1.1 x.1.2 .ready .ready) 4 4)) 1122 o [] [] (λB x w hs k5 e=>?_) [] r4;unfold F1 at hs;rcases bC hs with⟨b1,hs⟩|⟨b1,hs⟩
 .obtain⟨q0,e0,hs⟩:=bS hs;obtain⟨y,d,hs⟩:=bS hs;obtain⟨q,u,hs⟩:=bS hs;obtain⟨w,ew,hs⟩:=bS hs;obtain⟨s,es,hs⟩:=bS hs;obtain rfl:=Bf hs;refine pO 112210210 (s0 31 gl [(0,.yld 3),(1,.ptr [aE cY t] 0),(2,.ptr [iG 7] 0),(4,iG x.2),(5,iG (iI 7 (ah q0)))] (K5 l x.1.1 x.1.2 .ready .ready) 4 4) [hr 9 b1,AB 16 (rY.sufZI e0)] [] ?_ [] r4;refine Xw (i:=3) (j:=10) (n:=29) (t:=0) (t2:=0) (pe:=none) (fr:=[(2,.ref 2 0)]) (ps:=Dy Kw) (a:=Dz Kw) (b:=DA Kw) (s1:=(s0 31 gl (Ti t q x.2 (iI 7 (ah q0))) (K5 l x.1.1 x.1.2 .ready .ready) 4 4))
   (s3:=(s0 31 gl ([(30,bG false),(29,bG true)]++Ti t q x.2 (iI 7 (ah q0))) ((3,O7 .ready)::K5 l s (k1 x.1.2) .ready .busy) 4 4))
   (K5 l s (k1 x.1.2) .ready .busy) 4 (.loop .ready none 29 [(2,.ref 2 0)] (Dy Kw) (Dz Kw) (DA Kw)) [hcv 28 (g:=aE cY q) (Yp rY d u)] [] ?_ ?_
  .refine C9 .normal ⟨29,gl,[(2,.ref 2 0),(3,aE cY q)],K5 l x.1.1 x.1.2 .ready .ready,4,4,true⟩ [] [] (Xv Tryz.f296 ?_ rfl) [] r4;refine Ix 12101 ⟨29,gl,[(2,.ref 2 0),(4,uG w)],K5 l x.1.1 x.1.2 .ready .busy,4,4,true⟩ ?_ λkk=>?_
   .refine pO 12110 ⟨29,gl,[(2,.ref 2 0),(4,uG w)],K5 l x.1.1 x.1.2 .ready .busy,4,4,true⟩ [] [] ?_ [] r4;refine Xw (i:=1) (j:=2) (n:=40) (t:=0) (t2:=0) (pe:=none) (fr:=WL l) (ps:=Dy OZ) (a:=Dz OZ) (b:=DA OZ) (s1:=⟨29,gl,[(26,uG w),(25,.yld 1),(2,.ref 2 0),(4,uG w)],K5 l x.1.1 x.1.2 .ready .busy,4,4,true⟩)
     (s3:=⟨29,gl,[(28,bG false),(27,bG true),(26,uG w),(25,.yld 1),(2,.ref 2 0),(4,uG w)],(1,TO l .ready)::K5 l s (k1 x.1.2) .busy .busy,4,4,true⟩)
     (K5 l s (k1 x.1.2) .busy .busy) 4 (.loop .ready none 40 (WL l) (Dy OZ) (Dz OZ) (DA OZ)) [] [] ?_ ?_
    .refine C9 .normal ⟨40,gl,[(5,.ref 0 0),(6,uG w)],K5 l x.1.1 x.1.2 .ready .busy,4,4,true⟩ [] [] (Xv Tryz.f220 ?_ rfl) [] r4;exact C9 .normal ⟨40,gl,[],K5 l s (k1 x.1.2) .busy .busy,4,4,true⟩ [Z3 (gl:=gl) 19 4 5 x.1.1 x.1.2 w es] [] (by grind [jy]) [] r4
    .exact C9 .normal ⟨29,gl,[],K5 l s (k1 x.1.2) .ready .busy,4,4,true⟩ [] [] (by grind [jy]) [] r4
   refine pN (λz:Nat×Int=>⟨29,gl,[(2,.ref 2 0),(4,uG z.1),(10,aE cY q),(11,iG (ah q)),(12,iG z.2)],K5 l x.1.1 x.1.2 .ready .busy,4,4,true⟩) [2,1,0,1,2,2] ew [] [] (λC z v hz k m=>?_) [] r4;unfold oD at hz;rcases bC hz with⟨c1,hz⟩|⟨c1,hz⟩
   .obtain⟨f,e1,hz⟩:=bS hz;obtain⟨n1,e2,hz⟩:=bS hz;obtain rfl:=Bf hz;exact jw [hr 13 c1,AB 15 (rY.ixZ e1),AB 16 (rY.p1Z tY e1),AB 19 (C8 (f.toNat:Int)),hV 22 (sM (P:=prog) (t:=23) (wU (f.toNat:Int)) e2),hV 23 (jc (P:=prog) (t:=23) z.1 (HU (wU (f.toNat:Int)) n1))] [] (k _ rfl) [] r4
   .obtain rfl:=Bf hz;obtain rfl:=m _ rfl;exact yl 12101 [hr 13 c1] [] kk [] r4
  .exact jw [] [] (k5 _ rfl) [] r4
 .obtain rfl:=Bf hs;obtain rfl:=e _ rfl;refine C9 .normal (s0 31 gl [] [(0,Ku x.1.1 x.1.2),(1,TO l .ready),(3,O7 .ready)] 4 4) [hr 9 b1] [] (Xu ?_ rfl) [] r4;refine C9 .normal (s0 29 gl [] [(0,Ku x.1.1 x.1.2),(1,TO l .ready)] 2 2) [] [] (Xu ?_ rfl) [] [(0,0),(1,1)];refine pN (λx:(Nat×Nat)×Int=>(s0 40 gl [(5,.ref 0 0),(25,aE cW l),(26,iG (ah l)),(27,iG x.2)] [(0,Ku x.1.1 x.1.2)] 1 0)) 111110122 p [AB 22 (C8 (ah l)),Z3 (gl:=gl) 24 2 3 x.1.1 x.1.2 (wU (ah l)) e1] [] (λB z v hz k5 e=>?_) [] [(0,0)];unfold F3 at hz;rcases bC hz with⟨c1,hz⟩|⟨c1,hz⟩
  .obtain⟨y,d,hz⟩:=bS hz;obtain⟨n,A,hz⟩:=bS hz;obtain⟨s,es,hz⟩:=bS hz;obtain rfl:=Bf hz;exact jw [hr 28 c1,AB 29 (rW.ixZ d),AB 30 (rW.p1Z tW d),hf 32 (dr gl A),Z3 (gl:=gl) 34 1 2 z.1.1 z.1.2 n es] [] (k5 _ rfl) [] [(0,0)]
  .obtain rfl:=Bf hz;obtain rfl:=e _ rfl;exact Ar [hr 28 c1,Z3 (gl:=gl) 37 1 2 z.1.1 z.1.2 0 h] []
def Lz(label b:CD):Fp:=(Cj b).bind λw=>(aT 8 w [wU (ah b)]).bind λl=>x6 label l
theorem xd(h:Lz label b=some r):ba prog gl 138 [sG label,aE cY b] (uG r):=by unfold Lz at h;obtain⟨w,ew,h⟩:=bS h;obtain⟨l,el',h⟩:=bS h;refine Gh func138 ?_;exact Ar [hf 7 (Ic gl b),ho 8 [ny b] [] (Ky gl ew) (by grind [cW]),AB 11 (C8 (ah b)),dg 13 rW el',hq 14 [sG label,aE cW l] [hc (rW.al l)] (ES gl h)] []
section
def Xy(o:Bp):CD:=[]++[o.By,o.Seq,o.Kind,o.At].flatMap aV
def Xz(o:Bp):CD:=Xy o++(aV (o.Past.length:Int)++o.Past.flatMap sN)
def XA(o:Bp):CD:=Xz o++[o.Device,o.Old,o.Member,o.Role].flatMap aV
def XB(o:Bp):CD:=XA o++(aV (o.Path.length:Int)++o.Path.flatMap ke)
def XC(o:Bp):CD:=XB o++sN o.Epoch
def XD(o:Bp):CD:=XC o++aV o.N
def XE(o:Bp):CD:=XD o++tM o.Body
def XG(o:Bp):CD:=XE o++(aV (o.Refs.length:Int)++o.Refs.flatMap nb)
def XH(o:Bp):CD:=XG o++sN o.Of
def Ox(o:Bp):CD:=XH o++(aV (o.Guards.length:Int)++o.Guards.flatMap aV)
def Oy(o:Bp):CD:=Ox o++[o.Need,o.Wait].flatMap aV
def Oz(o:Bp):CD:=Oy o++(aV (o.Boxes.length:Int)++o.Boxes.flatMap uT)
def OA(o:Bp):CD:=Oz o++nb o.Pub
def IP(o:Bp):CD:=OA o++(aV (o.Hist.length:Int)++o.Hist.flatMap lX)
theorem Ad1(o:Bp):IP o=qc o:=by simp only[Xy,Xz,XA,XB,XC,XD,XE,XG,XH,Ox,Oy,Oz,OA,IP,qc,uU,List.flatMap_cons,List.flatMap_nil,List.append_assoc,MG,M1]
theorem aaU(o:Bp):[]++[o.By,o.Seq,o.Kind,o.At].flatMap aV=Xy o:=rfl
theorem Zd(o:Bp):Xy o++(aV (o.Past.length:Int)++o.Past.flatMap sN)=Xz o:=rfl
theorem Ze(o:Bp):Xz o++[o.Device,o.Old,o.Member,o.Role].flatMap aV=XA o:=rfl
theorem Zf(o:Bp):XA o++(aV (o.Path.length:Int)++o.Path.flatMap ke)=XB o:=rfl
theorem Zg(o:Bp):XB o++sN o.Epoch=XC o:=rfl
theorem Zh(o:Bp):XC o++aV o.N=XD o:=rfl
theorem Zi(o:Bp):XD o++tM o.Body=XE o:=rfl
theorem Zj(o:Bp):XE o++(aV (o.Refs.length:Int)++o.Refs.flatMap nb)=XG o:=rfl
theorem Zk(o:Bp):XG o++sN o.Of=XH o:=rfl
theorem Vd(o:Bp):XH o++(aV (o.Guards.length:Int)++o.Guards.flatMap aV)=Ox o:=rfl
theorem Ve(o:Bp):Ox o++[o.Need,o.Wait].flatMap aV=Oy o:=rfl
theorem Vf(o:Bp):Oy o++(aV (o.Boxes.length:Int)++o.Boxes.flatMap uT)=Oz o:=rfl
theorem Vg(o:Bp):Oz o++nb o.Pub=OA o:=rfl
theorem Vh(o:Bp):OA o++(aV (o.Hist.length:Int)++o.Hist.flatMap lX)=IP o:=rfl
def Ad2(d k j c:Nat){gl:CB}{fid:FuncId}{L:Bk}{l r:CD}(h:jg prog gl fid [.rsl 3 0 L.length,.ref 0 0] [(0,bx),(1,oO 2 l),(2,oY l),ob 3 3 (L.flatMap cZ)] [0,1,k,j].length (.tup []) [(0,bx),(1,oO 4 r),(4,oY r),ob 3 3 (L.flatMap cZ)] 5)
  (hin:w6 (vi [0,1,k,j]) [(0,bx),(1,oO k l),(k,oY l),(j,some ⟨3,L.flatMap cZ,none⟩)] [(0,bx),(1,oO 2 l),(2,oY l),ob 3 3 (L.flatMap cZ)] 0 [0,1,k,j]:=by exact⟨⟨rfl,.inl rfl⟩,⟨rfl,.inl rfl⟩,⟨rfl,.inr ⟨rfl,rY.imm _⟩⟩,⟨rfl,.inr ⟨rfl,rZ.imm _⟩⟩,trivial⟩) (a:oI (GL [0,1,k,j] c) [(0,bx),(1,oO 4 r),(4,oY r),ob 3 3 (L.flatMap cZ)] [(0,bx),(1,oO c r),(2,none),ob 3 3 (L.flatMap cZ),(4,oY r)]:=by exact⟨⟨rfl,.inl rfl⟩,⟨rfl,.inl rfl⟩,⟨rfl,.inr ⟨rfl,rZ.imm _⟩⟩,⟨rfl,.inr ⟨rfl,rY.imm _⟩⟩,trivial⟩)
  (hlt:[0,1,k,j].all (λi=>Nat.blt i c)=true:=by kernel_rfl) (hnd:decide [0,1,k,j].Nodup=true:=by kernel_rfl) (hgs:[G.rsl j 0 L.length,.ref 0 0].map (qg (vi [0,1,k,j]) 20)=[.rsl 3 0 L.length,.ref 0 0]:=by kernel_rfl):HP:=
 tN d [0,1,k,j] c [(0,bx),(1,oO k l),(k,oY l),(j,some ⟨3,L.flatMap cZ,none⟩)] [.rsl j 0 L.length,.ref 0 0] [(0,bx),(1,oO c r),(2,none),ob 3 3 (L.flatMap cZ),(4,oY r)] h hin a hlt hnd hgs (by rfl) (by rfl) (by rfl)
attribute [local irreducible] Xy Xz XA XB XC XD XE XG XH Ox Oy Oz OA IP
set_option maxHeartbeats 2000000 in
theorem MP(ho:Bb o):jg prog gl 139 [.agg (aJ o)] [] 0 (.ref 0 0) [(0,oO 1 (qc o)),(1,oY (qc o))] 2:=by
 have hI:∀l:Bk,(∀z∈l,z∈[o.By,o.Seq,o.Kind,o.At,o.Device,o.Old,o.Member,o.Role,o.N,o.Need,o.Wait])->∀z∈l,c8 z:=by grind [Bb.ints]
 have h14:=yY ho;rw[<-Ad1] at h14;have h13:(OA o).length<=50000000:=by grind [Vh]
 have h12:(Oz o).length<=50000000:=by grind [Vg]
 have h11:(Oy o).length<=50000000:=by grind [Vf]
 have h10:(Ox o).length<=50000000:=by grind [Ve]
 have h9:(XH o).length<=50000000:=by grind [Vd]
 have h8:(XG o).length<=50000000:=by grind [Zk]
 have h7:(XE o).length<=50000000:=by grind [Zj]
 have h6:(XD o).length<=50000000:=by grind [Zi]
 have h5:(XC o).length<=50000000:=by grind [Zh]
 have h4:(XB o).length<=50000000:=by grind [Zg]
 have h3:(XA o).length<=50000000:=by grind [Zf]
 have h2:(Xz o).length<=50000000:=by grind [Ze]
 have h1:(Xy o).length<=50000000:=by grind [Zd]
 rw[<-Ad1 o];refine pP func139 ?_;refine pO 111110 (s0 94 gl [(1,.ptr (aJ o) 0),(3,.ref 0 0),(4,.clo (.func 223) [] [.ref 0 0]),(5,.ref 3 0)] (sW 2 []) 4 0) [] [hc (eB (gs:=aJ o) aH),hc (rY.imm [])] ?_ (kd:=[(2,.row),(999999,.clo)]);exact mt .ret (s0 94 gl [(2,.ref 0 0)] [(0,oO 1 (IP o)),(1,oY (IP o))] 2 0) [.ref 0 0] [Ad2 20 2 4 5 (L:=[o.By,o.Seq,o.Kind,o.At]) (CS gl (hI _ aC) aC aC aC (aaU o)),
  IN 26 5 6 [.ref 1 0,aE aj o.Past,.clo (.func 228) [.ref 1 0] []] (Rj gl ho.past ho.nPast aa (Zd o)),
  Ad2 37 6 7 8 (L:=[o.Device,o.Old,o.Member,o.Role]) (CS gl (hI _ aC) aC aC aa (Ze o)),
  IN 42 8 9 [.ref 1 0,aE bY o.Path,.clo (.func 230) [] [.ref 0 0,.ref 3 0]] (Ro gl ho.path ho.nPath aa (Zf o)),
  gD 46 1 9 10 [.ref 1 0,.agg (aj o.Epoch)] (kh gl ho.epoch aa (Zg o)),
  gD 50 1 10 11 [.ref 1 0,iG o.N] (cA gl (ho.ints _ aC) aa (Zh o)),
  XY 54 o.Body,gD 55 1 11 12 [.ref 1 0,sG o.Body] (CR gl (by have:=ho.nBody;omega) aa (Zi o)),
  IN 61 12 13 [.ref 1 0,aE cW o.Refs,.clo (.func 226) [.ref 1 0] []] (TM gl ho.refs ho.nRefs aa (Zj o)),
  gD 65 1 13 14 [.ref 1 0,.agg (aj o.Of)] (kh gl ho.of_ aa (Zk o)),
  IN 71 14 15 [.ref 1 0,aE cZ o.Guards,.clo (.func 224) [.ref 1 0] []] (TN gl ho.guards ho.nGuards aa (Vd o)),
  Ad2 78 15 16 17 (L:=[o.Need,o.Wait]) (CS gl (hI _ aC) aC aC aa (Ve o)),
  IN 83 17 18 [.ref 1 0,aE cz o.Boxes,.clo (.func 225) [] [.ref 0 0]] (IO_q gl ho.boxes ho.nBoxes aa (Vf o)),
  gD 87 1 18 19 [.ref 1 0,uG o.Pub] (JV gl ho.pub aa (Vg o)),
  IN 92 19 20 [.ref 1 0,aE bp o.Hist,.clo (.func 236) [] [.ref 0 0]] (Rp gl ho.hist ho.nHist aa (Vh o))]
  [hc (el (IP o)),hc (rY.imm (IP o))]
attribute [local irreducible] qc
def Rs(o:Bp):Option Ab:=(Lz [111,112] (qc o)).bind λv=>some ⟨o.By,o.Seq,v⟩
theorem TP(ho:Bb o){r:Ab}(h:Rs o=some r):ba prog gl 70 [.agg (aJ o)] (.agg (aj r)):=by
 unfold Rs at h;obtain⟨v,ev,h⟩:=bS h;obtain rfl:=Bf h;have h14:=yY ho;refine Gh func70 ?_;refine pO [1,0] (s0 12 gl [(1,.ptr (aJ o) 0),(2,.ref 0 0)] [ob 0 25 [iG 0,iG 0,uG 0]] 1 0) [] [hc (eB (gs:=aJ o) aH)] ?_ [] [(0,1)];exact Ar [tN 8 [] 1 [] [.agg (aJ o)] [(0,oO 2 (qc o)),(1,oY (qc o))] (MP gl ho) trivial ⟨⟨rfl,.inl rfl⟩,⟨rfl,.inr ⟨rfl,rY.imm _⟩⟩,trivial⟩,
  tN 9 [1,2] 3 [(1,oO 2 (qc o)),(2,oY (qc o))] [.ref 1 0] [(0,oO 2 (qc o)),(1,oY (qc o)),(2,oY (qc o))] (rS gl (l:=qc o) aa) ⟨⟨rfl,.inl rfl⟩,⟨rfl,.inr ⟨rfl,rY.imm _⟩⟩,trivial⟩ ⟨⟨rfl,.inl rfl⟩,⟨rfl,.inr ⟨rfl,rY.imm _⟩⟩,⟨rfl,.inr ⟨rfl,rY.imm _⟩⟩,trivial⟩,
  hq 10 [sG [111,112],aE cY (qc o)] [hc (rY.al (qc o))] (xd gl ev)] []
end
theorem K6(a b:Nat):wU ((a:Int)*(b:Int))=a*b%18446744073709551616:=by rw[<-Int.natCast_mul,gP]
theorem me(a b:Nat):wU ((a:Int)+(b:Int))=(a+b)%18446744073709551616:=by rw[<-Int.natCast_add,gP]
theorem Zl{b:Nat}(h:b<=a):wU ((a:Int)-(b:Int))=(a-b)%18446744073709551616:=by rw[<-Int.natCast_sub h,gP]
abbrev PF:Nat:=2305843009213693951
theorem TR(a:Nat):Jn a 61=a/2305843009213693952:=rfl
theorem WM(a:Nat):HU a 3=a*8%18446744073709551616:=rfl
theorem TS(h:a<18446744073709551616):bD a 2305843009213693951=a%2305843009213693952:=by unfold bD;rw[Mi h];exact Nat.and_two_pow_sub_one_eq_mod a 61
theorem E0(h:n<18446744073709551616):eR n=some (n%PF):=by
 unfold eR;rw[TS h,TR,me];have e:(n%2305843009213693952+n/2305843009213693952)%18446744073709551616=n%2305843009213693952+n/2305843009213693952:=Mi aa;rw[e];by_cases h1:2305843009213693951<=n%2305843009213693952+n/2305843009213693952
 .rw[CO aa,ax,Zl h1];grind
 grind
theorem Gx{x y:Nat}(hx:x<18446744073709551616)(hy:y<18446744073709551616):sL x y=some (x*y/18446744073709551616,x*y%18446744073709551616):=by unfold sL;rw[CO ⟨hx,hy⟩];rfl
theorem Rt(a b:Nat)(hi lo:Nat)(h:hi*18446744073709551616+lo=a%2305843009213693951*(b%2305843009213693951))(hl:lo<18446744073709551616):hi<288230376151711744/\(lo%2305843009213693951+hi*8)%2305843009213693951=a*b%2305843009213693951:=by have h1:a%2305843009213693951*(b%2305843009213693951)<=2305843009213693950*2305843009213693950:=Nat.mul_le_mul aa aa;rw[Nat.mul_mod a b,<-h];omega
theorem Po{b:Nat}(ha:a<18446744073709551616)(hb:b<18446744073709551616):jZ a b=some (a*b%PF):=by
 unfold jZ;rw[E0 ha,aL,E0 hb,aL];have hA:a%PF<2305843009213693951:=Nat.mod_lt _ BX;have hB:b%PF<2305843009213693951:=Nat.mod_lt _ BX;rw[Gx aa aa,aL];dsimp only;have hlo:a%PF*(b%PF)%18446744073709551616<18446744073709551616:=Nat.mod_lt _ BX;rw[E0 hlo,aL];obtain⟨h1,h2⟩:=Rt a b (a%PF*(b%PF)/18446744073709551616) (a%PF*(b%PF)%18446744073709551616) (Nat.div_add_mod' _ _) hlo;rw[WM,me];generalize a%PF*(b%PF)/18446744073709551616=hi at*;generalize a%PF*(b%PF)%18446744073709551616=lo at*;have e:(lo%PF+hi*8%18446744073709551616)%18446744073709551616=lo%PF+hi*8:=by grind
 grind [E0]
theorem IQ{b:Nat}(ha:a<18446744073709551616)(hb:b<18446744073709551616):wG a b=some ((a+b)%PF):=by unfold wG;have hA:a%PF<2305843009213693951:=Nat.mod_lt _ BX;have hB:b%PF<2305843009213693951:=Nat.mod_lt _ BX;rw[E0 ha,aL,E0 hb,aL,me,E0 (Nat.mod_lt _ BX),aL];congr 1;show(a%2305843009213693951+b%2305843009213693951)%18446744073709551616%2305843009213693951=(a+b)%2305843009213693951;omega
theorem ll{b:Nat}:oQ a b=some (a*b%PF):=rfl
theorem yq{b:Nat}:qi a b=some ((a+b)%PF):=by unfold qi;rw[me];congr 1;show _=(a+b)%2305843009213693951;omega
section
variable {σ1 σ2 ρ1 ρ2:Type}
def Sim(R:σ1->σ2->Prop)(Q:ρ1->ρ2->Prop):σ1⊕ρ1->σ2⊕ρ2->Prop
 | .inl a,.inl b=>R a b
 | .inr a,.inr b=>Q a b
 |_,_=>False
theorem MQ{s1:σ1->Option (σ1⊕ρ1)}{s2:σ2->Option (σ2⊕ρ2)}(R:σ1->σ2->Prop)(Q:ρ1->ρ2->Prop)(h:∀a b,R a b->∀v,s2 b=some v->∃u,s1 a=some u/\Sim R Q u v):∀(n:Nat) (a:σ1) (b:σ2) (r:ρ2),R a b->KN s2 n b=some r->∃q,KN s1 n a=some q/\Q q r
 |0,a,b,r,_,hl=>by cases hl
 |n+1,a,b,r,hR,hl=>by
  unfold KN at hl⊢;cases hb:s2 b with
  |none=>rw[hb] at hl;cases hl
  |some v=>
   rw[hb] at hl;obtain⟨u,hu,hs⟩:=h a b hR v hb;rw[hu];cases u with
   |inl a'=>
    cases v with
    |inl b'=>exact MQ R Q h n a' b' r hs hl
    |inr b'=>exact hs.elim
   |inr a'=>
    cases v with
    |inl b'=>exact hs.elim
    |inr b'=>dsimp only at hl⊢;cases hl;exact⟨a',rfl,hs⟩
theorem Rv{s1:σ1->Option (σ1⊕ρ1)}{s2:σ2->Option (σ2⊕ρ2)}(R:σ1->σ2->Prop)(Q:ρ1->ρ2->Prop)(h:∀a b,R a b->∀v,s2 b=some v->∃u,s1 a=some u/\Sim R Q u v){a:σ1}{b:σ2}{r:ρ2}(hR:R a b)(hl:AA s2 b=some r):∃q,AA s1 a=some q/\Q q r:=MQ R Q h _ a b r hR hl
end
theorem WN(h:n<18446744073709551616):bD n 1=n%2:=by grind [bD]
theorem WO(n:Nat):Jn n 1=n/2:=rfl
theorem CT(n:Nat):n%PF<2305843009213693951:=Nat.mod_lt _ BX
theorem nf(ha:a<18446744073709551616)(hn:n<18446744073709551616)(h:iK a n=some r):j7 a n=some r:=by
 unfold iK at h;obtain⟨x,hx,h⟩:=bS h;cases h;unfold j7;rw[E0 ha,aL];have hst:∀(s t:Nat×Nat×Nat),(λ(s:Nat×Nat×Nat) (t:Nat×Nat×Nat)=>t=(s.2.2,s.1,s.2.1)/\s.1<2305843009213693951/\s.2.1<18446744073709551616/\s.2.2<2305843009213693951) s t->∀v,r6 t=some v->∃u,mW s=some u/\Sim (λ(s:Nat×Nat×Nat) (t:Nat×Nat×Nat)=>t=(s.2.2,s.1,s.2.1)/\s.1<2305843009213693951/\s.2.1<18446744073709551616/\s.2.2<2305843009213693951) (λa b=>a=b) u v:=by
  intro s t hR v hv;obtain⟨b,m,o⟩:=s;obtain⟨rfl,k1,k2,k3⟩:=hR;dsimp only at k1 k2 k3;unfold r6 at hv;unfold mW;dsimp only at hv⊢;rw[WN k2,WO];have hm:∀x y:Nat,x<2305843009213693951->y<2305843009213693951->jZ x y=some (x*y%PF):=by grind [Po]
  rcases bC hv with⟨c,hv⟩|⟨c,hv⟩
  .rw[c,ax];obtain⟨j,hj,hv⟩:=bS hv;obtain⟨w,hw,hv⟩:=bS hv;cases hv;rw[ll] at hw;cases hw;refine⟨.inl (b*b%PF,m/2,j),?_,?_⟩
   .grind [ll]
   .refine⟨?_,CT _,by show m/2<_;omega,?_⟩
    .show(j,b*b%PF,wU ((m/2:Nat):Int))=(j,b*b%PF,m/2);rw[gP,Mi (a:=m/2) aa]
    grind [ll]
  .rw[c,Be];cases hv;exact⟨_,rfl,rfl⟩
 obtain⟨q,h1,h2⟩:=Rv _ _ hst (a:=(a%PF,n,1)) (by grind) hx;rw[h1,h2]
def DB:Nat->Nat->Bq->Fp
 |s,_,[]=>some s
 |s,k,w::r=>(kE s k w).bind λs'=>DB s' (k+1) r
def Z4(s k w:Nat):Nat:=(37*s%PF+(w+(k+1))%PF)%PF
theorem CU{s k w:Nat}(hs:s<18446744073709551616)(hw:w<9223372036854775808)(hk:k<4611686018427387904):∃r,iK (Z4 s k w) 17=some r/\kE s k w=some r/\r<2305843009213693951:=by
 obtain⟨r,h1,h2⟩:=ka (Z4 s k w) (n:=17) BX;refine⟨r,h1,?_,h2⟩;have hp:Z4 s k w<2305843009213693951:=CT _;unfold kE;rw[Po BX hs,aL];have e:wU ((w:Int)+((wU ((k:Int)+((1:Nat):Int)):Nat):Int))=w+(k+1):=by rw[me k 1,me,Mi (show k+1<18446744073709551616 by omega),Mi aa]
 grind [E0,IQ,nf,Z4]
theorem Vi:∀(l:Bq) (s k:Nat),s<18446744073709551616->(∀w∈l,w<9223372036854775808)->k+l.length<4611686018427387904->T (DB s k l) λr=>r<18446744073709551616
 |[],s,k,hs,_,_=>⟨s,rfl,hs⟩
 |w::r,s,k,hs,hw,hk=>by simp only[List.length_cons] at hk;obtain⟨s',h1,h2,h3⟩:=CU (s:=s) (k:=k) (w:=w) hs (hw w aC) aa;unfold DB;exact .eqb h2 (Vi r s' (k+1) aa (by grind) aa)
theorem Au:∀(l m:Bq) (s k:Nat),DB s k (l++m)=(DB s k l).bind λs'=>DB s' (k+l.length) m
 |[],m,s,k=>rfl
 |w::r,m,s,k=>by show(kE s k w).bind (λs'=>DB s' (k+1) (r++m))=((kE s k w).bind λs'=>DB s' (k+1) r).bind _;rw[Option.bind_assoc];congr 1;funext s';rw[Au r m s' (k+1),List.length_cons,Nat.add_assoc,Nat.add_comm 1]
def xi:CD->Nat
 |[]=>0
 |x::r=>x.toNat+256*xi r
theorem Gy:∀l:CD,xi l<256^l.length
 |[]=>BX
 |x::r=>by have:=Gy r;grind [UInt8.toNat_lt,xi]
theorem MR:∀(l m:CD),xi (l++m)=xi l+256^l.length*xi m
 |[],m=>by simp[xi]
 |x::r,m=>by show x.toNat+256*xi (r++m)=x.toNat+256*xi r+256^(r.length+1)*xi m;rw[MR r m,Nat.pow_succ,Nat.mul_add,Nat.mul_comm (256^r.length) 256,Nat.mul_assoc,Nat.add_assoc]
theorem WP{l:CD}(h:l.length<=7):xi l<72057594037927936:=Nat.lt_of_lt_of_le (Gy l) (LD (Nat.pow_le_pow_right BX h) BX)
def ws(b:CD):Bq:=match b with
 |[]=>[]
 |x::r=>xi ((x::r).take 7)::ws ((x::r).drop 7)
 termination_by b.length
 decreasing_by simp;omega
theorem Gz(h:0<b.length):ws b=xi (b.take 7)::ws (b.drop 7):=by cases b<;>grind [ws]
theorem vc:ws []=[]:=by rw[ws]
theorem CV:∀(n:Nat) (b:CD),b.length<=n->(ws b).length<=b.length
 |0,b,h=>by grind [vc]
 |n+1,b,h=>by
  by_cases hb:0<b.length
  .rw[Gz hb,List.length_cons];have:=CV n (b.drop 7) (by rw[List.length_drop];omega);rw[List.length_drop] at this;omega
  grind [vc]
theorem Rx:∀(n:Nat) (b:CD),b.length<=n->∀w∈ws b,w<9223372036854775808
 |0,b,h,w,hw=>by grind [vc]
 |n+1,b,h,w,hw=>by
  by_cases hb:0<b.length
  .rw[Gz hb] at hw;rcases EG.1 hw with rfl|hw
   .grind [WP]
   .exact Rx n (b.drop 7) (by rw[List.length_drop];omega) w hw
  grind [vc]
theorem WQ{a b k:Nat}(h:a<2^k):a|||b*2^k=a+b*2^k:=by grind [Nat.two_pow_add_eq_or_of_lt,Nat.mul_comm]
theorem Zm(k:Nat):256^k=2^(8*k):=by rw[Nat.pow_mul]
theorem IR{q:CD}(hq:q.length<=7):AA (oD q) (0,0)=some (xi q):=by
 refine T.eq (T.loop (λs=>∃i:Nat,s.2=(i:Int)/\i<=q.length/\s.1=xi (q.take i)) (λs=>q.length-s.2.toNat) (by grind [xi]) (by show q.length-_<_;omega) ?_);rintro⟨w,j⟩ ⟨i,rfl,h2,rfl⟩;unfold oD;dsimp only;refine .dec (λh=>?_) λh=>?_
 .unfold ah at h;have hi:i<q.length:=aa;refine .bind (.ix aa (x:=q[i]) (by rw[Fs,DR hi]) ?_);have e8:wI (8*(i:Int))=((8*i:Nat):Int):=by grind [bM]
  refine .bind (x:=wJ _) ⟨8*i,by grind [wJ],?_⟩;refine .some ⟨⟨i+1,aq aa,hi,?_⟩,?_⟩
  .show gM (xi (q.take i)) (HU (wU ((q[i].toNat:Nat):Int)) (8*i))=xi (q.take (i+1));have hx:=q[i].toNat_lt;have hl:=Gy (q.take i);rw[Nv,Nat.min_eq_left h2,Zm] at hl;have hp:(2:Nat)^(8*i)<=2^48:=Nat.pow_le_pow_right BX aa;rw[List.take_succ_eq_append_getElem hi,MR,Nv,Nat.min_eq_left h2,Zm];unfold gM HU;rw[gP,Nat.min_eq_left (by omega:8*i<=64),Mi (a:=q[i].toNat) aa];have hb:q[i].toNat*2^(8*i)<=255*2^48:=Nat.mul_le_mul aa hp;grind [xi,WQ,Nat.mul_comm]
  grind [aq]
 .unfold ah at h;have hi:i=q.length:=aa;refine .some ?_;show xi (q.take i)=_;rw[hi,EQ]
theorem WR:iI 7 (n:Int)=((min 7 n:Nat):Int):=by unfold iI;omega
theorem yr{i:Nat}(hb:b.length<=1099511627776)(hi:i<b.length):mc b (i:Int)=some (b.drop i)/\tq b (wI ((i:Int)+iI 7 (ah (b.drop i))))=some (b.take (i+min 7 (b.length-i)))/\mc (b.take (i+min 7 (b.length-i))) (i:Int)=some ((b.drop i).take 7)/\wI ((i:Int)+7)=((i+7:Nat):Int):=by
 refine⟨?_,?_,?_,?_⟩
 .grind [mc]
 .grind [ah,WR,bM,tq]
 .unfold mc;grind
 grind [bM]
theorem Ry{i:Nat}(hi:i<b.length):ws (b.drop i)=xi ((b.drop i).take 7)::ws (b.drop (i+7)):=by grind [Gz,List.drop_drop]
theorem Vj:((b.take 7)).length<=7:=by rw[Nv];omega
theorem WS(hb:b.length<=1099511627776)(hk:k+b.length<4611686018427387904)(h:DB s k (ws b)=some r):AA (F1 b) ((s,k),0)=some (r,k+(ws b).length):=by
 refine T.eq (T.loop (λx=>∃i:Nat,x.2=(i:Int)/\i<=b.length+6/\x.1.2<=k+i/\DB x.1.1 x.1.2 (ws (b.drop i))=some r/\x.1.2+(ws (b.drop i)).length=k+(ws b).length) (λx=>b.length+7-x.2.toNat) (by grind) (by show b.length+7-_<_;omega) ?_);rintro⟨⟨s1,a⟩,z⟩ ⟨i,rfl,h2,h3,h4,h5⟩;dsimp only at h3 h4 h5;unfold F1;dsimp only;refine .dec (λh=>?_) λh=>?_
 .unfold ah at h;have hi:i<b.length:=aa;obtain⟨c1,c2,c3,c4⟩:=yr hb hi;rw[Ry hi] at h4 h5;refine .eqb c1 (.eqb c2 (.eqb c3 (.eqb (IR Vj) ?_)));unfold DB at h4;obtain⟨s',e1,e2⟩:=bS h4;refine .eqb e1 (.some ⟨⟨i+7,c4,aa,?_,?_,?_⟩,?_⟩)
  .show k1 a<=_;unfold k1;rw[me a 1,Mi aa];omega
  .show DB s' (k1 a) _=_;unfold k1;rw[me a 1,Mi aa];exact e2
  .show k1 a+_=_;unfold k1;rw[me a 1,Mi aa,<-h5,List.length_cons];omega
  grind
 .unfold ah at h;have e:b.drop i=[]:=List.drop_eq_nil_of_le aa;rw[e,vc] at h4 h5;refine .some ?_;show(s1,a)=_;rw[<-h5,<-Bf h4];rfl
theorem OB(hb:b.length<=1099511627776):Cj b=some (ws b):=by
 have hln:=CV _ b (DC _);refine T.eq (T.loop (λx=>∃i:Nat,x.2=(i:Int)/\i<=b.length+6/\x.1++ws (b.drop i)=ws b) (λx=>b.length+7-x.2.toNat) ⟨0,rfl,aa,rfl⟩ (by show b.length+7-_<_;omega) ?_);rintro⟨acc,z⟩ ⟨i,rfl,h2,h3⟩;dsimp only at h3;unfold xZ;dsimp only;refine .dec (λh=>?_) λh=>?_
 .unfold ah at h;have hi:i<b.length:=aa;obtain⟨c1,c2,c3,c4⟩:=yr hb hi;rw[Ry hi] at h3;have hl:=congrArg List.length h3;rw[Uh,List.length_cons] at hl;refine .eqb c1 (.eqb c2 (.eqb c3 (.eqb (IR Vj) (.bind (.app cq (.some ⟨⟨i+7,c4,aa,?_⟩,?_⟩))))));all_goals grind
 .unfold ah at h;have e:b.drop i=[]:=List.drop_eq_nil_of_le aa;rw[e,vc,MG] at h3;exact .some h3
theorem zq(hb:b.length<=1099511627776):LC b=some (ws b):=by
 have hln:=CV _ b (DC _);unfold LC;refine T.eq (.bind (T.loop (λx=>∃i:Nat,x.2=(i:Int)/\i<=b.length+6/\x.1++ws (b.drop i)=ws b) (λx=>b.length+7-x.2.toNat) ⟨0,rfl,aa,rfl⟩ (by show b.length+7-_<_;omega) ?_));rintro⟨acc,z⟩ ⟨i,rfl,h2,h3⟩;dsimp only at h3;unfold qh;dsimp only;refine .dec (λh=>?_) λh=>?_
 .unfold ah at h;have hi:i<b.length:=aa;have c4:=(yr hb hi).2.2.2;rw[Ry hi] at h3;have hl:=congrArg List.length h3;rw[Uh,List.length_cons] at hl;generalize hq:(b.drop i).take 7=q at h3;have hq7:q.length=min 7 (b.length-i):=by rw[<-hq,Nv,List.length_drop]
  have em:iI (ah b) (((i+7:Nat):Int))=((i+q.length:Nat):Int):=by unfold iI ah;omega
  have inner:AA (my b (acc,(i:Int))) (0,wI (iI (ah b) (wI ((i:Int)+7))-1))=some (xi q):=by
   rw[c4,em,bM aa aa];refine T.eq (T.loop (λx=>∃j:Nat,x.2=((i+j:Nat):Int)-1/\j<=q.length/\x.1=xi (q.drop j)) (λx=>(x.2+1-i).toNat) ⟨q.length,aC,DC _,by rw[List.drop_length];rfl⟩ (by grind) ?_);rintro⟨w,y⟩ ⟨j,rfl,c,rfl⟩;unfold my;dsimp only;refine .dec (λhh=>?_) λhh=>?_
   .have hj:0<j:=aa;have hjq:j-1<q.length:=aa;have hx:b[i+(j-1)]?=some q[j-1]:=by grind
    refine .bind (.ix aa (x:=q[j-1]) (by rw[<-hx];congr 1;omega) (.some ⟨⟨j-1,?_,aa,?_⟩,?_⟩))
    .grind [bM]
    .show wU (((wU (((xi (q.drop j):Nat):Int)*((256:Nat):Int)):Nat):Int)+((wU ((q[j-1].toNat:Nat):Int):Nat):Int))=xi (q.drop (j-1));rw[List.drop_eq_getElem_cons hjq,show j-1+1=j by omega];show _=q[j-1].toNat+256*xi (q.drop j);have h6:=Gy (q.drop j);rw[List.length_drop] at h6;have h7:(256:Nat)^(q.length-j)<=256^6:=Nat.pow_le_pow_right BX aa;have hx:=q[j-1].toNat_lt;rw[K6,gP q[j-1].toNat,me,Mi (a:=xi (q.drop j)*256) aa,Mi (a:=q[j-1].toNat) aa,Mi aa];omega
    grind [bM]
   .obtain rfl:j=0:=aa;exact .some rfl
  refine .eqb inner (.bind (.app cq (.some ⟨⟨i+7,c4,aa,?_⟩,?_⟩)));all_goals grind
 .unfold ah at h;have e:b.drop i=[]:=List.drop_eq_nil_of_le aa;rw[e,vc,MG] at h3;exact .some (.some h3)
theorem WT(hl:l.length<=1099511627776)(hw:∀w∈l,w<18446744073709551616)(hk:k+l.length<4611686018427387904)(h:DB s k (l.map (·%PF))=some r):AA (F3 l) ((s,k),0)=some (r,k+l.length):=by
 refine T.eq (T.loop (λx=>∃i:Nat,x.2=(i:Int)/\i<=l.length/\x.1.2=k+i/\DB x.1.1 x.1.2 ((l.drop i).map (·%PF))=some r) (λx=>l.length-x.2.toNat) (by grind) (by show l.length-_<_;omega) ?_);rintro⟨⟨s1,a⟩,z⟩ ⟨i,rfl,h2,h3,h4⟩;dsimp only at h3 h4;subst h3;unfold F3;dsimp only;refine .dec (λh=>?_) λh=>?_
 .unfold ah at h;have hi:i<l.length:=aa;rw[List.drop_eq_getElem_cons hi,E7] at h4;unfold DB at h4;obtain⟨s',e1,e2⟩:=bS h4;refine .bind (.ix aa (x:=l[i]) (by rw[Fs,DR hi]) ?_);refine .eqb (E0 (hw _ (List.getElem_mem hi))) (.eqb e1 (.some ⟨⟨i+1,aq aa,hi,?_,?_⟩,?_⟩))
  .show k1 (k+i)=_;unfold k1;rw[me (k+i) 1,Mi aa];omega
  .show DB s' (k1 (k+i)) _=_;unfold k1;rw[me (k+i) 1,Mi aa];exact e2
  grind [aq]
 .unfold ah at h;obtain rfl:i=l.length:=aa;rw[List.drop_length] at h4;refine .some ?_;show(s1,k+l.length)=_;rw[<-Bf h4]
theorem TT(hs:s<18446744073709551616)(hw:w<9223372036854775808)(hk:k<4611686018427387904)(h:kE s k w=some r):((oQ 37 s).bind λa=>(qi w (k+1)).bind λb=>(qi a b).bind λc=>iK c 17)=some r:=by obtain⟨r',h1,h2,_⟩:=CU hs hw hk;rw[h] at h2;cases h2;rw[ll,aL,yq,aL,yq,aL];exact h1
theorem K7(hl:l.length<=2199023255552)(hw:∀w∈l,w<9223372036854775808)(hs:s<18446744073709551616)(h:DB s 0 l=some r):AA (qj l) (s,0)=some r:=by
 refine T.eq (T.loop (λx=>∃i:Nat,x.2=(i:Int)/\i<=l.length/\x.1<18446744073709551616/\DB x.1 i (l.drop i)=some r) (λx=>l.length-x.2.toNat) ⟨0,rfl,aa,hs,h⟩ (by show l.length-_<_;omega) ?_);rintro⟨s1,z⟩ ⟨i,rfl,h2,h3,h4⟩;dsimp only at h3 h4;unfold qj;dsimp only;refine .dec (λh=>?_) λh=>?_
 .unfold ah at h;have hi:i<l.length:=aa;rw[List.drop_eq_getElem_cons hi] at h4;unfold DB at h4;obtain⟨s',e1,e2⟩:=bS h4;have a:=hw _ (List.getElem_mem hi);obtain⟨r',_,e3,e4⟩:=CU h3 a (show i<4611686018427387904 by omega);rw[e1] at e3;cases e3;have key:=TT h3 a aa e1;have ek:wU (wI ((i:Int)+1))=i+1:=by rw[aq aa,gP];omega
  rw[ek];obtain⟨b,m1,key⟩:=bS key;obtain⟨c,m2,key⟩:=bS key;obtain⟨d,m3,key⟩:=bS key;refine .eqb m1 (.bind (.ix aa (x:=l[i]) (by rw[Fs,DR hi]) (.eqb m2 (.eqb m3 (.eqb key (.some ⟨⟨i+1,aq aa,hi,by show s'<_;omega,e2⟩,?_⟩))))));show l.length-(wI ((i:Int)+1)).toNat<l.length-((i:Int)).toNat;rw[aq aa];omega
 .unfold ah at h;obtain rfl:i=l.length:=aa;rw[List.drop_length] at h4;refine .some ?_;show s1=r;exact Bf h4
theorem K8{v:Bq}(hv:v.length+l.length<=2199023255552):AA (qk l) (v,0)=some (v++l.map (·%PF)):=by
 refine T.eq (T.loop (λx=>∃i:Nat,x.2=(i:Int)/\i<=l.length/\x.1=v++(l.take i).map (·%PF)) (λx=>l.length-x.2.toNat) (by grind) (by show l.length-_<_;omega) ?_);rintro⟨acc,z⟩ ⟨i,rfl,h2,rfl⟩;unfold qk;dsimp only;refine .dec (λh=>?_) λh=>?_
 .unfold ah at h;have hi:i<l.length:=aa;refine .bind (.ix aa (x:=l[i]) (by rw[Fs,DR hi]) (.bind (.app cq (.some ⟨⟨i+1,aq aa,hi,?_⟩,?_⟩))));all_goals grind [List.take_succ_eq_append_getElem,aq]
 .unfold ah at h;obtain rfl:i=l.length:=aa;rw[EQ];exact .some rfl
theorem ET{label:CD}{l:Bq}(h1:label.length<=1000)(h2:l.length<=1099511627776)(hw:∀w∈l,w<18446744073709551616):T (x6 label l) λr=>yA label l=some r/\r<18446744073709551616:=by
 have hln:=CV _ label (DC _);have hwl:∀w∈ws label++[l.length]++l.map (·%PF)++[0],w<9223372036854775808:=λw hm=>by
  simp only[Jk,List.mem_singleton,EP] at hm;rcases hm with((hm|rfl)|⟨x,_,rfl⟩)|rfl
  .exact Rx _ label (DC _) w hm
  all_goals grind
 obtain⟨r,e,hr⟩:=Vi (ws label++[l.length]++l.map (·%PF)++[0]) label.length 0 aa hwl cq;have ew:wU (ah label)=label.length:=by unfold ah;rw[gP];omega
 have el':wU (ah l)=l.length:=by unfold ah;rw[gP];omega
 have eb:Gk label=some label:=by unfold Gk;rw[Bx aa]
 refine⟨r,?_,?_,hr⟩
 .have e:=e;rw[Au,Au,Au] at e;obtain⟨a3,e,b⟩:=bS e;obtain⟨a2,e,f2⟩:=bS e;obtain⟨a1,e,f1⟩:=bS e;unfold x6;rw[eb,aL,ew,el',WS aa aa e,aL];have f1':kE a1 (0+(ws label).length) l.length=some a2:=by unfold DB at f1;obtain⟨q,q1,a⟩:=bS f1;rw[q1];exact a
  dsimp only;rw[f1',aL];have ek:k1 (0+(ws label).length)=0+(ws label++[l.length]).length:=by unfold k1;rw[me _ 1,Mi aa,Uh];simp
  rw[ek,WT h2 hw cq f2,aL];dsimp only;unfold DB at b;obtain⟨q,q1,a⟩:=bS b;rw[show 0+(ws label++[l.length]).length+l.length=0+(ws label++[l.length]++l.map (·%PF)).length by simp;omega,q1];exact a
 .unfold yA;rw[eb,aL,zq aa,aL,el',ew];grind [aT,K8,K7]
theorem xe{label b:CD}(h1:label.length<=1000)(h2:b.length<=1073741824):T (Lz label b) λr=>jI label b=some r/\r<18446744073709551616:=by
 have hln:=CV _ b (DC _);unfold Lz jI;rw[OB aa,aL,zq aa,aL];have el':wU (ah b)=b.length:=by unfold ah;rw[gP];omega
 have a1:aT 8 (ws b) [b.length]=some (ws b++[b.length]):=by grind [aT]
 rw[el',a1,aL,aL];refine(ET h1 cq λw hw=>?_).mono (by grind);simp only[Jk,List.mem_singleton] at hw;rcases hw with hw|rfl
 .have:=Rx _ b (DC _) w hw;omega
 .omega
theorem TU(h:Bb o):T (Rs o) λi=>pV o=some i:=by obtain⟨i,e,e1,e2,e3,_⟩:=wN h;obtain⟨v,f1,f2,_⟩:=xe (label:=[111,112]) (b:=qc o) BX (by have:=yY h;omega);refine⟨i,?_,e⟩;unfold Rs;rw[f1,aL];rw[f2] at e3;cases e3;rw[<-e1,<-e2]
def xh(pub:Nat)(d:Nat)(b:CD):Option (Nat×Nat):=
 (Lz [115,105,103,110,101,100] b).bind λa=>(x6 [115,105,103] ([d,pub,a]:Bq)).bind λc=>some (a,c)
theorem I7{r_:Nat}{r:Nat×Nat}(h:xh pub r_ b=some r):ba prog gl 339 [uG pub,uG r_,aE cY b] (.tup [uG r.1,uG r.2]):=by unfold xh at h;refine Gh func339 ?_;obtain⟨a,e2,h⟩:=bS h;obtain⟨c,e4,h⟩:=bS h;obtain rfl:=Bf h;exact Ar [hf 9 (xd gl e2),hq 15 [sG [115,105,103],aE cW ([r_,pub,a]:Bq)] [hc (rW.al ([r_,pub,a]:Bq))] (ES gl e4)] []
def lq(pub:Nat)(b:CD)(s:Xf):Fl:=
 ((iB pub 1 2305843009213693950).bind λa=>bif(!a)then(some true)else((iB s.R 1 2305843009213693950).bind λc=>bif(!c)then(some true)else((iB s.S 0 2305843009213693949).bind λd=>some (!d)))).bind λg=>bif g then(some false)else((xh pub s.R b).bind λh=>(j7 37 s.S).bind λi=>(j7 pub h.2).bind λe=>(jZ s.R e).bind λf=>some (decide ((i:Int)=(f:Int))))
theorem GF{s:Xf}{r:Bool}(h:lq pub b s=some r):ba prog gl 265 [uG pub,aE cY b,.agg (yy s)] (bG r):=by
 unfold lq at h;refine Gh func265 ?_;refine pO 11100 (s0 46 gl [(0,uG pub),(1,aE cY b),(5,.ref 0 0),(7,.clo (.func 338) [] [])] [ob 0 62 (yy s)] 1 0) [] [hc (aG 20 (.clo (.func 338) [] []) aH)] ?_;obtain⟨j,e4,h⟩:=bS h;refine Ix 11100 (s0 46 gl [(0,uG pub),(1,aE cY b),(5,.ref 0 0),(27,bG j)] [ob 0 62 (yy s)] 1 0) ?_ λkk=>?_
 .rcases bC h with⟨b5,h⟩|⟨b5,h⟩
  .rw[b5];obtain rfl:=Bf h;exact Ar [] []
  .rw[b5];obtain⟨q,e7,h⟩:=bS h;obtain⟨t,k,h⟩:=bS h;obtain⟨l,f,h⟩:=bS h;obtain⟨m,g,h⟩:=bS h;obtain rfl:=Bf h;exact Ar [hf 33 (I7 gl e7),hf 38 (mX gl k),hf 43 (mX gl f),hf 44 (j0 gl g)] []
 obtain⟨n,c,e4⟩:=bS e4;rcases bC e4 with⟨a,e4⟩|⟨a,e4⟩
 .obtain rfl:=Bf e4;exact yl 11100 [hf 12 (GI gl c),hr 13 a] [] kk
 .obtain⟨o,e,e4⟩:=bS e4;rcases bC e4 with⟨d,e4⟩|⟨d,e4⟩
  .obtain rfl:=Bf e4;exact yl 11100 [hf 12 (GI gl c),hr 13 a,hf 18 (GI gl e),hr 20 d] [] kk
  .obtain⟨p,i,e4⟩:=bS e4;obtain rfl:=Bf e4;exact yl 11100 [hf 12 (GI gl c),hr 13 a,hf 18 (GI gl e),hr 20 d,hf 25 (GI gl i)] [] kk
def rU(o:Bp):List (Nat×Bool):=[(1,decide (o.Device≠0)),(2,decide (o.Old≠0)),(4,decide (o.Member≠0)),(8,decide (o.Role≠0)),(16,decide (0<ah o.Path)),(32,!decide (o.Epoch=⟨0,0,0⟩)),(64,decide (o.N≠0)),(128,decide (0<ah o.Body)),(256,decide (0<ah o.Refs)),(512,!decide (o.Of=⟨0,0,0⟩)),(1024,decide (0<ah o.Guards)),(2048,decide (o.Need≠0)),(4096,decide (o.Wait≠0)),(8192,decide (0<ah o.Boxes)),(16384,decide ((o.Pub:Int)≠((0:Nat):Int))),(32768,decide (0<ah o.Hist))]
def K9(q:Nat×Bool):Value×G:=(.int .i64 (.ofNat q.1),bG q.2)
def La:List (Nat×Bool)->Nat
 |[]=>0
 |q::r=>(bif q.2 then q.1 else 0)|||La r
noncomputable def WU:HA:=IF (bq 11100 (ai Tryz.f262))
noncomputable abbrev stP(o:Bp):St:=(s0 75 gl [(1,.ptr (aJ o) 0),(3,iG 0)] [] 0 0)
def hsP(o:Bp):List HP:=[hV 26 (dy o.Epoch ⟨0,0,0⟩ rfl),hV 41 (dy o.Of ⟨0,0,0⟩ rfl)]
theorem Zn(o:Bp):WU.filterMap (mM (iH (stP gl o) (U3 prog (bK (hsP o)) (stP gl o) WU)))=(rU o).map K9:=aH
theorem sY(h:∀q∈L,q.1<1048576){q:Value×G}(hq:q∈L.map K9):∃m b,q.1= .int .i64 (.ofNat m)/\m<1048576/\q.2=bG b:=by obtain⟨x,hx,rfl⟩:=EP.1 hq;exact⟨x.1,x.2,rfl,h x hx,rfl⟩
theorem MS(i:Nat):∀(l:List (Nat×Bool)),(La l).testBit i=true↔∃q∈l,(bif q.2 then q.1 else 0).testBit i=true
 |[]=>by simp[La]
 |q::r=>by unfold La;rw[Nat.testBit_or,Bool.or_eq_true,MS i r];simp
theorem EU(i:Nat):∀(es:oE),(Ck es).testBit i=true↔∃e∈es,(If e.1 e.2.1).testBit i=true
 |[]=>by simp[Ck]
 |e::r=>by unfold Ck;rw[Nat.testBit_or,Bool.or_eq_true,EU i r];simp
theorem IS(q:Nat×Bool):If (K9 q).1 (K9 q).2=bif q.2 then q.1 else 0:=by obtain⟨n,b⟩:=q;cases b<;>rfl
theorem Lb{es:oE}{clock:Nat}(h:X3 (L.map K9) es clock):Ck es=La L:=by
 refine Nat.eq_of_testBit_eq λi=>?_;rw[Bool.eq_iff_iff,EU,MS];constructor
 .grind [X3,IS]
 .rintro⟨q,hq,hb⟩;obtain⟨n,hn⟩:=h.sup (K9 q) (by grind);grind [IS]
abbrev O3:Bo:=138
abbrev Sj(clock:Nat)(seen:Bq):Option Ob:=some ⟨O3,[],some (.iter (some 0) clock seen clock)⟩
abbrev Vk(es:oE)(clock:Nat):Option Ob:=some ⟨O3,[],some (.map es clock)⟩
theorem Zo{P:Br}{t:Bo}{b:Nat}(ha:a<1048576)(hb:b<1048576):∀p q:Dl,b8 P .or t p q (iG (a:Int)) (.lit (.int .i64 (.ofNat b)))=some (iG ((a|||b:Nat):Int)):=by grind [SS]
theorem TV(o:Bp):ba prog gl 262 [.agg (aJ o)] (iG ((La (rU o):Nat):Int)):=by
 refine Gh func262 ?_;refine pO 11100 (stP gl o) [] [hc (eB (gs:=aJ o) aH)] ?_ [] [];refine dMl O3 3 4 74 (hsP o) λes clock hM=>?_;rw[show IF (bq 11100 (ai Tryz.f262))=WU from rfl,Zn gl o] at hM;have hb:∀q∈rU o,q.1<1048576:=λq hq=>by simp only[rU,EG,KY,or_false] at hq;rcases hq with rfl|rfl|rfl|rfl|rfl|rfl|rfl|rfl|rfl|rfl|rfl|rfl|rfl|rfl|rfl|rfl<;>exact E5 rfl
 have him:∀q∈es,bB q.2.1:=by grind [X3,sY,mN]
 have hk:∀e∈es,Wa e.1<2^20:=λe he=>by obtain⟨m,b,e1,e2,_⟩:=sY hb (hM.sub e he);have e1:e.1=_:=e1;rw[e1];exact e2
 have hlt:∀seen,iC seen es<1048576:=λseen=>Ig hk;refine dNx 11101 ?_;refine dRe (s0 75 gl [(3,iG 0),(64,.ref 1 0)] [(1,Sj clock []),(0,Vk es clock)] 2 0) [hc him] ?_ [] [(0,0),(1,1)];refine dMw 64 65 66 0 (iti:=1) (mi:=0) (clock:=clock) (since:=clock) (T:=O3) (ty:=O3) (es:=es) (λseen=>(s0 75 gl [(3,iG ((iC seen es:Nat):Int)),(64,.ref 1 0)] [(1,Sj clock seen),(0,Vk es clock)] 2 0)) (λ_=>True) trivial hM.lt rfl ?_ (λseen=>rfl) (λseen=>rfl) (by grind) (λB seen k g n _ hm hn a=>?_) (λseen _ hs=>?_)
 .rw[Ex];exact Le.refl _
 .obtain⟨m,b,e1,e2,e3⟩:=sY hb (hM.sub _ hm);have e1:k=_:=e1;have e3:g=_:=e3;subst e1 e3;have hge:jr [(1,Sj clock (seen++[n])),(1,Sj clock seen),(0,Vk es clock)] (.ref 1 0)=some (.tup [db (.int .i64 (.ofNat m)),bG b]):=yo (iti:=1) (mi:=0) (since:=clock) (clock:=clock) (T:=O3) (ty:=O3) (seen:=seen) rfl rfl hM.nd hm;have a:=a trivial;rw[Ev hn hm hM.nd] at a;cases b
  .exact jw [YT 67 hge] [hc him] (show B (s0 75 gl [(3,iG ((iC seen es:Nat):Int)),(64,.ref 1 0)] [(1,Sj clock (seen++[n])),(0,Vk es clock)] 2 0) by rw[show iC seen es|||If (.int .i64 (.ofNat m)) (bG false)=iC seen es from Nat.or_zero _] at a;exact a) [] [(0,0),(1,1)]
  .exact jw [YT 67 hge,hV 73 (Zo (P:=prog) (t:=3) (hlt seen) e2)] [hc him] a [] [(0,0),(1,1)]
 .have e:iC seen es=La (rU o):=by rw[Ew hs,Lb hM]
  rw[<-e];exact Ar [] []
def xj(n a b:Int):Bool:=decide (a<=n)&&decide (n<=b)
theorem ib(n a b:Int):FV n a b=some (xj n a b):=by grind [FV,xj]
theorem inT(n a b:Int)(h:xj n a b=true):FV n a b=some true:=by rw[ib,h]
def WV(n:Nat):Bool:=decide ((n:Int)<((2305843009213693951:Nat):Int))
def Rz(i:Ab):Bool:=xj i.By 1 12&&(xj i.Seq 1 2147483647&&WV i.Sum)
theorem GA(n:Nat):Kq n=some (WV n):=by unfold Kq WV;rfl
theorem Zp(x y z:Bool):(((some x).bind λb=>bif b then((some y).bind λc=>bif c then((some z).bind λa=>some a)else(some false))else(some false)).bind λd=>some d)=some (x&&(y&&z)):=by cases x<;>cases y<;>rfl
theorem pS(i:Ab):Al i=some (Rz i):=by have h:=Zp (xj i.By 1 12) (xj i.Seq 1 2147483647) (WV i.Sum);rw[<-ib,<-ib,<-GA] at h;exact h
def Z5(n:Nat):Bool:=decide (((1:Nat):Int)<=(n:Int))&&decide ((n:Int)<((2305843009213693951:Nat):Int))
theorem Zq(y z:Bool):((bif y then(some z)else(some false)).bind λa=>some a)=some (y&&z):=by cases y<;>rfl
theorem rV(n:Nat):rJ n=some (Z5 n):=Zq _ _
def GB(o:Bp):Bool:=bif o.Kind=3 then(xj o.Member 1 8&&decide (o.Device=0))||(decide (o.Member=0)&&decide (o.Device≠0))else xj o.Member 1 8
def GH(o:Bp):Int:=bif o.Kind=3 then 0 else 1
def Sk(o:Bp):Int:=bif o.Kind=1 then 0 else 1
def Sl(o:Bp):Int:=bif o.Kind=1 then 20 else ah o.Guards
def OC(o:Bp):List (Nat×Bool):=[(1,xj o.Device (GH o) 12),(2,xj o.Old 1 12),(4,GB o),(8,xj o.Role 1 3),(64,xj o.N 0 2147483647),(4096,xj o.Wait 0 2147483647),(2048,xj o.Need (Sk o) (Sl o)),(32,Rz o.Epoch),(512,Rz o.Of),(16384,Z5 o.Pub)]
noncomputable def RA:HA:=IF (bq 111111100 (ai Tryz.f263))
noncomputable abbrev Zr(o:Bp)(k:Nat):St:=(s0 136 gl [(1,iG (k:Int)),(2,.ptr (aJ o) 0),(5,iG (GH o)),(6,iG (Sk o)),(7,iG (Sl o)),(8,bG (GB o))] [] 0 0)
def hsR(o:Bp):List HP:=[hf 62 (eE gl (ib o.Device (GH o) 12)),hf 65 (eE gl (ib o.Old 1 12)),hf 69 (eE gl (ib o.Role 1 3)),hf 72 (eE gl (ib o.N 0 2147483647)),hf 75 (eE gl (ib o.Wait 0 2147483647)),hf 80 (eE gl (ib o.Need (Sk o) (Sl o))),hf 83 (pH gl (pS o.Epoch)),hf 86 (pH gl (pS o.Of)),hf 89 (iz gl (rV o.Pub))]
theorem aaY(o:Bp)(k:Nat):RA.filterMap (mM (iH (Zr gl o k) (U3 prog (bK (hsR gl o)) (Zr gl o k) RA)))=(OC o).map K9:=aH
theorem WW{P:Br}{t:Bo}{b:Nat}(ha:a<1048576)(hb:b<1048576):∀p q:Dl,b8 P .and t p q (iG (a:Int)) (.lit (.int .i64 (.ofNat b)))=some (iG ((a&&&b:Nat):Int)):=λp q=>by have e:=V8 (P:=P) (t:=t) (a:Int) (b:Int) p q;refine Eq.trans e ?_;have h1:a&&&b<=a:=Nat.and_le_left;unfold Yn;rw[BitVec.toNat_and,BitVec.toNat_ofInt,BitVec.toNat_ofInt];grind [IntKind.bits,IntKind.wrap]
structure Aj3 (o:Bp) (k:Nat):Prop where
 by_:xj o.By 1 12=true
 seq:xj o.Seq 1 2147483647=true
 at_:xj o.At 0 2147483647=true
 ents:∀q∈OC o,k&&&q.1≠0->q.2=true
 guards:Nw o.Guards (λz=>uR z)=some true
 refs:Nw o.Refs (λz=>Kq z)=some true
 past:Nw o.Past (λz=>Al z)=some true
 path:Nw o.Path (λz=>uP z)=some true
 boxes:Nw o.Boxes (λz=>wB z)=some true
 hist:Nw o.Hist (λz=>uQ z)=some true
theorem IT(hk:k<1048576)(h:Aj3 o k):ba prog gl 263 [.agg (aJ o),iG (k:Int)] (bG true):=by
 refine Gh func263 ?_;refine pO 1111100 (s0 136 gl [(1,iG (k:Int)),(2,.ptr (aJ o) 0),(5,iG 1),(6,iG 1),(7,iG (ah o.Guards)),(8,bG (xj o.Member 1 8))] [] 0 0) [hf 16 (eE gl (inT _ _ _ h.by_)),hf 21 (eE gl (inT _ _ _ h.seq)),hf 27 (eE gl (inT _ _ _ h.at_)),hf 35 (eE gl (ib o.Member 1 8))] [hc (eB (gs:=aJ o) aH)] ?_ [] [];refine Ix 111110 (s0 136 gl [(1,iG (k:Int)),(2,.ptr (aJ o) 0),(5,iG (GH o)),(6,iG 1),(7,iG (ah o.Guards)),(8,bG (GB o))] [] 0 0) ?_ λkk=>?_;rotate_left
 .unfold GH GB at kk;cases e:decide (o.Kind=3) with
  |false=>rw[e] at kk;exact yl 111110 [hr 38 e] [] kk [] []
  |true=>
   rw[e] at kk;simp only[ax] at kk;generalize hm0:xj o.Member 1 8=m0 at kk⊢;cases hD:decide (o.Device=0) with
   |false=>have hD':decide (o.Device≠0)=true:=CO (LR hD);rw[hD,hD'] at kk;cases hM:decide (o.Member=0)<;>rw[hM] at kk<;>cases m0<;>exact yl 111110 [hr 38 e,hr 43 hD,hr 48 hM,hr 52 hD'] [] kk [] []
   |true=>have hD':decide (o.Device≠0)=false:=C6 λh=>h (DL hD);rw[hD,hD'] at kk;cases hM:decide (o.Member=0)<;>rw[hM] at kk<;>cases m0<;>exact yl 111110 [hr 38 e,hr 43 hD,hr 48 hM,hr 52 hD'] [] kk [] []
 refine pO 11111100 (s0 136 gl [(1,iG (k:Int)),(2,.ptr (aJ o) 0),(5,iG (GH o)),(6,iG 1),(7,iG (ah o.Guards)),(8,bG (GB o))] [] 0 0) [] [] ?_ [] [];refine Ix 1111110 (Zr gl o k) ?_ λkk=>?_;rotate_left
 .unfold Zr Sk Sl at kk;cases e:decide (o.Kind=1)<;>rw[e] at kk<;>exact yl 1111110 [hr 57 e] [] kk [] []
 refine pO 111111100 (Zr gl o k) [] [] ?_ [] [];refine dMl O3 3 4 43 (hsR gl o) λes clock hM=>?_;rw[show IF (bq 111111100 (ai Tryz.f263))=RA from rfl,aaY gl o k] at hM;have hb:∀q∈OC o,q.1<1048576:=λq hq=>by simp only[OC,EG,KY,or_false] at hq;grind
 have him:∀q∈es,bB q.2.1:=by grind [X3,sY,mN]
 refine dNx 111111101 ?_;refine dRe (s0 136 gl [(1,iG (k:Int)),(2,.ptr (aJ o) 0),(91,.ref 1 0)] [(1,Sj clock []),(0,Vk es clock)] 2 0) [hc him] ?_ [] [(0,0),(1,1)];refine dMw 91 92 93 0 (iti:=1) (mi:=0) (clock:=clock) (since:=clock) (T:=O3) (ty:=O3) (es:=es) (λseen=>(s0 136 gl [(1,iG (k:Int)),(2,.ptr (aJ o) 0),(91,.ref 1 0)] [(1,Sj clock seen),(0,Vk es clock)] 2 0)) (λ_=>True) trivial hM.lt rfl (Le.refl _) (λseen=>rfl) (λseen=>rfl) (by grind) (λB seen f g n _ hm hn d=>?_) (λseen _ hs=>?_)
 .have hmem:=hM.sub _ hm;obtain⟨⟨m,b⟩,hq,a⟩:=EP.1 hmem;have e1:(.int .i64 (.ofNat m):Value)=f:=congrArg Prod.fst a;have e3:bG b=g:=congrArg Prod.snd a;subst e1 e3;have hm2:m<1048576:=hb _ hq;have hent:=h.ents _ hq;dsimp only at hent;have hge:jr [(1,Sj clock (seen++[n])),(1,Sj clock seen),(0,Vk es clock)] (.ref 1 0)=some (.tup [db (.int .i64 (.ofNat m)),bG b]):=yo (iti:=1) (mi:=0) (since:=clock) (clock:=clock) (T:=O3) (ty:=O3) (seen:=seen) rfl rfl hM.nd hm;have hVa:∀p q:Dl,b8 prog .and 3 p q (iG (k:Int)) (.lit (.int .i64 (.ofNat m)))=some (iG ((k&&&m:Nat):Int)):=WW hk hm2;by_cases h0:k&&&m=0
  .exact jw [YT 94 hge,hV 99 hVa,hr 100 (show decide (((k&&&m:Nat):Int)≠0)=false from C6 aa)] [hc him] (d trivial) [] [(0,0),(1,1)]
  .obtain rfl:b=true:=hent h0;exact jw [YT 94 hge,hV 99 hVa,hr 100 (show decide (((k&&&m:Nat):Int)≠0)=true from CO aa)] [hc him] (d trivial) [] [(0,0),(1,1)]
 .exact Ar [hz 108 [] (jf (c:=2) aH (FW gl (⟨aH,bf,eB aH,λ_ _ e=>Dw gl e⟩) h.guards) (eB aH)),
   hz 112 [] (jf (c:=2) aH (zL gl (⟨aH,bf,eB aH,λ_ _ e=>Ak gl e⟩) h.refs) (eB aH)),
   hz 117 [] (jf (c:=2) aH (Ch gl (⟨aH,bf,eB aH,λ_ _ e=>pH gl e⟩) h.past) (eB aH)),
   hz 123 [] (jf (c:=2) aH (tK gl (⟨aH,bf,eB aH,λ_ _ e=>Du gl e⟩) h.path) (eB aH)),
   hz 128 [] (jf (c:=2) aH (wA gl (⟨aH,bf,eB aH,λ_ _ e=>Cf gl e⟩) h.boxes) (eB aH)),
   hz 134 [] (jf (c:=2) aH (pY gl (⟨aH,bf,eB aH,λ_ _ e=>Dv gl e⟩) h.hist) (eB aH))] []
end Go.Proofs.YtghphhhpagagbaaGreatDoor
