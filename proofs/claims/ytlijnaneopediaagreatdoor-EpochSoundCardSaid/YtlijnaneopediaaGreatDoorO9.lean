/- epoch.Sound: the walk. -/
import Derived.Test.YtlijnaneopediaaGreatDoorO8
namespace Go.Proofs.YtlijnaneopediaaGreatDoor
set_option linter.unusedSectionVars false
set_option linter.unusedVariables false
set_option linter.unusedSimpArgs false
open Go.RowKit Tryz
attribute [local irreducible] Tr dz Gp
variable {a b c:Int}
section
variable {gl:Cd} {gg:Aj} {I:Gi} {o:Bj} {x:Ab} {p:A3}
theorem Ud(b:Bool)(e:Int):ba prog gl 93 [bG b,iG e] (iG (bif b then 0 else e)):=by refine Gh func93 ?_;cases b<;>exact Ar [] []
abbrev Aha(gg:Aj)(x:Ab)(p:A3):Bk:=[.ptr [.ptr (Ag gg) 0] 0,.ptr [aE aj p] 0,.ptr (aj x) 0]
abbrev Ahb(gg:Aj)(o:Bj)(p:A3):Bk:=[.ptr [.ptr (Ag gg) 0] 0,.ptr [aE aj p] 0,.ptr (aJ o) 0]
abbrev Ahc(gg:Aj)(o:Bj)(p:A3):Bk:=[.ptr [aE aj p] 0,.ptr [.ptr (Ag gg) 0] 0,.ptr (aJ o) 0]
theorem Ahd{e:Int}(hp:p.length<=1000)(a:ba prog gl 91 [.ptr (Ag gg) 0,aE aj (p++[x]),.agg (aj x)] (iG e)):ba prog gl 90 (Aha gg x p) (iG e):=by
 have hcl:cU p=some p:=by grind [cU,aT]
 refine Gh func90 ?_;exact Ar [ho 6 [aE aj p] [] (jY gl hcl) (Zy _),Tn 9 ac 24 p x aa,hq 11 [.ptr (Ag gg) 0,aE aj (p++[x]),.agg (aj x)] [hc (ac.al (p++[x]))] a] []
theorem Ahe{q:Ab×Bool}(hN:ba prog gl 12 [.ptr (Ag gg) 0,aE aj p] (.tup [.agg (aj q.1),bG q.2])):ba prog gl 92 (Ahb gg o p) (iG (bif q.2&&decide (q.1=o.Epoch)then 0 else 23)):=by
 refine Gh func92 ?_;obtain⟨c,b⟩:=q;cases b with
 |false=>exact Ar [hf 9 hN,hf 19 (Ud (gl:=gl) false 23)] []
 |true=>
  have h:=Ud (gl:=gl) (decide (c=o.Epoch)) 23;cases e:decide (c=o.Epoch) with
  |false=>rw[e] at h;exact Ar [hf 9 hN,hV 17 (dU c o.Epoch e),hf 19 h] []
  |true=>rw[e] at h;exact Ar [hf 9 hN,hV 17 (dU c o.Epoch e),hf 19 h] []
theorem Ahf(hI:Pa gl gg I)(hp:p.length<=1000):ba prog gl 94 (Ahc gg o p) (iG (bif (JT I p o.By o.Epoch:Int)=o.N then 0 else 11)):=by
 refine Gh func94 ?_;refine Un (l:=p) aa (λk:Nat=>(s0 46 gl [(1,.ptr [.ptr (Ag gg) 0] 0),(2,.ptr (aJ o) 0),(4,iG (JT I (p.take k) o.By o.Epoch:Int)),(9,aE aj p),(10,iG (ah p)),(11,iG (k:Int))] [] 0 0)) 1110122 [] [] (λB k y hy hz k5=>?_) (λB=>?_)
 .have hlt:=(cr hy).1;have hn:JT I (p.take k) o.By o.Epoch<=k:=JF (KZ ..) (by rw[LL];omega);rw[show JT I (p.take (k+1)) o.By o.Epoch=JT I (p.take k) o.By o.Epoch+(bif aad (I.o y) o.By o.Epoch then 1 else 0) by unfold JT;rw[Hp,hy,Option.toList_some,O7,Ub];cases h:aad (I.o y) o.By o.Epoch<;>simp[h]] at k5
  generalize JT I (p.take k) o.By o.Epoch=n at hn k5⊢;have a:=hI.op y;generalize I.o y=u at a k5;unfold aad at k5;cases c1:decide (u.Kind=6) with
  |false=>rw[c1] at k5;exact jw [hr 12 (CM hy),Az 13 (ac.ixZ hz),Az 14 (ac.ptZ aW hz),hf 18 a,hr 23 c1,hbb 40 (Xl (q:=k) aa)] [] k5 []
  |true=>
   rw[c1,ax] at k5;cases c2:decide (u.By=o.By) with
   |false=>rw[c2] at k5;exact jw [hr 12 (CM hy),Az 13 (ac.ixZ hz),Az 14 (ac.ptZ aW hz),hf 18 a,hr 23 c1,hr 29 c2,hbb 40 (Xl (q:=k) aa)] [] k5 []
   |true=>
    rw[c2,ax] at k5;cases c3:decide (u.Epoch=o.Epoch) with
    |false=>rw[c3] at k5;exact jw [hr 12 (CM hy),Az 13 (ac.ixZ hz),Az 14 (ac.ptZ aW hz),hf 18 a,hr 23 c1,hr 29 c2,hV 36 (dU u.Epoch o.Epoch c3),hbb 40 (Xl (q:=k) aa)] [] k5 []
    |true=>rw[c3] at k5;exact jw [hr 12 (CM hy),Az 13 (ac.ixZ hz),Az 14 (ac.ptZ aW hz),hf 18 a,hr 23 c1,hr 29 c2,hV 36 (dU u.Epoch o.Epoch c3),hbb 39 (Xl (q:=n) aa),hbb 40 (Xl (q:=k) aa)] [] k5 []
 .rw[D3];generalize JT I p o.By o.Epoch=n;have h:=Ud (gl:=gl) (decide ((n:Int)=o.N)) 11;cases c:decide ((n:Int)=o.N) with
  |false=>rw[c] at h;exact Ar [hr 12 (DH (s:=p)),hr 44 c,hf 45 h] []
  |true=>rw[c] at h;exact Ar [hr 12 (DH (s:=p)),hr 44 c,hf 45 h] []
def AdS(a b c:Int):Int:=bif a≠0 then a else bif b≠0 then b else c
def Ahg(a b c:Int):Nat->Option (Nat⊕Int)
 |0=>bif a≠0 then some (.inr a)else some (.inl 1)
 |1=>bif b≠0 then some (.inr b)else some (.inl 2)
 |2=>bif c≠0 then some (.inr c)else some (.inl 3)
 |3=>some (.inr 0)
 |_=>none
theorem Ajm{a b c:Int}:AB (Ahg a b c) 0=some (AdS a b c):=T.eq (T.loop (λk=>k<=3/\(1<=k->a=0)/\(2<=k->b=0)/\(3<=k->c=0)) (λk=>4-k) ⟨aa,aa,aa,aa⟩ B5 λk ⟨h0,h1,h2,h3⟩=>by
 unfold AdS;match k,h0 with
 |0,_=>exact .dec (λh=> .some (show a=_ by simp[h])) λh=> .some ⟨⟨aa,λ_=>aa,aa,aa⟩,aa⟩
 |1,_=>exact .dec (λh=> .some (show b=_ by simp[h,h1 aa])) λh=> .some ⟨⟨aa,λ_=>h1 aa,λ_=>aa,aa⟩,aa⟩
 |2,_=>exact .dec (λh=> .some (show c=_ by simp[h1 aa,h2 aa])) λh=> .some ⟨⟨aa,λ_=>h1 aa,λ_=>h2 aa,λ_=>aa⟩,aa⟩
 |3,_=>exact .some (show(0:Int)=_ by simp[h1 aa,h2 aa,h3 aa]))
abbrev snR(gg:Aj)(o:Bj)(x:Ab)(p:A3):Bk:=[.clo (.func 90) [] (Aha gg x p),.clo (.func 92) [] (Ahb gg o p),.clo (.func 94) [] (Ahc gg o p)]
theorem AdT(h1:ba prog gl 90 (Aha gg x p) (iG a))(h2:ba prog gl 92 (Ahb gg o p) (iG b))(h3:ba prog gl 94 (Ahc gg o p) (iG c)):ba prog gl 89 [.sl (snR gg o x p) 3] (iG (AdS a b c)):=by
 refine Gh func89 ?_;refine pN (λk:Nat=>(s0 18 gl [(6,.sl (snR gg o x p) 3),(7,iG 3),(8,iG (k:Int))] [] 0 0)) 110122 (Ajm (a:=a) (b:=b) (c:=c)) [] [] (λB k w hs k5 e=>?_);match k with
 |0=>
  unfold Ahg at hs;rcases bC hs with⟨d,hs⟩|⟨d,hs⟩
  .cases hs;rw[<-e _ rfl];exact Ar [hf 13 h1,hr 15 d] []
  .cases hs;exact jw [hf 13 h1,hr 15 d] [] (k5 _ rfl) []
 |1=>
  unfold Ahg at hs;rcases bC hs with⟨d,hs⟩|⟨d,hs⟩
  .cases hs;rw[<-e _ rfl];exact Ar [hf 13 h2,hr 15 d] []
  .cases hs;exact jw [hf 13 h2,hr 15 d] [] (k5 _ rfl) []
 |2=>
  unfold Ahg at hs;rcases bC hs with⟨d,hs⟩|⟨d,hs⟩
  .cases hs;rw[<-e _ rfl];exact Ar [hf 13 h3,hr 15 d] []
  .cases hs;exact jw [hf 13 h3,hr 15 d] [] (k5 _ rfl) []
 |3=>cases hs;rw[<-e _ rfl];exact Ar [] []
 |k+4=>cases hs
theorem Ae2(hI:Pa gl gg I)(ho:I.op x=some o)(f:iV prog gl 88 [.ptr (Ag gg) 0,aE aj [x]] 36 p.length (p.flatMap aj))(h1:ba prog gl 90 (Aha gg x p) (iG a))(h2:ba prog gl 92 (Ahb gg o p) (iG b))(h3:ba prog gl 94 (Ahc gg o p) (iG c)):ba prog gl 37 [.ptr (Ag gg) 0,.agg (aj x)] (iG (bif o.Kind≠6 then 1 else AdS a b c)):=by
 have d:=hI.op x;rw[show I.o x=o by unfold Gi.o;rw[ho];rfl] at d;have e:=AdT h1 h2 h3;refine Gh func37 ?_;cases c:decide (o.Kind≠6) with
 |true=>exact Ar [hf 11 d,hr 16 c] []
 |false=>refine pO 111110 (s0 26 gl [(2,.ptr [.ptr (Ag gg) 0] 0),(3,.ptr (aj x) 0),(5,.ptr (aJ o) 0),(7,.ptr [aE aj p] 0)] [] 0 0) [hf 11 d,hr 16 c,Go.Proofs.YtlijnaneopediaaGreatDoor.ho 20 [.ptr (Ag gg) 0,aE aj [x]] [hc (ac.al [x])] f (kF p)] [hc (eB (gs:=[.ptr (Ag gg) 0]) aH),hc (eB (gs:=aj x) aH),hc (eB (gs:=aJ o) aH),hc (ac.al p),hc (eB (gs:=[aE aj p]) aH)] ?_;exact Ar [hq 25 [.sl (snR gg o x p) 3] [hc (p:=(snR gg o x p).length=3*1/\(∀z∈snR gg o x p,bB z)/\3=3) ⟨rfl,eB aH,rfl⟩] e] []
end
end Go.Proofs.YtlijnaneopediaaGreatDoor
