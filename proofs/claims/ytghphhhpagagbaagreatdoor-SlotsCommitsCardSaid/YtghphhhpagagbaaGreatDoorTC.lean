/- SlotsCommits: the law's walk. -/
import Derived.Test.YtghphhhpagagbaaGreatDoorJF
namespace Go.Proofs.YtghphhhpagagbaaGreatDoor
set_option linter.unusedSectionVars false
set_option linter.unusedVariables false
set_option linter.unusedSimpArgs false
open Go.RowKit Tryz
attribute [local irreducible] Tr dz Gp
theorem AeN{l:Bf}{x:Ab}:nA l x=decide (x∈l):=by unfold nA;rw[Bool.eq_iff_iff,List.any_eq_true,decide_eq_true_iff];simp
theorem AeO{l:Bf}(x:Ab)(hn:l.length<=1000):ba prog fI 18 [aE aj l,.agg (aj x)] (bG (decide (x∈l))):=jM fI (by rw[kf aa,AeN])
theorem AgK(a:ba prog fI 19 [] (bG true)){l pt:Bj}(hl:l.length<=9223372036854775807)(hi:∀x∈l,c8 x)(_:pt.length<=9223372036854775807)(hp:∀x∈pt,c8 x)(x:Ab):ba prog fI 3 [aE cZ l,aE cZ pt,.agg (aj x)] (bG true):=by
 obtain⟨r,m,N,P,h14,hkn,b,g,hM⟩:=Z2 hl hi;have w:=P.w;have nI:=w.nI;obtain⟨v,ev,e,f⟩:=Aba w w.nd hp;obtain⟨row,c1,c2,c3,_,c4⟩:=Pw P h14 hkn e f;have c5:(row.filter (TD r (CA r m N))).length<=14:=JD (KY ..) c4;have hS:=λx=>Abb P h14 hkn x;have hN:=λx=>Abc P h14 hkn x;generalize row.filter (TD r (CA r m N))=cs at*;have e1:=ac.fo (SE fI ev);have e2:=ac.fo (XX fI c2);have e3:=Ab7 (gl:=fI) (l:=cs) aa;simp only[Ag,RJ] at c1 hN;refine Gh func3 ?_;refine pO 11110 (s0 68 fI [(1,aE cZ pt),(5,.ptr (aj x) 0),(7,Z8 r.Cards m N),(8,.ptr (aI r) 0)] [] 0 0) [tN 14 [] 1 [] [aE cZ l] [ob 0 111 [aE bv r.Cards,.mref 2,.rsl 3 0 N.length],(1,oM m),(2,zQ N)] hM trivial ⟨⟨rfl,.inl rfl⟩,⟨rfl,rfl,rfl,rfl,.inr ⟨rfl,cf _⟩⟩,⟨rfl,.inr ⟨rfl,az.imm _⟩⟩,trivial⟩] [hc (eB (gs:=aj x) aH),hc (cf m),hc (az.al N),hc (eB (gs:=[aE bv r.Cards,gMp m,aE d7 N]) aH),hc (eB (gs:=aI r) aH)] ?_;refine pN (λk:Nat=>(s0 68 fI [(5,.ptr (aj x) 0),(7,Z8 r.Cards m N),(8,.ptr (aI r) 0),(10,iG (k:Int))] [] 0 0)) 1111110122 (DV (n:=r.IDs.length) aa) [hf 21 e1,hf 24 c1,hf 27 e2,hf 28 e3] [] (λB k u hs k5 h=>?_);unfold Ja at hs;split at hs
 .rename_i hlt;obtain rfl:=A9 hs;obtain⟨y,hy⟩:∃y,r.IDs[k]?=some y:=⟨_,DQ hlt⟩;have hz:=AH hy;have k5:=k5 _ rfl;obtain⟨_,s1,_,s3⟩:=hS y;have c:=nH.fo (Ab6 fI s3);have d:=Abd (gl:=fI) (l:=M4 r ((CA r m N).o y)) (by have:=s1.n;omega) λq hq=>by have:=s1.m q hq;omega
  exact jw [hr 34 (C5 hy),AA 41 (ac.ixZ hz),AA 42 (ac.ptZ aW hz),hf 43 (hN y),AA 48 (ac.ixZ hz),AA 49 (ac.ptZ aW hz),hf 50 c,hf 51 d,hbb 36 (Xl (q:=k) aa)] [] k5 []
 .split at hs
  .rename_i he;subst he;have h1:=AeO (l:=r.IDs) x aa;obtain⟨_,_,s2,_⟩:=hS x;have s3:=hN x;by_cases hx:x∈r.IDs
   .rw[C6 hx] at h1;exact Ar [hr 34 (DG (s:=r.IDs)),hf 57 h1,hf 66 a] []
   .rw[Dd hx] at h1;rw[s2 hx] at s3;exact Ar [hr 34 (DG (s:=r.IDs)),hf 57 h1,hf 61 s3,hf 66 a] []
  .cases hs
end Go.Proofs.YtghphhhpagagbaaGreatDoor
