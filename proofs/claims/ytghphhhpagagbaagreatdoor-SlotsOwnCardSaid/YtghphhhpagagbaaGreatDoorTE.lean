/- SlotsOwn: the law's walk. -/
import Derived.Test.YtghphhhpagagbaaGreatDoorJF
namespace Go.Proofs.YtghphhhpagagbaaGreatDoor
set_option linter.unusedSectionVars false
set_option linter.unusedVariables false
set_option linter.unusedSimpArgs false
open Go.RowKit Tryz
attribute [local irreducible] Tr dz Gp
theorem AgL(D:ba prog fI 19 [] (bG true)){l:Bj}(hl:l.length<=9223372036854775807)(hi:∀x∈l,c8 x):ba prog fI 5 [aE cZ l] (bG true):=by
 obtain⟨r,m,N,P,h14,hkn,K,Y,hM⟩:=Z2 hl hi;have w:=P.w;have nI:=w.nI;obtain⟨al,a1,_,a2,a3⟩:=AeS P h14;obtain⟨row,c1,_,_,_,c4⟩:=Pw P h14 hkn a2 a3;have hcs:∀x∈row.filter (TD r (CA r m N)),TD r (CA r m N) x=true:=λx hx=>(Hj.1 hx).2;have c5:(row.filter (TD r (CA r m N))).length<=14:=JD (KY ..) c4;generalize row.filter (TD r (CA r m N))=cs at*;have hI:=YF (VB w P.p);have hN:=λx=>Abc P h14 hkn x;have e:=hI.op;simp only[Ag,RJ] at a1 c1 hN e;refine Gh func5 ?_;refine pO 11110 (s0 131 fI [(3,Z8 r.Cards m N),(4,.ptr (aI r) 0)] [] 0 0) [tN 18 [] 0 [] [aE cZ l] [ob 0 111 [aE bv r.Cards,.mref 1,.rsl 2 0 N.length],(1,oM m),(2,zQ N)] hM trivial ⟨⟨rfl,.inl rfl⟩,⟨rfl,rfl,rfl,rfl,.inr ⟨rfl,cf _⟩⟩,⟨rfl,.inr ⟨rfl,az.imm _⟩⟩,trivial⟩] [hc (cf m),hc (az.al N),hc (eB (gs:=[aE bv r.Cards,gMp m,aE d7 N]) aH),hc (eB (gs:=aI r) aH)] ?_;refine pN (λk:Nat=>(s0 131 fI [(3,Z8 r.Cards m N),(4,.ptr (aI r) 0),(5,aE aj cs),(6,iG (k:Int))] [] 0 0)) 111110122 (DV (n:=cs.length) aa) [hf 25 a1,hf 26 c1] [] (λB k u hs k5 Z=>?_);unfold Ja at hs;split at hs
 .rename_i hlt;obtain rfl:=A9 hs;obtain⟨x,hx⟩:∃x,cs[k]?=some x:=⟨_,DQ hlt⟩;have hz:=AH hx;have k5:=k5 _ rfl;have f:=hcs x (bO hx);obtain⟨i,o,i1,L,g,M,i5,i6,C,O,i9,E,F⟩:=ZZ P h14 hkn f;obtain⟨_,_,_,q1,_,q2⟩:=Ac0 P h14 E (hkn i o L) (by have:=F.kind;omega);obtain⟨v,ev,W,X,J,_⟩:=yf w (ids:=[x]) aC;obtain⟨A,Q,_,H,R,S⟩:=Pw P h14 hkn W X;have hv:∀y∈v,y=x\/(CA r m N).bef y x=true:=λy hy=>by
   rcases(J y).1 hy with⟨j,e1,z,hz,n,h1,h2⟩|⟨h,_⟩
   .rw[List.mem_singleton.1 hz] at h1;exact .inr (by rw[AcD w P.p,NR w e1,h1];exact h2)
   .exact .inl (by simpa using h)
  have hkey:=λ(n:Nat) (s:Bj) (hn:(M4 r o)[n]?=some s)=>AgS (I:=CA r m N) (ss:=λx=>M4 r ((CA r m N).o x)) (row:=A) (p:=TD r (CA r m N)) (c:=x) (s:=s) (n:=n) R (H.mem_iff.2 ((J x).2 (.inr ⟨aC,bO i1⟩))) (λy hy hne=>by have:=(hv y (H.mem_iff.1 hy)).resolve_left hne;exact⟨this,AgQ P this⟩) f (by rw[g];exact C) (by rw[g];exact hn)
  have hK:=λ(s:Bj) (hs:s.length<=1000000)=>UR P h14 hkn S Q (set:=s) hs;have hS:=hN x;have hO:=e x;rw[g,M] at hO;rw[g] at hS;have hPath:=Aa8 (gl:=fI) (l:=Aa9 r o) (d:=o.By) aa;simp only[Ag,RJ] at q1 hK;rw[<-O] at hPath;generalize M4 r o=T at*;have t1:=C.n;have hT:=Abd (gl:=fI) (l:=T) aa λq hq=>by have:=C.m q hq;omega
  have U:=ua fI ev;refine pN (λn:Nat=>(s0 131 fI [(3,Z8 r.Cards m N),(4,.ptr (aI r) 0),(5,aE aj cs),(6,iG (k:Int)),(7,.ptr (aJ o) 0),(9,aE Jc T),(12,aE aj v),(13,iG (n:Int))] [] 0 0)) 1111101221021111111122 (DV (n:=T.length) aa) [hr 30 (C5 hx),AA 37 (ac.ixZ hz),AA 38 (ac.ptZ aW hz),hf 39 hO,AA 45 (ac.ixZ hz),AA 46 (ac.ptZ aW hz),hf 47 hS,hr 56 (show decide ((T.length:Int)≠ah o.Path)=false by unfold ah;rw[i6];simp),hf 60 q1,hf 63 hPath,hf 66 hT,AA 72 (ac.ixZ hz),AA 73 (ac.ptZ aW hz),ho 75 [.agg (aI r),aE aj [x]] [hc (ac.al [x])] U (kF v)] [hc (eB (gs:=aJ o) aH),hc (ac.al v)] (λB' n u hs b V=>?_);unfold Ja at hs;split at hs
  .rename_i hlt;obtain rfl:=A9 hs;obtain⟨s,hs⟩:∃s,T[n]?=some s:=⟨_,DQ hlt⟩;have a:=AH hs;have b:=b _ rfl;have hsl:=C.m s (bO hs);have h1:=hK s aa;rw[hkey n s hs] at h1;obtain⟨y,hy⟩:∃y,o.Path[n]?=some y:=⟨_,DQ aa⟩;have t:=AH hy;have hpu:UB (CA r m N) x n=y.Pub:=by unfold UB;rw[g,hy];rfl
   rw[hpu] at h1;exact jw [hr 79 (C5 hs),AA 87 (nH.ixZ a),AA 88 (nH.p1Z Vs a),hf 89 h1,AA 99 (ac.ixZ hz),AA 100 (ac.ptZ aW hz),hV 101 (dy x x (r:=false) aC),hr 107 (neZ (n:Int)),AA 115 (bZ.ixZ t),AA 117 (bZ.fdZ tW 0 t),hr 118 (neZ (y.Pub:Int)),AA 125 (nH.ixZ a),AA 126 (nH.p1Z Vs a),hf 127 (UT (gl:=fI) (l:=s) aa),hbb 81 (Xl (q:=n) aa)] [] b []
  .split at hs
   .rename_i he;subst he;exact jw [hr 79 (DG (s:=T)),hbb 32 (Xl (q:=k) aa)] [] k5 []
   .cases hs
 .split at hs
  .rename_i he;subst he;exact Ar [hr 30 (DG (s:=cs)),hf 130 D] []
  .cases hs
end Go.Proofs.YtghphhhpagagbaaGreatDoor
