/- EpochNow: the law's walk. -/
import Derived.Test.YtlijnaneopediaaGreatDoorW6
namespace Go.Proofs.YtlijnaneopediaaGreatDoor
set_option linter.unusedSectionVars false
set_option linter.unusedVariables false
set_option linter.unusedSimpArgs false
open Go.RowKit Tryz
attribute [local irreducible] Tr dz Gp
theorem Ae3(e:ba prog fI 20 [] (bG true)){l pt:Bh}(hl:l.length<=9223372036854775807)(hi:∀x∈l,DW x)(_:pt.length<=9223372036854775807)(hp:∀x∈pt,DW x):ba prog fI 3 [aE cZ l,aE cZ pt] (bG true):=by
 obtain⟨r,m,N,j,P,a,_,hgr,hC,hM⟩:=Np hl hi;have hM:=QM j hM;have w:=P.w;have nI:=w.nI;have hkn:=AdQ w;obtain⟨v,ev,f,n⟩:=WY w w.nd hp;obtain⟨cs,R,D,q,_,_,_,c4,_,c6,c7,_,_,_,_,g⟩:=Acc P a hkn f n;obtain⟨_,d,_,c⟩:=g v (.refl _);have d:=ac.fo d;have hl1:(Hi (Bw r m N) cs).length<=14:=JF (KZ ..) c4;have hvl:v.length<=1000:=f.len;have hdv:=λx (hx:x∈r.IDs)=>Aa7 P a hkn hx;have e1:=ac.fo (Ou fI ev);have e2:=ac.fo (R4 fI c6);have e3:=Uc fI c7;have e4:=Sh (gl:=fI) (l:=Hi (Bw r m N) cs) aa;have hb:∀(b:Bool) (p q:Dq),b8 prog .neq 4 p q (bG b) (bG b)=some (bG false):=λb p q=>by cases b<;>kernel_rfl
 generalize Hi (Bw r m N) cs=L at*;simp only[Ag,RJ] at d c hdv;refine Gh func3 ?_;refine pO 11110 (s0 74 fI [(1,aE cZ pt),(5,Z8 r.Cards m N),(6,.ptr (aI r) 0)] [] 0 0) [tN 15 [] 0 [] [aE cZ l] [ob 0 105 [aE bv r.Cards,.mref 1,.rsl 2 0 N.length],(1,oM m),(2,zQ N)] hM trivial ⟨⟨rfl,.inl rfl⟩,⟨rfl,rfl,rfl,rfl,.inr ⟨rfl,cf _⟩⟩,⟨rfl,.inr ⟨rfl,az.imm _⟩⟩,trivial⟩] [hc (cf m),hc (az.al N),hc (eB (gs:=[aE bv r.Cards,gMp m,aE d7 N]) aH),hc (eB (gs:=aI r) aH)] ?_;refine pO 111111100 (s0 74 fI [(5,Z8 r.Cards m N),(6,.ptr (aI r) 0),(7,aE aj v),(8,.ptr (aj q.1) 0),(9,bG q.2),(10,.ptr (aj q.1) 0),(11,bG q.2)] [] 0 0) [hf 22 e1,hf 26 c,hf 32 e3] [hc (eB (gs:=aj q.1) aH),hc (eB (gs:=aj q.1) aH)] ?_;refine Un (l:=v) aa (λk:Nat=>(s0 74 fI [(5,Z8 r.Cards m N),(6,.ptr (aI r) 0),(7,aE aj v),(12,iG (k:Int))] [] 0 0)) 111111110122 [hV 37 (dy q.1 q.1 (r:=false) aC),hV 41 (hb q.2),hf 46 d,hf 49 e2,hf 50 e4] [] (λB k x hx hz k5=>?_) (λB=>?_)
 .have hlt:=(cr hx).1;obtain⟨h,i,t⟩:=hdv x (f.sub x (bO hx));exact jw [hr 56 (CM hx),Az 62 (ac.ixZ hz),Az 63 (ac.ptZ aW hz),hf 64 (rZ.fo i),Az 68 (ac.ixZ hz),Az 69 (ac.ptZ aW hz),hf 70 (rZ.fo (M3 fI h)),hf 71 (Vm (gl:=fI) (l:=Sg r ((Bw r m N).o x)) aa),hbb 58 (Xl (q:=k) aa)] [] k5 []
 .exact Ar [hr 56 (DH (s:=v)),hf 73 e] []
end Go.Proofs.YtlijnaneopediaaGreatDoor
