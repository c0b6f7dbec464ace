/- EpochLast: the law's walk. -/
import Derived.Test.YtlijnaneopediaaGreatDoorO7
namespace Go.Proofs.YtlijnaneopediaaGreatDoor
set_option linter.unusedSectionVars false
set_option linter.unusedVariables false
set_option linter.unusedSimpArgs false
open Go.RowKit Tryz
attribute [local irreducible] Tr dz Gp
theorem Ae5{l:A3}{x:Ab}:nA l x=decide (x∈l):=by unfold nA;rw[Bool.eq_iff_iff,List.any_eq_true,decide_eq_true_iff];simp
theorem Wv{l:A3}(x:Ab)(hn:l.length<=1000):ba prog fI 22 [aE aj l,.agg (aj x)] (bG (decide (x∈l))):=jM fI (by rw[kf aa,Ae5])
def aah(I:Gi)(L:A3)(x:Ab)(k:Nat):Bool:=decide (x∈L)||(L.take k).any (I.bef x)
theorem Ae6(n:ba prog fI 20 [] (bG true)){l pt:Bh}(hl:l.length<=9223372036854775807)(hi:∀x∈l,DW x)(_:pt.length<=9223372036854775807)(hp:∀x∈pt,DW x):ba prog fI 4 [aE cZ l,aE cZ pt] (bG true):=by
 obtain⟨r,m,N,O,P,o,_,hgr,hC,hM⟩:=Np hl hi;have hM:=QM O hM;have w:=P.w;have nI:=w.nI;have hkn:=AdQ w;obtain⟨v,ev,H,Q⟩:=WY w w.nd hp;obtain⟨cs,R,D,q,_,c2,c3,c4,_,c6,c7,q0,q1,hD,hR,I⟩:=Acc P o hkn H Q;obtain⟨t,C,u,z⟩:=I v (.refl _);clear I;have C:=ac.fo C;have hl1:(Hi (Bw r m N) cs).length<=14:=JF (KZ ..) c4;have hLs:∀y∈Hi (Bw r m N) cs,y∈cs/\Nn (Bw r m N) cs y=false:=λy hy=>by obtain⟨a,b⟩:=Hq.1 hy;exact⟨a,by simpa using b⟩
 have hLn:(Hi (Bw r m N) cs).Nodup:=c3.sublist List.filter_sublist;have hlast:∀x∈cs,x∈Hi (Bw r m N) cs\/∃y∈Hi (Bw r m N) cs,(Bw r m N).bef x y=true:=λx hx=>by
  cases h:bu x r.IDs with
  |none=>exact absurd (H.sub x ((c2 x).1 hx).1) (jv.1 h)
  |some i=>exact Aa9 P _ i x h (Dl _) hx
 have hdv:=λx (hx:x∈r.IDs)=>Aa7 P o hkn hx;have hbf:=(SW (PL w P.p)).bef;have e1:=ac.fo (Ou fI ev);have hvs:∀x∈cs,x∈r.IDs:=λx hx=>H.sub x ((c2 x).1 hx).1;generalize Hi (Bw r m N) cs=L at*;simp only[Ag,RJ] at t C z hdv u hbf;change∀x y:Ab,ba prog fI _ _ (bG ((Bw r m N).bef x y)) at hbf;refine Gh func4 ?_;refine pO 11110 (s0 155 fI [(1,aE cZ pt),(5,Z8 r.Cards m N),(6,.ptr (aI r) 0)] [] 0 0) [tN 19 [] 0 [] [aE cZ l] [ob 0 105 [aE bv r.Cards,.mref 1,.rsl 2 0 N.length],(1,oM m),(2,zQ N)] hM trivial ⟨⟨rfl,.inl rfl⟩,⟨rfl,rfl,rfl,rfl,.inr ⟨rfl,cf _⟩⟩,⟨rfl,.inr ⟨rfl,az.imm _⟩⟩,trivial⟩] [hc (cf m),hc (az.al N),hc (eB (gs:=[aE bv r.Cards,gMp m,aE d7 N]) aH),hc (eB (gs:=aI r) aH)] ?_;refine Ix 111111101 (s0 155 fI [(5,Z8 r.Cards m N),(6,.ptr (aI r) 0),(7,aE aj v),(8,aE aj cs),(9,aE aj L)] [] 0 0) ?_ λA=>?_;rotate_left
 .refine Un (l:=cs) aa (λi:Nat=>(s0 155 fI [(5,Z8 r.Cards m N),(6,.ptr (aI r) 0),(7,aE aj v),(8,aE aj cs),(9,aE aj L),(10,iG (i:Int))] [] 0 0)) 11111110122 [hf 26 e1,hf 29 t,hf 32 C] [] (λB i x hx hz k5=>?_) (λB=>?_)
  .have hlt:=(cr hx).1;have E:=bO hx;have h1:=Wv (l:=L) x aa;refine Ix 11111110122102101 (s0 155 fI [(5,Z8 r.Cards m N),(6,.ptr (aI r) 0),(7,aE aj v),(8,aE aj cs),(9,aE aj L),(10,iG (i:Int)),(11,bG true)] [] 0 0) ?_ λA=>?_;rotate_left
   .refine Un (l:=L) aa (λk:Nat=>(s0 155 fI [(5,Z8 r.Cards m N),(6,.ptr (aI r) 0),(7,aE aj v),(8,aE aj cs),(9,aE aj L),(10,iG (i:Int)),(11,bG (aah (Bw r m N) L x k)),(12,iG (k:Int))] [] 0 0)) 1111111012210210122 [hr 36 (CM hx),Az 42 (ac.ixZ hz),Az 43 (ac.ptZ aW hz),hf 44 (show ba _ _ _ _ (bG (aah (Bw r m N) L x 0)) by unfold aah;rw[List.take_zero,List.any_nil,Bool.or_false];exact h1)] [] (λB' k y hy d f=>?_) (λB'=>?_)
    .have hk:=(cr hy).1;have hb:=hbf x y;rw[show aah (Bw r m N) L x (k+1)=(aah (Bw r m N) L x k||(Bw r m N).bef x y) by unfold aah;rw[Hp,hy,Option.toList_some,List.any_append,Bool.or_assoc];simp] at f;cases c:aah (Bw r m N) L x k with
     |false=>rw[c,Bool.false_or] at f;exact jw [hr 48 (CM hy),Az 77 (ac.ixZ hz),Az 78 (ac.ptZ aW hz),Az 81 (ac.ixZ d),Az 82 (ac.ptZ aW d),hf 83 hb,hbb 50 (Xl (q:=k) aa)] [] f []
     |true=>
      rw[c,Bool.true_or] at f;cases e:(Bw r m N).bef x y with
      |false=>rw[e] at hb;exact jw [hr 48 (CM hy),Az 56 (ac.ixZ hz),Az 57 (ac.ptZ aW hz),Az 60 (ac.ixZ d),Az 61 (ac.ptZ aW d),hf 62 hb,hbb 50 (Xl (q:=k) aa)] [] f []
      |true=>
       rw[e] at hb;rw[show decide (x∈L)=false from C5 λh=>by have:=(hLs x h).2;rw[show Nn (Bw r m N) cs x=true from List.any_eq_true.2 ⟨y,(hLs y (bO hy)).1,e⟩] at this;cases this] at h1
       exact jw [hr 48 (CM hy),Az 56 (ac.ixZ hz),Az 57 (ac.ptZ aW hz),Az 60 (ac.ixZ d),Az 61 (ac.ptZ aW d),hf 62 hb,Az 68 (ac.ixZ hz),Az 69 (ac.ptZ aW hz),hf 70 h1,hbb 50 (Xl (q:=k) aa)] [] f []
    .have c:aah (Bw r m N) L x L.length=true:=by unfold aah;rw[D3,Bool.or_eq_true,decide_eq_true_iff,List.any_eq_true];exact hlast x E
     rw[c];exact yl 11111110122102101 [hr 48 (DH (s:=L))] [] A
   .exact jw [hbb 38 (Xl (q:=i) aa)] [] k5 []
  .exact yl 111111101 [hr 36 (DH (s:=cs))] [] A
 refine Ix 1111111101 (s0 155 fI [(5,Z8 r.Cards m N),(6,.ptr (aI r) 0),(7,aE aj v),(9,aE aj L)] [] 0 0) ?_ λA=>?_;rotate_left
 .refine Un (l:=L) aa (λk:Nat=>(s0 155 fI [(5,Z8 r.Cards m N),(6,.ptr (aI r) 0),(7,aE aj v),(8,aE aj cs),(9,aE aj L),(13,iG (k:Int))] [] 0 0)) 111111110122 [] [] (λB k y hy hz k5=>?_) (λB=>?_)
  .have hk:=(cr hy).1;have h1:=Wv (l:=cs) y aa;rw[CO (hLs y (bO hy)).1] at h1;have h2:=Wv (l:=L.take k) y (by rw[LL];omega);rw[show decide (y∈L.take k)=false from C5 λh=>by
    obtain⟨j,hj⟩:=G9 h;rw[List.getElem?_take] at hj;split at hj
    .rename_i F;obtain⟨J,K⟩:=cr hj;obtain⟨k1,k2⟩:=cr hy;exact(List.pairwise_iff_getElem.1 hLn) j k J k1 F (K.trans k2.symm)
    .cases hj] at h2
   by_cases h0:k=0
   .subst h0;exact jw [hr 90 (CM hy),Az 96 (ac.ixZ hz),Az 97 (ac.ptZ aW hz),hf 98 h1,hbb 92 (Xl (q:=0) aa)] [] k5 []
   .exact jw [hr 90 (CM hy),Az 96 (ac.ixZ hz),Az 97 (ac.ptZ aW hz),hf 98 h1,hr 102 (show decide ((0:Int)<(k:Int))=true from CO aa),Az 106 (ac.preZI (l:=L) (i:=(k:Int)) (y:=L.take k) (by unfold tq;rw[Bz ⟨aa,by rw[EO];omega⟩,EO])),Az 109 (ac.ixZ hz),Az 110 (ac.ptZ aW hz),hf 111 h2,hbb 92 (Xl (q:=k) aa)] [] k5 []
  .exact yl 1111111101 [hr 90 (DH (s:=L))] [] A
 refine pO 111111111100 (s0 155 fI [(5,Z8 r.Cards m N),(6,.ptr (aI r) 0),(7,aE aj v),(9,aE aj L),(14,.ptr (aj q.1) 0),(15,bG q.2)] [] 0 0) [hf 117 z] [hc (eB (gs:=aj q.1) aH)] ?_;obtain⟨g,S⟩:=q;cases S with
 |false=>exact Ar [hV 124 (dU g ⟨0,0,0⟩ (r:=true) (by simp[show g=⟨0,0,0⟩ from q0 rfl])),hf 126 n] []
 |true=>
  obtain⟨rfl,hq⟩:=q1 rfl;obtain⟨U,M,V⟩:=hdv g (hvs g (hLs g aC).1);have hz:aS [g] 0=some g:=rfl;have hsm:=Vm (gl:=fI) (l:=Ha R) (by rw[(LX hR).2.1.length_eq,Ho];have:=hR.len;omega)
  exact Ar [hrn 130 0 [Z8 r.Cards m N,aE aj v] hR u,hr 136 (show decide (([g].length:Int)≠1)=false by simp),Az 140 (ac.ixZ hz),Az 141 (ac.ptZ aW hz),hV 142 (dU g g (r:=true) aC),hrr 145 (OP 0) 14 [] hR (Md fI hR),hf 148 (rZ.fo M),hf 149 (rZ.fo (vH fI hq)),hf 150 hsm,hf 153 n] []
end Go.Proofs.YtlijnaneopediaaGreatDoor
