/- EpochOwn: the law's walk. -/
import Derived.Test.YtlijnaneopediaaGreatDoorW6
namespace Go.Proofs.YtlijnaneopediaaGreatDoor
set_option linter.unusedSectionVars false
set_option linter.unusedVariables false
set_option linter.unusedSimpArgs false
open Go.RowKit Tryz
attribute [local irreducible] Tr dz Gp
variable {α:Type}
def Oh{α:Type}(f:α->α)(l:List α)(k:Nat):List α:=(l.take k).map f++l.drop k
theorem LS{f:α->α}{l:List α}{k:Nat}:(Oh f l k).length=l.length:=by grind [Oh]
theorem Ac6{f:α->α}{l:List α}{k:Nat}{x:α}(h:l[k]?=some x):aS (Oh f l k) (k:Int)=some x/\ji (Oh f l k) (k:Int) (f x)=some (Oh f l (k+1)):=by
 have hk:=(cr h).1;constructor
 .exact Bp (by grind [Oh])
 .have e:Oh f l (k+1)=(Oh f l k).set k (f x):=by grind [Oh,Hp,List.set_append_right,List.drop_eq_getElem_cons]
  unfold ji;rw[Bz ⟨aa,by rw[LS];omega⟩,EO,e]
theorem Ae4(e:ba prog fI 20 [] (bG true)){l pt:Bh}(hl:l.length<=9223372036854775807)(hi:∀x∈l,DW x)(_:pt.length<=9223372036854775807)(hp:∀x∈pt,DW x):ba prog fI 5 [aE cZ l,aE cZ pt] (bG true):=by
 obtain⟨r,m,N,F,P,a,_,hgr,hC,hM⟩:=Np hl hi;have hM:=QM F hM;have w:=P.w;have nI:=w.nI;have hkn:=AdQ w;obtain⟨v,ev,p,H⟩:=WY w w.nd hp;obtain⟨cs,R,D,q,_,_,_,c4,_,_,_,_,_,_,_,u⟩:=Acc P a hkn p H;obtain⟨_,g,_⟩:=u v (.refl _);clear u;have hl1:(Hi (Bw r m N) cs).length<=14:=JF (KZ ..) c4;have hvl:v.length<=1000:=p.len;have hdv:=λx (hx:x∈r.IDs)=>Aa7 P a hkn hx;have e1:=ac.fo (Ou fI ev);generalize Hi (Bw r m N) cs=L at*;have e3:=Sh (gl:=fI) (l:=v) aa;have e4:=Sh (gl:=fI) (l:=L) aa;have a1:aT 24 [] v=some v:=by grind [aT]
 have a2:aT 24 [] L=some L:=by grind [aT]
 simp only[Ag,RJ] at g hdv;refine Gh func5 ?_;refine pO 11110 (s0 92 fI [(1,aE cZ pt),(5,Z8 r.Cards m N),(6,.ptr (aI r) 0)] [] 0 0) [tN 17 [] 0 [] [aE cZ l] [ob 0 105 [aE bv r.Cards,.mref 1,.rsl 2 0 N.length],(1,oM m),(2,zQ N)] hM trivial ⟨⟨rfl,.inl rfl⟩,⟨rfl,rfl,rfl,rfl,.inr ⟨rfl,cf _⟩⟩,⟨rfl,.inr ⟨rfl,az.imm _⟩⟩,trivial⟩] [hc (cf m),hc (az.al N),hc (eB (gs:=[aE bv r.Cards,gMp m,aE d7 N]) aH),hc (eB (gs:=aI r) aH)] ?_;refine pO 1111110 (s0 92 fI [(5,Z8 r.Cards m N),(6,.ptr (aI r) 0),(7,aE aj v),(8,aE aj v)] [] 0 0) [hf 24 e1,eu 27 ac a1] [hc (ac.al v)] ?_;refine Ix 1111111101 (s0 92 fI [(5,Z8 r.Cards m N),(6,.ptr (aI r) 0),(7,aE aj v),(8,aE aj v),(10,aE aj L)] [] 0 0) ?_ λt=>?_;rotate_left
 .refine Un (l:=L) aa (λk:Nat=>(s0 92 fI [(5,Z8 r.Cards m N),(6,.ptr (aI r) 0),(7,aE aj v),(8,aE aj v),(9,.rsl 0 0 (Oh (λx:Ab=>{x with By:=77}) L k).length),(10,aE aj L),(11,iG (k:Int))] [(0,Bt (Oh (λx:Ab=>{x with By:=77}) L k))] 1 0)) 111111110122 [ho 30 [Z8 r.Cards m N,aE aj v] [] g (Zy _),dg 33 ac a2] [hc (el L),hc (ac.al L),hc (ac.imm L)] (λB k x hx hz k5=>?_) (λB=>?_)
  .have hlt:=(cr hx).1;obtain⟨A,b⟩:=Ac6 (f:=λx:Ab=>{x with By:=77}) hx;have c:=LS (f:=λx:Ab=>{x with By:=77}) (l:=L) (k:=k);have h:=LS (f:=λx:Ab=>{x with By:=77}) (l:=L) (k:=k+1);generalize Oh (λx:Ab=>{x with By:=77}) L k=W at*;generalize Oh (λx:Ab=>{x with By:=77}) L (k+1)=d at*;exact jw [hr 37 (show decide ((k:Int)<(W.length:Int))=true from CO aa),Az 42 (ac.ixsZ 0 b),hw 43 (d.flatMap aj) (ac.putF b A 0 1 (gs:=[iG 77]) rfl B5 rfl),hbb 39 (Xl (q:=k) aa)] [hc (c.trans h.symm),hc (ac.imm d)] k5
  .have c:=LS (f:=λx:Ab=>{x with By:=77}) (l:=L) (k:=L.length);generalize Oh (λx:Ab=>{x with By:=77}) L L.length=W at*;exact yl 1111111101 [hr 37 (show decide ((L.length:Int)<(W.length:Int))=false from C5 aa)] [] t
 refine Un (l:=v) aa (λi:Nat=>(s0 92 fI [(5,Z8 r.Cards m N),(6,.ptr (aI r) 0),(7,aE aj v),(8,aE aj v),(10,aE aj L),(12,iG (i:Int))] [] 0 0)) 1111111110122 [] [] (λB i x hx hz k5=>?_) (λB=>?_)
 .have hlt:=(cr hx).1;obtain⟨j,z,I⟩:=hdv x (p.sub x (bO hx));have j:=rZ.fo (M3 fI j);generalize Sg r ((Bw r m N).o x)=dv at*;have C:=rZ.fo z;refine Ix 1111111110122102101 (s0 92 fI [(5,Z8 r.Cards m N),(6,.ptr (aI r) 0),(7,aE aj v),(8,aE aj v),(10,aE aj L),(12,iG (i:Int))] [] 0 0) ?_ λt=>?_;rotate_left
  .refine Un (l:=dv) aa (λk:Nat=>(s0 92 fI [(5,Z8 r.Cards m N),(6,.ptr (aI r) 0),(7,aE aj v),(8,aE aj v),(10,aE aj L),(12,iG (i:Int)),(13,.rsl 0 0 (Oh (λ_:Int=>78) dv k).length),(14,iG (k:Int))] [(0,Ju (Oh (λ_:Int=>78) dv k))] 1 0)) 111111111012210210122 [hr 47 (CM hx),Az 53 (ac.ixZ hz),Az 54 (ac.ptZ aW hz),ho 55 [Z8 r.Cards m N,.agg (aj x)] [] z (lZ dv)] [hc (el dv),hc (rZ.imm dv)] (λB' k y hy E n=>?_) (λB'=>?_)
   .have hk:=(cr hy).1;obtain⟨_,b⟩:=Ac6 (f:=λ_:Int=>78) hy;have c:=LS (f:=λ_:Int=>78) (l:=dv) (k:=k);have h:=LS (f:=λ_:Int=>78) (l:=dv) (k:=k+1);generalize Oh (λ_:Int=>78) dv k=W at*;generalize Oh (λ_:Int=>78) dv (k+1)=d at*;exact jw [hr 59 (show decide ((k:Int)<(W.length:Int))=true from CO aa),Az 64 (rZ.ixsZ 0 b),hw 64 (d.flatMap cZ) (rZ.putZ b),hbb 61 (Xl (q:=k) aa)] [hc (c.trans h.symm),hc (rZ.imm d)] n
   .have c:=LS (f:=λ_:Int=>78) (l:=dv) (k:=dv.length);generalize Oh (λ_:Int=>78) dv dv.length=W at*;exact yl 1111111110122102101 [hr 59 (show decide ((dv.length:Int)<(W.length:Int))=false from C5 aa)] [] t
  .exact jw [Az 68 (ac.ixZ hz),Az 69 (ac.ptZ aW hz),hf 70 C,Az 74 (ac.ixZ hz),Az 75 (ac.ptZ aW hz),hf 76 j,hf 77 (Vm (gl:=fI) (l:=dv) aa),hbb 49 (Xl (q:=i) aa)] [] k5 []
 .exact Ar [hr 47 (DH (s:=v)),hf 81 e3,hf 85 (ac.fo g),hf 87 e4,hf 90 e] []
end Go.Proofs.YtlijnaneopediaaGreatDoor
