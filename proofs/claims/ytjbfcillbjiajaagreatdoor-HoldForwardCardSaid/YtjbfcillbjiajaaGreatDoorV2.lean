/- Texts. -/
import Derived.Test.YtjbfcillbjiajaaGreatDoorP3
namespace Go.Proofs.YtjbfcillbjiajaaGreatDoor
set_option linter.unusedSectionVars false
set_option linter.unusedVariables false
set_option linter.unusedSimpArgs false
open Go.RowKit Tryz
variable (gl:CC)
variable {α:Type}{c:Bool}{a b clock i j kk n pub r s since:Nat}{l label:CY}{o:Oper}{k:Value}{st:St}{t:Tmp}{q:Value×G}{seen:Br}{g:G}{L:List (Nat×Bool)}
section
attribute [local irreducible] Tr dz Gp
section
def md{α:Type}(N:Nat)(enc:α->CY)(ok:α->Bool)(L:List α)(s:Bool×CY×Int):Option ((Bool×CY×Int)⊕(Bool×CY)):=
 bif s.2.2<ah L then(aS L s.2.2).bind λy=>bif ok y&&decide (s.2.1.length<=N)then some (.inl (true,s.2.1++enc y,wI (s.2.2+1)))else none else some (.inr (s.1,s.2.1))
theorem zp(N:Nat){enc:α->CY}{ok:α->Bool}{L:List α}(c:Nat)(b:Bool){l:CY}(hok:∀x∈L,ok x=true)(hc:∀x∈L,(enc x).length<=c)(hn:L.length<=1000000)(hl:l.length+L.length*c<=N):AH (md N enc ok L) (b,l,0)=some (b||decide (0<L.length),l++L.flatMap enc):=by
 have h:T (AH (md N enc ok L) (b,l,0)) λr=>r=(b||decide (0<L.length),l++L.flatMap enc):=by
  refine T.loop (λs=>∃k:Nat,s.2.2=(k:Int)/\k<=L.length/\s.2.1=l++(L.take k).flatMap enc/\s.1=(b||decide (0<k))) (λs=>L.length-s.2.2.toNat) (by grind) (by show L.length-_<_;omega) ?_;rintro⟨a,acc,i⟩ ⟨k,h1,h2,h3,h0⟩;simp only at h1 h2 h3 h0;subst h1;subst h3;subst h0;unfold md;refine .dec (λh=>?_) λh=>?_
  .have hk:k<L.length:=by grind [ah]
   refine .bind (.ix (by dsimp only;omega) (x:=L[k]) (by rw[Fw,EA hk]) ?_);have hm:L[k]∈L:=List.getElem_mem hk;have h4:((L.take k).flatMap enc).length<=(L.take k).length*c:=d8 (by grind);have h5:(L.take k).length*c<=L.length*c:=Nat.mul_le_mul_right c (by rw[Lv];omega);rw[hok _ hm,Bool.true_and,C6 (by grind),ax];refine .some ⟨⟨k+1,aq aa,hk,?_,aC⟩,?_⟩;all_goals grind [List.take_succ_eq_append_getElem,aq]
  .have hk:k=L.length:=by grind [ah]
   refine .some ?_;show((b||decide (0<k)),l++(L.take k).flatMap enc)=_;rw[hk,EZ]
 exact h.eq
instance (z:Int):Decidable (c8 z):=by unfold c8;infer_instance
instance (n:Nat):Decidable (fS n):=by unfold fS;infer_instance
def okI(z:Int):Bool:=decide (c8 z)
def okU(n:Nat):Bool:=decide (fS n)
theorem rT{N:Nat}{x:Option α}{r:α}(h:(bif c&&decide (n<=N)then x else none)=some r):c=true/\n<=N/\x=some r:=by grind
variable {P:Bu}
end
abbrev bx:Option Ob:=some ⟨261,[.ref 1 0],none⟩
abbrev bb:Option Ob:=some ⟨339,[.clo (.func 282) [] [.ref 0 0]],none⟩
def oN(k:Nat):Bool->Nat:=λb=>bif b then k else 2
instance (x:Ab):Decidable (Ko x):=decidable_of_iff (c8 x.By/\c8 x.Seq/\fS x.Sum) ⟨λ⟨a,b,c⟩=>⟨a,b,c⟩,λ⟨a,b,c⟩=>⟨a,b,c⟩⟩
instance (x:Hd):Decidable (Fs x):=decidable_of_iff (fS x.To/\fS x.Eph/\fS x.Body/\fS x.Tag) ⟨λ⟨a,b,c,d⟩=>⟨a,b,c,d⟩,λ⟨a,b,c,d⟩=>⟨a,b,c,d⟩⟩
instance (x:Fp):Decidable (Jd x):=decidable_of_iff (fS x.Pub/\x.Boxes.length<=1000/\∀b∈x.Boxes,Fs b) ⟨λ⟨a,b,c⟩=>⟨a,b,c⟩,λ⟨a,b,c⟩=>⟨a,b,c⟩⟩
instance (x:DT):Decidable (Hr x):=decidable_of_iff (Ko x.Of/\x.Body.length<=1000) ⟨λ⟨a,b⟩=>⟨a,b⟩,λ⟨a,b⟩=>⟨a,b⟩⟩
def WJ(L:Bn)(s:Bool×CY×Int):St:=match s.1 with
 |true=>(s0 15 gl [(1,.ref 0 0),(5,.rsl 3 0 L.length),(6,iG (ah L)),(7,iG s.2.2)] [(0,bx),(1,oO 4 s.2.1),(4,oY s.2.1),ob 3 3 (L.flatMap cZ)] 5 4)
 |false=>(s0 15 gl [(1,.ref 0 0),(5,.rsl 3 0 L.length),(6,iG (ah L)),(7,iG s.2.2)] [(0,bx),(1,oO 2 s.2.1),(2,oY s.2.1),ob 3 3 (L.flatMap cZ)] 4 4)
theorem CS{r:CY}{L:Bn}(hL:∀x∈L,c8 x)(hn:L.length<=1000000)(h0:0<L.length)(hl:l.length<=900000000000)(b:l++L.flatMap aV=r):jg prog gl 280 [.rsl 3 0 L.length,.ref 0 0] [(0,bx),(1,oO 2 l),(2,oY l),ob 3 3 (L.flatMap cZ)] 4 (.tup []) [(0,bx),(1,oO 4 r),(4,oY r),ob 3 3 (L.flatMap cZ)] 5:=by
 have hs:=zp 1000000000000 (enc:=aV) (ok:=okI) (L:=L) 10 false (l:=l) (λx hx=>C6 (hL x hx)) (λx hx=>aR (hL x hx)) hn aa;rw[b,C6 h0,Bool.false_or] at hs;refine pP func280 ?_;refine pN (WJ gl L) [1,2,2] hs [] [hc (rfl:L.length=L.length),hc (el l),hc (rY.imm l),hc (rZ.imm L)] (λB s w hs k5 c=>?_) (kd:=[(2,.row),(3,.row)]) (ρ:=rI 4);obtain⟨d,acc,i⟩:=s;unfold md at hs;rcases bC hs with⟨b1,hs⟩|⟨b1,hs⟩
 .obtain⟨y,a,hs⟩:=bS hs;obtain⟨e,hacc,hs⟩:=rT hs;obtain rfl:=Bp hs;have hy:c8 y:=DV e;have hacc:acc.length<=1000000000000:=hacc;have k:=k5 _ rfl;cases d
  .exact jw [hr 8 b1,AB 9 (rZ.ixrZ 3 a),AB 10 (rZ.p10Z tZ a),gD 13 1 2 4 [.ref 1 0,iG y] (cA gl hy aa (r:=acc++aV y) rfl)] [hc (rfl:L.length=L.length),hc (el (acc++aV y)),hc (rY.imm (acc++aV y)),hc (rZ.imm L)] k (ρ:=rI 5) (kd:=[(4,.row),(3,.row)])
  .exact jw [hr 8 b1,AB 9 (rZ.ixrZ 3 a),AB 10 (rZ.p10Z tZ a),gD 13 1 4 5 [.ref 1 0,iG y] (cA gl hy aa (r:=acc++aV y) rfl)] [hc (rfl:L.length=L.length),hc (el (acc++aV y)),hc (rY.imm (acc++aV y)),hc (rZ.imm L)] k (ρ:=rI 4++[(4,5)]) (kd:=[(4,.row),(3,.row)])
 .obtain rfl:=Bp hs;cases c _ rfl;exact mt .normal (s0 15 gl [] [(0,bx),(1,oO 4 acc),(4,oY acc),ob 3 3 (L.flatMap cZ)] 5 4) [] [hr 8 b1] [hc (el acc),hc (rY.imm acc),hc (rZ.imm L)] (ρ:=rI 5) (kd:=[(4,.row),(3,.row)])
def WK(x:Hd)(s:Bool×CY×Int):St:=match s.1 with
 |true=>(s0 23 gl [(1,.ref 0 0),(13,.rsl 3 0 4),(14,iG 4),(15,iG s.2.2)] [(0,bx),(1,oO 4 s.2.1),(4,oY s.2.1),ob 3 36 ([x.To,x.Eph,x.Body,x.Tag].flatMap cW)] 5 3)
 |false=>(s0 23 gl [(1,.ref 0 0),(13,.rsl 3 0 4),(14,iG 4),(15,iG s.2.2)] [(0,bx),(1,oO 2 s.2.1),(2,oY s.2.1),ob 3 36 ([x.To,x.Eph,x.Body,x.Tag].flatMap cW)] 4 3)
theorem Ri{l r:CY}{x:Hd}(hx:Fs x)(hl:l.length<=900000000000)(f:l++uT x=r):jg prog gl 282 [.agg (cz x),.ref 0 0] [(0,bx),(1,oO 2 l),(2,oY l)] 3 (.tup []) [(0,bx),(1,oO 3 r),(3,oY r)] 4:=by
 have hU:∀n∈[x.To,x.Eph,x.Body,x.Tag],fS n:=by grind [Fs.a,Fs.b,Fs.c,Fs.d]
 have hs:=zp 1000000000000 (enc:=nb) (ok:=okU) (L:=[x.To,x.Eph,x.Body,x.Tag]) 10 false (l:=l) (λx hx=>C6 (hU x hx)) (λx hx=>gH (hU x hx)) aC cq;rw[show l++[x.To,x.Eph,x.Body,x.Tag].flatMap nb=r from f,C6 (by grind),Bool.false_or] at hs;refine pP func282 ?_;refine pN (WK gl x) [1,1,2,2] hs [] [hc (rfl:(4:Nat)=4),hc (el l),hc (rY.imm l),hc (rW.imm [x.To,x.Eph,x.Body,x.Tag])] (λB s w hs k5 g=>?_) (kd:=[(2,.row),(3,.row)]) (ρ:=rI 3++[(3,4)]);obtain⟨h,acc,i⟩:=s;unfold md at hs;rcases bC hs with⟨b1,hs⟩|⟨b1,hs⟩
 .obtain⟨y,e,hs⟩:=bS hs;obtain⟨j,hacc,hs⟩:=rT hs;obtain rfl:=Bp hs;have hy:fS y:=DV j;have hacc:acc.length<=1000000000000:=hacc;have k:=k5 _ rfl;cases h
  .exact jw [hr 16 b1,AB 17 (rW.ixrZ 3 e),AB 18 (rW.p10Z tW e),gD 21 1 2 4 [.ref 1 0,uG y] (KE gl hy aa (r:=acc++nb y) rfl)] [hc (rfl:(4:Nat)=4),hc (el (acc++nb y)),hc (rY.imm (acc++nb y)),hc (rW.imm [x.To,x.Eph,x.Body,x.Tag])] k (ρ:=rI 5) (kd:=[(4,.row),(3,.row)])
  .exact jw [hr 16 b1,AB 17 (rW.ixrZ 3 e),AB 18 (rW.p10Z tW e),gD 21 1 4 5 [.ref 1 0,uG y] (KE gl hy aa (r:=acc++nb y) rfl)] [hc (rfl:(4:Nat)=4),hc (el (acc++nb y)),hc (rY.imm (acc++nb y)),hc (rW.imm [x.To,x.Eph,x.Body,x.Tag])] k (ρ:=rI 4++[(4,5)]) (kd:=[(4,.row),(3,.row)])
 .obtain rfl:=Bp hs;cases g _ rfl;exact mt .normal (s0 23 gl [] [(0,bx),(1,oO 3 acc),(3,oY acc)] 4 3) [] [hr 16 b1] [hc (el acc),hc (rY.imm acc)] (ρ:=rI 3++[(3,4)]) (kd:=[(3,.row)])
abbrev sW(k:Nat)(l:CY):aQ:=[(0,bx),(1,oO k l),(k,oY l),(3,bb)]
def IN(d k c:Nat)(gs:Bk){gl:CC}{fid:FuncId}{gs0:Bk}{l r:CY}(h:jg prog gl fid gs0 (sW 2 l) [0,1,k,3].length (.tup []) (sW 4 r) 5)
  (hin:w6 (vi [0,1,k,3]) (sW k l) (sW 2 l) 0 [0,1,k,3]:=by exact⟨⟨rfl,.inl rfl⟩,⟨rfl,.inl rfl⟩,⟨rfl,.inr ⟨rfl,rY.imm _⟩⟩,⟨rfl,.inl rfl⟩,trivial⟩) (a:oI (G4 [0,1,k,3] c) (sW 4 r) [(0,bx),(1,oO c r),(2,none),(3,bb),(4,oY r)]:=by exact⟨⟨rfl,.inl rfl⟩,⟨rfl,.inl rfl⟩,⟨rfl,.inl rfl⟩,⟨rfl,.inr ⟨rfl,rY.imm _⟩⟩,trivial⟩)
  (hlt:[0,1,k,3].all (λi=>Nat.blt i c)=true:=by kernel_rfl) (hnd:decide [0,1,k,3].Nodup=true:=by kernel_rfl) (hgs:gs.map (qg (vi [0,1,k,3]) 20)=gs0:=by kernel_rfl):HP:=
 tN d [0,1,k,3] c (sW k l) gs [(0,bx),(1,oO c r),(2,none),(3,bb),(4,oY r)] h hin a hlt hnd hgs (by rfl) (by rfl) (by rfl)
def Zc(d k c:Nat)(gs:Bk){gl:CC}{fid:FuncId}{gs0:Bk}{l r:CY}(h:jg prog gl fid gs0 [(0,bx),(1,oO 2 l),(2,oY l)] [0,1,k].length (.tup []) [(0,bx),(1,oO 3 r),(3,oY r)] 4)
  (hin:w6 (vi [0,1,k]) [(0,bx),(1,oO k l),(k,oY l)] [(0,bx),(1,oO 2 l),(2,oY l)] 0 [0,1,k]:=by exact⟨⟨rfl,.inl rfl⟩,⟨rfl,.inl rfl⟩,⟨rfl,.inr ⟨rfl,rY.imm _⟩⟩,trivial⟩) (a:oI (G4 [0,1,k] c) [(0,bx),(1,oO 3 r),(3,oY r)] [(0,bx),(1,oO c r),(2,none),(3,oY r)]:=by exact⟨⟨rfl,.inl rfl⟩,⟨rfl,.inl rfl⟩,⟨rfl,.inr ⟨rfl,rY.imm _⟩⟩,trivial⟩)
  (hlt:[0,1,k].all (λi=>Nat.blt i c)=true:=by kernel_rfl) (hnd:decide [0,1,k].Nodup=true:=by kernel_rfl) (hgs:gs.map (qg (vi [0,1,k]) 20)=gs0:=by kernel_rfl):HP:=
 tN d [0,1,k] c [(0,bx),(1,oO k l),(k,oY l)] gs [(0,bx),(1,oO c r),(2,none),(3,oY r)] h hin a hlt hnd hgs (by rfl) (by rfl) (by rfl)
theorem Rj{r:CY}{L:Ba}(hL:∀x∈L,Ko x)(hn:L.length<=1000)(hl:l.length<=900000000000)(a:l++(aV (L.length:Int)++L.flatMap sN)=r):jg prog gl 284 [.ref 1 0,aE aj L,.clo (.func 285) [.ref 1 0] []] (sW 2 l) 4 (.tup []) (sW 4 r) 5:=by
 have h1:=aR (dO (l:=L) aa);have hs:=zp 1000000000000 (enc:=sN) (ok:=λx=>decide (Ko x)) (L:=L) 30 true (l:=l++aV (L.length:Int)) (λx hx=>C6 (hL x hx)) (λx hx=>Lz (hL x hx)) aa cq;rw[List.append_assoc,a,Bool.true_or] at hs;refine pP func284 ?_;refine pN (λs:Bool×CY×Int=>(s0 22 gl [(2,.clo (.func 285) [.ref 1 0] []),(12,aE aj L),(13,iG (ah L)),(14,iG s.2.2)] (sW 4 s.2.1) 5 4)) 11122 hs [gD 11 1 2 4 [.ref 1 0,iG (ah L)] (cA gl (dO (l:=L) aa) aa (r:=l++aV (L.length:Int)) rfl)] [hc (el (l++aV (L.length:Int))),hc (rY.imm (l++aV (L.length:Int)))] (λB s w hs k5 c=>?_) (kd:=[(4,.row),(999999,.clo)]) (ρ:=rI 5);obtain⟨e,acc,i⟩:=s;unfold md at hs;rcases bC hs with⟨b1,hs⟩|⟨b1,hs⟩
 .obtain⟨y,b,hs⟩:=bS hs;obtain⟨d,hacc,hs⟩:=rT hs;obtain rfl:=Bp hs;have hy:Ko y:=DV d;have hacc:acc.length<=1000000000000:=hacc;exact jw [hr 15 b1,AB 16 (ac.ixZ b),AB 17 (ac.ptZ aW b),gD 20 1 4 6 [.ref 1 0,.agg (aj y)] (kh gl hy aa (r:=acc++sN y) rfl)] [hc (el (acc++sN y)),hc (rY.imm (acc++sN y))] (k5 _ rfl) (ρ:=rI 4++[(4,6)]) (kd:=[(4,.row),(999999,.clo)])
 .obtain rfl:=Bp hs;cases c _ rfl;exact mt .normal (s0 22 gl [] (sW 4 acc) 5 4) [] [hr 15 b1] [hc (el acc),hc (rY.imm acc)] (ρ:=rI 5) (kd:=[(4,.row),(999999,.clo)])
theorem IO_q{l r:CY}{L:List Hd}(hL:∀x∈L,Fs x)(hn:L.length<=1000)(hl:l.length<=800000000000)(a:l++(aV (L.length:Int)++L.flatMap uT)=r):jg prog gl 288 [.ref 1 0,aE cz L,.clo (.func 282) [] [.ref 0 0]] (sW 2 l) 4 (.tup []) (sW 4 r) 5:=by
 have h1:=aR (dO (l:=L) aa);have hs:=zp 900000000000 (enc:=uT) (ok:=λx=>decide (Fs x)) (L:=L) 40 true (l:=l++aV (L.length:Int)) (λx hx=>C6 (hL x hx)) (λx hx=>Ao (hL x hx)) aa cq;rw[List.append_assoc,a,Bool.true_or] at hs;refine pP func288 ?_;refine pN (λs:Bool×CY×Int=>(s0 22 gl [(2,.clo (.func 282) [] [.ref 0 0]),(12,aE cz L),(13,iG (ah L)),(14,iG s.2.2)] (sW 4 s.2.1) 5 4)) 11122 hs [gD 11 1 2 4 [.ref 1 0,iG (ah L)] (cA gl (dO (l:=L) aa) aa (r:=l++aV (L.length:Int)) rfl)] [hc (el (l++aV (L.length:Int))),hc (rY.imm (l++aV (L.length:Int)))] (λB s w hs k5 c=>?_) (kd:=[(4,.row),(999999,.clo)]) (ρ:=rI 5);obtain⟨e,acc,i⟩:=s;unfold md at hs;rcases bC hs with⟨b1,hs⟩|⟨b1,hs⟩
 .obtain⟨y,b,hs⟩:=bS hs;obtain⟨d,hacc,hs⟩:=rT hs;obtain rfl:=Bp hs;have hy:Fs y:=DV d;have hacc:acc.length<=900000000000:=hacc;exact jw [hr 15 b1,AB 16 (EP.ixZ b),AB 17 (EP.ptZ UL b),Zc 20 4 6 [.agg (cz y),.ref 0 0] (Ri gl hy aa (r:=acc++uT y) rfl)] [hc (el (acc++uT y)),hc (rY.imm (acc++uT y))] (k5 _ rfl) (ρ:=rI 4++[(4,6)]) (kd:=[(4,.row),(999999,.clo)])
 .obtain rfl:=Bp hs;cases c _ rfl;exact mt .normal (s0 22 gl [] (sW 4 acc) 5 4) [] [hr 15 b1] [hc (el acc),hc (rY.imm acc)] (ρ:=rI 5) (kd:=[(4,.row),(999999,.clo)])
theorem TM{r:CY}{L:Br}(hL:∀x∈L,fS x)(hn:L.length<=1000)(hl:l.length<=900000000000)(a:l++(aV (L.length:Int)++L.flatMap nb)=r):jg prog gl 290 [.ref 1 0,aE cW L,.clo (.func 283) [.ref 1 0] []] (sW 2 l) 4 (.tup []) (sW 4 r) 5:=by
 have h1:=aR (dO (l:=L) aa);have hs:=zp 1000000000000 (enc:=nb) (ok:=λx=>decide (fS x)) (L:=L) 10 true (l:=l++aV (L.length:Int)) (λx hx=>C6 (hL x hx)) (λx hx=>gH (hL x hx)) aa cq;rw[List.append_assoc,a,Bool.true_or] at hs;refine pP func290 ?_;refine pN (λs:Bool×CY×Int=>(s0 22 gl [(2,.clo (.func 283) [.ref 1 0] []),(12,aE cW L),(13,iG (ah L)),(14,iG s.2.2)] (sW 4 s.2.1) 5 4)) 11122 hs [gD 11 1 2 4 [.ref 1 0,iG (ah L)] (cA gl (dO (l:=L) aa) aa (r:=l++aV (L.length:Int)) rfl)] [hc (el (l++aV (L.length:Int))),hc (rY.imm (l++aV (L.length:Int)))] (λB s w hs k5 c=>?_) (kd:=[(4,.row),(999999,.clo)]) (ρ:=rI 5);obtain⟨e,acc,i⟩:=s;unfold md at hs;rcases bC hs with⟨b1,hs⟩|⟨b1,hs⟩
 .obtain⟨y,b,hs⟩:=bS hs;obtain⟨d,hacc,hs⟩:=rT hs;obtain rfl:=Bp hs;have hy:fS y:=DV d;have hacc:acc.length<=1000000000000:=hacc;exact jw [hr 15 b1,AB 16 (rW.ixZ b),AB 17 (rW.p1Z tW b),gD 20 1 4 5 [.ref 1 0,uG y] (KE gl hy aa (r:=acc++nb y) rfl)] [hc (el (acc++nb y)),hc (rY.imm (acc++nb y))] (k5 _ rfl) (ρ:=rI 4++[(4,5)]) (kd:=[(4,.row),(999999,.clo)])
 .obtain rfl:=Bp hs;cases c _ rfl;exact mt .normal (s0 22 gl [] (sW 4 acc) 5 4) [] [hr 15 b1] [hc (el acc),hc (rY.imm acc)] (ρ:=rI 5) (kd:=[(4,.row),(999999,.clo)])
theorem TN{r:CY}{L:Bn}(hL:∀x∈L,c8 x)(hn:L.length<=1000)(hl:l.length<=900000000000)(a:l++(aV (L.length:Int)++L.flatMap aV)=r):jg prog gl 291 [.ref 1 0,aE cZ L,.clo (.func 281) [.ref 1 0] []] (sW 2 l) 4 (.tup []) (sW 4 r) 5:=by
 have h1:=aR (dO (l:=L) aa);have hs:=zp 1000000000000 (enc:=aV) (ok:=λx=>decide (c8 x)) (L:=L) 10 true (l:=l++aV (L.length:Int)) (λx hx=>C6 (hL x hx)) (λx hx=>aR (hL x hx)) aa cq;rw[List.append_assoc,a,Bool.true_or] at hs;refine pP func291 ?_;refine pN (λs:Bool×CY×Int=>(s0 22 gl [(2,.clo (.func 281) [.ref 1 0] []),(12,aE cZ L),(13,iG (ah L)),(14,iG s.2.2)] (sW 4 s.2.1) 5 4)) 11122 hs [gD 11 1 2 4 [.ref 1 0,iG (ah L)] (cA gl (dO (l:=L) aa) aa (r:=l++aV (L.length:Int)) rfl)] [hc (el (l++aV (L.length:Int))),hc (rY.imm (l++aV (L.length:Int)))] (λB s w hs k5 c=>?_) (kd:=[(4,.row),(999999,.clo)]) (ρ:=rI 5);obtain⟨e,acc,i⟩:=s;unfold md at hs;rcases bC hs with⟨b1,hs⟩|⟨b1,hs⟩
 .obtain⟨y,b,hs⟩:=bS hs;obtain⟨d,hacc,hs⟩:=rT hs;obtain rfl:=Bp hs;have hy:c8 y:=DV d;have hacc:acc.length<=1000000000000:=hacc;exact jw [hr 15 b1,AB 16 (rZ.ixZ b),AB 17 (rZ.p1Z tZ b),gD 20 1 4 5 [.ref 1 0,iG y] (cA gl hy aa (r:=acc++aV y) rfl)] [hc (el (acc++aV y)),hc (rY.imm (acc++aV y))] (k5 _ rfl) (ρ:=rI 4++[(4,5)]) (kd:=[(4,.row),(999999,.clo)])
 .obtain rfl:=Bp hs;cases c _ rfl;exact mt .normal (s0 22 gl [] (sW 4 acc) 5 4) [] [hr 15 b1] [hc (el acc),hc (rY.imm acc)] (ρ:=rI 5) (kd:=[(4,.row),(999999,.clo)])
theorem Rl{l r:CY}{x:Fp}(hx:Jd x)(hl:l.length<=700000000000)(c:l++ke x=r):jg prog gl 287 [.agg (bY x),.ref 0 0,.ref 3 0] (sW 2 l) 4 (.tup []) (sW 4 r) 5:=by
 have h1:=gH hx.a;have e:l++nb x.Pub++(aV (x.Boxes.length:Int)++x.Boxes.flatMap uT)=r:=by grind [ke,uU]
 refine pP func287 ?_;exact mt .normal (s0 13 gl [] (sW 4 r) 5 4) [] [gD 7 1 2 5 [.ref 1 0,uG x.Pub] (KE gl hx.a aa (r:=l++nb x.Pub) rfl),IN 12 5 6 [.ref 1 0,aE cz x.Boxes,.clo (.func 282) [] [.ref 0 0]] (IO_q gl hx.b hx.n cq e)] [hc (el r),hc (rY.imm r)] (ρ:=rI 4++[(4,6)]) (kd:=[(4,.row),(999999,.clo)])
theorem Rm{l r:CY}{x:DT}(hx:Hr x)(hl:l.length<=9000000000000)(b:l++lX x=r):jg prog gl 293 [.agg (bp x),.ref 0 0] [(0,bx),(1,oO 2 l),(2,oY l)] 3 (.tup []) [(0,bx),(1,oO 3 r),(3,oY r)] 4:=by
 have h1:=Lz hx.a;have e:l++sN x.Of++tM x.Body=r:=by grind [lX]
 refine pP func293 ?_;exact mt .normal (s0 12 gl [] [(0,bx),(1,oO 3 r),(3,oY r)] 4 3) [] [gD 6 1 2 4 [.ref 1 0,.agg (aj x.Of)] (kh gl hx.a aa (r:=l++sN x.Of) rfl),XY 10 x.Body,gD 11 1 4 5 [.ref 1 0,sG x.Body] (CR gl (by have:=hx.n;omega) cq e)] [hc (el r),hc (rY.imm r)] (ρ:=rI 3++[(3,5)]) (kd:=[(3,.row)])
theorem Ro{r:CY}{L:List Fp}(hL:∀x∈L,Jd x)(hn:L.length<=1000)(hl:l.length<=600000000000)(a:l++(aV (L.length:Int)++L.flatMap ke)=r):jg prog gl 286 [.ref 1 0,aE bY L,.clo (.func 287) [] [.ref 0 0,.ref 3 0]] (sW 2 l) 4 (.tup []) (sW 4 r) 5:=by
 have h1:=aR (dO (l:=L) aa);have hs:=zp 700000000000 (enc:=ke) (ok:=λx=>decide (Jd x)) (L:=L) 40020 true (l:=l++aV (L.length:Int)) (λx hx=>C6 (hL x hx)) (λx hx=>Aq (hL x hx)) aa cq;rw[List.append_assoc,a,Bool.true_or] at hs;refine pP func286 ?_;refine pN (λs:Bool×CY×Int=>(s0 22 gl [(2,.clo (.func 287) [] [.ref 0 0,.ref 3 0]),(12,aE bY L),(13,iG (ah L)),(14,iG s.2.2)] (sW 4 s.2.1) 5 4)) 11122 hs [gD 11 1 2 4 [.ref 1 0,iG (ah L)] (cA gl (dO (l:=L) aa) aa (r:=l++aV (L.length:Int)) rfl)] [hc (el (l++aV (L.length:Int))),hc (rY.imm (l++aV (L.length:Int)))] (λB s w hs k5 c=>?_) (kd:=[(4,.row),(999999,.clo)]) (ρ:=rI 5);obtain⟨e,acc,i⟩:=s;unfold md at hs;rcases bC hs with⟨b1,hs⟩|⟨b1,hs⟩
 .obtain⟨y,b,hs⟩:=bS hs;obtain⟨d,hacc,hs⟩:=rT hs;obtain rfl:=Bp hs;have hy:Jd y:=DV d;have hacc:acc.length<=700000000000:=hacc;exact jw [hr 15 b1,AB 16 (bZ.ixZ b),AB 17 (bZ.ptZ Pc b),IN 20 4 6 [.agg (bY y),.ref 0 0,.ref 3 0] (Rl gl hy aa (r:=acc++ke y) rfl)] [hc (el (acc++ke y)),hc (rY.imm (acc++ke y))] (k5 _ rfl) (ρ:=rI 4++[(4,6)]) (kd:=[(4,.row),(999999,.clo)])
 .obtain rfl:=Bp hs;cases c _ rfl;exact mt .normal (s0 22 gl [] (sW 4 acc) 5 4) [] [hr 15 b1] [hc (el acc),hc (rY.imm acc)] (ρ:=rI 5) (kd:=[(4,.row),(999999,.clo)])
theorem Rp{r:CY}{L:List DT}(hL:∀x∈L,Hr x)(hn:L.length<=1000)(hl:l.length<=900000000000)(a:l++(aV (L.length:Int)++L.flatMap lX)=r):jg prog gl 292 [.ref 1 0,aE bp L,.clo (.func 293) [] [.ref 0 0]] (sW 2 l) 4 (.tup []) (sW 4 r) 5:=by
 have h1:=aR (dO (l:=L) aa);have hs:=zp 1000000000000 (enc:=lX) (ok:=λx=>decide (Hr x)) (L:=L) 1040 true (l:=l++aV (L.length:Int)) (λx hx=>C6 (hL x hx)) (λx hx=>F6 (hL x hx)) aa cq;rw[List.append_assoc,a,Bool.true_or] at hs;refine pP func292 ?_;refine pN (λs:Bool×CY×Int=>(s0 22 gl [(2,.clo (.func 293) [] [.ref 0 0]),(12,aE bp L),(13,iG (ah L)),(14,iG s.2.2)] (sW 4 s.2.1) 5 4)) 11122 hs [gD 11 1 2 4 [.ref 1 0,iG (ah L)] (cA gl (dO (l:=L) aa) aa (r:=l++aV (L.length:Int)) rfl)] [hc (el (l++aV (L.length:Int))),hc (rY.imm (l++aV (L.length:Int)))] (λB s w hs k5 c=>?_) (kd:=[(4,.row),(999999,.clo)]) (ρ:=rI 5);obtain⟨e,acc,i⟩:=s;unfold md at hs;rcases bC hs with⟨b1,hs⟩|⟨b1,hs⟩
 .obtain⟨y,b,hs⟩:=bS hs;obtain⟨d,hacc,hs⟩:=rT hs;obtain rfl:=Bp hs;have hy:Hr y:=DV d;have hacc:acc.length<=1000000000000:=hacc;exact jw [hr 15 b1,AB 16 (bH.ixZ b),AB 17 (bH.ptZ GM b),Zc 20 4 6 [.agg (bp y),.ref 0 0] (Rm gl hy aa (r:=acc++lX y) rfl)] [hc (el (acc++lX y)),hc (rY.imm (acc++lX y))] (k5 _ rfl) (ρ:=rI 4++[(4,6)]) (kd:=[(4,.row),(999999,.clo)])
 .obtain rfl:=Bp hs;cases c _ rfl;exact mt .normal (s0 22 gl [] (sW 4 acc) 5 4) [] [hr 15 b1] [hc (el acc),hc (rY.imm acc)] (ρ:=rI 5) (kd:=[(4,.row),(999999,.clo)])
noncomputable abbrev OZ:Code:=bq 111012 (ai Tryz.f277)
abbrev WL(l:Br):Fr:=[(1,aE cW l),(5,.ref 0 0)]
noncomputable abbrev TO(l:Br)(st:LoopState):Option Ob:=some ⟨0,[],some (.loop st none 40 (WL l) (Dy OZ) (Dz OZ) (DA OZ))⟩
noncomputable abbrev K5(l:Br)(s k:Nat)(a b:LoopState):aQ:=[(0,Ku s k),(1,TO l a),(2,Kx 1),(3,PH b)]
def Z3(d j c s k w:Nat){s':Nat}{gl:CC}(h:kE s k w=some s')
  (hin:w6 (vi [0,j]) [(0,Ku s k),(j,Ci [w])] [(0,Ku s k),(1,Ci [w])] 0 [0,j]:=by exact⟨⟨rfl,.inl rfl⟩,⟨rfl,.inl rfl⟩,trivial⟩) (hlt:[0,j].all (λi=>Nat.blt i c)=true:=by kernel_rfl) (hnd:decide [0,j].Nodup=true:=by kernel_rfl) (hgs:[G.ref 0 0,.rsl j 0 1].map (qg (vi [0,j]) 20)=[.ref 0 0,.rsl 1 0 1]:=by kernel_rfl):HP:=
 hmc d [0,j] c [(0,Ku s k),(j,Ci [w])] [.ref 0 0,.rsl j 0 1] [(0,⟨388,[uG s',uG (k1 k)],none⟩),(1,⟨36,[w].flatMap cW,none⟩)] (Qy gl h) hin ⟨⟨rfl,.inl rfl⟩,⟨rfl,.inl rfl⟩,trivial⟩ hlt hnd hgs (by rfl) (by rfl) (by rfl)
theorem ES{l:Br}(h:x6 label l=some r):ba prog gl 277 [sG label,aE cW l] (uG r):=by
 unfold x6 at h;obtain⟨t,et,h⟩:=bS h;obtain⟨a,o,h⟩:=bS h;obtain⟨s1,e1,h⟩:=bS h;obtain⟨c,p,h⟩:=bS h;refine Gh func277 ?_;refine pO 111012 (s0 40 gl [(1,aE cW l),(5,.ref 0 0),(15,ny t)] [(0,Ku (wU (ah label)) 0)] 1 0) [hL 10 label,AB 11 (C8 (ah label)),hcB 14 et,hf 15 (Ic gl t)] [hc (aG 20 (ny t) aH)] ?_ [] [(0,0)];refine Xt (fst:=[]) (cap:=[.ptr [aE cY t] 0]) Tryz.f357 func357 ?_;refine YR [1,1,2] (s0 29 gl [(2,.ref 2 0),(8,Kv t)] [(2,Kx 1),(1,some ⟨0,[],some (.loop .ready none 40 [(1,aE cW l),(5,.ref 0 0),(15,ny t)] (Dy OZ) (Dz OZ) (DA OZ))⟩),(0,Ku (wU (ah label)) 0)] 3 2) [hf 8 (Ie gl t)] ?_;refine Xt (fst:=[]) (cap:=[.ptr [aE cY t] 0,.ptr [iG 7] 0]) Tryz.f384 func384 ?_;refine pN (λx:(Nat×Nat)×Int=>(s0 31 gl [(0,.yld 3),(1,.ptr [aE cY t] 0),(2,.ptr [iG 7] 0),(4,iG x.2)] (K5 l x.1.1 x.1.2 .ready .ready) 4 4)) 1122 o [] [] (λB x w hs k5 e=>?_) [] r4;unfold F1 at hs;rcases bC hs with⟨b1,hs⟩|⟨b1,hs⟩
 .obtain⟨q0,e0,hs⟩:=bS hs;obtain⟨y,d,hs⟩:=bS hs;obtain⟨q,u,hs⟩:=bS hs;obtain⟨w,ew,hs⟩:=bS hs;obtain⟨s,es,hs⟩:=bS hs;obtain rfl:=Bp hs;refine pO 112210210 (s0 31 gl [(0,.yld 3),(1,.ptr [aE cY t] 0),(2,.ptr [iG 7] 0),(4,iG x.2),(5,iG (iI 7 (ah q0)))] (K5 l x.1.1 x.1.2 .ready .ready) 4 4) [hr 9 b1,AB 16 (rY.sufZI e0)] [] ?_ [] r4;refine Xw (i:=3) (j:=10) (n:=29) (t:=0) (t2:=0) (pe:=none) (fr:=[(2,.ref 2 0)]) (ps:=Dy Kw) (a:=Dz Kw) (b:=DA Kw) (s1:=(s0 31 gl (Ti t q x.2 (iI 7 (ah q0))) (K5 l x.1.1 x.1.2 .ready .ready) 4 4))
   (s3:=(s0 31 gl ([(30,bG false),(29,bG true)]++Ti t q x.2 (iI 7 (ah q0))) ((3,PH .ready)::K5 l s (k1 x.1.2) .ready .busy) 4 4))
   (K5 l s (k1 x.1.2) .ready .busy) 4 (.loop .ready none 29 [(2,.ref 2 0)] (Dy Kw) (Dz Kw) (DA Kw)) [hcv 28 (g:=aE cY q) (Yp rY d u)] [] ?_ ?_
  .refine C9 .normal ⟨29,gl,[(2,.ref 2 0),(3,aE cY q)],K5 l x.1.1 x.1.2 .ready .ready,4,4,true⟩ [] [] (Xv Tryz.f357 ?_ rfl) [] r4;refine Ix 12101 ⟨29,gl,[(2,.ref 2 0),(4,uG w)],K5 l x.1.1 x.1.2 .ready .busy,4,4,true⟩ ?_ λkk=>?_
   .refine pO 12110 ⟨29,gl,[(2,.ref 2 0),(4,uG w)],K5 l x.1.1 x.1.2 .ready .busy,4,4,true⟩ [] [] ?_ [] r4;refine Xw (i:=1) (j:=2) (n:=40) (t:=0) (t2:=0) (pe:=none) (fr:=WL l) (ps:=Dy OZ) (a:=Dz OZ) (b:=DA OZ) (s1:=⟨29,gl,[(26,uG w),(25,.yld 1),(2,.ref 2 0),(4,uG w)],K5 l x.1.1 x.1.2 .ready .busy,4,4,true⟩)
     (s3:=⟨29,gl,[(28,bG false),(27,bG true),(26,uG w),(25,.yld 1),(2,.ref 2 0),(4,uG w)],(1,TO l .ready)::K5 l s (k1 x.1.2) .busy .busy,4,4,true⟩)
     (K5 l s (k1 x.1.2) .busy .busy) 4 (.loop .ready none 40 (WL l) (Dy OZ) (Dz OZ) (DA OZ)) [] [] ?_ ?_
    .refine C9 .normal ⟨40,gl,[(5,.ref 0 0),(6,uG w)],K5 l x.1.1 x.1.2 .ready .busy,4,4,true⟩ [] [] (Xv Tryz.f277 ?_ rfl) [] r4;exact C9 .normal ⟨40,gl,[],K5 l s (k1 x.1.2) .busy .busy,4,4,true⟩ [Z3 (gl:=gl) 19 4 5 x.1.1 x.1.2 w es] [] (by grind [jy]) [] r4
    .exact C9 .normal ⟨29,gl,[],K5 l s (k1 x.1.2) .ready .busy,4,4,true⟩ [] [] (by grind [jy]) [] r4
   refine pN (λz:Nat×Int=>⟨29,gl,[(2,.ref 2 0),(4,uG z.1),(10,aE cY q),(11,iG (ah q)),(12,iG z.2)],K5 l x.1.1 x.1.2 .ready .busy,4,4,true⟩) [2,1,0,1,2,2] ew [] [] (λC z v hz k m=>?_) [] r4;unfold oD at hz;rcases bC hz with⟨c1,hz⟩|⟨c1,hz⟩
   .obtain⟨f,e1,hz⟩:=bS hz;obtain⟨n1,e2,hz⟩:=bS hz;obtain rfl:=Bp hz;exact jw [hr 13 c1,AB 15 (rY.ixZ e1),AB 16 (rY.p1Z tY e1),AB 19 (C8 (f.toNat:Int)),hV 22 (sM (P:=prog) (t:=36) (wU (f.toNat:Int)) e2),hV 23 (jc (P:=prog) (t:=36) z.1 (It (wU (f.toNat:Int)) n1))] [] (k _ rfl) [] r4
   .obtain rfl:=Bp hz;obtain rfl:=m _ rfl;exact yl 12101 [hr 13 c1] [] kk [] r4
  .exact jw [] [] (k5 _ rfl) [] r4
 .obtain rfl:=Bp hs;obtain rfl:=e _ rfl;refine C9 .normal (s0 31 gl [] [(0,Ku x.1.1 x.1.2),(1,TO l .ready),(3,PH .ready)] 4 4) [hr 9 b1] [] (Xu ?_ rfl) [] r4;refine C9 .normal (s0 29 gl [] [(0,Ku x.1.1 x.1.2),(1,TO l .ready)] 2 2) [] [] (Xu ?_ rfl) [] [(0,0),(1,1)];refine pN (λx:(Nat×Nat)×Int=>(s0 40 gl [(5,.ref 0 0),(25,aE cW l),(26,iG (ah l)),(27,iG x.2)] [(0,Ku x.1.1 x.1.2)] 1 0)) 111110122 p [AB 22 (C8 (ah l)),Z3 (gl:=gl) 24 2 3 x.1.1 x.1.2 (wU (ah l)) e1] [] (λB z v hz k5 e=>?_) [] [(0,0)];unfold F3 at hz;rcases bC hz with⟨c1,hz⟩|⟨c1,hz⟩
  .obtain⟨y,d,hz⟩:=bS hz;obtain⟨n,A,hz⟩:=bS hz;obtain⟨s,es,hz⟩:=bS hz;obtain rfl:=Bp hz;exact jw [hr 28 c1,AB 29 (rW.ixZ d),AB 30 (rW.p1Z tW d),hf 32 (E5 gl A),Z3 (gl:=gl) 34 1 2 z.1.1 z.1.2 n es] [] (k5 _ rfl) [] [(0,0)]
  .obtain rfl:=Bp hz;obtain rfl:=e _ rfl;exact Ar [hr 28 c1,Z3 (gl:=gl) 37 1 2 z.1.1 z.1.2 0 h] []
def LW(label b:CY):Fq:=(Cj b).bind λw=>(aT 8 w [wU (ah b)]).bind λl=>x6 label l
theorem xd{b:CY}(h:LW label b=some r):ba prog gl 183 [sG label,aE cY b] (uG r):=by unfold LW at h;obtain⟨w,ew,h⟩:=bS h;obtain⟨l,el',h⟩:=bS h;refine Gh func183 ?_;exact Ar [hf 7 (Ic gl b),ho 8 [ny b] [] (Ky gl ew) (by grind [cW]),AB 11 (C8 (ah b)),dg 13 rW el',hq 14 [sG label,aE cW l] [hc (rW.al l)] (ES gl h)] []
section
def Xy(o:Bo):CY:=[]++[o.By,o.Seq,o.Kind,o.At].flatMap aV
def Xz(o:Bo):CY:=Xy o++(aV (o.Past.length:Int)++o.Past.flatMap sN)
def XA(o:Bo):CY:=Xz o++[o.Device,o.Old,o.Member,o.Role].flatMap aV
def XB(o:Bo):CY:=XA o++(aV (o.Path.length:Int)++o.Path.flatMap ke)
def XC(o:Bo):CY:=XB o++sN o.Epoch
def XD(o:Bo):CY:=XC o++aV o.N
def XE(o:Bo):CY:=XD o++tM o.Body
def XG(o:Bo):CY:=XE o++(aV (o.Refs.length:Int)++o.Refs.flatMap nb)
def XH(o:Bo):CY:=XG o++sN o.Of
def Ox(o:Bo):CY:=XH o++(aV (o.Guards.length:Int)++o.Guards.flatMap aV)
def Oy(o:Bo):CY:=Ox o++[o.Need,o.Wait].flatMap aV
def Oz(o:Bo):CY:=Oy o++(aV (o.Boxes.length:Int)++o.Boxes.flatMap uT)
def OA(o:Bo):CY:=Oz o++nb o.Pub
def IP(o:Bo):CY:=OA o++(aV (o.Hist.length:Int)++o.Hist.flatMap lX)
theorem Aft(o:Bo):IP o=qc o:=by simp only[Xy,Xz,XA,XB,XC,XD,XE,XG,XH,Ox,Oy,Oz,OA,IP,qc,uU,List.flatMap_cons,List.flatMap_nil,List.append_assoc,LP,Px]
theorem aaU(o:Bo):[]++[o.By,o.Seq,o.Kind,o.At].flatMap aV=Xy o:=rfl
theorem Zd(o:Bo):Xy o++(aV (o.Past.length:Int)++o.Past.flatMap sN)=Xz o:=rfl
theorem Ze(o:Bo):Xz o++[o.Device,o.Old,o.Member,o.Role].flatMap aV=XA o:=rfl
theorem Zf(o:Bo):XA o++(aV (o.Path.length:Int)++o.Path.flatMap ke)=XB o:=rfl
theorem Zg(o:Bo):XB o++sN o.Epoch=XC o:=rfl
theorem Zh(o:Bo):XC o++aV o.N=XD o:=rfl
theorem Zi(o:Bo):XD o++tM o.Body=XE o:=rfl
theorem Zj(o:Bo):XE o++(aV (o.Refs.length:Int)++o.Refs.flatMap nb)=XG o:=rfl
theorem Zk(o:Bo):XG o++sN o.Of=XH o:=rfl
theorem Vd(o:Bo):XH o++(aV (o.Guards.length:Int)++o.Guards.flatMap aV)=Ox o:=rfl
theorem Ve(o:Bo):Ox o++[o.Need,o.Wait].flatMap aV=Oy o:=rfl
theorem Vf(o:Bo):Oy o++(aV (o.Boxes.length:Int)++o.Boxes.flatMap uT)=Oz o:=rfl
theorem Vg(o:Bo):Oz o++nb o.Pub=OA o:=rfl
theorem Vh(o:Bo):OA o++(aV (o.Hist.length:Int)++o.Hist.flatMap lX)=IP o:=rfl
def Afu(d k j c:Nat){gl:CC}{fid:FuncId}{L:Bn}{l r:CY}(h:jg prog gl fid [.rsl 3 0 L.length,.ref 0 0] [(0,bx),(1,oO 2 l),(2,oY l),ob 3 3 (L.flatMap cZ)] [0,1,k,j].length (.tup []) [(0,bx),(1,oO 4 r),(4,oY r),ob 3 3 (L.flatMap cZ)] 5)
  (hin:w6 (vi [0,1,k,j]) [(0,bx),(1,oO k l),(k,oY l),(j,some ⟨3,L.flatMap cZ,none⟩)] [(0,bx),(1,oO 2 l),(2,oY l),ob 3 3 (L.flatMap cZ)] 0 [0,1,k,j]:=by exact⟨⟨rfl,.inl rfl⟩,⟨rfl,.inl rfl⟩,⟨rfl,.inr ⟨rfl,rY.imm _⟩⟩,⟨rfl,.inr ⟨rfl,rZ.imm _⟩⟩,trivial⟩) (a:oI (G4 [0,1,k,j] c) [(0,bx),(1,oO 4 r),(4,oY r),ob 3 3 (L.flatMap cZ)] [(0,bx),(1,oO c r),(2,none),ob 3 3 (L.flatMap cZ),(4,oY r)]:=by exact⟨⟨rfl,.inl rfl⟩,⟨rfl,.inl rfl⟩,⟨rfl,.inr ⟨rfl,rZ.imm _⟩⟩,⟨rfl,.inr ⟨rfl,rY.imm _⟩⟩,trivial⟩)
  (hlt:[0,1,k,j].all (λi=>Nat.blt i c)=true:=by kernel_rfl) (hnd:decide [0,1,k,j].Nodup=true:=by kernel_rfl) (hgs:[G.rsl j 0 L.length,.ref 0 0].map (qg (vi [0,1,k,j]) 20)=[.rsl 3 0 L.length,.ref 0 0]:=by kernel_rfl):HP:=
 tN d [0,1,k,j] c [(0,bx),(1,oO k l),(k,oY l),(j,some ⟨3,L.flatMap cZ,none⟩)] [.rsl j 0 L.length,.ref 0 0] [(0,bx),(1,oO c r),(2,none),ob 3 3 (L.flatMap cZ),(4,oY r)] h hin a hlt hnd hgs (by rfl) (by rfl) (by rfl)
attribute [local irreducible] Xy Xz XA XB XC XD XE XG XH Ox Oy Oz OA IP
set_option maxHeartbeats 2000000 in
theorem MP{o:Bo}(ho:Be o):jg prog gl 184 [.agg (aJ o)] [] 0 (.ref 0 0) [(0,oO 1 (qc o)),(1,oY (qc o))] 2:=by
 have hI:∀l:Bn,(∀z∈l,z∈[o.By,o.Seq,o.Kind,o.At,o.Device,o.Old,o.Member,o.Role,o.N,o.Need,o.Wait])->∀z∈l,c8 z:=by grind [Be.ints]
 have h14:=yY ho;rw[<-Aft] at h14;have h13:(OA o).length<=50000000:=by grind [Vh]
 have h12:(Oz o).length<=50000000:=by grind [Vg]
 have h11:(Oy o).length<=50000000:=by grind [Vf]
 have h10:(Ox o).length<=50000000:=by grind [Ve]
 have h9:(XH o).length<=50000000:=by grind [Vd]
 have h8:(XG o).length<=50000000:=by grind [Zk]
 have h7:(XE o).length<=50000000:=by grind [Zj]
 have h6:(XD o).length<=50000000:=by grind [Zi]
 have h5:(XC o).length<=50000000:=by grind [Zh]
 have h4:(XB o).length<=50000000:=by grind [Zg]
 have h3:(XA o).length<=50000000:=by grind [Zf]
 have h2:(Xz o).length<=50000000:=by grind [Ze]
 have h1:(Xy o).length<=50000000:=by grind [Zd]
 rw[<-Aft o];refine pP func184 ?_;refine pO 111110 (s0 94 gl [(1,.ptr (aJ o) 0),(3,.ref 0 0),(4,.clo (.func 280) [] [.ref 0 0]),(5,.ref 3 0)] (sW 2 []) 4 0) [] [hc (eB (gs:=aJ o) aH),hc (rY.imm [])] ?_ (kd:=[(2,.row),(999999,.clo)]);exact mt .ret (s0 94 gl [(2,.ref 0 0)] [(0,oO 1 (IP o)),(1,oY (IP o))] 2 0) [.ref 0 0] [Afu 20 2 4 5 (L:=[o.By,o.Seq,o.Kind,o.At]) (CS gl (hI _ aC) aC aC aC (aaU o)),
  IN 26 5 6 [.ref 1 0,aE aj o.Past,.clo (.func 285) [.ref 1 0] []] (Rj gl ho.past ho.nPast aa (Zd o)),
  Afu 37 6 7 8 (L:=[o.Device,o.Old,o.Member,o.Role]) (CS gl (hI _ aC) aC aC aa (Ze o)),
  IN 42 8 9 [.ref 1 0,aE bY o.Path,.clo (.func 287) [] [.ref 0 0,.ref 3 0]] (Ro gl ho.path ho.nPath aa (Zf o)),
  gD 46 1 9 10 [.ref 1 0,.agg (aj o.Epoch)] (kh gl ho.epoch aa (Zg o)),
  gD 50 1 10 11 [.ref 1 0,iG o.N] (cA gl (ho.ints _ aC) aa (Zh o)),
  XY 54 o.Body,gD 55 1 11 12 [.ref 1 0,sG o.Body] (CR gl (by have:=ho.nBody;omega) aa (Zi o)),
  IN 61 12 13 [.ref 1 0,aE cW o.Refs,.clo (.func 283) [.ref 1 0] []] (TM gl ho.refs ho.nRefs aa (Zj o)),
  gD 65 1 13 14 [.ref 1 0,.agg (aj o.Of)] (kh gl ho.of_ aa (Zk o)),
  IN 71 14 15 [.ref 1 0,aE cZ o.Guards,.clo (.func 281) [.ref 1 0] []] (TN gl ho.guards ho.nGuards aa (Vd o)),
  Afu 78 15 16 17 (L:=[o.Need,o.Wait]) (CS gl (hI _ aC) aC aC aa (Ve o)),
  IN 83 17 18 [.ref 1 0,aE cz o.Boxes,.clo (.func 282) [] [.ref 0 0]] (IO_q gl ho.boxes ho.nBoxes aa (Vf o)),
  gD 87 1 18 19 [.ref 1 0,uG o.Pub] (KE gl ho.pub aa (Vg o)),
  IN 92 19 20 [.ref 1 0,aE bp o.Hist,.clo (.func 293) [] [.ref 0 0]] (Rp gl ho.hist ho.nHist aa (Vh o))]
  [hc (el (IP o)),hc (rY.imm (IP o))]
attribute [local irreducible] qc
def Rs(o:Bo):Option Ab:=(LW [111,112] (qc o)).bind λv=>some ⟨o.By,o.Seq,v⟩
theorem TP{o:Bo}(ho:Be o){r:Ab}(h:Rs o=some r):ba prog gl 100 [.agg (aJ o)] (.agg (aj r)):=by
 unfold Rs at h;obtain⟨v,ev,h⟩:=bS h;obtain rfl:=Bp h;have h14:=yY ho;refine Gh func100 ?_;refine pO [1,0] (s0 12 gl [(1,.ptr (aJ o) 0),(2,.ref 0 0)] [ob 0 41 [iG 0,iG 0,uG 0]] 1 0) [] [hc (eB (gs:=aJ o) aH)] ?_ [] [(0,1)];exact Ar [tN 8 [] 1 [] [.agg (aJ o)] [(0,oO 2 (qc o)),(1,oY (qc o))] (MP gl ho) trivial ⟨⟨rfl,.inl rfl⟩,⟨rfl,.inr ⟨rfl,rY.imm _⟩⟩,trivial⟩,
  tN 9 [1,2] 3 [(1,oO 2 (qc o)),(2,oY (qc o))] [.ref 1 0] [(0,oO 2 (qc o)),(1,oY (qc o)),(2,oY (qc o))] (rS gl (l:=qc o) aa) ⟨⟨rfl,.inl rfl⟩,⟨rfl,.inr ⟨rfl,rY.imm _⟩⟩,trivial⟩ ⟨⟨rfl,.inl rfl⟩,⟨rfl,.inr ⟨rfl,rY.imm _⟩⟩,⟨rfl,.inr ⟨rfl,rY.imm _⟩⟩,trivial⟩,
  hq 10 [sG [111,112],aE cY (qc o)] [hc (rY.al (qc o))] (xd gl ev)] []
end
end
theorem K6(a b:Nat):wU ((a:Int)*(b:Int))=a*b%18446744073709551616:=by rw[<-Int.natCast_mul,gP]
theorem me(a b:Nat):wU ((a:Int)+(b:Int))=(a+b)%18446744073709551616:=by rw[<-Int.natCast_add,gP]
theorem Zl(h:b<=a):wU ((a:Int)-(b:Int))=(a-b)%18446744073709551616:=by rw[<-Int.natCast_sub h,gP]
abbrev PF:Nat:=2305843009213693951
theorem TR(a:Nat):JH a 61=a/2305843009213693952:=rfl
theorem WM(a:Nat):It a 3=a*8%18446744073709551616:=rfl
theorem TS(h:a<18446744073709551616):bD a 2305843009213693951=a%2305843009213693952:=by unfold bD;rw[LO h];exact Nat.and_two_pow_sub_one_eq_mod a 61
theorem E7(h:n<18446744073709551616):eR n=some (n%PF):=by
 unfold eR;rw[TS h,TR,me];have e:(n%2305843009213693952+n/2305843009213693952)%18446744073709551616=n%2305843009213693952+n/2305843009213693952:=LO aa;rw[e];by_cases h1:2305843009213693951<=n%2305843009213693952+n/2305843009213693952
 .rw[C6 aa,ax,Zl h1];grind
 grind
theorem Gx{x y:Nat}(hx:x<18446744073709551616)(hy:y<18446744073709551616):sL x y=some (x*y/18446744073709551616,x*y%18446744073709551616):=by unfold sL;rw[C6 ⟨hx,hy⟩];rfl
theorem Rt(a b:Nat)(hi lo:Nat)(h:hi*18446744073709551616+lo=a%2305843009213693951*(b%2305843009213693951))(hl:lo<18446744073709551616):hi<288230376151711744/\(lo%2305843009213693951+hi*8)%2305843009213693951=a*b%2305843009213693951:=by have h1:a%2305843009213693951*(b%2305843009213693951)<=2305843009213693950*2305843009213693950:=Nat.mul_le_mul aa aa;rw[Nat.mul_mod a b,<-h];omega
theorem PM(ha:a<18446744073709551616)(hb:b<18446744073709551616):jZ a b=some (a*b%PF):=by
 unfold jZ;rw[E7 ha,aL,E7 hb,aL];have hA:a%PF<2305843009213693951:=Nat.mod_lt _ BU;have hB:b%PF<2305843009213693951:=Nat.mod_lt _ BU;rw[Gx aa aa,aL];dsimp only;have hlo:a%PF*(b%PF)%18446744073709551616<18446744073709551616:=Nat.mod_lt _ BU;rw[E7 hlo,aL];obtain⟨h1,h2⟩:=Rt a b (a%PF*(b%PF)/18446744073709551616) (a%PF*(b%PF)%18446744073709551616) (Nat.div_add_mod' _ _) hlo;rw[WM,me];generalize a%PF*(b%PF)/18446744073709551616=hi at*;generalize a%PF*(b%PF)%18446744073709551616=lo at*;have e:(lo%PF+hi*8%18446744073709551616)%18446744073709551616=lo%PF+hi*8:=by grind
 grind [E7]
theorem IQ(ha:a<18446744073709551616)(hb:b<18446744073709551616):wG a b=some ((a+b)%PF):=by unfold wG;have hA:a%PF<2305843009213693951:=Nat.mod_lt _ BU;have hB:b%PF<2305843009213693951:=Nat.mod_lt _ BU;rw[E7 ha,aL,E7 hb,aL,me,E7 (Nat.mod_lt _ BU),aL];congr 1;show(a%2305843009213693951+b%2305843009213693951)%18446744073709551616%2305843009213693951=(a+b)%2305843009213693951;omega
theorem ll:oQ a b=some (a*b%PF):=rfl
theorem yq:qi a b=some ((a+b)%PF):=by unfold qi;rw[me];congr 1;show _=(a+b)%2305843009213693951;omega
section
variable {σ1 σ2 ρ1 ρ2:Type}
def Sim(R:σ1->σ2->Prop)(Q:ρ1->ρ2->Prop):σ1⊕ρ1->σ2⊕ρ2->Prop
 | .inl a,.inl b=>R a b
 | .inr a,.inr b=>Q a b
 |_,_=>False
theorem MQ{s1:σ1->Option (σ1⊕ρ1)}{s2:σ2->Option (σ2⊕ρ2)}(R:σ1->σ2->Prop)(Q:ρ1->ρ2->Prop)(h:∀a b,R a b->∀v,s2 b=some v->∃u,s1 a=some u/\Sim R Q u v):∀(n:Nat) (a:σ1) (b:σ2) (r:ρ2),R a b->KN s2 n b=some r->∃q,KN s1 n a=some q/\Q q r
 |0,a,b,r,_,hl=>by cases hl
 |n+1,a,b,r,hR,hl=>by
  unfold KN at hl⊢;cases hb:s2 b with
  |none=>rw[hb] at hl;cases hl
  |some v=>
   rw[hb] at hl;obtain⟨u,hu,hs⟩:=h a b hR v hb;rw[hu];cases u with
   |inl a'=>
    cases v with
    |inl b'=>exact MQ R Q h n a' b' r hs hl
    |inr b'=>exact hs.elim
   |inr a'=>
    cases v with
    |inl b'=>exact hs.elim
    |inr b'=>dsimp only at hl⊢;cases hl;exact⟨a',rfl,hs⟩
theorem Rv{s1:σ1->Option (σ1⊕ρ1)}{s2:σ2->Option (σ2⊕ρ2)}(R:σ1->σ2->Prop)(Q:ρ1->ρ2->Prop)(h:∀a b,R a b->∀v,s2 b=some v->∃u,s1 a=some u/\Sim R Q u v){a:σ1}{b:σ2}{r:ρ2}(hR:R a b)(hl:AH s2 b=some r):∃q,AH s1 a=some q/\Q q r:=MQ R Q h _ a b r hR hl
end
theorem WN(h:n<18446744073709551616):bD n 1=n%2:=by grind [bD]
theorem WO(n:Nat):JH n 1=n/2:=rfl
theorem CT(n:Nat):n%PF<2305843009213693951:=Nat.mod_lt _ BU
theorem nf(ha:a<18446744073709551616)(hn:n<18446744073709551616)(h:iK a n=some r):j7 a n=some r:=by
 unfold iK at h;obtain⟨x,hx,h⟩:=bS h;cases h;unfold j7;rw[E7 ha,aL];have hst:∀(s t:Nat×Nat×Nat),(λ(s:Nat×Nat×Nat) (t:Nat×Nat×Nat)=>t=(s.2.2,s.1,s.2.1)/\s.1<2305843009213693951/\s.2.1<18446744073709551616/\s.2.2<2305843009213693951) s t->∀v,r6 t=some v->∃u,mW s=some u/\Sim (λ(s:Nat×Nat×Nat) (t:Nat×Nat×Nat)=>t=(s.2.2,s.1,s.2.1)/\s.1<2305843009213693951/\s.2.1<18446744073709551616/\s.2.2<2305843009213693951) (λa b=>a=b) u v:=by
  intro s t hR v hv;obtain⟨b,m,o⟩:=s;obtain⟨rfl,k1,k2,k3⟩:=hR;dsimp only at k1 k2 k3;unfold r6 at hv;unfold mW;dsimp only at hv⊢;rw[WN k2,WO];have hm:∀x y:Nat,x<2305843009213693951->y<2305843009213693951->jZ x y=some (x*y%PF):=by grind [PM]
  rcases bC hv with⟨c,hv⟩|⟨c,hv⟩
  .rw[c,ax];obtain⟨j,hj,hv⟩:=bS hv;obtain⟨w,hw,hv⟩:=bS hv;cases hv;rw[ll] at hw;cases hw;refine⟨.inl (b*b%PF,m/2,j),?_,?_⟩
   .grind [ll]
   .refine⟨?_,CT _,by show m/2<_;omega,?_⟩
    .show(j,b*b%PF,wU ((m/2:Nat):Int))=(j,b*b%PF,m/2);rw[gP,LO (a:=m/2) aa]
    grind [ll]
  .rw[c,Bf];cases hv;exact⟨_,rfl,rfl⟩
 obtain⟨q,h1,h2⟩:=Rv _ _ hst (a:=(a%PF,n,1)) (by grind) hx;rw[h1,h2]
def DB:Nat->Nat->Br->Fq
 |s,_,[]=>some s
 |s,k,w::r=>(kE s k w).bind λs'=>DB s' (k+1) r
def Z4(s k w:Nat):Nat:=(37*s%PF+(w+(k+1))%PF)%PF
theorem CU{s k w:Nat}(hs:s<18446744073709551616)(hw:w<9223372036854775808)(hk:k<4611686018427387904):∃r,iK (Z4 s k w) 17=some r/\kE s k w=some r/\r<2305843009213693951:=by
 obtain⟨r,h1,h2⟩:=ka (Z4 s k w) (n:=17) BU;refine⟨r,h1,?_,h2⟩;have hp:Z4 s k w<2305843009213693951:=CT _;unfold kE;rw[PM BU hs,aL];have e:wU ((w:Int)+((wU ((k:Int)+((1:Nat):Int)):Nat):Int))=w+(k+1):=by rw[me k 1,me,LO (show k+1<18446744073709551616 by omega),LO aa]
 grind [E7,IQ,nf,Z4]
theorem Vi:∀(l:Br) (s k:Nat),s<18446744073709551616->(∀w∈l,w<9223372036854775808)->k+l.length<4611686018427387904->T (DB s k l) λr=>r<18446744073709551616
 |[],s,k,hs,_,_=>⟨s,rfl,hs⟩
 |w::r,s,k,hs,hw,hk=>by simp only[List.length_cons] at hk;obtain⟨s',h1,h2,h3⟩:=CU (s:=s) (k:=k) (w:=w) hs (hw w aC) aa;unfold DB;exact .eqb h2 (Vi r s' (k+1) aa (by grind) aa)
theorem Au:∀(l m:Br) (s k:Nat),DB s k (l++m)=(DB s k l).bind λs'=>DB s' (k+l.length) m
 |[],m,s,k=>rfl
 |w::r,m,s,k=>by show(kE s k w).bind (λs'=>DB s' (k+1) (r++m))=((kE s k w).bind λs'=>DB s' (k+1) r).bind _;rw[Option.bind_assoc];congr 1;funext s';rw[Au r m s' (k+1),List.length_cons,Nat.add_assoc,Nat.add_comm 1]
def xi:CY->Nat
 |[]=>0
 |x::r=>x.toNat+256*xi r
theorem Gy:∀l:CY,xi l<256^l.length
 |[]=>BU
 |x::r=>by have:=Gy r;grind [UInt8.toNat_lt,xi]
theorem MR:∀(l m:CY),xi (l++m)=xi l+256^l.length*xi m
 |[],m=>by simp[xi]
 |x::r,m=>by show x.toNat+256*xi (r++m)=x.toNat+256*xi r+256^(r.length+1)*xi m;rw[MR r m,Nat.pow_succ,Nat.mul_add,Nat.mul_comm (256^r.length) 256,Nat.mul_assoc,Nat.add_assoc]
theorem WP(h:l.length<=7):xi l<72057594037927936:=Nat.lt_of_lt_of_le (Gy l) (Nj (Nat.pow_le_pow_right BU h) BU)
def ws(b:CY):Br:=match b with
 |[]=>[]
 |x::r=>xi ((x::r).take 7)::ws ((x::r).drop 7)
 termination_by b.length
 decreasing_by simp;omega
theorem Gz{b:CY}(h:0<b.length):ws b=xi (b.take 7)::ws (b.drop 7):=by cases b<;>grind [ws]
theorem vc:ws []=[]:=by rw[ws]
theorem CV:∀(n:Nat) (b:CY),b.length<=n->(ws b).length<=b.length
 |0,b,h=>by grind [vc]
 |n+1,b,h=>by
  by_cases hb:0<b.length
  .rw[Gz hb,List.length_cons];have:=CV n (b.drop 7) (by rw[List.length_drop];omega);rw[List.length_drop] at this;omega
  grind [vc]
theorem Rx:∀(n:Nat) (b:CY),b.length<=n->∀w∈ws b,w<9223372036854775808
 |0,b,h,w,hw=>by grind [vc]
 |n+1,b,h,w,hw=>by
  by_cases hb:0<b.length
  .rw[Gz hb] at hw;rcases EG.1 hw with rfl|hw
   .grind [WP]
   .exact Rx n (b.drop 7) (by rw[List.length_drop];omega) w hw
  grind [vc]
theorem WQ{a b k:Nat}(h:a<2^k):a|||b*2^k=a+b*2^k:=by grind [Nat.two_pow_add_eq_or_of_lt,Nat.mul_comm]
theorem Zm(k:Nat):256^k=2^(8*k):=by rw[Nat.pow_mul]
theorem IR{q:CY}(hq:q.length<=7):AH (oD q) (0,0)=some (xi q):=by
 refine T.eq (T.loop (λs=>∃i:Nat,s.2=(i:Int)/\i<=q.length/\s.1=xi (q.take i)) (λs=>q.length-s.2.toNat) (by grind [xi]) (by show q.length-_<_;omega) ?_);rintro⟨w,j⟩ ⟨i,rfl,h2,rfl⟩;unfold oD;dsimp only;refine .dec (λh=>?_) λh=>?_
 .unfold ah at h;have hi:i<q.length:=aa;refine .bind (.ix aa (x:=q[i]) (by rw[Fw,EA hi]) ?_);have e8:wI (8*(i:Int))=((8*i:Nat):Int):=by grind [bM]
  refine .bind (x:=wJ _) ⟨8*i,by grind [wJ],?_⟩;refine .some ⟨⟨i+1,aq aa,hi,?_⟩,?_⟩
  .show gM (xi (q.take i)) (It (wU ((q[i].toNat:Nat):Int)) (8*i))=xi (q.take (i+1));have hx:=q[i].toNat_lt;have hl:=Gy (q.take i);rw[Lv,Nat.min_eq_left h2,Zm] at hl;have hp:(2:Nat)^(8*i)<=2^48:=Nat.pow_le_pow_right BU aa;rw[List.take_succ_eq_append_getElem hi,MR,Lv,Nat.min_eq_left h2,Zm];unfold gM It;rw[gP,Nat.min_eq_left (by omega:8*i<=64),LO (a:=q[i].toNat) aa];have hb:q[i].toNat*2^(8*i)<=255*2^48:=Nat.mul_le_mul aa hp;grind [xi,WQ,Nat.mul_comm]
  grind [aq]
 .unfold ah at h;have hi:i=q.length:=aa;refine .some ?_;show xi (q.take i)=_;rw[hi,EZ]
theorem WR:iI 7 (n:Int)=((min 7 n:Nat):Int):=by unfold iI;omega
theorem yr{b:CY}(hb:b.length<=1099511627776)(hi:i<b.length):mc b (i:Int)=some (b.drop i)/\tq b (wI ((i:Int)+iI 7 (ah (b.drop i))))=some (b.take (i+min 7 (b.length-i)))/\mc (b.take (i+min 7 (b.length-i))) (i:Int)=some ((b.drop i).take 7)/\wI ((i:Int)+7)=((i+7:Nat):Int):=by
 refine⟨?_,?_,?_,?_⟩
 .grind [mc]
 .grind [ah,WR,bM,tq]
 .unfold mc;grind
 grind [bM]
theorem Ry{b:CY}(hi:i<b.length):ws (b.drop i)=xi ((b.drop i).take 7)::ws (b.drop (i+7)):=by grind [Gz,List.drop_drop]
theorem Vj{b:CY}:((b.take 7)).length<=7:=by rw[Lv];omega
theorem WS{b:CY}(hb:b.length<=1099511627776){k:Nat}(hk:k+b.length<4611686018427387904)(h:DB s k (ws b)=some r):AH (F1 b) ((s,k),0)=some (r,k+(ws b).length):=by
 refine T.eq (T.loop (λx=>∃i:Nat,x.2=(i:Int)/\i<=b.length+6/\x.1.2<=k+i/\DB x.1.1 x.1.2 (ws (b.drop i))=some r/\x.1.2+(ws (b.drop i)).length=k+(ws b).length) (λx=>b.length+7-x.2.toNat) (by grind) (by show b.length+7-_<_;omega) ?_);rintro⟨⟨s1,a⟩,z⟩ ⟨i,rfl,h2,h3,h4,h5⟩;dsimp only at h3 h4 h5;unfold F1;dsimp only;refine .dec (λh=>?_) λh=>?_
 .unfold ah at h;have hi:i<b.length:=aa;obtain⟨c1,c2,c3,c4⟩:=yr hb hi;rw[Ry hi] at h4 h5;refine .eqb c1 (.eqb c2 (.eqb c3 (.eqb (IR Vj) ?_)));unfold DB at h4;obtain⟨s',e1,e2⟩:=bS h4;refine .eqb e1 (.some ⟨⟨i+7,c4,aa,?_,?_,?_⟩,?_⟩)
  .show k1 a<=_;unfold k1;rw[me a 1,LO aa];omega
  .show DB s' (k1 a) _=_;unfold k1;rw[me a 1,LO aa];exact e2
  .show k1 a+_=_;unfold k1;rw[me a 1,LO aa,<-h5,List.length_cons];omega
  grind
 .unfold ah at h;have e:b.drop i=[]:=List.drop_eq_nil_of_le aa;rw[e,vc] at h4 h5;refine .some ?_;show(s1,a)=_;rw[<-h5,<-Bp h4];rfl
theorem OB{b:CY}(hb:b.length<=1099511627776):Cj b=some (ws b):=by
 have hln:=CV _ b (Dk _);refine T.eq (T.loop (λx=>∃i:Nat,x.2=(i:Int)/\i<=b.length+6/\x.1++ws (b.drop i)=ws b) (λx=>b.length+7-x.2.toNat) ⟨0,rfl,aa,rfl⟩ (by show b.length+7-_<_;omega) ?_);rintro⟨acc,z⟩ ⟨i,rfl,h2,h3⟩;dsimp only at h3;unfold xZ;dsimp only;refine .dec (λh=>?_) λh=>?_
 .unfold ah at h;have hi:i<b.length:=aa;obtain⟨c1,c2,c3,c4⟩:=yr hb hi;rw[Ry hi] at h3;have hl:=congrArg List.length h3;rw[UQ,List.length_cons] at hl;refine .eqb c1 (.eqb c2 (.eqb c3 (.eqb (IR Vj) (.bind (.app cq (.some ⟨⟨i+7,c4,aa,?_⟩,?_⟩))))));all_goals grind
 .unfold ah at h;have e:b.drop i=[]:=List.drop_eq_nil_of_le aa;rw[e,vc,LP] at h3;exact .some h3
theorem zq{b:CY}(hb:b.length<=1099511627776):Mj b=some (ws b):=by
 have hln:=CV _ b (Dk _);unfold Mj;refine T.eq (.bind (T.loop (λx=>∃i:Nat,x.2=(i:Int)/\i<=b.length+6/\x.1++ws (b.drop i)=ws b) (λx=>b.length+7-x.2.toNat) ⟨0,rfl,aa,rfl⟩ (by show b.length+7-_<_;omega) ?_));rintro⟨acc,z⟩ ⟨i,rfl,h2,h3⟩;dsimp only at h3;unfold qh;dsimp only;refine .dec (λh=>?_) λh=>?_
 .unfold ah at h;have hi:i<b.length:=aa;have c4:=(yr hb hi).2.2.2;rw[Ry hi] at h3;have hl:=congrArg List.length h3;rw[UQ,List.length_cons] at hl;generalize hq:(b.drop i).take 7=q at h3;have hq7:q.length=min 7 (b.length-i):=by rw[<-hq,Lv,List.length_drop]
  have em:iI (ah b) (((i+7:Nat):Int))=((i+q.length:Nat):Int):=by unfold iI ah;omega
  have inner:AH (my b (acc,(i:Int))) (0,wI (iI (ah b) (wI ((i:Int)+7))-1))=some (xi q):=by
   rw[c4,em,bM aa aa];refine T.eq (T.loop (λx=>∃j:Nat,x.2=((i+j:Nat):Int)-1/\j<=q.length/\x.1=xi (q.drop j)) (λx=>(x.2+1-i).toNat) ⟨q.length,aC,Dk _,by rw[List.drop_length];rfl⟩ (by grind) ?_);rintro⟨w,y⟩ ⟨j,rfl,c,rfl⟩;unfold my;dsimp only;refine .dec (λhh=>?_) λhh=>?_
   .have hj:0<j:=aa;have hjq:j-1<q.length:=aa;have hx:b[i+(j-1)]?=some q[j-1]:=by grind
    refine .bind (.ix aa (x:=q[j-1]) (by rw[<-hx];congr 1;omega) (.some ⟨⟨j-1,?_,aa,?_⟩,?_⟩))
    .grind [bM]
    .show wU (((wU (((xi (q.drop j):Nat):Int)*((256:Nat):Int)):Nat):Int)+((wU ((q[j-1].toNat:Nat):Int):Nat):Int))=xi (q.drop (j-1));rw[List.drop_eq_getElem_cons hjq,show j-1+1=j by omega];show _=q[j-1].toNat+256*xi (q.drop j);have h6:=Gy (q.drop j);rw[List.length_drop] at h6;have h7:(256:Nat)^(q.length-j)<=256^6:=Nat.pow_le_pow_right BU aa;have hx:=q[j-1].toNat_lt;rw[K6,gP q[j-1].toNat,me,LO (a:=xi (q.drop j)*256) aa,LO (a:=q[j-1].toNat) aa,LO aa];omega
    grind [bM]
   .obtain rfl:j=0:=aa;exact .some rfl
  refine .eqb inner (.bind (.app cq (.some ⟨⟨i+7,c4,aa,?_⟩,?_⟩)));all_goals grind
 .unfold ah at h;have e:b.drop i=[]:=List.drop_eq_nil_of_le aa;rw[e,vc,LP] at h3;exact .some (.some h3)
theorem WT{l:Br}(hl:l.length<=1099511627776)(hw:∀w∈l,w<18446744073709551616){k:Nat}(hk:k+l.length<4611686018427387904)(h:DB s k (l.map (·%PF))=some r):AH (F3 l) ((s,k),0)=some (r,k+l.length):=by
 refine T.eq (T.loop (λx=>∃i:Nat,x.2=(i:Int)/\i<=l.length/\x.1.2=k+i/\DB x.1.1 x.1.2 ((l.drop i).map (·%PF))=some r) (λx=>l.length-x.2.toNat) (by grind) (by show l.length-_<_;omega) ?_);rintro⟨⟨s1,a⟩,z⟩ ⟨i,rfl,h2,h3,h4⟩;dsimp only at h3 h4;subst h3;unfold F3;dsimp only;refine .dec (λh=>?_) λh=>?_
 .unfold ah at h;have hi:i<l.length:=aa;rw[List.drop_eq_getElem_cons hi,Fi] at h4;unfold DB at h4;obtain⟨s',e1,e2⟩:=bS h4;refine .bind (.ix aa (x:=l[i]) (by rw[Fw,EA hi]) ?_);refine .eqb (E7 (hw _ (List.getElem_mem hi))) (.eqb e1 (.some ⟨⟨i+1,aq aa,hi,?_,?_⟩,?_⟩))
  .show k1 (k+i)=_;unfold k1;rw[me (k+i) 1,LO aa];omega
  .show DB s' (k1 (k+i)) _=_;unfold k1;rw[me (k+i) 1,LO aa];exact e2
  grind [aq]
 .unfold ah at h;obtain rfl:i=l.length:=aa;rw[List.drop_length] at h4;refine .some ?_;show(s1,k+l.length)=_;rw[<-Bp h4]
theorem TT{k w:Nat}(hs:s<18446744073709551616)(hw:w<9223372036854775808)(hk:k<4611686018427387904)(h:kE s k w=some r):((oQ 37 s).bind λa=>(qi w (k+1)).bind λb=>(qi a b).bind λc=>iK c 17)=some r:=by obtain⟨r',h1,h2,_⟩:=CU hs hw hk;rw[h] at h2;cases h2;rw[ll,aL,yq,aL,yq,aL];exact h1
theorem K7{l:Br}(hl:l.length<=2199023255552)(hw:∀w∈l,w<9223372036854775808)(hs:s<18446744073709551616)(h:DB s 0 l=some r):AH (qj l) (s,0)=some r:=by
 refine T.eq (T.loop (λx=>∃i:Nat,x.2=(i:Int)/\i<=l.length/\x.1<18446744073709551616/\DB x.1 i (l.drop i)=some r) (λx=>l.length-x.2.toNat) ⟨0,rfl,aa,hs,h⟩ (by show l.length-_<_;omega) ?_);rintro⟨s1,z⟩ ⟨i,rfl,h2,h3,h4⟩;dsimp only at h3 h4;unfold qj;dsimp only;refine .dec (λh=>?_) λh=>?_
 .unfold ah at h;have hi:i<l.length:=aa;rw[List.drop_eq_getElem_cons hi] at h4;unfold DB at h4;obtain⟨s',e1,e2⟩:=bS h4;have a:=hw _ (List.getElem_mem hi);obtain⟨r',_,e3,e4⟩:=CU h3 a (show i<4611686018427387904 by omega);rw[e1] at e3;cases e3;have key:=TT h3 a aa e1;have ek:wU (wI ((i:Int)+1))=i+1:=by rw[aq aa,gP];omega
  rw[ek];obtain⟨b,m1,key⟩:=bS key;obtain⟨c,m2,key⟩:=bS key;obtain⟨d,m3,key⟩:=bS key;refine .eqb m1 (.bind (.ix aa (x:=l[i]) (by rw[Fw,EA hi]) (.eqb m2 (.eqb m3 (.eqb key (.some ⟨⟨i+1,aq aa,hi,by show s'<_;omega,e2⟩,?_⟩))))));show l.length-(wI ((i:Int)+1)).toNat<l.length-((i:Int)).toNat;rw[aq aa];omega
 .unfold ah at h;obtain rfl:i=l.length:=aa;rw[List.drop_length] at h4;refine .some ?_;show s1=r;exact Bp h4
theorem K8{l v:Br}(hv:v.length+l.length<=2199023255552):AH (qk l) (v,0)=some (v++l.map (·%PF)):=by
 refine T.eq (T.loop (λx=>∃i:Nat,x.2=(i:Int)/\i<=l.length/\x.1=v++(l.take i).map (·%PF)) (λx=>l.length-x.2.toNat) (by grind) (by show l.length-_<_;omega) ?_);rintro⟨acc,z⟩ ⟨i,rfl,h2,rfl⟩;unfold qk;dsimp only;refine .dec (λh=>?_) λh=>?_
 .unfold ah at h;have hi:i<l.length:=aa;refine .bind (.ix aa (x:=l[i]) (by rw[Fw,EA hi]) (.bind (.app cq (.some ⟨⟨i+1,aq aa,hi,?_⟩,?_⟩))));all_goals grind [List.take_succ_eq_append_getElem,aq]
 .unfold ah at h;obtain rfl:i=l.length:=aa;rw[EZ];exact .some rfl
theorem ET{label:CY}{l:Br}(h1:label.length<=1000)(h2:l.length<=1099511627776)(hw:∀w∈l,w<18446744073709551616):T (x6 label l) λr=>yA label l=some r/\r<18446744073709551616:=by
 have hln:=CV _ label (Dk _);have hwl:∀w∈ws label++[l.length]++l.map (·%PF)++[0],w<9223372036854775808:=λw hm=>by
  simp only[JF,List.mem_singleton,EO] at hm;rcases hm with((hm|rfl)|⟨x,_,rfl⟩)|rfl
  .exact Rx _ label (Dk _) w hm
  all_goals grind
 obtain⟨r,e,hr⟩:=Vi (ws label++[l.length]++l.map (·%PF)++[0]) label.length 0 aa hwl cq;have ew:wU (ah label)=label.length:=by unfold ah;rw[gP];omega
 have el':wU (ah l)=l.length:=by unfold ah;rw[gP];omega
 have eb:Gk label=some label:=by unfold Gk;rw[BB aa]
 refine⟨r,?_,?_,hr⟩
 .have e:=e;rw[Au,Au,Au] at e;obtain⟨a3,e,b⟩:=bS e;obtain⟨a2,e,f2⟩:=bS e;obtain⟨a1,e,f1⟩:=bS e;unfold x6;rw[eb,aL,ew,el',WS aa aa e,aL];have f1':kE a1 (0+(ws label).length) l.length=some a2:=by unfold DB at f1;obtain⟨q,q1,a⟩:=bS f1;rw[q1];exact a
  dsimp only;rw[f1',aL];have ek:k1 (0+(ws label).length)=0+(ws label++[l.length]).length:=by unfold k1;rw[me _ 1,LO aa,UQ];simp
  rw[ek,WT h2 hw cq f2,aL];dsimp only;unfold DB at b;obtain⟨q,q1,a⟩:=bS b;rw[show 0+(ws label++[l.length]).length+l.length=0+(ws label++[l.length]++l.map (·%PF)).length by simp;omega,q1];exact a
 .unfold yA;rw[eb,aL,zq aa,aL,el',ew];grind [aT,K8,K7]
theorem xe{label b:CY}(h1:label.length<=1000)(h2:b.length<=1073741824):T (LW label b) λr=>jI label b=some r/\r<18446744073709551616:=by
 have hln:=CV _ b (Dk _);unfold LW jI;rw[OB aa,aL,zq aa,aL];have el':wU (ah b)=b.length:=by unfold ah;rw[gP];omega
 have a1:aT 8 (ws b) [b.length]=some (ws b++[b.length]):=by grind [aT]
 rw[el',a1,aL,aL];refine(ET h1 cq λw hw=>?_).mono (by grind);simp only[JF,List.mem_singleton] at hw;rcases hw with hw|rfl
 .have:=Rx _ b (Dk _) w hw;omega
 .omega
theorem TU{o:Bo}(h:Be o):T (Rs o) λi=>pV o=some i:=by obtain⟨i,e,e1,e2,e3,_⟩:=wN h;obtain⟨v,f1,f2,_⟩:=xe (label:=[111,112]) (b:=qc o) BU (by have:=yY h;omega);refine⟨i,?_,e⟩;unfold Rs;rw[f1,aL];rw[f2] at e3;cases e3;rw[<-e1,<-e2]
section
attribute [local irreducible] Tr dz Gp
def xh(pub:Nat)(a:Nat)(b:CY):Option (Nat×Nat):=
 (LW [115,105,103,110,101,100] b).bind λv1=>(x6 [115,105,103] ([a,pub,v1]:Br)).bind λv3=>some (v1,v3)
theorem I7{r_:Nat}{b:CY}{r:Nat×Nat}(h:xh pub r_ b=some r):ba prog gl 295 [uG pub,uG r_,aE cY b] (.tup [uG r.1,uG r.2]):=by unfold xh at h;refine Gh func295 ?_;obtain⟨v1,e2,h⟩:=bS h;obtain⟨v3,e4,h⟩:=bS h;obtain rfl:=Bp h;exact Ar [hf 9 (xd gl e2),hq 15 [sG [115,105,103],aE cW ([r_,pub,v1]:Br)] [hc (rW.al ([r_,pub,v1]:Br))] (ES gl e4)] []
def lq(pub:Nat)(b:CY)(s:YB):Fo:=
 ((iB pub 1 2305843009213693950).bind λa=>bif(!a)then(some true)else((iB s.R 1 2305843009213693950).bind λc=>bif(!c)then(some true)else((iB s.S 0 2305843009213693949).bind λd=>some (!d)))).bind λg=>bif g then(some false)else((xh pub s.R b).bind λh=>(j7 37 s.S).bind λi=>(j7 pub h.2).bind λe=>(jZ s.R e).bind λf=>some (decide ((i:Int)=(f:Int))))
theorem GF{b:CY}{s:YB}{r:Bool}(h:lq pub b s=some r):ba prog gl 186 [uG pub,aE cY b,.agg (yy s)] (bG r):=by
 unfold lq at h;refine Gh func186 ?_;refine pO 11100 (s0 46 gl [(0,uG pub),(1,aE cY b),(5,.ref 0 0),(7,.clo (.func 294) [] [])] [ob 0 68 (yy s)] 1 0) [] [hc (aG 20 (.clo (.func 294) [] []) aH)] ?_;obtain⟨j,e4,h⟩:=bS h;refine Ix 11100 (s0 46 gl [(0,uG pub),(1,aE cY b),(5,.ref 0 0),(27,bG j)] [ob 0 68 (yy s)] 1 0) ?_ λkk=>?_
 .rcases bC h with⟨b5,h⟩|⟨b5,h⟩
  .rw[b5];obtain rfl:=Bp h;exact Ar [] []
  .rw[b5];obtain⟨q,e7,h⟩:=bS h;obtain⟨t,k,h⟩:=bS h;obtain⟨l,f,h⟩:=bS h;obtain⟨m,g,h⟩:=bS h;obtain rfl:=Bp h;exact Ar [hf 33 (I7 gl e7),hf 38 (mX gl k),hf 43 (mX gl f),hf 44 (j0 gl g)] []
 obtain⟨n,c,e4⟩:=bS e4;rcases bC e4 with⟨a,e4⟩|⟨a,e4⟩
 .obtain rfl:=Bp e4;exact yl 11100 [hf 12 (GJ gl c),hr 13 a] [] kk
 .obtain⟨o,e,e4⟩:=bS e4;rcases bC e4 with⟨d,e4⟩|⟨d,e4⟩
  .obtain rfl:=Bp e4;exact yl 11100 [hf 12 (GJ gl c),hr 13 a,hf 18 (GJ gl e),hr 20 d] [] kk
  .obtain⟨p,i,e4⟩:=bS e4;obtain rfl:=Bp e4;exact yl 11100 [hf 12 (GJ gl c),hr 13 a,hf 18 (GJ gl e),hr 20 d,hf 25 (GJ gl i)] [] kk
end
section
variable {P:Bu} {l:HE} {cx:Cx} {Q:Exit->Act->World->Prop}
theorem AeE{L:Array Bool}(hi:i<L.size):(L.setIfInBounds i true).getD j false=if i=j then true else L.getD j false:=by simp only[Array.getD_eq_getD_getElem?,Array.getElem?_setIfInBounds];grind
abbrev Dn:=Nat->Bool
def dn(L:Array Bool):Dn:=λi=>L.getD i false
def Dn.add(D:Dn)(j:Nat):Dn:=λi=>if j=i then true else D i
theorem PS{I:Dn->St->Prop}(hg:∀(j:Nat) (o:Oper),l[j]?=some o->o.guard=none)
  (c:∀(j:Nat) (o:Oper),l[j]?=some o->∀e∈o.after,Region.binds .any e=true->e.on<j)
  (hs:∀(D:Dn) (s:St) (j:Nat) (o:Oper),I D s->l[j]?=some o->D j=false->(∀e∈o.after,Region.binds .any e=true->D e.on=true)->th P o s (λs'=>I (D.add j) s'))
  (hq:∀D s a w,I D s->(∀j,j<l.length->D j=true)->mh P cx s a w->Q .normal a w):
  ∀(fuel:Nat) (L:Array Bool) (a:Act) (w:World) (s:St),L.toList.count false<=fuel->L.size=l.length->I (dn L) s->mh P cx s a w->wpAnyIn cx.F cx.nn P .any l.toArray Q fuel L a w:=by
 have empty:∀(L:Array Bool),L.size=l.length->Region.ready .any l.toArray L=[]->∀j,j<l.length->L.getD j false=true:=by
  intro L hsz hr j;induction j using Nat.strongRecOn with
  |_ j ih=>
   intro hj;cases h:L.getD j false with
   |true=>rfl
   |false=>
    have:j∈Region.ready .any l.toArray L:=by rw[mem_ready];have ho:l[j]?=some (l[j]'hj):=EA hj;grind
    grind
 intro fuel
 induction fuel with
 |zero=>
  intro L a w s hc hsz hI R
  have hall:∀j,j<l.length->L.getD j false=true:=by
   intro j hj;have hs:j<L.size:=by grind
   have h0:L.toList.count false=0:=aa;rw[List.count_eq_zero] at h0;cases h:L.getD j false with
   |true=>rfl
   |false=>simp[hs] at h;grind
  refine⟨?_,hq _ s a w hI hall R⟩
  cases hr:Region.ready .any l.toArray L with
  |nil=>rfl
  |cons x xs=>
   have hx:x∈Region.ready .any l.toArray L:=by rw[hr];simp
   grind [mem_ready]
 |succ fuel ih=>
  intro L a w s hc hsz hI R
  refine⟨λhr=>hq _ s a w hI (empty L hsz hr) R,λj hj=>?_⟩
  obtain⟨h1,o,ho',hr⟩:=mem_ready.1 hj
  have ho:l[j]?=some o:=by grind
  have hjl:=(cr ho).1
  have hs':j<L.size:=by grind
  have hL:L.getD j false=false:=by grind
  have hcnt:(L.setIfInBounds j true).toList.count false<=fuel:=by have:=aac L.toList j (by simp_all);grind
  have hD:dn (L.setIfInBounds j true)=(dn L).add j:=by funext i;exact AeE hs'
  unfold wpOpIn
  simp only[ho']
  obtain⟨β,rb⟩:=R
  have hw:ce s l.toArray o=some true:=by grind [ce]
  rw[BB (cT rb hw)]
  refine hs (dn L) s j o hI ho hL hr cx a w _ Q ⟨β,rb⟩ λs' b a' w' r'=>?_
  exact ih _ a' w' s' hcnt (by simp[hsz]) (by rw[hD];exact b) r'
theorem YC{id:Nat}{Q:Exit->St->Prop}(hm:P.follows .mixedOrders=true)(I:Dn->St->Prop)(hg:∀(j:Nat) (o:Oper),l[j]?=some o->o.guard=none)
  (b:∀(j:Nat) (o:Oper),l[j]?=some o->∀e∈o.after,Region.binds .any e=true->e.on<j) (h0:I (λ_=>false) st)
  (hs:∀(D:Dn) (s:St) (j:Nat) (o:Oper),I D s->l[j]?=some o->D j=false->(∀e∈o.after,Region.binds .any e=true->D e.on=true)->th P o s (λs'=>I (D.add j) s'))
  (hq:∀D s,I D s->(∀j,j<l.length->D j=true)->Q .normal s):Tr P (.region id l.toArray true) st Q:=λcx a w R ⟨β,r⟩ k=>by
 refine wpIn_region_any hm ?_
 have hr:Bx P cx st a {w with drawn:=w.drawn+1} β:=by grind [Bx.world,A3]
 have hno:dn (Array.replicate l.toArray.size false)=λ_=>false:=by funext i;show(Array.replicate l.toArray.size false).getD i false=false;rw[Array.getD_eq_getD_getElem?];grind
 refine PS (cx:=cx) (I:=I) hg b hs (by grind) _ _ _ _ st ?_ aC (by grind) ⟨β,hr⟩
 simp
end
section
variable {P:Bu}
def rk(o:Oper)(t:Tmp):Bool:=match o.dst with
 |some d=>Nat.beq d t
 |none=>false
theorem xJ:rk o t=true↔o.dst=some t:=by grind [rk,bc,Nat.beq_refl]
def PT(l:HE)(i:Nat)(t:Tmp):Bool:=match l[i]? with
 |some o=>rk o t
 |none=>false
theorem JY{l:HE}(h:PT l i t=true):bX l i=some t:=by grind [PT,bX,xJ]
def rl(o:Oper):Option Value:=match o.op with
 | .insert _ _ (.const k) _=>some k
 |_=>none
def Fx(d:TypeDesc)(a b:Value):Bool:=match Instr.sameNow d a b with
 |some false=>true
 |_=>false
theorem yN{d:TypeDesc}{a b:Value}(h:Fx d a b=true):Instr.sameNow d a b=some false:=by grind [Fx]
def LY(d:TypeDesc)(o a:Oper):Bool:=match rl o,rl a with
 |some k,some k'=>Fx d k k'&&Fx d k' k
 |_,_=>true
def rn(d:TypeDesc):HE->Bool
 |[]=>true
 |o::r=>r.all (LY d o)&&rn d r
theorem tD{d:TypeDesc}:∀{l:HE},rn d l=true->∀(i j:Nat) (o a:Oper) (k k':Value),i≠j->l[i]?=some o->l[j]?=some a->rl o=some k->rl a=some k'->Instr.sameNow d k k'=some false
 |[],_,i,j,o,a,k,k',_,h,_,_,_=>by cases h
 |x::r,h,i,j,o,a,k,k',hne,hi,hj,hk,hk'=>by
  simp only[rn,bA] at h;have key:∀(i:Nat) (a:Oper) (k k':Value),r[i]?=some a->rl x=some k->rl a=some k'->Instr.sameNow d k k'=some false/\Instr.sameNow d k' k=some false:=by intro i a k k' hi hk hk';have:=GV.1 h.1 a (bO hi);grind [LY,yN]
  cases i with
  |zero=>grind
  |succ i=>
   cases j with
   |zero=>grind
   |succ j=>exact tD h.2 i j o a k k' aa (by grind) (by grind) hk hk'
def BD:HE->Bool
 |[]=>true
 |o::r=>(match o.dst with
  |some d=>r.all λa=> !rk a d
  |none=>true)&&BD r
def PU(l:HE)(o:Oper):DC->Bool
 | .tmp t=>(o.after.toList.any λe=>Region.binds .any e&&PT l e.on t)||l.all λa=> !rk a t
 |_=>true
theorem fJ(h:Ab7 o i=true):∃e∈o.after,Region.binds .any e=true/\e.on=i:=by obtain⟨e,he,hb⟩:=List.any_eq_true.1 h;simp only[bA] at hb;exact⟨e,by simpa using he,hb.1,bc hb.2⟩
def wh(o:Oper):Nat->Bool
 |0=>true
 |n+1=>Ab7 o n&&wh o n
theorem tE{o:Oper}:∀{n:Nat},wh o n=true->∀i,i<n->Ab7 o i=true
 |n+1,h,i,hi=>by
  simp only[wh,bA] at h;rcases JB i n with h1|h1
  .exact tE h.2 i h1
  grind
def VD(P:Bu)(n:Nat)(T kt:Bj)(l:HE)(N1:Nat)(j:Nat)(o:Oper):Bool:=
 o.guard.isNone&&(o.after.toList.all λe=> !Region.binds .any e||Nat.blt e.on j)&&pj n o.dst&&(o.op.operands.toList.all (PU l o))&&(match o.op with
 | .makeMap t none=>Nat.beq j 0&&Nat.beq t T&&o.dst.isSome
 | .insert t _ (.const k) _=>Nat.beq t T&&o.dst.isNone&&Ab7 o 0&&rB P false kt k&&(match k with
  | .int .. =>true
  |_=>false)
 | .range t _=>Nat.beq j N1&&Nat.beq t T&&o.dst.isSome&&Ab7 o (N1-1)
 | .makeMap .. | .insert .. =>false
 |_=>o.dst.isSome)
def LZ(P:Bu)(n:Nat)(T kt:Bj)(l:HE)(N1:Nat):Nat->HE->Bool
 |_,[]=>true
 |j,o::r=>VD P n T kt l N1 j o&&LZ P n T kt l N1 (j+1) r
theorem BE{n:Nat}{T kt:Bj}{l:HE}{N1:Nat}:∀{m:HE} {j:Nat},LZ P n T kt l N1 j m=true->∀(i:Nat) (o:Oper),m[i]?=some o->VD P n T kt l N1 (j+i) o=true
 |[],j,_,i,o,h=>by cases h
 |x::r,j,h,i,o,hi=>by
  simp only[LZ,bA] at h;cases i with
  |zero=>grind
  |succ i=>have:=BE h.2 i o (by grind);grind
def wi(o:Oper):Bool:=match o.op with
 | .makeMap _ none=>true
 |_=>false
def HF(o:Oper):Bool:=match o.op with
 | .range .. =>true
 |_=>false
def JZ(P:Bu)(n:Nat)(T kt et:Bj)(l:HE)(N1:Nat):Bool:=
 (match pB P T with
 |some (k,e)=>Nat.beq k kt&&Nat.beq e et
 |none=>false)&&(match P.underlying kt with
 |some d=>rn d l
 |none=>false)&&BD l&&LZ P n T kt l N1 0 l&&Nat.beq l.length (N1+1)&&Nat.blt 0 N1&&(match l[0]?,l[N1]? with
 |some o,some o'=>wi o&&HF o'
 |_,_=>false)&&(match l[N1-1]? with
 |some o=>wh o (N1-1)
 |none=>false)
def VE(P:Bu)(a:St)(mi:Nat)(o:Oper):Prop:=∃d,o.dst=some d/\∀s:St,s.n=a.n->s.gl=a.gl->s.pr=a.pr->(∀x∈o.op.operands,aB s x=aB a x)->(∀i,i≠mi->i≠mi+1->ag s.σ i=ag a.σ i)->GS P o s (s.put (some d) (aD a.fr d))
def lN(P:Bu)(a:St)(mi:Nat)(o:Oper):Prop:=match o.op with
 | .makeMap .. =>(match o.dst with
  |some d=>iF 16 (aD a.fr d) (.mref mi)
  |none=>false)=true
 | .insert _ x _ _=>iF 16 (aB a x) (.mref mi)=true
 | .range _ x=>(iF 16 (aB a x) (.mref mi)&&(match o.dst with
  |some d=>iF 16 (aD a.fr d) (.ref (mi+1) 0)
  |none=>false))=true
 |_=>VE P a mi o
def mM(a:St)(o:Oper):Option (Value×G):=match o.op with
 | .insert _ _ (.const k) y=>some (k,aB a y)
 |_=>none
structure ZW (ents:List (Value×G)) (es:List (Value×G×Nat)) (clock:Nat):Prop where
 sub:∀e∈es,(e.1,e.2.1)∈ents
 sup:∀q∈ents,∃n,(q.1,q.2,n)∈es
 lt:∀e∈es,e.2.2<clock
 nd:(es.map (·.2.2)).Nodup
section lit
variable {l:HE} {st:St} {T kt et:Bj} {N1:Nat} {vals:Fr}
abbrev iH(st:St)(vals:Fr):St:={st with fr:=vals++st.fr}
structure SE (st:St) (T:Bj) (l:HE) (N1:Nat) (vals:Fr) (D:Dn) (s:St):Prop where
 n:s.n=st.n
 gl:s.gl=st.gl
 pr:s.pr=st.pr
 f1:∀j t,D j=true->bX l j=some t->aD s.fr t=aD (iH st vals).fr t
 f2:∀t,(∀j,D j=true->bX l j≠some t)->aD s.fr t=aD st.fr t
 σ:∀i,i≠st.c->i≠st.c+1->ag s.σ i=ag st.σ i
 c:s.c=if D N1 then st.c+2 else if D 0 then st.c+1 else st.c
 ins:∀j o q,D j=true->l[j]?=some o->mM (iH st vals) o=some q->D 0=true
 last:D N1=true->∀j,j<N1->D j=true
 pen:D (N1-1)=true->∀j,j<N1-1->D j=true
 m:D 0=true->∃es clock,ag s.σ st.c=some ⟨T,[],some (.map es clock)⟩/\(∀e∈es,∃j o,D j=true/\l[j]?=some o/\mM (iH st vals) o=some (e.1,e.2.1))/\(∀j o q,D j=true->l[j]?=some o->mM (iH st vals) o=some q->∃n,(q.1,q.2,n)∈es)/\(∀e∈es,e.2.2<clock)/\(es.map (·.2.2)).Nodup/\
  (D N1=true->ag s.σ (st.c+1)=some ⟨T,[],some (.iter (some st.c) clock [] clock)⟩)
theorem BF(s:St)(d:Option Tmp)(g:G):(s.put d g).σ=s.σ/\(s.put d g).c=s.c/\(s.put d g).n=s.n/\(s.put d g).gl=s.gl/\(s.put d g).pr=s.pr:=by cases d<;>exact⟨rfl,rfl,rfl,rfl,rfl⟩
theorem HG(s:St)(d:Option Tmp)(g:G)(t:Tmp):aD (s.put d g).fr t=if d=some t then g else aD s.fr t:=by cases d<;>grind [St.put]
theorem L1{d:TypeDesc}{k:Value}:∀{ks:List Value} {n:Nat},(∀u∈ks,Instr.sameNow d k u=some false)->B6 d k ks n=some none
 |[],n,h=>rfl
 |u::r,n,h=>by unfold B6;rw[h u aC];exact L1 (by grind)
theorem tF{D:Dn}(h:D i=true):D.add j i=true:=by grind [Dn.add]
theorem HH{D:Dn}:D.add j j=true:=by simp[Dn.add]
theorem AcS{D:Dn}(h:D.add j i=true):i=j\/D i=true:=by grind [Dn.add]
theorem ro{D:Dn}(h:i≠j):D.add j i=D i:=by grind [Dn.add]
theorem SE.frames{D:Dn}{s:St}(h:SE st T l N1 vals D s)(hp:BD l=true){j:Nat}{o:Oper}(ho:l[j]?=some o){g:G}(hg:∀t,o.dst=some t->g=aD (iH st vals).fr t)(s':St)(hs:s'.fr=s.fr):
  (∀i t,D.add j i=true->bX l i=some t->aD (s'.put o.dst g).fr t=aD (iH st vals).fr t)/\∀t,(∀i,D.add j i=true->bX l i≠some t)->aD (s'.put o.dst g).fr t=aD st.fr t:=by
 refine⟨λi t hi ht=>?_,λt ht=>?_⟩
 .grind [HG,AcS,bX,f1]
 .rw[HG,hs,BX (λe=>ht j HH (by simp[bX,ho,e]))]
  grind [f2,tF]
theorem SR{D:Dn}{s:St}(h:SE st T l N1 vals D s)(hv:∀q∈vals,∃o∈l,rk o q.1=true)(hr:∀e∈o.after,Region.binds .any e=true->D e.on=true){x:DC}(hx:PU l o x=true):aB s x=aB (iH st vals) x:=by
 cases x with
 |const v=>rfl
 |global g=>simp only[aB,h.gl]
 |func f=>rfl
 |tmp t=>
  show aD s.fr t=aD (vals++st.fr) t;simp only[PU,Bool.or_eq_true,List.any_eq_true,bA,GV,Bool.not_eq_true'] at hx;rcases hx with⟨e,he,hb,hd⟩|hx
  .exact h.f1 e.on t (by grind) (JY hd)
  .have hn:∀j,bX l j≠some t:=λj hj=>by have hj:(l[j]?).bind (·.dst)=some t:=hj;rw[Gf] at hj;obtain⟨a,ho',hd'⟩:=hj;have:=hx a (bO ho');grind [xJ]
   rw[h.f2 t (by grind)];have:∀(V:Fr),(∀q∈V,∃o∈l,rk o q.1=true)->aD (V++st.fr) t=aD st.fr t:=by
    intro V;induction V with
    |nil=>intro _;rfl
    |cons q r ih=>
     intro hV;rw[List.cons_append,aO,BX (λe=>by obtain⟨a,ho',hd'⟩:=hV q aC;grind)]
     grind
   grind
theorem PV(hv:∀q∈vals,∃o∈l,rk o q.1=true)(hn:∀j,bX l j≠some t):aD (vals++st.fr) t=aD st.fr t:=by
 have:∀(V:Fr),(∀q∈V,∃o∈l,rk o q.1=true)->aD (V++st.fr) t=aD st.fr t:=by
  intro V;induction V with
  |nil=>intro _;rfl
  |cons q r ih=>
   intro hV;rw[List.cons_append,aO,BX (λe=>by obtain⟨a,ho',hd'⟩:=hV q aC;rw[e] at hd';obtain⟨j,hj⟩:=List.mem_iff_getElem?.1 ho';exact hn j (by grind [bX,xJ]))]
   grind
 grind
theorem L3{σ:aQ}{T:Bj}{es:List (Value×G×Nat)}(h:ag σ i=some ⟨T,[],some (.map es clock)⟩):LE σ (.mref i)=some (i,T,es,clock):=by grind [LE]
theorem NA{sA:St}(h:mM sA o=some q):rl o=some q.1:=by grind [mM,rl]
theorem J0(hm:P.follows .mixedOrders=true){id:Nat}(hs:JZ P st.n T kt et l N1=true)(hv0:(vals.all λq=>l.any λo=>rk o q.1)=true)(hd:∀o∈l,lN P (iH st vals) st.c o){Q:Exit->St->Prop}
  (hQ:∀es clock,ZW (l.filterMap (mM (iH st vals))) es clock->Q .normal {st with fr:=vals++st.fr,σ:=(st.c+1,some ⟨T,[],some (.iter (some st.c) clock [] clock)⟩)::(st.c,some ⟨T,[],some (.map es clock)⟩)::st.σ,c:=st.c+2}):Tr P (.region id l.toArray true) st Q:=by
 unfold JZ at hs
 simp only[bA] at hs
 obtain⟨⟨⟨⟨⟨⟨⟨h1,h2⟩,h3⟩,h4⟩,h5⟩,h6⟩,h7⟩,h8⟩:=hs
 have hN0:=bc h5
 have hNp:0<N1:=Ef h6
 have hT:pB P T=some (kt,et):=by grind [bc]
 obtain⟨d,S,hkp⟩:∃d,P.underlying kt=some d/\rn d l=true:=by grind
 obtain⟨o0,oN,U,V,hk0,W⟩:∃o0 oN,l[0]?=some o0/\l[N1]?=some oN/\wi o0=true/\HF oN=true:=by grind
 have C:=λj o (ho:l[j]?=some o)=>by have:=BE h4 j o ho;rw[Nat.zero_add] at this;unfold VD at this;simp only[bA] at this;exact this
 have hv:=hv0
 simp only[GV,List.any_eq_true] at hv
 have hval:∀j o,l[j]?=some o->lN P (iH st vals) st.c o:=λj o ho=>hd o (bO ho)
 refine Tr.eqv (YC hm (SE st T l N1 vals) (λj o ho=>?_) (λj o ho e he hb=>?_) ?_ (λD s j o I ho hD hre=>?_) (λD s I hall=>?_))
 .have:=(C j o ho).1.1.1.1
  simp_all
 .have:=GV.1 (C j o ho).1.1.1.2 e (by simpa using he)
  simp_all
 .constructor<;>try grind [SE.m]
 .obtain⟨⟨⟨⟨-,-⟩,X⟩,L⟩,f⟩:=C j o ho
  have hdk':∀d,o.dst=some d->d<s.n:=by rw[I.n];exact SG X
  have hx:∀x∈o.op.operands,aB s x=aB (iH st vals) x:=λx hx=>SR I hv hre (GV.1 L x (by simpa using hx))
  have hjl:j<N1+1:=by grind
  have v:=hval j o ho
  have h0:wi o=false->j≠0:=λh e=>by subst e;rw[U] at ho;cases ho;rw[hk0] at h;cases h
  have hN:HF o=false->j≠N1:=λh e=>by subst e;rw[V] at ho;cases ho;rw[W] at h;cases h
  have hDN:D N1=false:=by grind [SE]
  have hpen:D.add j (N1-1)=true->∀i,i<N1-1->D.add j i=true:=λh i hi=>by
   rcases AcS h with e|h
   .rw[e,ho] at h8;obtain⟨e',he,hb,z⟩:=fJ (tE h8 i aa);grind [tF]
   grind [tF,SE.pen]
  obtain⟨w,op,ty,pos,K,gd⟩:=o
  have entj:∀{i:Nat} {p:Oper} {q:Value×G},mM (iH st vals) ⟨w,op,ty,pos,K,gd⟩=none->l[i]?=some p->mM (iH st vals) p=some q->D.add j i=true->D i=true:=λhno ho' hq hi=>by
   rcases AcS hi with rfl|hi
   .rw[ho] at ho';cases ho';rw[hno] at hq;cases hq
   .exact hi
  have value:wi ⟨w,op,ty,pos,K,gd⟩=false->HF ⟨w,op,ty,pos,K,gd⟩=false->mM (iH st vals) ⟨w,op,ty,pos,K,gd⟩=none->VE P (iH st vals) st.c ⟨w,op,ty,pos,K,gd⟩->th P ⟨w,op,ty,pos,K,gd⟩ s (λs'=>SE st T l N1 vals (D.add j) s'):=by
   intro hk hg hno hvv;obtain⟨d,Y,M⟩:=hvv;obtain rfl:w=some d:=Y;focus
    generalize hgd:aD (iH st vals).fr d=g at M
    refine(M s I.n I.gl I.pr hx I.σ).gsn.eqv λs' hs'=>⟨s',?_,Yi.refl _⟩
    subst hs'
    obtain⟨f1,f2⟩:=I.frames h3 ho (g:=g) (λt e=>by cases e;exact hgd.symm) s rfl
    have E:=h0 hk
    have A:=hN hg
    obtain⟨F,Z,N,O,R⟩:=BF s (some d) g
    refine{n:=N.trans I.n,gl:=O.trans I.gl,pr:=R.trans I.pr,f1:=f1,f2:=f2,σ:=λi h1 h2=>by rw[F];exact I.σ i h1 h2,c:=by grind [ro,SE.c],ins:=λi p q hi ho' hq=>tF (I.ins i p q (entj hno ho' hq hi) ho' hq),last:=(λh=>by rw[ro (Ne.symm A),hDN] at h;cases h),pen:=hpen,m:=λh=>?_}
    rw[ro (Ne.symm E)] at h
    obtain⟨es,clock,m1,m2,m3,B,H,m6⟩:=I.m h
    refine⟨es,clock,by grind,λe he=>?_,λi p q hi ho' hq=>m3 i p q (entj hno ho' hq hi) ho' hq,B,H,(λh=>by rw[ro (Ne.symm A),hDN] at h;cases h)⟩
    obtain⟨i,p,hi,ho',hq⟩:=m2 e he
    grind [tF]
  dsimp only at f
  split at f
  ·
   rename_i t
   simp only[bA] at f
   obtain rfl:=bc f.1.1
   obtain rfl:=bc f.1.2
   obtain⟨d,rfl⟩:=WE.1 f.2
   have hsc:s.c=st.c:=by grind [SE.c]
   refine(B8 (t:=t) (r:=none) rfl hdk' rfl).gsn.eqv λs' hs'=>⟨s',?_,Yi.refl _⟩
   subst hs'
   rw[hsc]
   obtain⟨f1,f2⟩:=I.frames h3 ho (g:= .mref st.c) (λt e=>by cases e;unfold lN at v;exact(GE 16 _ _ v).symm) {s with σ:=(st.c,some ⟨t,[],some (.map [] 0)⟩)::s.σ,c:=st.c+1} rfl
   obtain⟨F,Z,N,O,R⟩:=BF {s with σ:=(st.c,some ⟨t,[],some (.map [] 0)⟩)::s.σ,c:=st.c+1} (some d) (.mref st.c)
   have hadd:D.add 0 N1=false:=by grind [ro]
   refine{n:=N.trans I.n,gl:=O.trans I.gl,pr:=R.trans I.pr,f1:=f1,f2:=f2,σ:=λi h1 h2=>?_,c:=by grind [HH],ins:=λi p q hi ho' hq=>HH,last:=(λh=>by rw[hadd] at h;cases h),pen:=hpen,m:=λ_=>?_}
   .grind [SE.σ]
   .refine⟨[],0,by rw[F,A9,BB rfl],(λe he=>by cases he),λi p q hi ho' hq=>?_,(λe he=>by cases he),aC,(λh=>by rw[hadd] at h;cases h)⟩
    have:=I.ins i p q (entj rfl ho' hq hi) ho' hq
    grind
  ·
   rename_i t x k y
   simp only[bA] at f
   obtain⟨⟨⟨⟨k1,k2⟩,k3⟩,k4⟩,k5⟩:=f
   obtain rfl:=bc k1
   obtain rfl:w=none:=by simp_all
   have E:=h0 rfl
   have A:=hN rfl
   have hD0:D 0=true:=by obtain⟨e,he,hb,z⟩:=fJ k3;rw[<-z];exact hre e he hb
   obtain⟨es,clock,m1,m2,m3,B,H,m6⟩:=I.m hD0
   have hxm:aB s x= .mref st.c:=(hx x fK).trans (GE 16 _ _ v)
   have hy:aB s y=aB (iH st vals) y:=hx y fK
   have hgk:cD (aB s (.const k))=some k:=by
    split at k5
    .rfl
    .cases k5
   have hent:mM (iH st vals) ⟨none,.insert t x (.const k) y,ty,pos,K,gd⟩=some (k,aB (iH st vals) y):=rfl
   have hkey:B7 P kt k (es.map (·.1))=some none:=by unfold B7;rw[S];simp only;rw[L1 λu hu=>?_];obtain⟨e,he,rfl⟩:=EO.1 hu;obtain⟨i,p,hi,ho',hq⟩:=m2 e he;exact tD hkp j i _ p k e.1 (λe=>by subst e;rw[hD] at hi;cases hi) ho ho' rfl (NA hq)
   have hput:dZ P s.σ t (aB s x) (aB s (.const k)) (aB s y)=some (st.c,⟨t,[],some (.map (es++[(k,aB (iH st vals) y,clock)]) (clock+1))⟩):=by unfold dZ;rw[hT,hgk,hxm,L3 m1];simp only[k4,ax,hkey,hy]
   refine(iW (.inr rfl) hdk' hput).gsn.eqv λs' hs'=>⟨s',?_,Yi.refl _⟩
   subst hs'
   obtain⟨f1,f2⟩:=I.frames h3 ho (g:= .lit undef) (λt e=>by cases e) {s with σ:=(st.c,some ⟨t,[],some (.map (es++[(k,aB (iH st vals) y,clock)]) (clock+1))⟩)::s.σ} rfl
   have hadd:D.add j N1=false:=by rw[ro (Ne.symm A)];exact hDN
   refine{n:=I.n,gl:=I.gl,pr:=I.pr,f1:=f1,f2:=f2,σ:=λi h1 h2=>?_,c:=(by show s.c=_;rw[hadd,ro (Ne.symm E)];have:=I.c;rw[hDN] at this;exact this),ins:=λi p q hi ho' hq=>tF hD0,last:=(λh=>by rw[hadd] at h;cases h),pen:=hpen,m:=λ_=>?_}
   .show ag ((st.c,_)::s.σ) i=_
    rw[A9,BX (λe=>h1 e.symm)]
    exact I.σ i h1 h2
   .refine⟨es++[(k,aB (iH st vals) y,clock)],clock+1,?_,λe he=>?_,λi p q hi ho' hq=>?_,λe he=>?_,?_,(λh=>by rw[hadd] at h;cases h)⟩
    .show ag ((st.c,_)::s.σ) st.c=_
     rw[A9,BB rfl]
    .rcases JF.1 he with he|he
     .obtain⟨i,p,hi,ho',hq⟩:=m2 e he
      exact⟨i,p,tF hi,ho',hq⟩
     .obtain rfl:=List.mem_singleton.1 he
      exact⟨j,_,HH,ho,hent⟩
    .rcases AcS hi with rfl|hi
     .rw[ho] at ho'
      cases ho'
      rw[hent] at hq
      cases hq
      exact⟨clock,aC⟩
     .obtain⟨n,hn⟩:=m3 i p q hi ho' hq
      exact⟨n,List.mem_append_left _ hn⟩
    .rcases JF.1 he with he|he
     .have:=B e he;omega
     .obtain rfl:=List.mem_singleton.1 he
      exact Nat.lt_succ_self _
    .rw[List.map_append,List.nodup_append]
     refine⟨H,aC,λa ha b hb e=>?_⟩
     simp only[Fi,List.map_nil,List.mem_singleton] at hb
     obtain⟨e',he',rfl⟩:=EO.1 ha
     have:=B e' he'
     omega
  ·
   rename_i t x
   simp only[bA] at f
   obtain⟨⟨⟨k1,k2⟩,k3⟩,k4⟩:=f
   obtain rfl:=bc k1
   obtain rfl:=bc k2
   obtain⟨d,rfl⟩:=WE.1 k3
   have hp1:D (j-1)=true:=by obtain⟨e,he,hb,z⟩:=fJ k4;rw[<-z];exact hre e he hb
   have hall:∀i,i<j->D i=true:=λi hi=>by
    rcases JB i (j-1) with h|h
    .exact I.pen hp1 i h
    .obtain rfl:i=j-1:=aa;exact hp1
   have hD0:=hall 0 hNp
   obtain⟨es,clock,m1,m2,m3,B,H,m6⟩:=I.m hD0
   have hva':iF 16 (aB (iH st vals) x) (.mref st.c)=true/\iF 16 (aD (iH st vals).fr d) (.ref (st.c+1) 0)=true:=by unfold lN at v;simpa only[bA] using v
   have hxm:aB s x= .mref st.c:=(hx x fK).trans (GE 16 _ _ hva'.1)
   have hsc:s.c=st.c+1:=by rw[I.c,hDN,hD0];rfl
   have hrg:B9 P s.σ t (aB s x)=some (.iter (some st.c) clock [] clock):=by unfold B9;rw[hT,hxm];simp only[L3 m1]
   refine(H2 rfl hdk' hrg).gsn.eqv λs' hs'=>⟨s',?_,Yi.refl _⟩
   subst hs'
   rw[hsc]
   obtain⟨f1,f2⟩:=I.frames h3 ho (g:= .ref (st.c+1) 0) (λt e=>by cases e;exact(GE 16 _ _ hva'.2).symm) {s with σ:=(st.c+1,some ⟨t,[],some (.iter (some st.c) clock [] clock)⟩)::s.σ,c:=st.c+1+1} rfl
   obtain⟨F,Z,N,O,R⟩:=BF {s with σ:=(st.c+1,some ⟨t,[],some (.iter (some st.c) clock [] clock)⟩)::s.σ,c:=st.c+1+1} (some d) (.ref (st.c+1) 0)
   refine{n:=N.trans I.n,gl:=O.trans I.gl,pr:=R.trans I.pr,f1:=f1,f2:=f2,σ:=λi h1 h2=>?_,c:=by rw[Z,HH];rfl,ins:=λi p q hi ho' hq=>tF hD0,last:=λ_ i hi=>tF (hall i hi),pen:=hpen,m:=λ_=>?_}
   .rw[F,A9,BX (λe=>h2 e.symm)]
    exact I.σ i h1 h2
   .refine⟨es,clock,?_,λe he=>?_,λi p q hi ho' hq=>m3 i p q (entj rfl ho' hq hi) ho' hq,B,H,λ_=>?_⟩
    .rw[F,A9,BX aa];exact m1
    .obtain⟨i,p,hi,ho',hq⟩:=m2 e he
     exact⟨i,p,tF hi,ho',hq⟩
    .rw[F,A9,BB rfl]
  .cases f
  .cases f
  .rename_i c1 c2 c3 c4 c5
   refine value ?_ ?_ ?_ ?_
   .unfold wi
    dsimp only
    split
    .rename_i a;exact absurd rfl (c1 a)
    .rfl
   .unfold HF
    dsimp only
    split
    .rename_i a b;exact absurd rfl (c3 a b)
    .rfl
   .unfold mM
    dsimp only
    split
    .rename_i a b c d;exact absurd rfl (c2 a b c d)
    .rfl
   .unfold lN at v
    dsimp only at v
    split at v
    .rename_i a b;exact absurd rfl (c4 a b)
    .rename_i a b c d;exact absurd rfl (c5 a b c d)
    .rename_i a b;exact absurd rfl (c3 a b)
    .exact v
 .have hD0:D 0=true:=hall 0 aa
  have hDN:D N1=true:=hall N1 aa
  obtain⟨es,clock,m1,m2,m3,B,H,m6⟩:=I.m hD0
  refine⟨_,?_,hQ es clock {sub:=λe he=>?_,sup:=λq hq=>?_,lt:=B,nd:=H}⟩
  .have J:=I.pr
   simp only[St.pr,Ft] at J
   refine⟨I.n.symm,I.gl.symm,λi=>?_,λi=>?_,?_,J.1.symm,J.2.symm⟩
   .by_cases hx:∃j,bX l j=some i
    .grind [bX,SE.f1]
    .rw[I.f2 i λj _ hj=>hx ⟨j,hj⟩]
     exact PV hv λj hj=>hx ⟨j,hj⟩
   all_goals grind [SE.σ,SE.c]
  .grind
  .obtain⟨p,ho',hq'⟩:=List.mem_filterMap.1 hq
   grind [List.mem_iff_getElem?]
end lit
end
abbrev oE:=List (Value×G×Nat)
def Wa(k:Value):Nat:=match k with
 | .int _ (.ofNat n)=>n
 |_=>0
def Yq(g:G):Bool:=match g with
 | .lit (.bool true)=>true
 |_=>false
def If(k:Value)(g:G):Nat:=bif Yq g then Wa k else 0
def iC(seen:Br):oE->Nat
 |[]=>0
 |e::r=>(bif seen.contains e.2.2 then If e.1 e.2.1 else 0)|||iC seen r
def Ck:oE->Nat
 |[]=>0
 |e::r=>If e.1 e.2.1|||Ck r
theorem jd{m:Nat}:(seen++[n]).contains m=(seen.contains m||(m==n)):=by rw[Bool.eq_iff_iff];simp
theorem Eu{seen:Br}{n:Nat}:∀{es:oE},n∉es.map (·.2.2)->iC (seen++[n]) es=iC seen es
 |[],_=>rfl
 |e::r,h=>by
  simp only[Fi,EG,not_or] at h;unfold iC;rw[Eu h.2,jd];have:(e.2.2==n)=false:=by rw[beq_eq_false_iff_ne];exact λx=>h.1 x.symm
  rw[this,Bool.or_false]
theorem Ev{seen:Br}{k:Value}{g:G}{n:Nat}(hn:n∉seen):∀{es:oE},(k,g,n)∈es->(es.map (·.2.2)).Nodup->iC (seen++[n]) es=iC seen es|||If k g
 |e::r,h,hd=>by
  simp only[Fi,M0] at hd;unfold iC;have hs:seen.contains n=false:=by
   cases hc:seen.contains n with
   |false=>rfl
   |true=>exact absurd (by simpa using hc) hn
  rcases EG.1 h with rfl|h
  .rw[Eu hd.1,jd];simp only[hs,Bool.false_or,BEq.rfl,ax,Bf,Nat.zero_or];rw[Nat.or_comm]
  .have hne:e.2.2≠n:=λx=>hd.1 (by rw[x];exact EO.2 ⟨_,h,rfl⟩);rw[Ev hn h hd.2,jd];have:(e.2.2==n)=false:=by rw[beq_eq_false_iff_ne];exact hne
   rw[this,Bool.or_false,Nat.or_assoc]
theorem Ew{seen:Br}:∀{es:oE},(∀e∈es,e.2.2∈seen)->iC seen es=Ck es
 |[],_=>rfl
 |e::r,h=>by
  unfold iC Ck;rw[Ew λe he=>h e (by simp[he])];have:seen.contains e.2.2=true:=by simpa using h e aC
  rw[this];rfl
theorem Ex:∀{es:oE},iC [] es=0
 |[]=>rfl
 |e::r=>by unfold iC;rw[Ex];simp
theorem Ig{seen:Br}{b:Nat}:∀{es:oE},(∀e∈es,Wa e.1<2^b)->iC seen es<2^b
 |[],_=>Nat.two_pow_pos b
 |e::r,h=>by
  unfold iC;refine Nat.or_lt_two_pow ?_ (Ig λe he=>h e (by simp[he]));have:=h e aC;cases seen.contains e.2.2 with
  |false=>exact Nat.two_pow_pos b
  |true=>
   show If e.1 e.2.1<2^b;unfold If;cases Yq e.2.1 with
   |false=>exact Nat.two_pow_pos b
   |true=>exact this
theorem Ih{es:oE}(hb:∀e∈es,e.2.2<since)(h:none∈rD es since seen):∀e∈es,e.2.2∈seen:=by
 intro e he;unfold rD at h;simp only[JF,EO] at h;rcases h with h|⟨x,_,hx⟩
 .split at h
  .rename_i hemp;rw[List.isEmpty_iff,List.filter_eq_nil_iff] at hemp;by_cases hs:e.2.2∈seen
   .exact hs
   .exfalso;refine hemp e (Hl.2 ⟨he,by simpa using hs⟩) (by simpa using hb e he)
  .cases h
 .cases hx
theorem Ii{es:oE}(h:some (k,g,n)∈rD es since seen):(k,g,n)∈es/\n∉seen:=by
 unfold rD at h;simp only[JF,EO] at h;rcases h with h|⟨x,hx,a⟩
 .split at h
  .simp at h
  .cases h
 .cases a;have hm:(k,g,n)∈es.filter λe=> !seen.contains e.2.2:=by
   rcases hx with hx|hx
   .exact(Hl.1 hx).1
   .exact(Hl.1 hx).1
  obtain⟨h1,h2⟩:=Hl.1 hm;refine⟨h1,λhs=>?_⟩;simp[hs] at h2
section
variable {P:Bu}
theorem NB{es:oE}(h:(k,g,n)∈es)(hn:n∉seen):(es.filter λe=> !(seen++[n]).contains e.2.2).length<(es.filter λe=> !seen.contains e.2.2).length:=by
 induction es with
 |nil=>cases h
 |cons e r ih=>
  have mono:∀(r:oE),(r.filter λe=> !(seen++[n]).contains e.2.2).length<=(r.filter λe=> !seen.contains e.2.2).length:=by intro r;induction r<;>grind
  grind
theorem J1{it a b iti mi clock since id b0:Nat}{T ty ty1 ty2:Bj}{pos1 pos2:String}{af1 af2:Array Edge}{bd:Code}{es:oE}{S:Br->St}{Q:Exit->St->Prop}(I:Br->Prop)(hI:I [])
  (hlt:∀e∈es,e.2.2<clock) (d:since=clock) (h0:Le P st (S [])) (f:∀seen,gR (S seen).σ (aB (S seen) (.tmp it))=some (iti,T,some mi,since,seen,clock)) (hmap:∀seen,LE (S seen).σ (.mref mi)=some (mi,ty,es,clock))
  (hn:∀seen,a<(S seen).n/\b<(S seen).n)
  (body:∀seen k g n,I seen->(k,g,n)∈es->n∉seen->Tr P bd {S seen with fr:=(b,.lit (.bool true))::(a,.tup [.lit (.bool true),db k,g])::(S seen).fr,σ:=(iti,some ⟨T,[],some (.iter (some mi) since (seen++[n]) clock)⟩)::(S seen).σ} (uE (λs=>I (seen++[n])/\Le P s (S (seen++[n]))) (pu b0 Q)))
  (fin:∀seen,I seen->(∀e∈es,e.2.2∈seen)->Q .normal {S seen with fr:=(b,.lit (.bool false))::(a,.tup [.lit (.bool false)])::(S seen).fr}):
  Tr P (.block b0 (.loop (.seq (.region id #[⟨some a,.next (.tmp it) false,ty1,pos1,af1,none⟩,⟨some b,.extract (.tmp a) 0,ty2,pos2,af2,none⟩] false) (.seq (.cond (.tmp b) .skip (.exit b0)) bd)))) st Q:=by
 refine BI (L4 (λq:{seen:Br//I seen}=>S q.1) (λq=>(es.filter λe=> !q.1.contains e.2.2).length) ⟨[],hI⟩ h0 λ⟨seen,c⟩=>?_)
 dsimp only
 have hok:pD es seen clock=true:=by unfold pD;cases es<;>grind
 refine BH (lG (l:=[⟨some a,.next (.tmp it) false,ty1,pos1,af1,none⟩,⟨some b,.extract (.tmp a) 0,ty2,pos2,af2,none⟩]) (.inl ⟨rfl,?_⟩))
 refine(Mf rfl (by grind) (f seen) (hmap seen) hok).eqv λs hs=>⟨s,?_,Yi.refl _⟩
 have ext:∀(g:G) (r:Bk) (s1:St),s1.n=(S seen).n->aD s1.fr a= .tup (g::r)->∀{K:St->Prop},K (s1.put (some b) g)->vU P #[⟨some a,.next (.tmp it) false,ty1,pos1,af1,none⟩,⟨some b,.extract (.tmp a) 0,ty2,pos2,af2,none⟩] K [⟨some b,.extract (.tmp a) 0,ty2,pos2,af2,none⟩] s1:=by intro g r s1 h1 h2 K j;refine .inl ⟨rfl,((fM (g:=g) (by grind) ?_).gsn).eqv λs2 i=>⟨s2,by rw[i];exact j,Yi.refl _⟩⟩;rw[J9];show HS 0 (aD s1.fr a)=some g;rw[h2];rfl
 rcases hs with⟨hc,rfl⟩|⟨k,g,n,hc,rfl⟩
 .refine ext (.lit (.bool false)) [] _ ?_ ?_ ?_
  .rfl
  .show aD ((a,_)::_) a=_
   grind
  refine wm (BH (wk (t:=false) ?_ (Fz ?_)))
  .show aD ((b,_)::_) b=_
   grind
  refine DU aC (DU aC ?_)
  simp only[pu,BB]
  exact fin seen c (Ih (by grind) hc)
 .obtain⟨h1,h2⟩:=Ii hc
  refine ext (.lit (.bool true)) [db k,g] _ ?_ ?_ ?_
  .rfl
  .show aD ((a,_)::_) a=_
   grind
  refine wm (BH (wk (t:=true) ?_ (Fy ?_)))
  .show aD ((b,_)::_) b=_
   grind
  exact wm (Tr.mono (body seen k g n c h1 h2) λe s hs=>Hu (λs h=>⟨⟨seen++[n],h.1⟩,h.2,NB h1 h2⟩) (by grind) hs)
end
section
variable {P:Bu} {sA:St} {mi:Nat} {hs:List Hn}
def YT(d:Nat){σ:aQ}{x g:G}(h:jr σ x=some g):HP:=⟨some (.m d g),jr (US σ (Aa4 σ x)) x=some g,by rw[(WG λi hi=>(Hh i hi).symm).1];exact h⟩
theorem EK{n:Nat}{k:Value}{g:G}:∀{es:oE},(es.map (·.2.2)).Nodup->(k,g,n)∈es->es.find? (λe=>Nat.beq e.2.2 n)=some (k,g,n)
 |[],_,h=>by cases h
 |e::r,hd,h=>by
  rw[Fi,M0] at hd;rcases EG.1 h with rfl|h
  .simp
  .have hne:e.2.2≠n:=λe2=>hd.1 (by rw[e2];exact EO.2 ⟨_,h,rfl⟩);have hb:Nat.beq e.2.2 n=false:=by
    cases hb:Nat.beq e.2.2 n with
    |true=>exact absurd (bc hb) hne
    |false=>rfl
   rw[List.find?_cons,hb];exact EK hd.2 h
theorem yo{σ:aQ}{iti mi since clock n:Nat}{T ty:Bj}{seen:Br}{es:oE}{v:G}(hi:gR σ g=some (iti,T,some mi,since,seen++[n],clock))(hm:LE σ (.mref mi)=some (mi,ty,es,clock))(hd:(es.map (·.2.2)).Nodup)(h:(k,v,n)∈es):jr σ g=some (.tup [db k,v]):=by unfold jr;rw[hi];simp only[hm,List.getLast?_append,List.getLast?_singleton,Option.some_or,Nat.beq_refl,ax,EK hd h]
def ZY(P:Bu)(hs:List Hn)(sA:St)(o:Oper):Option (JR×G):=match syO P o sA hs 0 with
 |some (C,g,[],[],none)=>some (C.toList,g)
 |_=>none
theorem Wr{C:JR}{d:Nat}(h:ZY P hs sA o=some (C,g))(a:∀p∈C,p)(hd:o.dst=some d)(hn:d<sA.n)(hg:aD sA.fr d=g):VE P sA mi o:=by
 refine⟨d,hd,λs e1 e2 e3 e4 e5=>?_⟩;unfold ZY at h;split at h
 .rename_i C' b hx;cases h;have:=(Acf (X:=True) (λx hx=>by rw[hd] at hx;cases hx;exact hn) hx (by cases C' with|none=>trivial|some p=>exact⟨a p aC,trivial⟩)).1 s ⟨e1,e2,e3,λh=>(by cases h),λi hi=>(by cases hi),e4⟩;rw[hg,<-hd];exact this
 .cases h
def IC(P:Bu)(hs:List Hn)(mi:Nat):HE->St->Fr->Option Fr
 |[],s,V=>some V
 |o::r,s,V=>match o.op with
  | .makeMap .. =>(match o.dst with
   |some d=>IC P hs mi r {s with fr:=(d,.mref mi)::s.fr} ((d,.mref mi)::V)
   |none=>none)
  | .insert .. =>IC P hs mi r s V
  | .range .. =>(match o.dst with
   |some d=>IC P hs mi r {s with fr:=(d,.ref (mi+1) 0)::s.fr} ((d,.ref (mi+1) 0)::V)
   |none=>none)
  |_=>(match o.dst,ZY P hs s o with
   |some d,some (_,g)=>IC P hs mi r {s with fr:=(d,g)::s.fr} ((d,g)::V)
   |_,_=>none)
def U3(P:Bu)(hs:List Hn)(st:St)(l:HE):Fr:=(IC P hs st.c l st []).getD []
def EL(P:Bu)(hs:List Hn)(sA:St)(mi:Nat):HE->Option (JR×Bk×Bk)
 |[]=>some ([],[],[])
 |o::r=>match EL P hs sA mi r with
  |none=>none
  |some (C,a,b)=>match o.op with
   | .makeMap .. =>bif(match o.dst with
    |some d=>iF 16 (aD sA.fr d) (.mref mi)
    |none=>false)then some (C,a,b)else none
   | .insert _ x _ _=>bif iF 16 (aB sA x) (.mref mi)then some (C,a,b)else none
   | .range _ x=>bif(iF 16 (aB sA x) (.mref mi)&&(match o.dst with
    |some d=>iF 16 (aD sA.fr d) (.ref (mi+1) 0)
    |none=>false))then some (C,a,b)else none
   |_=>match o.dst with
    |some d=>bif Nat.blt d sA.n then(match ZY P hs sA o with
     |some (D,g)=>some (D++C,g::a,aD sA.fr d::b)
     |none=>none)else none
    |none=>none
theorem KR{a r:α}(h:(bif c then some a else none)=some r):c=true/\a=r:=by
 cases c
 .cases h
 .cases h;exact⟨rfl,rfl⟩
theorem IE:∀(l:HE) (C:JR) (a b:Bk),EL P hs sA mi l=some (C,a,b)->(∀p∈C,p)->a=b->∀o∈l,lN P sA mi o
 |[],C,a,b,h,_,_,o,ho=>by cases ho
 |x::r,C,a,b,h,f,c,o,ho=>by
  unfold EL at h;split at h
  .cases h
  rename_i i a1 b1 h1;have rest:(∀p∈i,p)->a1=b1->o∈r->lN P sA mi o:=λhc he hm=>IE r i a1 b1 h1 hc he o hm;split at h
  .rename_i e;obtain⟨hb,hq⟩:=KR h;cases hq;rcases EG.1 ho with rfl|ho
   .unfold lN;rw[e];exact hb
   .exact rest f c ho
  .rename_i e;obtain⟨hb,hq⟩:=KR h;cases hq;rcases EG.1 ho with rfl|ho
   .unfold lN;rw[e];exact hb
   .exact rest f c ho
  .rename_i e;obtain⟨hb,hq⟩:=KR h;cases hq;rcases EG.1 ho with rfl|ho
   .unfold lN;rw[e];exact hb
   .exact rest f c ho
  .rename_i c1 c2 c3;split at h
   .rename_i d hd;cases hk:Nat.blt d sA.n with
    |false=>rw[hk] at h;cases h
    |true=>
     rw[hk] at h;simp only[ax] at h;split at h
     .rename_i D g hv;cases h;simp only[List.cons.injEq] at c;rcases EG.1 ho with rfl|ho
      .unfold lN;split
       .rename_i e;exact absurd e (c1 _ _)
       .rename_i e;exact absurd e (c2 _ _ _ _)
       .rename_i e;exact absurd e (c3 _ _)
       .exact Wr hv (λp hp=>f p (List.mem_append_left _ hp)) hd (Ef hk) c.1.symm
      .exact rest (λp hp=>f p (List.mem_append_right _ hp)) c.2 ho
     .cases h
   .cases h
end
section
variable {P:Bu} [M:Mix P] {st:St} {Q:Exit->St->Prop} {fn:Func} {Bs:List (St->Prop)} {m:Bool} {p:Br}
def Ws(x:Option (JR×Bk×Bk)):Bk:=match x with|some (_,a,_)=>a|none=>[]
def IF:Code->HE
 | .region _ ops true=>ops.toList
 |_=>[]
def aaG:Code->Bool
 | .region _ _ true=>true
 |_=>false
theorem dMl(T kt et:Bj)(a:Nat)(A:List HP)
  (hQ:∀es clock,ZW ((IF (bq p (ai fn))).filterMap (mM (iH st (U3 P (bK A) st (IF (bq p (ai fn))))))) es clock->Gp P fn Q Bs true p {st with fr:=U3 P (bK A) st (IF (bq p (ai fn)))++st.fr,σ:=(st.c+1,some ⟨T,[],some (.iter (some st.c) clock [] clock)⟩)::(st.c,some ⟨T,[],some (.map es clock)⟩)::st.σ,c:=st.c+2})
  (hc:EL P (bK A) (iH st (U3 P (bK A) st (IF (bq p (ai fn))))) st.c (IF (bq p (ai fn)))=some (pR A,Ws (EL P (bK A) (iH st (U3 P (bK A) st (IF (bq p (ai fn))))) st.c (IF (bq p (ai fn)))),Ws (EL P (bK A) (iH st (U3 P (bK A) st (IF (bq p (ai fn))))) st.c (IF (bq p (ai fn))))):=by kernel_rfl)
  (hs:JZ P st.n T kt et (IF (bq p (ai fn))) a=true:=by kernel_rfl) (hv:((U3 P (bK A) st (IF (bq p (ai fn)))).all λq=>(IF (bq p (ai fn))).any λo=>rk o q.1)=true:=by kernel_rfl) (hi:aaG (bq p (ai fn))=true:=by kernel_rfl):Gp P fn Q Bs false p st:=by
 show Tr P (bq p (ai fn)) st (dz P (bE p (ai fn) Bs []) Q)
 generalize hcd:bq p (ai fn)=c at hQ hc hs hv hi⊢
 generalize Ws _=gs at hc
 cases c with
 |region id ops d=>
  cases d with
  |false=>cases hi
  |true=>
   have:=J0 (id:=id) M.mx hs hv (IE _ _ _ _ hc (wR A) rfl) (Q:=dz P (bE p (ai fn) Bs []) Q) hQ
   rw[show ops=(IF (.region id ops true)).toArray from Array.toArray_toList.symm]
   exact this
 |_=>cases hi
theorem dRe(J:St)(O:List HP)(kk:Gp P fn Q Bs false p J)(vs:List Bj:=[])(ρ:DH:=[])(kd:List (Nat×Rk):=[])(e:Iw P vs ρ kd J st=some (pR O,J):=by kernel_rfl):Gp P fn Q Bs false p st:=Tr.le kk (sR e (wR O))
def U4(c a b:Nat):HE->Bool
 |[⟨some a1,.next (.tmp it1) false,_,_,_,none⟩,⟨some b1,.extract (.tmp a2) 0,_,_,_,none⟩]=>Nat.beq a1 a&&Nat.beq it1 c&&Nat.beq b1 b&&Nat.beq a2 a
 |_=>false
def Wt(c a b b0:Nat):Code->Bool
 | .block b1 (.loop (.seq (.region _ ops false) (.seq (.cond (.tmp b') .skip (.exit b2)) _)))=>Nat.beq b1 b0&&Nat.beq b2 b0&&Nat.beq b' b&&U4 c a b ops.toList
 |_=>false
def YU:Code->Code
 | .block _ (.loop (.seq _ (.seq _ bd)))=>bd
 |_=> .skip
theorem Ty{it b0:Nat}{c:Code}(h:Wt it a b b0 c=true):∃id i j f g af1 k,c= .block b0 (.loop (.seq (.region id #[⟨some a,.next (.tmp it) false,i,f,af1,none⟩,⟨some b,.extract (.tmp a) 0,j,g,k,none⟩] false) (.seq (.cond (.tmp b) .skip (.exit b0)) (YU c)))):=by
 unfold Wt at h;split at h
 .rename_i b1 id ops b' b2 bd;simp only[bA] at h;obtain⟨⟨⟨h1,h2⟩,h3⟩,h4⟩:=h;obtain rfl:=bc h1;obtain rfl:=bc h2;obtain rfl:=bc h3;unfold U4 at h4;split at h4
  .rename_i a1 s l n f1 o a2 t2 q f2 d;simp only[bA] at h4;obtain⟨⟨⟨k1,k2⟩,k3⟩,r⟩:=h4;obtain rfl:=bc k1;obtain rfl:=bc k2;obtain rfl:=bc k3;obtain rfl:=bc r;have e:=congrArg List.toArray d;rw[Array.toArray_toList] at e;refine⟨id,l,t2,n,q,f1,f2,?_⟩;rw[e];rfl
  .cases h4
 .cases h
theorem dMw(j a b b0:Nat){iti mi clock since:Nat}{T ty:Bj}{es:oE}(S:Br->St)(I:Br->Prop)(hI:I [])
  (hlt:∀e∈es,e.2.2<clock) (c:since=clock) (h0:Le P st (S [])) (f:∀seen,gR (S seen).σ (aB (S seen) (.tmp j))=some (iti,T,some mi,since,seen,clock)) (hmap:∀seen,LE (S seen).σ (.mref mi)=some (mi,ty,es,clock))
  (hn:∀seen,a<(S seen).n/\b<(S seen).n)
  (body:∀(B:St->Prop) seen k g n,I seen->(k,g,n)∈es->n∉seen->(I (seen++[n])->B (S (seen++[n])))->Gp P fn Q (Bs++[B]) false (p++[2,2,1,1]) {S seen with fr:=(b,.lit (.bool true))::(a,.tup [.lit (.bool true),db k,g])::(S seen).fr,σ:=(iti,some ⟨T,[],some (.iter (some mi) since (seen++[n]) clock)⟩)::(S seen).σ})
  (fin:∀seen,I seen->(∀e∈es,e.2.2∈seen)->Gp P fn Q Bs true p {S seen with fr:=(b,.lit (.bool false))::(a,.tup [.lit (.bool false)])::(S seen).fr})
  (d:Wt j a b b0 (bq p (ai fn))=true:=by kernel_rfl) (i:YU (bq p (ai fn))=bq (p++[2,2,1,1]) (ai fn):=by kernel_rfl)
  (q:∀B,bE (p++[2,2,1,1]) (ai fn) (Bs++[B]) []= .lp B:: .blk b0::bE p (ai fn) Bs []:=by intro B;kernel_rfl):Gp P fn Q Bs false p st:=by
 show Tr P (bq p (ai fn)) st (dz P (bE p (ai fn) Bs []) Q)
 obtain⟨id,r,s,l,o,af1,v,hcd⟩:=Ty d
 rw[hcd,i]
 refine J1 (iti:=iti) (mi:=mi) (clock:=clock) (since:=since) (T:=T) (ty:=ty) (es:=es) (S:=S) I hI hlt c h0 f hmap hn (λseen k g n hi hm hns=>?_) λseen hi hs=>fin seen hi hs
 have:=body (λt=>t=S (seen++[n])/\I (seen++[n])) seen k g n hi hm hns λh=>⟨rfl,h⟩
 unfold Gp at this
 rw[q] at this
 refine Tr.mono this λe t ht=>?_
 unfold dz at ht
 cases e with
 |normal=>
  unfold uE at ht⊢
  obtain⟨u,hu,rfl,hx⟩:=ht
  exact⟨hx,hu⟩
 |_=>unfold uE at ht⊢;exact ht
end
section
attribute [local irreducible] Tr dz Gp
def rU(o:Bo):List (Nat×Bool):=[(1,decide (o.Device≠0)),(2,decide (o.Old≠0)),(4,decide (o.Member≠0)),(8,decide (o.Role≠0)),(16,decide (0<ah o.Path)),(32,!decide (o.Epoch=⟨0,0,0⟩)),(64,decide (o.N≠0)),(128,decide (0<ah o.Body)),(256,decide (0<ah o.Refs)),(512,!decide (o.Of=⟨0,0,0⟩)),(1024,decide (0<ah o.Guards)),(2048,decide (o.Need≠0)),(4096,decide (o.Wait≠0)),(8192,decide (0<ah o.Boxes)),(16384,decide ((o.Pub:Int)≠((0:Nat):Int))),(32768,decide (0<ah o.Hist))]
def K9(q:Nat×Bool):Value×G:=(.int .i64 (.ofNat q.1),bG q.2)
def La:List (Nat×Bool)->Nat
 |[]=>0
 |q::r=>(bif q.2 then q.1 else 0)|||La r
noncomputable def WU:HE:=IF (bq 11100 (ai Tryz.f180))
noncomputable abbrev stP(o:Bo):St:=(s0 75 gl [(1,.ptr (aJ o) 0),(3,iG 0)] [] 0 0)
def hsP(o:Bo):List HP:=[hV 26 (dy o.Epoch ⟨0,0,0⟩ rfl),hV 41 (dy o.Of ⟨0,0,0⟩ rfl)]
theorem Zn(o:Bo):WU.filterMap (mM (iH (stP gl o) (U3 prog (bK (hsP o)) (stP gl o) WU)))=(rU o).map K9:=aH
theorem sY(h:∀q∈L,q.1<1048576)(hq:q∈L.map K9):∃m b,q.1= .int .i64 (.ofNat m)/\m<1048576/\q.2=bG b:=by obtain⟨x,hx,rfl⟩:=EO.1 hq;exact⟨x.1,x.2,rfl,h x hx,rfl⟩
theorem MS(i:Nat):∀(l:List (Nat×Bool)),(La l).testBit i=true↔∃q∈l,(bif q.2 then q.1 else 0).testBit i=true
 |[]=>by simp[La]
 |q::r=>by unfold La;rw[Nat.testBit_or,Bool.or_eq_true,MS i r];simp
theorem EU(i:Nat):∀(es:oE),(Ck es).testBit i=true↔∃e∈es,(If e.1 e.2.1).testBit i=true
 |[]=>by simp[Ck]
 |e::r=>by unfold Ck;rw[Nat.testBit_or,Bool.or_eq_true,EU i r];simp
theorem IS(q:Nat×Bool):If (K9 q).1 (K9 q).2=bif q.2 then q.1 else 0:=by obtain⟨n,b⟩:=q;cases b<;>rfl
theorem Lb{es:oE}(h:ZW (L.map K9) es clock):Ck es=La L:=by
 refine Nat.eq_of_testBit_eq λi=>?_;rw[Bool.eq_iff_iff,EU,MS];constructor
 .grind [ZW,IS]
 .rintro⟨q,hq,hb⟩;obtain⟨n,hn⟩:=h.sup (K9 q) (by grind);grind [IS]
abbrev O3:Bj:=82
abbrev Sj(clock:Nat)(seen:Br):Option Ob:=some ⟨O3,[],some (.iter (some 0) clock seen clock)⟩
abbrev Vk(es:oE)(clock:Nat):Option Ob:=some ⟨O3,[],some (.map es clock)⟩
theorem Zo{P:Bu}{t:Bj}(ha:a<1048576)(hb:b<1048576):∀p q:DC,b8 P .or t p q (iG (a:Int)) (.lit (.int .i64 (.ofNat b)))=some (iG ((a|||b:Nat):Int)):=by grind [SS]
theorem TV(o:Bo):ba prog gl 180 [.agg (aJ o)] (iG ((La (rU o):Nat):Int)):=by
 refine Gh func180 ?_;refine pO 11100 (stP gl o) [] [hc (eB (gs:=aJ o) aH)] ?_ [] [];refine dMl O3 3 4 74 (hsP o) λes clock hM=>?_;rw[show IF (bq 11100 (ai Tryz.f180))=WU from rfl,Zn gl o] at hM;have hb:∀q∈rU o,q.1<1048576:=λq hq=>by simp only[rU,EG,K3,or_false] at hq;rcases hq with rfl|rfl|rfl|rfl|rfl|rfl|rfl|rfl|rfl|rfl|rfl|rfl|rfl|rfl|rfl|rfl<;>exact Ef rfl
 have him:∀q∈es,bB q.2.1:=by grind [ZW,sY,mN]
 have hk:∀e∈es,Wa e.1<2^20:=λe he=>by obtain⟨m,b,e1,e2,_⟩:=sY hb (hM.sub e he);have e1:e.1=_:=e1;rw[e1];exact e2
 have hlt:∀seen,iC seen es<1048576:=λseen=>Ig hk;refine dNx 11101 ?_;refine dRe (s0 75 gl [(3,iG 0),(64,.ref 1 0)] [(1,Sj clock []),(0,Vk es clock)] 2 0) [hc him] ?_ [] [(0,0),(1,1)];refine dMw 64 65 66 0 (iti:=1) (mi:=0) (clock:=clock) (since:=clock) (T:=O3) (ty:=O3) (es:=es) (λseen=>(s0 75 gl [(3,iG ((iC seen es:Nat):Int)),(64,.ref 1 0)] [(1,Sj clock seen),(0,Vk es clock)] 2 0)) (λ_=>True) trivial hM.lt rfl ?_ (λseen=>rfl) (λseen=>rfl) (by grind) (λB seen k g n _ hm hn a=>?_) (λseen _ hs=>?_)
 .rw[Ex];exact Le.refl _
 .obtain⟨m,b,e1,e2,e3⟩:=sY hb (hM.sub _ hm);have e1:k=_:=e1;have e3:g=_:=e3;subst e1 e3;have hge:jr [(1,Sj clock (seen++[n])),(1,Sj clock seen),(0,Vk es clock)] (.ref 1 0)=some (.tup [db (.int .i64 (.ofNat m)),bG b]):=yo (iti:=1) (mi:=0) (since:=clock) (clock:=clock) (T:=O3) (ty:=O3) (seen:=seen) rfl rfl hM.nd hm;have a:=a trivial;rw[Ev hn hm hM.nd] at a;cases b
  .exact jw [YT 67 hge] [hc him] (show B (s0 75 gl [(3,iG ((iC seen es:Nat):Int)),(64,.ref 1 0)] [(1,Sj clock (seen++[n])),(0,Vk es clock)] 2 0) by rw[show iC seen es|||If (.int .i64 (.ofNat m)) (bG false)=iC seen es from Nat.or_zero _] at a;exact a) [] [(0,0),(1,1)]
  .exact jw [YT 67 hge,hV 73 (Zo (P:=prog) (t:=3) (hlt seen) e2)] [hc him] a [] [(0,0),(1,1)]
 .have e:iC seen es=La (rU o):=by rw[Ew hs,Lb hM]
  rw[<-e];exact Ar [] []
def xj(n a b:Int):Bool:=decide (a<=n)&&decide (n<=b)
theorem ib(n a b:Int):FV n a b=some (xj n a b):=by grind [FV,xj]
theorem inT(n a b:Int)(h:xj n a b=true):FV n a b=some true:=by rw[ib,h]
def WV(n:Nat):Bool:=decide ((n:Int)<((2305843009213693951:Nat):Int))
def Rz(i:Ab):Bool:=xj i.By 1 12&&(xj i.Seq 1 2147483647&&WV i.Sum)
theorem GA(n:Nat):Kq n=some (WV n):=by unfold Kq WV;rfl
theorem Zp(x y z:Bool):(((some x).bind λv5=>bif v5 then((some y).bind λb=>bif b then((some z).bind λa=>some a)else(some false))else(some false)).bind λc=>some c)=some (x&&(y&&z)):=by cases x<;>cases y<;>rfl
theorem pS(i:Ab):Al i=some (Rz i):=by have h:=Zp (xj i.By 1 12) (xj i.Seq 1 2147483647) (WV i.Sum);rw[<-ib,<-ib,<-GA] at h;exact h
def Z5(n:Nat):Bool:=decide (((1:Nat):Int)<=(n:Int))&&decide ((n:Int)<((2305843009213693951:Nat):Int))
theorem Zq(y z:Bool):((bif y then(some z)else(some false)).bind λa=>some a)=some (y&&z):=by cases y<;>rfl
theorem rV(n:Nat):rJ n=some (Z5 n):=Zq _ _
def GB(o:Bo):Bool:=bif o.Kind=3 then(xj o.Member 1 8&&decide (o.Device=0))||(decide (o.Member=0)&&decide (o.Device≠0))else xj o.Member 1 8
def GH(o:Bo):Int:=bif o.Kind=3 then 0 else 1
def Sk(o:Bo):Int:=bif o.Kind=1 then 0 else 1
def Sl(o:Bo):Int:=bif o.Kind=1 then 20 else ah o.Guards
def OC(o:Bo):List (Nat×Bool):=[(1,xj o.Device (GH o) 12),(2,xj o.Old 1 12),(4,GB o),(8,xj o.Role 1 3),(64,xj o.N 0 2147483647),(4096,xj o.Wait 0 2147483647),(2048,xj o.Need (Sk o) (Sl o)),(32,Rz o.Epoch),(512,Rz o.Of),(16384,Z5 o.Pub)]
noncomputable def RA:HE:=IF (bq 111111100 (ai Tryz.f181))
noncomputable abbrev Zr(o:Bo)(k:Nat):St:=(s0 136 gl [(1,iG (k:Int)),(2,.ptr (aJ o) 0),(5,iG (GH o)),(6,iG (Sk o)),(7,iG (Sl o)),(8,bG (GB o))] [] 0 0)
def hsR(o:Bo):List HP:=[hf 62 (eE gl (ib o.Device (GH o) 12)),hf 65 (eE gl (ib o.Old 1 12)),hf 69 (eE gl (ib o.Role 1 3)),hf 72 (eE gl (ib o.N 0 2147483647)),hf 75 (eE gl (ib o.Wait 0 2147483647)),hf 80 (eE gl (ib o.Need (Sk o) (Sl o))),hf 83 (pH gl (pS o.Epoch)),hf 86 (pH gl (pS o.Of)),hf 89 (iz gl (rV o.Pub))]
theorem aaY(o:Bo)(k:Nat):RA.filterMap (mM (iH (Zr gl o k) (U3 prog (bK (hsR gl o)) (Zr gl o k) RA)))=(OC o).map K9:=aH
theorem WW{P:Bu}{t:Bj}(ha:a<1048576)(hb:b<1048576):∀p q:DC,b8 P .and t p q (iG (a:Int)) (.lit (.int .i64 (.ofNat b)))=some (iG ((a&&&b:Nat):Int)):=λp q=>by have e:=V8 (P:=P) (t:=t) (a:Int) (b:Int) p q;refine Eq.trans e ?_;have h1:a&&&b<=a:=Nat.and_le_left;unfold Yn;rw[BitVec.toNat_and,BitVec.toNat_ofInt,BitVec.toNat_ofInt];grind [IntKind.bits,IntKind.wrap]
structure Ama (o:Bo) (k:Nat):Prop where
 by_:xj o.By 1 12=true
 seq:xj o.Seq 1 2147483647=true
 at_:xj o.At 0 2147483647=true
 ents:∀q∈OC o,k&&&q.1≠0->q.2=true
 guards:On o.Guards (λz=>uR z)=some true
 refs:On o.Refs (λz=>Kq z)=some true
 past:On o.Past (λz=>Al z)=some true
 path:On o.Path (λz=>uP z)=some true
 boxes:On o.Boxes (λz=>wB z)=some true
 hist:On o.Hist (λz=>uQ z)=some true
theorem IT{o:Bo}{k:Nat}(hk:k<1048576)(h:Ama o k):ba prog gl 181 [.agg (aJ o),iG (k:Int)] (bG true):=by
 refine Gh func181 ?_;refine pO 1111100 (s0 136 gl [(1,iG (k:Int)),(2,.ptr (aJ o) 0),(5,iG 1),(6,iG 1),(7,iG (ah o.Guards)),(8,bG (xj o.Member 1 8))] [] 0 0) [hf 16 (eE gl (inT _ _ _ h.by_)),hf 21 (eE gl (inT _ _ _ h.seq)),hf 27 (eE gl (inT _ _ _ h.at_)),hf 35 (eE gl (ib o.Member 1 8))] [hc (eB (gs:=aJ o) aH)] ?_ [] [];refine Ix 111110 (s0 136 gl [(1,iG (k:Int)),(2,.ptr (aJ o) 0),(5,iG (GH o)),(6,iG 1),(7,iG (ah o.Guards)),(8,bG (GB o))] [] 0 0) ?_ λkk=>?_;rotate_left
 .unfold GH GB at kk;cases e:decide (o.Kind=3) with
  |false=>rw[e] at kk;exact yl 111110 [hr 38 e] [] kk [] []
  |true=>
   rw[e] at kk;simp only[ax] at kk;generalize hm0:xj o.Member 1 8=m0 at kk⊢;cases hD:decide (o.Device=0) with
   |false=>have hD':decide (o.Device≠0)=true:=C6 (Ni hD);rw[hD,hD'] at kk;cases hM:decide (o.Member=0)<;>rw[hM] at kk<;>cases m0<;>exact yl 111110 [hr 38 e,hr 43 hD,hr 48 hM,hr 52 hD'] [] kk [] []
   |true=>have hD':decide (o.Device≠0)=false:=Dl λh=>h (DV hD);rw[hD,hD'] at kk;cases hM:decide (o.Member=0)<;>rw[hM] at kk<;>cases m0<;>exact yl 111110 [hr 38 e,hr 43 hD,hr 48 hM,hr 52 hD'] [] kk [] []
 refine pO 11111100 (s0 136 gl [(1,iG (k:Int)),(2,.ptr (aJ o) 0),(5,iG (GH o)),(6,iG 1),(7,iG (ah o.Guards)),(8,bG (GB o))] [] 0 0) [] [] ?_ [] [];refine Ix 1111110 (Zr gl o k) ?_ λkk=>?_;rotate_left
 .unfold Zr Sk Sl at kk;cases e:decide (o.Kind=1)<;>rw[e] at kk<;>exact yl 1111110 [hr 57 e] [] kk [] []
 refine pO 111111100 (Zr gl o k) [] [] ?_ [] [];refine dMl O3 3 4 43 (hsR gl o) λes clock hM=>?_;rw[show IF (bq 111111100 (ai Tryz.f181))=RA from rfl,aaY gl o k] at hM;have hb:∀q∈OC o,q.1<1048576:=λq hq=>by simp only[OC,EG,K3,or_false] at hq;grind
 have him:∀q∈es,bB q.2.1:=by grind [ZW,sY,mN]
 refine dNx 111111101 ?_;refine dRe (s0 136 gl [(1,iG (k:Int)),(2,.ptr (aJ o) 0),(91,.ref 1 0)] [(1,Sj clock []),(0,Vk es clock)] 2 0) [hc him] ?_ [] [(0,0),(1,1)];refine dMw 91 92 93 0 (iti:=1) (mi:=0) (clock:=clock) (since:=clock) (T:=O3) (ty:=O3) (es:=es) (λseen=>(s0 136 gl [(1,iG (k:Int)),(2,.ptr (aJ o) 0),(91,.ref 1 0)] [(1,Sj clock seen),(0,Vk es clock)] 2 0)) (λ_=>True) trivial hM.lt rfl (Le.refl _) (λseen=>rfl) (λseen=>rfl) (by grind) (λB seen f g n _ hm hn d=>?_) (λseen _ hs=>?_)
 .have hmem:=hM.sub _ hm;obtain⟨⟨m,b⟩,hq,a⟩:=EO.1 hmem;have e1:(.int .i64 (.ofNat m):Value)=f:=congrArg Prod.fst a;have e3:bG b=g:=congrArg Prod.snd a;subst e1 e3;have hm2:m<1048576:=hb _ hq;have hent:=h.ents _ hq;dsimp only at hent;have hge:jr [(1,Sj clock (seen++[n])),(1,Sj clock seen),(0,Vk es clock)] (.ref 1 0)=some (.tup [db (.int .i64 (.ofNat m)),bG b]):=yo (iti:=1) (mi:=0) (since:=clock) (clock:=clock) (T:=O3) (ty:=O3) (seen:=seen) rfl rfl hM.nd hm;have hVa:∀p q:DC,b8 prog .and 3 p q (iG (k:Int)) (.lit (.int .i64 (.ofNat m)))=some (iG ((k&&&m:Nat):Int)):=WW hk hm2;by_cases h0:k&&&m=0
  .exact jw [YT 94 hge,hV 99 hVa,hr 100 (show decide (((k&&&m:Nat):Int)≠0)=false from Dl aa)] [hc him] (d trivial) [] [(0,0),(1,1)]
  .obtain rfl:b=true:=hent h0;exact jw [YT 94 hge,hV 99 hVa,hr 100 (show decide (((k&&&m:Nat):Int)≠0)=true from C6 aa)] [hc him] (d trivial) [] [(0,0),(1,1)]
 .exact Ar [hz 108 [] (jf (c:=2) aH (FW gl (⟨aH,bf,eB aH,λ_ _ e=>Dw gl e⟩) h.guards) (eB aH)),
   hz 112 [] (jf (c:=2) aH (zL gl (⟨aH,bf,eB aH,λ_ _ e=>Ak gl e⟩) h.refs) (eB aH)),
   hz 117 [] (jf (c:=2) aH (Ch gl (⟨aH,bf,eB aH,λ_ _ e=>pH gl e⟩) h.past) (eB aH)),
   hz 123 [] (jf (c:=2) aH (tK gl (⟨aH,bf,eB aH,λ_ _ e=>Du gl e⟩) h.path) (eB aH)),
   hz 128 [] (jf (c:=2) aH (wA gl (⟨aH,bf,eB aH,λ_ _ e=>Cf gl e⟩) h.boxes) (eB aH)),
   hz 134 [] (jf (c:=2) aH (pY gl (⟨aH,bf,eB aH,λ_ _ e=>Dv gl e⟩) h.hist) (eB aH))] []
def nG:Bn:=[0,2064,32793,21,16,12,480,640,512,31744,8704,8705,512,33299]
def Sn(n:Nat):G:= .clo (.func n) [] []
def IU:Bk:=[.lit .nilFunc,.lit .nilFunc,Sn 411,Sn 413,.lit .nilFunc,Sn 414,Sn 415,.lit .nilFunc,Sn 416,Sn 417,Sn 419,Sn 420,Sn 419,Sn 421]
def fI:CC:=[(0,nG.flatMap cZ),(1,IU)]
theorem WX:Ac9 prog 191 3 14 1:=⟨aH,aH,aH⟩
theorem kIx{i x:Int}(h:aS nG i=some x):fh prog 191 (.ptr (nG.flatMap cZ) 0) i=some (.ptr (nG.flatMap cZ) (i.toNat*1)):=WX.ix h rfl
structure Abd (o:Bo) (kk:Nat):Prop where
 lo:decide (o.Kind<1)=false
 hi:decide (13<o.Kind)=false
 kind:aS nG o.Kind=some (kk:Int)
 kb:kk<1048576
 bits:wH ((La (rU o):Nat):Int) (kk:Int)=0
 rg:Ama o kk
 long:FX o=some false
 nPast:o.Past.length<=1000000
 nGuards:o.Guards.length<=1000000
 past:∀(k:Nat) (a b:Ab),o.Past[k]?=some a->o.Past[k+1]?=some b->pE a b=some true
 guards:∀(k:Nat) (a b:Int),o.Guards[k]?=some a->o.Guards[k+1]?=some b->a<b
 create:decide (ah o.Past=0)=decide (o.Kind=1)
def Lc(l:Ba)(i:Int):Option (Int⊕Unit):=bif i<wI (ah l-1)then(aS l i).bind λa=>(aS l (wI (i+1))).bind λb=>(pE a b).bind λv=>bif v then some (.inl (wI (i+1)))else none else some (.inr ())
def Ld(l:Bn)(i:Int):Option (Int⊕Unit):=bif i<wI (ah l-1)then(aS l i).bind λa=>(aS l (wI (i+1))).bind λb=>bif a<b then some (.inl (wI (i+1)))else none else some (.inr ())
theorem Zs{o:Bo}(h:Abd o kk):AH (Lc o.Past) 0=some ():=by
 have hn:=h.nPast;have hw:wI (ah o.Past-1)=(o.Past.length:Int)-1:=by grind [bM,ah]
 refine T.eq (T.loop (λi=>∃k:Nat,i=(k:Int)/\k<=o.Past.length) (λi=>o.Past.length-i.toNat) (by grind) (by grind) ?_);rintro i ⟨k,rfl,hk⟩;unfold Lc;rw[hw];refine .dec (λhh=>?_) λhh=> .some rfl;have h1:k<o.Past.length:=aa;have h2:k+1<o.Past.length:=aa;have ew:wI ((k:Int)+1)=((k+1:Nat):Int):=aq aa;refine .bind (.ix aa (x:=o.Past[k]) (by grind) (.bind (.ix (by grind) (x:=o.Past[k+1]) (by grind) (.eqb (h.past k _ _ (by simp_all) (by simp_all)) (.some ⟨⟨k+1,ew,aa⟩,?_⟩)))));grind
theorem Zt{o:Bo}(h:Abd o kk):AH (Ld o.Guards) 0=some ():=by
 have hn:=h.nGuards;have hw:wI (ah o.Guards-1)=(o.Guards.length:Int)-1:=by grind [bM,ah]
 refine T.eq (T.loop (λi=>∃k:Nat,i=(k:Int)/\k<=o.Guards.length) (λi=>o.Guards.length-i.toNat) (by grind) (by grind) ?_);rintro i ⟨k,rfl,hk⟩;unfold Ld;rw[hw];refine .dec (λhh=>?_) λhh=> .some rfl;have h1:k<o.Guards.length:=aa;have h2:k+1<o.Guards.length:=aa;have ew:wI ((k:Int)+1)=((k+1:Nat):Int):=aq aa;refine .bind (.ix aa (x:=o.Guards[k]) (by grind) (.bind (.ix (by grind) (x:=o.Guards[k+1]) (by grind) ?_)));rw[C6 (h.guards k _ _ (by simp_all) (by simp_all)),ax];refine .some ⟨⟨k+1,ew,aa⟩,?_⟩;grind
theorem IW{o:Bo}(h:Abd o kk):ba prog fI 99 [.agg (aJ o)] (iG 0):=by
 refine Gh func99 ?_;refine pO 111100 (s0 93 fI [(1,.ptr (aJ o) 0),(3,bG true)] [] 0 0) [hr 8 h.lo,hr 12 h.hi,hf 16 (TV fI o),AB 19 (kIx h.kind),AB 20 (rZ.p1Z tZ h.kind),hV 21 (NW (P:=prog) (t:=3) ((La (rU o):Nat):Int) (kk:Int)),hr 22 (show decide (wH ((La (rU o):Nat):Int) (kk:Int)≠0)=false from Dl λe=>e h.bits)] [hc (eB (gs:=aJ o) aH)] ?_ [] [];refine Ix 111101 (s0 93 fI [(1,.ptr (aJ o) 0),(3,bG true)] [] 0 0) ?_ λkk1=>?_;rotate_left
 .refine pN (λi:Int=>(s0 93 fI [(1,.ptr (aJ o) 0),(3,bG true),(27,iG (wI (ah o.Past-1))),(28,iG i)] [] 0 0)) 11110122 (Zs h) [] [] (λB i w hs k5 d=>?_) [] [];unfold Lc at hs;rcases bC hs with⟨b1,hs⟩|⟨b1,hs⟩
  .obtain⟨a,c,hs⟩:=bS hs;obtain⟨b,eb,hs⟩:=bS hs;obtain⟨v,ev,hs⟩:=bS hs;cases v
   .cases hs
   .obtain rfl:=Bp hs;exact jw [hr 29 b1,AB 36 (ac.ixZ c),AB 37 (ac.ptZ aW c),AB 42 (ac.ixZ eb),AB 43 (ac.ptZ aW eb),hf 44 (HB fI ev)] [] (k5 _ rfl) [] []
  .obtain rfl:=Bp hs;exact yl 111101 [hr 29 b1] [] kk1 [] []
 refine pO 1111100 (s0 93 fI [(1,.ptr (aJ o) 0),(3,bG true)] [] 0 0) [] [] ?_ [] [];refine Ix 1111101 (s0 93 fI [(1,.ptr (aJ o) 0),(3,bG true)] [] 0 0) ?_ λkk1=>?_;rotate_left
 .refine pN (λi:Int=>(s0 93 fI [(1,.ptr (aJ o) 0),(3,bG true),(50,iG (wI (ah o.Guards-1))),(51,iG i)] [] 0 0)) 111110122 (Zt h) [] [] (λB i w hs k5 d=>?_) [] [];unfold Ld at hs;rcases bC hs with⟨b1,hs⟩|⟨b1,hs⟩
  .obtain⟨a,c,hs⟩:=bS hs;obtain⟨b,eb,hs⟩:=bS hs;rcases bC hs with⟨b2,hs⟩|⟨b2,hs⟩
   .obtain rfl:=Bp hs;exact jw [hr 52 b1,AB 59 (rZ.ixZ c),AB 60 (rZ.p1Z tZ c),AB 65 (rZ.ixZ eb),AB 66 (rZ.p1Z tZ eb),hr 67 b2] [] (k5 _ rfl) [] []
   .cases hs
  .obtain rfl:=Bp hs;exact yl 1111101 [hr 52 b1] [] kk1 [] []
 have hc:=h.create;cases e:decide (o.Kind=1) with
 |false=>rw[e] at hc;exact Ar [AB 74 (kIx h.kind),AB 75 (rZ.p1Z tZ h.kind),hf 76 (IT fI h.kb h.rg),hf 80 (Es fI h.long),hr 88 hc,hr 91 e] []
 |true=>rw[e] at hc;exact Ar [AB 74 (kIx h.kind),AB 75 (rZ.p1Z tZ h.kind),hf 76 (IT fI h.kb h.rg),hf 80 (Es fI h.long),hr 88 hc,hr 91 e] []
end
end Go.Proofs.YtjbfcillbjiajaaGreatDoor
