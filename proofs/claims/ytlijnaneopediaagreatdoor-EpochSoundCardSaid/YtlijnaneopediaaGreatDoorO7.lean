/- What is ahead of what, through others; what is last. -/
import Derived.Test.YtlijnaneopediaaGreatDoorW6
namespace Go.Proofs.YtlijnaneopediaaGreatDoor
set_option linter.unusedSectionVars false
set_option linter.unusedVariables false
set_option linter.unusedSimpArgs false
open Go.RowKit Tryz
variable {x y:Ab}
theorem Ae1{g:AQ}(w:Fq g){i j:Nat}(h:Pm g i j=true):∀(n k:Nat),j-k<=n->Pm g j k=true->Pm g i k=true
 |n,k,hn,hk=>by
  obtain⟨u,hu,h1|⟨c,v,h1,h2,h3⟩⟩:=w.la j k hk
  .exact w.tr i j k u h hu h1
  .have a:=(w.inlt c k (w.one c k v h2 h3)).1;have b:=(w.inlt j c h1).1;match n with
   |0=>omega
   |n+1=>exact w.tr i c k v (Ae1 w h n c aa h1) h2 h3
section
variable {g:AQ} {m:Jn} {N:Jk} (P:Pg g m N)
include P
theorem Wq(h:(Bw g m N).bef x y=true):∃i j,bu x g.IDs=some i/\bu y g.IDs=some j/\Pm g j i=true:=by
 rw[Ut P.w P.p] at h;cases h1:bu x g.IDs with
 |none=>rw[h1] at h;cases h
 |some i=>
  cases h2:bu y g.IDs with
  |none=>rw[h1,h2] at h;cases h
  |some j=>rw[h1,h2] at h;exact⟨i,j,rfl,rfl,h⟩
theorem Ajj{z:Ab}(h1:(Bw g m N).bef x y=true)(h2:(Bw g m N).bef y z=true):(Bw g m N).bef x z=true:=by obtain⟨i,j,a,b,c⟩:=Wq P h1;obtain⟨f,k,b',d,e⟩:=Wq P h2;rw[b] at b';cases b';rw[Ut P.w P.p,a,d];exact Ae1 P.w e _ i (Dl _) c
theorem Aa9{cs:A3}:∀(n i:Nat) (x:Ab),bu x g.IDs=some i->g.L.length-i<=n->x∈cs->x∈Hi (Bw g m N) cs\/∃y∈Hi (Bw g m N) cs,(Bw g m N).bef x y=true
 |n,i,x,hi,hn,hx=>by
  cases c:Nn (Bw g m N) cs x with
  |false=>exact .inl (Hq.2 ⟨hx,by rw[c];rfl⟩)
  |true=>
   obtain⟨y,hy,hb⟩:=List.any_eq_true.1 c;obtain⟨d,j,a,b,e⟩:=Wq P hb;rw[hi] at a;cases a;have h1:=P.w.inlt j i e;match n with
   |0=>omega
   |n+1=>
    rcases Aa9 n j y b aa hy with h|⟨z,hz,h⟩
    .exact .inr ⟨y,h,hb⟩
    .exact .inr ⟨z,hz,Ajj P hb h⟩
end
end Go.Proofs.YtlijnaneopediaaGreatDoor
