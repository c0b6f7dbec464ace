/- some: unlike numbers; rows of slots. -/
import Derived.Test.YtghphhhpagagbaaGreatDoorX5
namespace Go.Proofs.YtghphhhpagagbaaGreatDoor
set_option linter.unusedSectionVars false
set_option linter.unusedVariables false
set_option linter.unusedSimpArgs false
open Go.RowKit Go.Proofs.Tryz
attribute [local irreducible] Tr dz Gp
section
variable (gl:CO)
def bj(l:Bj)(s1:Bj×Int):Option ((Bj×Int)⊕Bj):=
 (bif decide (s1.2<ah l) then(some (decide (s1.2<6))) else(some false)).bind λb=>bif b then((Bt l s1.2).bind λc=>(iq c 7).bind λa=>(fb s1.1 (wI (1+a))).bind λd=>bif(!d) then((aT 8 s1.1 ([wI (1+a)]:Bj)).bind λe=>some (.inl (e,wI (s1.2+1)))) else(some (.inl (s1.1,wI (s1.2+1))))) else(some (.inr s1.1))
def aN(l:Bj):Option Bj:=
 (AB (bj l) ([],0)).bind λa=>some a
theorem bR{l}:LT prog gl (aN l) 20 [aE cZ l] 3 cZ:=
 gc func20 λK=>I4 11101 (λc=>sp [] [(3,.rsl 0 0 c.length)] [ob 0 3 (c.flatMap cZ)] 1) (λs1=>so [] [(3,.rsl 0 0 s1.1.length),(4,iG s1.2)] [ob 0 3 (s1.1.flatMap cZ)] 1) [hc (rZ.imm [])] (vs:=[3]) (ρ:=[(0,0)]) (kd:=[(0,.row)]) (λc=>mr c0 K (rZ.imm _)) λs1 k5 g=>Ny 111012200 (sf [] []) (DF rZ s1.1) 13 (ak λh a=>BU 20 (iL gl) λd=>ak λi e=>aw [AA 18 (rZ.ixZ a),AA 19 (rZ.p1Z tZ a),hq 24 [aE cZ s1.1,iG (wI (1+d))] [hc (rZ.al s1.1)] (DE gl e)]<|aF 25 (Gq (dg 29 rZ) λf=>cj k5 (DF rZ f) (ρ:=[(0,2)]) (kd:=[(0,.row)]))<|cj k5 (DF rZ s1.1) (ρ:=[(0,0)]) (kd:=[(0,.row)])) (aA c1 g (DF rZ s1.1) (ρ:=[(0,0)]) (kd:=[(0,.row)])) (ρ:=[(0,0)]) (kd:=[(0,.row)]) λb=>aF 9 (aA c0 b (DF rZ s1.1) (ρ:=[(0,0)]) (kd:=[(0,.row)]))<|aA c0 b (DF rZ s1.1) (ρ:=[(0,0)]) (kd:=[(0,.row)])
end
theorem dL{l:Bj}(hi:∀x∈l,c8 x):T (aN l) λv=>v.length<=6:=by
 unfold aN;refine .bind (T.mono (T.loop (Q:=λr:Bj=>r.length<=6) (λs=>0<=s.2/\s.2<=6/\(s.1.length:Int)<=s.2) (λs=>(7-s.2).toNat) ⟨aC,aC,aC⟩ (by show(7-(0:Int)).toNat<_;omega) ?_) λv hv=> .some hv);rintro⟨a,i⟩ ⟨c,i1,d⟩;simp only at c i1 d;unfold bj;refine .bind (T.mono (Q:=λb:Bool=>b=true->i<l.length/\i<6) (.dec (λh1=> .some λe=>⟨h1,DP e⟩) λ_=> .some λe=>by cases e) λb hb=> .ite (λe=>?_) λ_=> .some (show a.length<=6 by omega));obtain⟨b1,b2⟩:=hb e;have hw:wI (i+1)=i+1:=bM aa aa;refine .bind (.ixl c b1 λy _ hy=> .bind ((eX (hi y hy) aa).mono λv hv=> .bind (.of (cX (show a.length<=1000000 by omega) _) (.ite (λ_=> .bind (.app (by simp only[List.length_singleton];omega) (.some ⟨⟨?_,?_,?_⟩,?_⟩))) λ_=> .some ⟨⟨?_,?_,?_⟩,?_⟩))));all_goals first
  |(show 0<=wI (i+1);omega)
  |(show wI (i+1)<=6;omega)
  |(show((a++[_]).length:Int)<=wI (i+1);rw[RU,List.length_singleton];omega)
  |(show(a.length:Int)<=wI (i+1);omega)
  |(show(7-wI (i+1)).toNat<(7-i).toNat;omega)
theorem av:AQ prog 53 48 6 Hd:=⟨aH,aH,Cd,λ_=>rfl,λ_=>rfl⟩
theorem dB{I:Gi}{ss:Ab->Lw}{cs:Bf}{s:Bj}{q:Vz}(h:OP I ss cs s=some q):q.Set=s:=by
 unfold OP at h;split at h
 .split at h
  .obtain⟨c,_,rfl⟩:=DR.1 h;rfl
  .cases h
 .split at h
  .cases h;rfl
  .split at h
   .cases h
   .split at h<;>cases h;rfl
end Go.Proofs.YtghphhhpagagbaaGreatDoor
