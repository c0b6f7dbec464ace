/- auth.Why, epoch.Sound: the document's. -/
import Derived.Test.YtlijnaneopediaaGreatDoorO9
import Derived.Test.YtlijnaneopediaaGreatDoorOE
import Derived.Test.YtlijnaneopediaaGreatDoorU8
namespace Go.Proofs.YtlijnaneopediaaGreatDoor
set_option linter.unusedSectionVars false
set_option linter.unusedVariables false
set_option linter.unusedSimpArgs false
open Go.RowKit Tryz
section
variable {g:AQ} {m:Jn} {N:Jk} (P:Pg g m N) (h14:g.L.length<=14)
include P h14
theorem Ajn{w:A3}(w1:EA g w)(w2:w.Nodup){k:Nat}{x:Ab}{o:Bj}(hx:g.IDs[k]?=some x)(ho:g.L[k]?=some o)(a:x∈w):∃(row vs:A3) (v:FM Ab Bool),n8 g w=some row/\vJ w=some vs/\AcP (Bw g m N) (Nf ⟨g.Cards,m,N⟩ row vs) (NR g.Cards (NS (Bw g m N) row))=some v/\Ww g w x=some (Acf (decide (x∈vs)) ((Fa (Bw g m N) (wV (Nf ⟨g.Cards,m,N⟩ row vs) v)).any λy=>decide (x=y)) ((Fa (Bw g m N) (wV (Nf ⟨g.Cards,m,N⟩ row vs) v)).any λy=>D5 (Bw g m N) y x) (Mh (RZ (Bw g m N) (Fa (Bw g m N) (wV (Nf ⟨g.Cards,m,N⟩ row vs) v)) x) o))/\∀s:A3,s.Perm w->ba prog fI 91 [.ptr (Ag ⟨g.Cards,m,N⟩) 0,aE aj s,.agg (aj x)] (iG (Acf (decide (x∈vs)) ((Fa (Bw g m N) (wV (Nf ⟨g.Cards,m,N⟩ row vs) v)).any λy=>decide (x=y)) ((Fa (Bw g m N) (wV (Nf ⟨g.Cards,m,N⟩ row vs) v)).any λy=>D5 (Bw g m N) y x) (Mh (RZ (Bw g m N) (Fa (Bw g m N) (wV (Nf ⟨g.Cards,m,N⟩ row vs) v)) x) o))):=by
 have W:=P.w;have nI:=W.nI;have nL:=W.nL;have hkl:=(cr ho).1;have so:=(W.ops k o ho).1;have hog:o.Guards.length<=1000000:=by have:=so.nGuards;omega
 obtain⟨row,vs,d,f,B,e,_,hvl,hL,hrm,hvm,hrn,hrl,hS⟩:=Adq P h14 (Ali P) w1 w2;obtain⟨C,ed,v,hv,hLr⟩:=Aa4 P w1 d hrn aa hrm e hvl hvm;obtain⟨gd,eg,g1,g2,i,l⟩:=AeI P hLr;have hwl:=w1.len;have hI:=SW (PL P.w P.p);obtain⟨s1,s2⟩:=AeL P hrm;refine⟨row,vs,v,d,e,hv,?_,λs hs=>?_⟩
 .have b:=hLr.fk k x hx;rw[show(wV (Nf ⟨g.Cards,m,N⟩ row vs) v).fork=ofV vs from rfl,U0] at b;obtain⟨D,eD,q,t,u⟩:=Ak7 P g1 g2 (hrn.sublist l) hx;have c:=Ai4 (VA P u aa).z q t hog x;have hgood:QF gd (k:Int)=(HD g gd).any λz=>decide (x=z):=by rw[KE,Bool.eq_iff_iff,List.any_eq_true,decide_eq_true_iff,Ab4 P g1 hx];constructor<;>grind
  have hsr:=T.search (step:=QN g gd (k:Int)) gd (λz=>D5 (Bw g m N) ((g.IDs[z.toNat]?).getD ⟨0,0,0⟩) x) (λ_ _=>(15:Int)) aa (λj z hz hj=>by
   obtain⟨n,y,rfl,hn,hy,_⟩:=OR W g1 hz;unfold QN;rw[eA hj,ax,au,hz,aL,Ab2 P hn hkl hy hx,aL,EO,hy,MZ];cases D5 (Bw g m N) y x with
   |true=>rfl
   |false=>show some (Sum.inl (wI ((j:Int)+1)))=_;rw[aq aa];rfl) (by unfold QN;rw[eF];rfl)
  obtain⟨r,A,hr⟩:=hsr;have hkl2:((HD g gd).any λy=>D5 (Bw g m N) y x)=gd.any λz=>D5 (Bw g m N) ((g.IDs[z.toNat]?).getD ⟨0,0,0⟩) x:=by unfold HD;rw[List.any_map];rfl
  rw[<-i,<-hgood,hkl2];unfold Ww;rw[kf aa,aL,show nA w x=true from List.any_eq_true.2 ⟨x,a,CO rfl⟩,Bool.not_true,A7,ed,aL,eg,aL,dC aa,aL,show gO g x=(k:Int) by unfold gO;rw[JD W hx],au,b,aL];unfold Acf;cases decide (x∈vs) with
  |true=>rfl
  |false=>
   rw[A7,A7,cX aa,aL];cases QF gd (k:Int) with
   |true=>rfl
   |false=>
    rw[A7,A7,A,aL];rcases hr with⟨rfl,h⟩|⟨j,z,hz,h,rfl,_⟩
    .rw[show(gd.any λz=>D5 (Bw g m N) ((g.IDs[z.toNat]?).getD ⟨0,0,0⟩) x)=false by rw[List.any_eq_false];intro z hz;simp[h z hz],A7];show(Fg g gd (k:Int)).bind _=_;rw[eD,aL,au,ho,aL,au,hx,aL,c,aL];cases decide (Mh (RZ (Bw g m N) (HD g gd) x) o=0)<;>rfl
    .rw[List.any_eq_true.2 ⟨z,bO hz,h⟩];rfl
 .have h:=Ajl (id:=x) (o:=o) hL (hS s hs).1 (hS s hs).2 hvl (Ss hI (hS row f).1 aa) (show(NS (Bw g m N) row).length<=1000 by omega) hv (by rw[hs.length_eq];omega) (hs.mem_iff.2 a) (P.op ho hx).1 hog;rw[U0] at h;exact h
end
end Go.Proofs.YtlijnaneopediaaGreatDoor
