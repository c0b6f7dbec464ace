/- epoch.Sound is the document's; EpochSound: the law's walk. -/
import Derived.Test.YtlijnaneopediaaGreatDoorO7
import Derived.Test.YtlijnaneopediaaGreatDoorOD
namespace Go.Proofs.YtlijnaneopediaaGreatDoor
set_option linter.unusedSectionVars false
set_option linter.unusedVariables false
set_option linter.unusedSimpArgs false
open Go.RowKit Tryz
variable {k:Nat}{x:Ab}
section
variable {g:AQ} {m:Jn} {N:Jk} (P:Pg g m N) (h14:g.L.length<=14)
include P h14
theorem Ahh(hx:g.IDs[k]?=some x):∃p v:A3,iV prog fI 88 [.ptr (Ag ⟨g.Cards,m,N⟩) 0,aE aj [x]] 36 p.length (p.flatMap aj)/\r9 g [x]=some v/\p.Perm v/\v.Nodup/\EA g v/\(∀y,y∈v↔(Bw g m N).bef y x=true)/\v.length<=14/\x∉v:=by
 have w:=P.w;have nI:=w.nI;have pl:=P.p.len;obtain⟨v,e,l,n,_,o⟩:=EB w (ids:=[x]) aC;have hs:=Ado (p:=gW (RW ⟨g.Cards,m,N⟩ [x])) (N:=N);rw[AfD P] at hs;have hle:=hs.length_le;obtain⟨p,e2,f,q⟩:=Uv Qi (w.nd.sublist hs) aa;have hin:∀j,uX g [x] j↔Pm g k j=true:=λj=>by unfold uX;have:=JD w hx;grind
 have hb:∀y,y∈v↔(Bw g m N).bef y x=true:=λy=>by
  rw[n];constructor
  .rintro⟨j,h1,h2⟩;rw[Ut w P.p,JD w h1,JD w hx];exact(hin j).1 h2
  .intro h;obtain⟨i,j,a,b,c⟩:=Wq P h;rw[JD w hx] at b;cases b;exact⟨i,(gb a).1,(hin i).2 c⟩
 have hpv:p.Perm v:=(List.perm_ext_iff_of_nodup (f.nodup_iff.2 (w.nd.sublist hs)) l).2 λy=>by
  rw[n,f.mem_iff,Adn];constructor
  .rintro⟨j,d,h1,h2,rfl⟩;have hk:=(cr h1).1;exact⟨j,(P.p.nd j d h1).2.1,(Vc P aa).1 h2⟩
  .rintro⟨j,h1,h2⟩;have hk:=(cr h1).1;obtain⟨d,hy⟩:∃d,N[j]?=some d:=⟨_,EH aa⟩;have:=(P.p.nd j d hy).2.1;rw[h1] at this;exact⟨j,d,hy,(Vc P aa).2 h2,(Bo this).symm⟩
 refine⟨p,v,Adl (gl:=fI) (PL w P.p) (by show N.length<=14;omega) (ids:=[x]) aC e2 f.length_eq,e,hpv,l,⟨λy hy=>?_,aa⟩,hb,aa,λh=>?_⟩
 .obtain⟨i,j,a,_,_⟩:=Wq P ((hb y).1 hy);exact bO (gb a).1
 .exact S8 x (Ahq P ((hb x).1 h))
theorem Ae7{o:Bj}(hx:g.IDs[k]?=some x)(ho:g.L[k]?=some o):∃z:Int,ba prog fI 37 [.ptr (Ag ⟨g.Cards,m,N⟩) 0,.agg (aj x)] (iG z)/\Wx g x=some z/\(z=0->o.Kind=6/\∃v:A3,r9 g [x]=some v/\N8 g v=some (o.Epoch,true)/\(JT (Bw g m N) v o.By o.Epoch:Int)=o.N/\Ww g (v++[x]) x=some 0):=by
 have W:=P.w;have nI:=W.nI;have nL:=W.nL;have hkn:=AdQ W;obtain⟨p,v,l,ev,hpv,n,f,s,t,r⟩:=Ahh P h14 hx;have hxm:=bO hx;have w2:(v++[x]).Nodup:=List.nodup_append.2 ⟨n,aC,λa ha b hb=>by rw[List.mem_singleton.1 hb];rintro rfl;exact r ha⟩;have w1:EA g (v++[x]):=⟨λy hy=>by
  rcases I6.1 hy with h|h
  .exact f.sub y h
  .rw[List.mem_singleton.1 h];exact hxm,by simp;omega⟩
 obtain⟨_,_,_,_,_,_,hw,d⟩:=Ajn P h14 w1 w2 hx ho aC;obtain⟨cs,R,D,q,_,_,_,_,_,_,hq,_,_,_,_,hN⟩:=Acc P h14 hkn f n;have hI:=SW (PL W P.p);have d:=d (p++[x]) (hpv.append_right [x]);have hpl:p.length<=1000:=by rw[hpv.length_eq];omega
 have hc:JT (Bw g m N) p o.By o.Epoch=JT (Bw g m N) v o.By o.Epoch:=(hpv.filter _).length_eq;have h3:=Ahf (gl:=fI) (o:=o) hI hpl;have h2:=Ahe (gl:=fI) (o:=o) (hN p hpv).2.2.2;have h1:=Ahd hpl d;rw[show JT (Pl ⟨g.Cards,m,N⟩) p o.By o.Epoch=JT (Bw g m N) v o.By o.Epoch from hc] at h3;have hS:=Ae2 hI (P.op ho hx).1 l h1 h2 h3;clear h1 h2 h3 l d hN hI;refine⟨_,hS,?_,λh0=>?_⟩
 .unfold Wx;rw[dC aa,aL,show gO g x=(k:Int) by unfold gO;rw[JD W hx],show decide ((k:Int)<0)=false from C5 aa,A7,au,ho,aL];cases c:decide (o.Kind≠6) with
  |true=>rfl
  |false=>
   rw[A7,A7,ev,aL,show aT 24 ([]:A3) v=some v by grind [aT],aL,show aT 24 v [x]=some (v++[x]) by grind [aT],aL,hw,aL];generalize Acf _ _ _ _=e;unfold AdS;cases decide (e≠0) with
   |true=>rfl
   |false=>
    rw[A7,A7,hq,aL];obtain⟨q1,i⟩:=q;cases i with
    |false=>rfl
    |true=>
     cases decide (q1=o.Epoch) with
     |false=>rfl
     |true=>
      show((Nl g v o.By o.Epoch).bind λj=>bif o.N≠j then some 11 else some 0)=_;rw[AeW P f,aL];by_cases h:(JT (Bw g m N) v o.By o.Epoch:Int)=o.N
      .rw[show decide (o.N≠(JT (Bw g m N) v o.By o.Epoch:Int))=false by simp[h],CO h];rfl
      .rw[show decide (o.N≠(JT (Bw g m N) v o.By o.Epoch:Int))=true from CO λe=>h e.symm,C5 h];rfl
 .cases c:decide (o.Kind≠6) with
  |true=>rw[c] at h0;cases h0
  |false=>
   rw[c,A7] at h0;refine⟨Decidable.of_not_not (Lw c),v,ev,?_⟩;generalize Acf _ _ _ _=e at h0 hw;unfold AdS at h0;cases c1:decide (e≠0) with
   |true=>rw[c1] at h0;exact absurd h0 (DD c1)
   |false=>
    have he:=Decidable.of_not_not (Lw c1);rw[c1,A7] at h0;obtain⟨q1,i⟩:=q;cases c2:(i&&decide (q1=o.Epoch)) with
    |false=>rw[c2] at h0;cases h0
    |true=>
     rw[c2] at h0;obtain⟨rfl,c3⟩:=Bool.and_eq_true_iff.1 c2;have c3:=DD c3;subst c3;subst he;cases c4:decide ((JT (Bw g m N) v o.By o.Epoch:Int)=o.N) with
     |false=>rw[c4] at h0;cases h0
     |true=>exact⟨hq,DD c4,hw⟩
end
attribute [local irreducible] Tr dz Gp
theorem Ae8(b:ba prog fI 20 [] (bG true)){l:Bh}(hl:l.length<=9223372036854775807)(hi:∀x∈l,DW x):ba prog fI 7 [aE cZ l] (bG true):=by
 obtain⟨r,m,N,c,P,h14,_,hgr,hC,hM⟩:=Np hl hi;have hM:=QM c hM;have w:=P.w;have nI:=w.nI;have a:=λ{k:Nat} {x:Ab} {o:Bj} (hx:r.IDs[k]?=some x) (ho:r.L[k]?=some o)=>Ae7 P h14 hx ho;simp only[Ag,RJ] at a;refine Gh func7 ?_;refine pO 111100 (s0 36 fI [(3,Z8 r.Cards m N),(4,.ptr (aI r) 0)] [] 0 0) [tN 8 [] 0 [] [aE cZ l] [ob 0 105 [aE bv r.Cards,.mref 1,.rsl 2 0 N.length],(1,oM m),(2,zQ N)] hM trivial ⟨⟨rfl,.inl rfl⟩,⟨rfl,rfl,rfl,rfl,.inr ⟨rfl,cf _⟩⟩,⟨rfl,.inr ⟨rfl,az.imm _⟩⟩,trivial⟩] [hc (cf m),hc (az.al N),hc (eB (gs:=[aE bv r.Cards,gMp m,aE d7 N]) aH),hc (eB (gs:=aI r) aH)] ?_;refine Un (l:=r.IDs) aa (λk:Nat=>(s0 36 fI [(3,Z8 r.Cards m N),(4,.ptr (aI r) 0),(5,iG (k:Int))] [] 0 0)) 11110122 [] [] (λB k x hx hz k5=>?_) (λB=>?_)
 .have hlt:=(cr hx).1;obtain⟨o,ho,_⟩:=w.op (i:=k) aa;obtain⟨z,h1,h2,_⟩:=a hx ho;exact jw [hr 17 (CM hx),Az 24 (ac.ixZ hz),Az 25 (ac.ptZ aW hz),hf 26 h1,Az 31 (ac.ixZ hz),Az 32 (ac.ptZ aW hz),hf 33 (Aba fI h2),hr 34 (neZ z),hbb 19 (Xl (q:=k) aa)] [] k5 []
 .exact Ar [hr 17 (DH (s:=r.IDs)),hf 35 b] []
end Go.Proofs.YtlijnaneopediaaGreatDoor
