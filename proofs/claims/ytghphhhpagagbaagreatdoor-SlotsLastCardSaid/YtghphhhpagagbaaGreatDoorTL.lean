/- SlotsLast: the law's walk. -/
import Derived.Test.YtghphhhpagagbaaGreatDoorX5
namespace Go.Proofs.YtghphhhpagagbaaGreatDoor
set_option linter.unusedSectionVars false
set_option linter.unusedVariables false
set_option linter.unusedSimpArgs false
open Go.RowKit Go.Proofs.Tryz
attribute [local irreducible] Tr dz Gp
theorem AeP{gl:CO}{gg:Aj}(h:Td gg)(a b:Ab):ba prog gl 37 [.ptr (Ag gg) 0,.agg (aj a),.agg (aj b)] (bG (decide (JK (OR gg) a b<0))):=by refine Gh func37 ?_;exact Ar [hf 11 (Adp (gl:=gl) h a b)] []
theorem Ab8{l:Bj}(hl:l.length<=1000000)(d:Int):ba prog fI 35 [aE cZ l,iG d] (bG (LB l d)):=DE fI (by rw[cX hl,KI];rfl)
theorem AgM{I:Gi}{ss:Ab->Lw}{cs:Bf}{s:Bj}{q:Vz}(h:OP I ss cs s=some q)(hs:cs.Pairwise λx y=>JK I x y<0)(hk:∀x∈cs,0<(ss x).length/\M1 x.By (ss x)):q.By=⟨0,0,0⟩\/∃x n t,q=⟨s,UB I x n,x,(n:Int)⟩/\x∈cs/\LB s x.By=true/\(ss x)[n]?=some t/\t.length=s.length/\(∀d∈s,d∈t)/\∀y∈cs,LB s y.By=true->y≠x->(1<s.length->I.bef y x=true)/\JK I y x<0:=by
 have hm:∀y,y∈SF cs s↔y∈cs/\LB s y.By=true:=λy=>Hj;have hp:=hs.sublist (List.filter_sublist (p:=λx=>LB s x.By) (l:=cs));change (SF cs s).Pairwise _ at hp;unfold OP at h;generalize SF cs s=own at h hm hp;rcases List.eq_nil_or_concat own with rfl|⟨l,x,rfl⟩
 .left;match s with
  |[]=>cases h
  |[d]=>
   change (I.card d).map _=some q at h;cases e:I.card d with
   |none=>rw[e] at h;cases h
   |some c=>rw[e] at h;cases h;rfl
  |a::b::r=>cases h
 .right;rw[List.concat_eq_append] at*;rw[show(l++[x]).getLast?=some x by simp] at h;dsimp only at h;obtain⟨hx,hi⟩:=(hm x).1 aC;obtain⟨i,g⟩:=hk x hx;have hlt:∀y∈cs,LB s y.By=true->y≠x->y∈l/\JK I y x<0:=λy hy h1 hne=>by have hyl:=(hm y).2 ⟨hy,h1⟩;have hyl:y∈l:=(HU.1 hyl).resolve_right λh=>hne (List.mem_singleton.1 h);rw[List.pairwise_append] at hp;exact⟨hyl,hp.2.2 y hyl x aC⟩
  by_cases h1:s.length=1
  .rw[Bz h1] at h;cases h;obtain⟨t,ht⟩:∃t,(ss x)[0]?=some t:=⟨_,DQ i⟩;obtain rfl:=g.f t ht;obtain⟨d,rfl⟩:=List.length_eq_one_iff.1 h1;obtain rfl:x.By=d:=by simpa[LB] using hi
   exact⟨x,0,_,rfl,hx,hi,ht,rfl,λd h=>h,λy hy h2 hne=>⟨λh=>absurd h aC,(hlt y hy h2 hne).2⟩⟩
  .rw[BB h1] at h;split at h
   .cases h
   .rename_i hb;cases hd:(ss x).findIdx? (VA s) with
    |none=>rw[hd] at h;cases h
    |some n=>
     rw[hd] at h;cases h;obtain⟨hn,ha,_⟩:=List.findIdx?_eq_some_iff_getElem.1 hd;have ht:(ss x)[n]?=some (ss x)[n]:=DQ hn;generalize (ss x)[n]=t at ha ht;have hT:=g.m t (bO ht);unfold VA at ha;cases c:decide ((t.length:Int)=(s.length:Int)) with
     |false=>rw[c] at ha;cases ha
     |true=>
      have c:=DP c;rw[C6 (by exact c),ax,Bool.not_eq_true',List.any_eq_false] at ha;have hsub:∀d∈t,d∈s:=λd hd=>by simpa[LB] using ha d hd
      refine⟨x,n,t,rfl,hx,hi,ht,aa,λd hd=>?_,λy hy h2 hne=>?_⟩
      .by_cases hdt:d∈t
       .exact hdt
       .have:=EC (l:=d::t) (LP.2 ⟨hdt,hT.2.2⟩) (m:=s) λz hz=>by
         rcases EA.1 hz with rfl|hz
         .exact hd
         .exact hsub z hz
        simp at this;omega
      .obtain⟨hyl,hc⟩:=hlt y hy h2 hne;refine⟨λ_=>?_,hc⟩;have:=mt (λh=>List.any_eq_true.2 ⟨y,List.mem_append_left [x] hyl,h⟩) hb;simpa[Ab9,hne] using this
def alF(r:Ba)(I:Gi)(cs:Bf)(k:Nat):Lw:=[[1],[2],[3]]++(cs.take k).flatMap λx=>M4 r (I.o x)
theorem AgN(K:ba prog fI 19 [] (bG true)){l pt:Bj}(hl:l.length<=9223372036854775807)(hi:∀x∈l,c8 x)(_:pt.length<=9223372036854775807)(hp:∀x∈pt,c8 x):ba prog fI 7 [aE cZ l,aE cZ pt] (bG true):=by
 obtain⟨r,m,N,P,h14,hkn,O,hC,hM⟩:=Z2 hl hi;have w:=P.w;have nI:=w.nI;obtain⟨v,ev,vo,vn⟩:=Aba w w.nd hp;obtain⟨row,c1,_,_,c3,c4⟩:=Pw P h14 hkn vo vn;have hK:=λ(s:Bj) (hs:s.length<=1000000)=>UR P h14 hkn c4 c1 (set:=s) hs;have hcs:∀x∈row.filter (TD r (CA r m N)),TD r (CA r m N) x=true:=λx hx=>(Hj.1 hx).2;have c5:(row.filter (TD r (CA r m N))).length<=14:=JD (KY ..) c4;have c6:=c3.sublist (List.filter_sublist (p:=TD r (CA r m N)));generalize row.filter (TD r (CA r m N))=cs at*;have D:=λ{s:Bj} {q:Vz} (h:OP (CA r m N) (λx=>M4 r ((CA r m N).o x)) cs s=some q)=>AgM h c6 λx hx=>by obtain⟨i,o,_,_,e,_,h1,_,h3,_⟩:=ZZ P h14 hkn (hcs x hx);rw[e];exact⟨h1,h3⟩
 have hG:=VB w P.p;have hI:=YF hG;have hN:=λx=>Abc P h14 hkn x;have E:=hI.op;have hbf:=hI.bef;have hlt:=λa b=>AeP (gl:=fI) hG a b;have hsl:∀x,(M4 r ((CA r m N).o x)).length<=3000/\∀s∈M4 r ((CA r m N).o x),s.length<=3000:=λx=>by obtain⟨_,h,_⟩:=Abb P h14 hkn x;exact⟨h.n,λs hs=>(h.m s hs).2.1⟩
 have e1:=ac.fo (SE fI ev);simp only[Ag,RJ] at c1 hN E hbf hlt hK;have hA:∀k,((cs.take k).flatMap λx=>M4 r ((CA r m N).o x)).length<=k*3000/\∀s∈(cs.take k).flatMap (λx=>M4 r ((CA r m N).o x)),s.length<=3000:=λk=>by
  constructor
  .rw[List.length_flatMap];have:∀q:Bf,(q.map λx=>(M4 r ((CA r m N).o x)).length).sum<=q.length*3000:=λq=>by
    induction q with
    |nil=>simp
    |cons x q ih=>have:=(hsl x).1;simp only[EZ,List.sum_cons,List.length_cons];omega
   refine JD (this _) (Nat.mul_le_mul_right _ ?_);rw[Mh];omega
  .intro s hs;obtain⟨x,_,hx⟩:=List.mem_flatMap.1 hs;exact(hsl x).2 s hx
 have aL:∀k,(alF r (CA r m N) cs k).length<=3+k*3000/\∀s∈alF r (CA r m N) cs k,s.length<=3000:=λk=>by
  unfold alF;refine⟨by have:=(hA k).1;simp only[RU,List.length_cons,List.length_nil];omega,λs hs=>?_⟩;rcases HU.1 hs with h|h
  .simp at h;rcases h with rfl|rfl|rfl<;>simp
  .exact(hA k).2 s h
 have aS:∀(k:Nat) (x:Ab),cs[k]?=some x->alF r (CA r m N) cs (k+1)=alF r (CA r m N) cs k++M4 r ((CA r m N).o x):=λk x h=>by unfold alF;rw[JM,h,Option.toList_some,List.flatMap_append,List.append_assoc];simp
 clear hA;refine Gh func7 ?_;refine pO 11110 (s0 226 fI [(1,aE cZ pt),(5,Z8 r.Cards m N),(6,.ptr (aI r) 0)] [] 0 0) [tN 22 [] 0 [] [aE cZ l] [ob 0 111 [aE bv r.Cards,.mref 1,.rsl 2 0 N.length],(1,oM m),(2,zQ N)] hM trivial ⟨⟨rfl,.inl rfl⟩,⟨rfl,rfl,rfl,rfl,.inr ⟨rfl,cf _⟩⟩,⟨rfl,.inr ⟨rfl,az.imm _⟩⟩,trivial⟩] [hc (cf m),hc (az.al N),hc (eB (gs:=[aE bv r.Cards,gMp m,aE d7 N]) aH),hc (eB (gs:=aI r) aH)] ?_;refine pO 1111110 (s0 226 fI [(5,Z8 r.Cards m N),(7,aE aj v),(8,aE aj cs)] [] 0 0) [hf 29 e1,hf 32 c1] [] ?_;refine dCu 3 (s0 226 fI [(5,Z8 r.Cards m N),(7,aE aj v),(8,aE aj cs),(33,aE cZ [1]),(34,aE cZ [2]),(35,aE cZ [3])] [] 0 0) (s0 226 fI [(5,Z8 r.Cards m N),(7,aE aj v),(8,aE aj cs),(9,.rsl 0 0 3)] [(0,oLs [[1],[2],[3]])] 1 0) [] [] [hc (rZ.al [1]),hc (rZ.al [2]),hc (rZ.al [3])] [hc (rfl:3=3),hc (nH.imm [[1],[2],[3]])] ?_;refine Ix 111111101 (s0 226 fI [(5,Z8 r.Cards m N),(7,aE aj v),(8,aE aj cs),(9,aE Jc (alF r (CA r m N) cs (min cs.length 8)))] [] 0 0) ?_ λI=>?_;rotate_left
 .refine pN (λk:Nat=>(s0 226 fI [(5,Z8 r.Cards m N),(7,aE aj v),(8,aE aj cs),(9,.rsl 0 0 (alF r (CA r m N) cs k).length),(10,iG (k:Int))] [(0,oLs (alF r (CA r m N) cs k))] 1 0)) 11111110122 (DV (n:=min cs.length 8) aa) [] [hc (rfl:3=3),hc (nH.imm [[1],[2],[3]])] (λB k u hs k5 Q=>?_) [] [(0,0)] [(0,.row)];unfold Ja at hs;split at hs
  .rename_i hlt;obtain rfl:=A9 hs;obtain⟨x,hx⟩:∃x,cs[k]?=some x:=⟨_,DQ aa⟩;have hz:=AH hx;have k5:=k5 _ rfl;rw[aS k x hx] at k5;have:=(aL k).1;have:=(hsl x).1;have hn:=hN x;generalize alF r (CA r m N) cs k=a at*;generalize M4 r ((CA r m N).o x)=s at*;exact jw [hr 40 (C5 hx),hr 43 (show decide ((k:Int)<8)=true from C6 aa),AA 51 (ac.ixZ hz),AA 52 (ac.ptZ aW hz),hf 53 hn,ha 54 ((a++s).flatMap Jc) (a++s).length (p:=(a.flatMap Jc).length=a.length*1/\(s.flatMap Jc).length=s.length*1/\(a.length+s.length)*24<=140737488355328/\a.flatMap Jc++s.flatMap Jc=(a++s).flatMap Jc/\a.length+s.length=(a++s).length) ⟨nH.len a,nH.len s,aa,by rw[List.flatMap_append],by rw[RU]⟩,hbb 46 (Xl (q:=k) aa)] [hc (el (a++s)),hc (nH.imm (a++s))] k5 [] [(0,1)] [(0,.row)]
  .split at hs
   .rename_i he;rw[<-he] at I;by_cases h8:k=cs.length
    .subst h8;exact yl 111111101 [hr 40 (DG (s:=cs))] [hc (nH.al (alF r (CA r m N) cs cs.length))] I
    .obtain⟨x,hx⟩:∃x,cs[k]?=some x:=⟨_,DQ aa⟩;exact yl 111111101 [hr 40 (C5 hx),hr 43 (show decide ((k:Int)<8)=false from Dd aa)] [hc (nH.al (alF r (CA r m N) cs k))] I
   .cases hs
 have hall:=(aL (min cs.length 8)).2;have hlen:=(aL (min cs.length 8)).1;generalize alF r (CA r m N) cs (min cs.length 8)=A at*;refine pN (λk:Nat=>(s0 226 fI [(5,Z8 r.Cards m N),(7,aE aj v),(8,aE aj cs),(9,aE Jc A),(11,iG (k:Int))] [] 0 0)) 111111110122 (DV (n:=A.length) aa) [] [] (λB k u hs k5 Q=>?_);unfold Ja at hs;split at hs
 .rename_i F;obtain rfl:=A9 hs;obtain⟨s,hs⟩:∃s,A[k]?=some s:=⟨_,DQ F⟩;have hz:=AH hs;have k5:=k5 _ rfl;have hsn:=hall s (bO hs);have hk:=hK s aa;cases hq:OP (CA r m N) (λx=>M4 r ((CA r m N).o x)) cs s with
  |none=>rw[hq] at hk;exact jw [hr 58 (C5 hs),AA 66 (nH.ixZ hz),AA 67 (nH.p1Z Vs hz),hf 68 hk,hbb 60 (Xl (q:=k) aa)] [] k5 []
  |some q=>
   rw[hq] at hk;by_cases h0:q.By=⟨0,0,0⟩
   .exact jw [hr 58 (C5 hs),AA 66 (nH.ixZ hz),AA 67 (nH.p1Z Vs hz),hf 68 hk,hV 77 (dU q.By ⟨0,0,0⟩ (r:=true) (by simp[h0])),hbb 60 (Xl (q:=k) aa)] [] k5 []
   .obtain⟨x,n,t,rfl,R,S,J,U,V,W⟩:=(D hq).resolve_left h0;obtain⟨i,o,i1,i2,M,X,i5,i6,Y,_⟩:=ZZ P h14 hkn (hcs x R);have hO:=E x;have hS:=hN x;rw[M] at hO hS J;rw[X] at hO;generalize M4 r o=T at*;have hn:=(cr J).1;obtain⟨y,hy⟩:∃y,o.Path[n]?=some y:=⟨_,DQ aa⟩;rw[show UB (CA r m N) x n=y.Pub by unfold UB;rw[M,hy];rfl] at hk;have H:=AH hy;have C:=AH J;have Z:=(Y.m t (bO J)).2.1;have hh:=Ab8 (l:=s) aa x.By;rw[S] at hh;refine Ix 11111111012210211111101 (s0 226 fI [(5,Z8 r.Cards m N),(7,aE aj v),(8,aE aj cs),(9,aE Jc A),(11,iG (k:Int)),(12,.ptr (Hd ⟨s,y.Pub,x,(n:Int)⟩) 0)] [] 0 0) ?_ λI=>?_;rotate_left
    .refine pN (λj:Nat=>(s0 226 fI [(5,Z8 r.Cards m N),(7,aE aj v),(8,aE aj cs),(9,aE Jc A),(11,iG (k:Int)),(12,.ptr (Hd ⟨s,y.Pub,x,(n:Int)⟩) 0),(14,aE Jc T),(17,iG (j:Int))] [] 0 0)) 1111111101221021111110122 (DV (n:=s.length) aa) [hr 58 (C5 hs),AA 66 (nH.ixZ hz),AA 67 (nH.p1Z Vs hz),hf 68 hk,hV 77 (dU x ⟨0,0,0⟩ (r:=false) (Dd h0)),hf 82 hS,hf 87 hO,hr 95 (show decide ((n:Int)<0)=false from Dd aa),hr 102 (show decide ((T.length:Int)<=(n:Int))=false from Dd aa),hr 110 (show decide (ah o.Path<=(n:Int))=false from Dd (by unfold ah;omega)),AA 116 (bZ.ixZ H),AA 118 (bZ.fdZ tW 0 H),hr 121 (neZ (y.Pub:Int)),AA 126 (nH.ixZ C),AA 127 (nH.p1Z Vs C),AA 131 (nH.ixZ hz),AA 132 (nH.p1Z Vs hz),hr 134 (show decide ((t.length:Int)≠(s.length:Int))=false by rw[U];simp),AA 139 (nH.ixZ hz),AA 140 (nH.p1Z Vs hz),hf 144 hh] [hc (eB (gs:=Hd ⟨s,y.Pub,x,(n:Int)⟩) aH)] (λB' j u hs' g L=>?_);unfold Ja at hs';split at hs'
     .rename_i hj;obtain rfl:=A9 hs';obtain⟨d,hd⟩:∃d,s[j]?=some d:=⟨_,DQ hj⟩;have f:=AH hd;have g:=g _ rfl;have hh:=Ab8 (l:=t) aa d;rw[show LB t d=true from C6 (V d (bO hd))] at hh;exact jw [AA 150 (nH.ixZ hz),AA 151 (nH.p1Z Vs hz),hr 153 (C5 hd),AA 159 (nH.ixZ C),AA 160 (nH.p1Z Vs C),AA 163 (nH.ixZ hz),AA 164 (nH.p1Z Vs hz),AA 166 (rZ.ixZ f),AA 167 (rZ.p1Z tZ f),hf 168 hh,hbb 155 (Xl (q:=j) aa)] [] g []
     .split at hs'
      .rename_i he;subst he;exact yl 11111111012210211111101 [AA 150 (nH.ixZ hz),AA 151 (nH.p1Z Vs hz),hr 153 (DG (s:=s))] [] I
      .cases hs'
    refine pN (λj:Nat=>(s0 226 fI [(5,Z8 r.Cards m N),(7,aE aj v),(8,aE aj cs),(9,aE Jc A),(11,iG (k:Int)),(12,.ptr (Hd ⟨s,y.Pub,x,(n:Int)⟩) 0),(18,iG (j:Int))] [] 0 0)) 1111111101221021111111122 (DV (n:=cs.length) aa) [] [] (λB' j u hs' g L=>?_);unfold Ja at hs';split at hs'
    .rename_i hj;obtain rfl:=A9 hs';obtain⟨z,hd⟩:∃z,cs[j]?=some z:=⟨_,DQ hj⟩;have f:=AH hd;have g:=g _ rfl;by_cases hzx:z=x
     .exact jw [hr 173 (C5 hd),AA 178 (ac.ixZ f),AA 179 (ac.ptZ aW f),hV 182 (dy z x (r:=false) (by simp[hzx])),hbb 175 (Xl (q:=j) aa)] [] g []
     .have hh:=Ab8 (l:=s) aa z.By;cases c:LB s z.By with
      |false=>rw[c] at hh;exact jw [hr 173 (C5 hd),AA 178 (ac.ixZ f),AA 179 (ac.ptZ aW f),hV 182 (dy z x (r:=true) (by simp[hzx])),AA 186 (nH.ixZ hz),AA 187 (nH.p1Z Vs hz),AA 190 (ac.ixZ f),AA 192 (ac.fdZ tZ 0 f),hf 193 hh,hbb 175 (Xl (q:=j) aa)] [] g []
      |true=>
       rw[c] at hh;obtain⟨z1,z2⟩:=W z (bO hd) c hzx;have hb:=hbf z x;have hl2:=hlt x z;rw[show decide (JK (OR ⟨r.Cards,m,N⟩) x z<0)=false from Dd λh=>Np x ((SJ (CA r m N)).tr _ _ _ h z2)] at hl2;cases e:(CA r m N).bef z x with
       |true=>rw[e] at hb;exact jw [hr 173 (C5 hd),AA 178 (ac.ixZ f),AA 179 (ac.ptZ aW f),hV 182 (dy z x (r:=true) (by simp[hzx])),AA 186 (nH.ixZ hz),AA 187 (nH.p1Z Vs hz),AA 190 (ac.ixZ f),AA 192 (ac.fdZ tZ 0 f),hf 193 hh,AA 200 (ac.ixZ f),AA 201 (ac.ptZ aW f),hf 204 hb,hbb 175 (Xl (q:=j) aa)] [] g []
       |false=>
        rw[e] at hb;have h1:decide ((1:Int)<(s.length:Int))=false:=Dd λh=>by rw[z1 aa] at e;cases e
        exact jw [hr 173 (C5 hd),AA 178 (ac.ixZ f),AA 179 (ac.ptZ aW f),hV 182 (dy z x (r:=true) (by simp[hzx])),AA 186 (nH.ixZ hz),AA 187 (nH.p1Z Vs hz),AA 190 (ac.ixZ f),AA 192 (ac.fdZ tZ 0 f),hf 193 hh,AA 200 (ac.ixZ f),AA 201 (ac.ptZ aW f),hf 204 hb,AA 210 (nH.ixZ hz),AA 211 (nH.p1Z Vs hz),hr 213 h1,AA 220 (ac.ixZ f),AA 221 (ac.ptZ aW f),hf 222 hl2,hbb 175 (Xl (q:=j) aa)] [] g []
    .split at hs'
     .rename_i he;subst he;exact jw [hr 173 (DG (s:=cs)),hbb 60 (Xl (q:=k) aa)] [] k5 []
     .cases hs'
 .split at hs
  .rename_i he;subst he;exact Ar [hr 58 (DG (s:=A)),hf 225 K] []
  .cases hs
end Go.Proofs.YtghphhhpagagbaaGreatDoor
