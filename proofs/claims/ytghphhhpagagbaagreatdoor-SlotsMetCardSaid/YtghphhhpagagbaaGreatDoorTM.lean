/- SlotsMet: the law's walk. -/
import Derived.Test.YtghphhhpagagbaaGreatDoorU6
namespace Go.Proofs.YtghphhhpagagbaaGreatDoor
set_option linter.unusedSectionVars false
set_option linter.unusedVariables false
set_option linter.unusedSimpArgs false
open Go.RowKit Go.Proofs.Tryz
attribute [local irreducible] Tr dz Gp
theorem dh{I:Gi}{ss:Ab->Lw}{cs:Bf}{d:Int}(h:OP I ss cs [d]=none):I.card d=none:=by
 unfold OP at h;split at h
 .exact Option.map_eq_none_iff.1 h
 .rw[Bz (show[d].length=1 from rfl)] at h;cases h
theorem cG{I:Gi}{ss:Ab->Lw}{cs:Bf}:∀(n:Nat) (s:Bj),s.length<n->s.length<=1000->(∀d∈s,(I.card d).isSome=true)->((bo I ss cs n s).flatMap (·.Set)=s/\∀q∈bo I ss cs n s,q.Set≠[])/\(s.length=1->(bo I ss cs n s).length=1)
 |0,_,h,_,_=>absurd h (Nat.not_lt_zero _)
 |n+1,s,h,hs,hd=>by
  unfold bo;split
  .rename_i q e;have:=dB e;have hne:s≠[]:=λh0=>by rw[h0,cQ] at e;cases e
   simp[this,hne]
  .rename_i e;by_cases h1:1<s.length
   .rw[Bz h1];obtain⟨_,k1,k2⟩:=YD (n:=s.length) aa aa;obtain⟨⟨a1,a2⟩,_⟩:=cG (I:=I) (ss:=ss) (cs:=cs) n (s.take (YC s.length)) cq cq λd h=>hd d (List.mem_of_mem_take h);obtain⟨⟨b1,b2⟩,_⟩:=cG (I:=I) (ss:=ss) (cs:=cs) n (s.drop (YC s.length)) cq cq λd h=>hd d (List.mem_of_mem_drop h);refine⟨⟨by rw[List.flatMap_append,a1,b1,O7],λq hq=>?_⟩,λh=>absurd h aa⟩;rcases HU.1 hq with hq|hq
    .exact a2 q hq
    .exact b2 q hq
   .rw[BB h1];match s,hd,e,h1 with
    |[],_,_,_=>simp
    |[d],hd,e,_=>have:=hd d aC;rw[dh e] at this;cases this
    |_::_::_,_,_,h1=>exact absurd aC h1
theorem dD(e:ba prog fI 19 [] (bG true)){l pt st:Bj}(hl:l.length<=9223372036854775807)(hi:∀x∈l,c8 x)(_:pt.length<=9223372036854775807)(hp:∀x∈pt,c8 x)(_:st.length<=9223372036854775807)(hst:∀x∈st,c8 x):ba prog fI 9 [aE cZ l,aE cZ pt,aE cZ st] (bG true):=by
 obtain⟨r,m,N,P,h14,hkn,g,C,hM⟩:=Z2 hl hi;have w:=P.w;have nI:=w.nI;obtain⟨v,ev,y,z⟩:=Aba w w.nd hp;obtain⟨row,c1,_,_,_,c4⟩:=Pw P h14 hkn y z;obtain⟨so,es,hso⟩:=dL hst;have hcd:=(YF (VB w P.p)).card;have e1:=ac.fo (SE fI ev);have e3:=rZ.fo (bR fI es);have hK:=λ(s:Bj) (hs:s.length<=1000)=>dQ P h14 hkn (cs:=row.filter (TD r (CA r m N))) (λx hx=>(Hj.1 hx).2) (JD (KY ..) c4) (set:=s) aa;have hset:=λ(s:Bj)=>cG (I:=CA r m N) (ss:=λx=>M4 r ((CA r m N).o x)) (cs:=row.filter (TD r (CA r m N))) (s.length+1) s aa;simp only[Ag,RJ] at c1 hcd hK;have b:=λ(s:Bj) (hs:s.length<=1000)=>av.fo (dm c1 hK hs);have hown:(so.filter λd=>((CA r m N).card d).isSome).length<=6:=JD (KY ..) hso;have b:=b (so.filter λd=>((CA r m N).card d).isSome) aa;obtain⟨⟨f,i⟩,j⟩:=hset (so.filter λd=>((CA r m N).card d).isSome) aa λd h=>(Hj.1 h).2;have hcl:=bU (I:=CA r m N) (ss:=λx=>M4 r ((CA r m N).o x)) (cs:=row.filter (TD r (CA r m N))) ((so.filter λd=>((CA r m N).card d).isSome).length+1) (so.filter λd=>((CA r m N).card d).isSome);refine Gh func9 ?_;refine pO 11110 (s0 93 fI [(1,aE cZ pt),(2,aE cZ st),(7,Z8 r.Cards m N),(8,.ptr (aI r) 0)] [] 0 0) [tN 20 [] 0 [] [aE cZ l] [ob 0 111 [aE bv r.Cards,.mref 1,.rsl 2 0 N.length],(1,oM m),(2,zQ N)] hM trivial ⟨⟨rfl,.inl rfl⟩,⟨rfl,rfl,rfl,rfl,.inr ⟨rfl,cf _⟩⟩,⟨rfl,.inr ⟨rfl,az.imm _⟩⟩,trivial⟩] [hc (cf m),hc (az.al N),hc (eB (gs:=[aE bv r.Cards,gMp m,aE d7 N]) aH),hc (eB (gs:=aI r) aH)] ?_;refine Ix 111111101 (s0 93 fI [(7,Z8 r.Cards m N),(9,aE aj v),(11,aE cZ (so.filter λd=>((CA r m N).card d).isSome))] [] 0 0) ?_ λA=>?_;rotate_left
 .refine pN (λk:Nat=>(s0 93 fI [(7,Z8 r.Cards m N),(9,aE aj v),(10,aE cZ so),(11,.rsl 0 0 ((so.take k).filter λd=>((CA r m N).card d).isSome).length),(12,iG (k:Int))] [(0,KS ((so.take k).filter λd=>((CA r m N).card d).isSome))] 1 0)) 11111110122 (DV (n:=so.length) aa) [hf 27 e1,hf 29 e3] [hc (rZ.imm [])] (λB k u hs k5 t=>?_) [3] [(0,0)] [(0,.row)];unfold Ja at hs;split at hs
  .rename_i hlt;obtain rfl:=A9 hs;obtain⟨x,hx⟩:∃x,so[k]?=some x:=⟨_,DQ hlt⟩;have hz:=AH hx;have k5:=k5 _ rfl;have h1:=hcd x;have h2:((so.take k).filter λd=>((CA r m N).card d).isSome).length<=6:=by refine JD (KY ..) ?_;rw[Mh];omega
   rw[JM,hx,Option.toList_some,RT] at k5;generalize (so.take k).filter (λd=>((CA r m N).card d).isSome)=a at*;cases c:((CA r m N).card x).isSome with
   |true=>rw[show((OR ⟨r.Cards,m,N⟩).card x).isSome=true from c] at h1;rw[List.filter_cons_of_pos (p:=λd=>((CA r m N).card d).isSome) c,List.filter_nil] at k5;exact jw [hr 33 (C5 hx),AA 40 (rZ.ixZ hz),AA 41 (rZ.p1Z tZ hz),hf 42 h1,AA 49 (rZ.ixZ hz),AA 50 (rZ.p1Z tZ hz),Tn 52 rZ 8 a x aa,hbb 35 (Xl (q:=k) aa)] [hc (el (a++[x])),hc (rZ.imm (a++[x]))] k5 [] [(0,3)] [(0,.row)]
   |false=>rw[show((OR ⟨r.Cards,m,N⟩).card x).isSome=false from c] at h1;rw[List.filter_cons_of_neg (p:=λd=>((CA r m N).card d).isSome) (by simp[c]),List.filter_nil,Nf] at k5;exact jw [hr 33 (C5 hx),AA 40 (rZ.ixZ hz),AA 41 (rZ.p1Z tZ hz),hf 42 h1,hbb 35 (Xl (q:=k) aa)] [hc (el a),hc (rZ.imm a)] k5 [] [(0,0)] [(0,.row)]
  .split at hs
   .rename_i he;subst he;rw[EY];exact yl 111111101 [hr 33 (DG (s:=so))] [hc (rZ.al (so.filter λd=>((CA r m N).card d).isSome))] A
   .cases hs
 generalize so.filter (λd=>((CA r m N).card d).isSome)=own at*;generalize bo _ _ _ _ own=cv at*;have hpre:∀k,((cv.take k).flatMap (·.Set)).length<=6:=λk=>by
  have:(cv.flatMap (·.Set)).length=((cv.take k).flatMap (·.Set)).length+((cv.drop k).flatMap (·.Set)).length:=by rw[<-RU,<-List.flatMap_append,O7]
  rw[f] at this;omega
 refine pN (λk:Nat=>(s0 93 fI [(11,aE cZ own),(15,aE Hd cv),(16,.rsl 0 0 ((cv.take k).flatMap (·.Set)).length),(17,iG (k:Int))] [(0,KS ((cv.take k).flatMap (·.Set)))] 1 0)) 11111111110122 (DV (n:=cv.length) aa) [hf 56 b] [hc (rZ.imm [])] (λB k u hs k5 t=>?_) [3] [(0,0)] [(0,.row)];unfold Ja at hs;split at hs
 .rename_i hlt;obtain rfl:=A9 hs;obtain⟨x,hx⟩:∃x,cv[k]?=some x:=⟨_,DQ hlt⟩;have hz:=AH hx;have k5:=k5 _ rfl;have h2:=hpre k;have h3:=hpre (k+1);have hne:=i x (bO hx);have h0:0<x.Set.length:=List.length_pos_iff.2 hne;rw[JM,hx,Option.toList_some,List.flatMap_append,show[x].flatMap (·.Set)=x.Set by simp] at k5 h3;rw[RU] at h3;generalize (cv.take k).flatMap (·.Set)=a at*;exact jw [hr 60 (C5 hx),AA 65 (av.ixZ hz),AA 67 (av.fdZ Vs 0 hz),hr 69 (show decide ((x.Set.length:Int)=0)=false from Dd aa),AA 73 (av.ixZ hz),AA 75 (av.fdZ Vs 0 hz),AmK 76 rZ 8 a x.Set aa,hbb 62 (Xl (q:=k) aa)] [hc (el (a++x.Set)),hc (rZ.imm (a++x.Set))] k5 [] [(0,1)] [(0,.row)]
 .split at hs
  .rename_i he;subst he;rw[EY,f];have h5:=UT (gl:=fI) (l:=own) aa;by_cases h1:own.length=1
   .exact Ar [hr 60 (DG (s:=cv)),hq 79 [aE cZ own,aE cZ own] [hc (rZ.al own)] h5,hr 83 (show decide ((own.length:Int)≠1)=false from Dd aa),hr 87 (show decide ((cv.length:Int)=1)=true from C6 (by rw[j h1];rfl)),hf 91 e] []
   .exact Ar [hr 60 (DG (s:=cv)),hq 79 [aE cZ own,aE cZ own] [hc (rZ.al own)] h5,hr 83 (show decide ((own.length:Int)≠1)=true from C6 aa),hf 91 e] []
  .cases hs
end Go.Proofs.YtghphhhpagagbaaGreatDoor
