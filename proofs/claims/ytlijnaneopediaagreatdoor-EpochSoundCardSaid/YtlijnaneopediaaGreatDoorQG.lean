/- Texts. -/
import Derived.Test.YtlijnaneopediaaGreatDoorZ1
namespace Go.Proofs.YtlijnaneopediaaGreatDoor
set_option linter.unusedSectionVars false
set_option linter.unusedVariables false
set_option linter.unusedSimpArgs false
open Go.RowKit Tryz
attribute [local irreducible] Tr dz Gp
variable (gl:Cd)
variable {α:Type}{a b x:Ab}{f i j k v:Nat}{W ids l:A3}{g:AQ}{o:Bj}{m n r:Int}{N:Jk}{gg:Aj}{P:Br}{st:St}{al:Bb}{fi:FuncId}{I:Gi}
theorem ye:dt a b=true↔a.By<b.By\/(a.By=b.By/\(a.Seq<b.Seq\/(a.Seq=b.Seq/\a.Sum<b.Sum))):=by grind [dt]
def rN(a b:Ab):Prop:=dt b a=false
theorem KG{c:Ab}(h1:rN a b)(h2:rN b c):rN a c:=by grind [rN,ye]
theorem F9(h:dt a b=true):rN a b:=by grind [rN,ye]
theorem Cy{x:α}{l:List α}:(l.take k++[x]++l.drop k).Perm (l++[x]):=by grind [List.perm_append_comm,Pu]
theorem kg(hl:l.length<=1000000):T (iu l) λr=>r.Perm l/\r.Pairwise rN:=by
 unfold iu;refine .bind (T.forA l.length (λk acc=>acc.Perm (l.take k)/\acc.Pairwise rN) aa (by simp_all) (λk acc hk hj=>?_) λacc hj=>?_)
 .obtain⟨x,hx⟩:∃x,l[k]?=some x:=by simp_all
  have ha:acc.length<=1000000:=by have:=hj.1.length_eq;grind
  unfold oZ;dsimp only;rw[eA hk,ax];refine .bind (T.mono (Q:=λq:Int=>∃n:Nat,q=(n:Int)/\n<=acc.length/\(∀(j:Nat) (y:Ab),n<=j->acc[j]?=some y->dt x y=true)/\∀(y:Ab),0<n->acc[n-1]?=some y->dt x y=false) (T.loop (λq=>∃n:Nat,q=(n:Int)/\n<=acc.length/\∀(j:Nat) (y:Ab),n<=j->acc[j]?=some y->dt x y=true) (λq=>q.toNat) ⟨acc.length,rfl,Dl _,(by grind)⟩ (by unfold ah;omega) ?_) ?_)
  .rintro q ⟨n,rfl,hn,b⟩;unfold vB;dsimp only;refine .dec (λh0=>?_) λh0=> .some ⟨n,rfl,hn,b,(by grind)⟩;obtain⟨y,hy⟩:∃y,acc[n-1]?=some y:=by grind
   rw[au,hx,aL,F7 aa aa,au,hy,aL,pJ,aL];refine .ite (λhf=> .some ⟨n,rfl,hn,b,(by grind)⟩) λht=> .some (by constructor<;>grind);all_goals grind
  .rintro q ⟨n,rfl,hn,h1,h2⟩;refine .bind (.pre aa aa (.bind (.app cq ?_)));rw[au,hx,aL];refine .bind (.app cq (.bind (.suf aa aa (.bind (.app cq (.some ⟨aq aa,?_,?_⟩))))))
   .grind [Cy,Hp]
   .show([]++acc.take (n:Int).toNat++[x]++acc.drop (n:Int).toNat).Pairwise rN;rw[Ni,EO];have hp:=hj.2;rw[<-Pu n acc,List.pairwise_append] at hp;obtain⟨c,d,e⟩:=hp;have low:∀a∈acc.take n,rN a x:=by grind [rN,G9,List.pairwise_iff_getElem,KG]
    grind [G9,F9]
 .unfold oZ;dsimp only;rw[eF,A7];refine .some (.some ?_);grind
theorem Cz(w:Fq g):T (xt g) λr=>r.Perm g.IDs/\r.Pairwise rN:= .bind (by grind [T.mono,kg,Fq.nI,Fq.nL,T.some])
def uX(g:AQ)(ids:A3)(k:Nat):Prop:=∃x∈ids,∃n,bu x g.IDs=some n/\Pm g n k=true
theorem EB(w:Fq g){ids:A3}(hl:ids.length<=1000):T (r9 g ids) λr=>r.Nodup/\(∀x,x∈r↔∃k,g.IDs[k]?=some x/\uX g ids k)/\r.Pairwise rN/\r.length<=g.L.length:=by
 have nL:=w.nL;have nI:=w.nI;unfold r9;refine .bind (T.forA g.L.length (λk acc=>acc.length<=k/\acc.Nodup/\∀x,x∈acc↔∃j,j<k/\g.IDs[j]?=some x/\uX g ids j) aa ⟨aC,aC,λx=>aC⟩ (λk acc hk hj=>?_) λacc hj=>?_)
 .obtain⟨y,hy⟩:∃y,g.IDs[k]?=some y:=⟨_,EH aa⟩;unfold t8;dsimp only;rw[eA hk,ax];refine .bind (T.mono (Q:=λb:Bool=>b=true↔uX g ids k) (T.forA ids.length (λm b=>b=true↔∃(j:Nat) (x:Ab) (n:Nat),j<m/\ids[j]?=some x/\bu x g.IDs=some n/\Pm g n k=true) aa aC (λm b hm hjm=>?_) λb hjm=>?_) λb hb=>?_)
  .obtain⟨x,hx⟩:∃x,ids[m]?=some x:=⟨_,EH hm⟩;unfold t7;dsimp only;rw[eA hm,ax,au,hx,aL,dC aa,aL];refine .bind (T.mono (Q:=λc:Bool=>c=true↔(b=true\/∃n,bu x g.IDs=some n/\Pm g n k=true)) ?_ λc hc=> .some ⟨aq aa,?_⟩)
   .refine .ite (λhb=> .some (by simp[hb])) λhb=>?_;unfold gO;cases hkx:bu x g.IDs with
    |none=>grind [T.some]
    |some n=>
     have hn:n<g.L.length:=by have:=(cr (gb hkx).1).1;omega
     grind [Fq,E1,au,T.some,wO]
   grind
  .unfold t7;dsimp only;rw[eF,A7];refine .some ?_;show b=true↔_;rw[hjm];constructor
   .rintro⟨j,x,n,_,h2,h3,h4⟩;exact⟨x,bO h2,n,h3,h4⟩
   .rintro⟨x,hx,n,h3,h4⟩;grind [G9]
  .refine .ite (λhbt=>?_) λhbf=> .some ⟨aq aa,by show acc.length<=k+1;have:=hj.1;omega,hj.2.1,λx=>?_⟩
   .have hin:=hb.1 hbt;rw[au,hy,aL];have hny:y∉acc:=λhm=>by obtain⟨j,h1,h2,_⟩:=(hj.2.2 y).1 hm;have:=(List.getElem?_inj (show j<g.IDs.length by omega) w.nd).1 (h2.trans hy.symm);omega
    refine .bind (.app (by grind) (.some ⟨aq aa,by simp;exact hj.1,?_,λx=>?_⟩));all_goals grind
   .show x∈acc↔_;rw[hj.2.2 x];constructor
    .rintro⟨j,h1,h2⟩;exact⟨j,aa,h2⟩
    .rintro⟨j,h1,h2,h3⟩;rcases It j k with hlt|hge
     .exact⟨j,hlt,h2,h3⟩
     .obtain rfl:j=k:=aa;rw[hb.2 h3] at hbf;cases hbf
 .unfold t8;dsimp only;rw[eF,A7];refine .some (.bind ((kg (by grind)).mono λr hr=> .some ⟨hr.1.nodup_iff.2 hj.2.1,λx=>?_,hr.2,by rw[hr.1.length_eq];exact hj.1⟩));rw[hr.1.mem_iff,hj.2.2 x];constructor
  .rintro⟨j,_,h2⟩;exact⟨j,h2⟩
  .rintro⟨j,h2,h3⟩;exact⟨j,by have:=(cr h2).1;omega,h2,h3⟩
structure EA (g:AQ) (r:A3):Prop where
 sub:∀x∈r,x∈g.IDs
 len:r.length<=1000
theorem Sf(z:Int):DW (wI z):=by grind [DW,wI,IntKind.wrap_i64]
theorem nD(h:gU o=true):(1<=o.By/\o.By<=12)/\(1<=o.Seq/\o.Seq<=2147483647)/\0<=o.At/\o.At<=2147483647:=by have e:=jF o;rw[h] at e;unfold Ge at e;simp only[gT,aL] at e;grind
theorem l8(h:gU o=true)(hk:o.Kind=9):1<=o.Need/\o.Need<=(o.Guards.length:Int):=by obtain⟨h1,h2,h3⟩:=nD h;have e:=jF o;rw[h] at e;unfold Ge at e;simp only[gT,aL,hk,CO h1,CO h2,CO h3] at e;grind [ah]
theorem Fq.name{g:AQ}(w:Fq g){x:Ab}(h:x∈g.IDs):∃i o,g.IDs[i]?=some x/\g.L[i]?=some o/\bu x g.IDs=some i/\i<g.L.length/\JU x/\x.By=o.By/\x.Seq=o.Seq/\Be o/\Gd o:=by have nI:=w.nI;obtain⟨i,hi⟩:=G9 h;have hlt:=(cr hi).1;obtain⟨o,ho,so,a⟩:=w.op (i:=i) aa;obtain⟨y,e,h1,h2,_,h4⟩:=wN so;grind [ids,y0,List.getElem?_inj,nd]
theorem Fq.place{g:AQ}(w:Fq g){x:Ab}(h:0<=gO g x):∃i o,gO g x=(i:Nat)/\g.IDs[i]?=some x/\g.L[i]?=some o/\x∈g.IDs/\Be o/\Gd o:=by
 have nI:=w.nI;unfold gO at h⊢;cases hk:bu x g.IDs with
 |none=>rw[hk] at h;simp at h
 |some i=>have hi:=(gb hk).1;grind [op]
theorem lj:0<=gO g x↔x∈g.IDs:=by grind [gO,jv]
theorem EC{α:Type}[DecidableEq α]:∀{l m:List α},l.Nodup->(∀x∈l,x∈m)->l.length<=m.length
 |[],_,_,_=>aC
 |x::r,m,h,hs=>by have hx:=hs x aC;have h2:=Mi.1 h;have:=EC (l:=r) (m:=m.erase x) h2.2 (by grind);grind
theorem yf(w:Fq g){ids:A3}(hl:ids.length<=1000):T (Ko g ids) λr=>EA g r/\r.Nodup/\(∀x,x∈r↔(∃k,g.IDs[k]?=some x/\uX g ids k)\/x∈ids/\x∈g.IDs)/\r.Pairwise rN:=by
 have nL:=w.nL;have nI:=w.nI;unfold Ko;refine .bind ((EB w aa).mono λa h1=>?_);obtain⟨c,b,d,e⟩:=h1;refine .bind (T.forA ids.length (λk acc=>acc.length<=a.length+k/\acc.Nodup/\∀x,x∈acc↔x∈a\/∃j,j<k/\ids[j]?=some x/\x∈g.IDs) aa (by grind) (λk acc hk hj=>?_) λacc hj=>?_)
 .obtain⟨y,hy⟩:∃y,ids[k]?=some y:=⟨_,EH hk⟩;unfold t9;dsimp only;rw[eA hk,ax,au,hy];simp only[aL];rw[dC aa,aL,kf aa];simp only[aL];rw[cL,aL];refine .ite (λhb=>?_) λhb=> .some ⟨aq aa,by grind,hj.2.1,λx=>?_⟩
  .by_cases hp:0<=gO g y
   .rw[CO hp,ax] at hb;have hny:y∉acc:=by grind [nA]
    refine .bind (.app cq (.some ⟨aq aa,by grind,?_,λx=>?_⟩))
    .grind
    grind [lj]
   grind
  grind [lj,nA]
 .unfold t9;dsimp only;rw[eF,A7];refine .some (.bind ((kg aa).mono λr hr=>?_));have key:∀x,x∈r↔(∃k,g.IDs[k]?=some x/\uX g ids k)\/x∈ids/\x∈g.IDs:=λx=>by rw[hr.1.mem_iff,hj.2.2 x,b x];grind [G9]
  have hsub:∀x∈r,x∈g.IDs:=by grind
  have hnd:r.Nodup:=hr.1.nodup_iff.2 hj.2.1;exact .some ⟨⟨hsub,by have:=EC hnd hsub;omega⟩,hnd,key,hr.2⟩
theorem KH(w:Fq g)(hl:ids.length<=1000):T (qL g ids) λr=>EA g r/\r.Nodup/\(∀x,x∈r↔x∈ids/\x∈g.IDs/\¬∃k,g.IDs[k]?=some x/\uX g ids k)/\r.Pairwise rN:=by
 have nL:=w.nL;have nI:=w.nI;unfold qL;refine .bind ((EB w aa).mono λa h1=>?_);obtain⟨d,c,f,i⟩:=h1;refine .bind (T.forA ids.length (λk acc=>acc.length<=k/\acc.Nodup/\∀x,x∈acc↔∃j,j<k/\ids[j]?=some x/\x∈g.IDs/\x∉a) aa ⟨aC,aC,λx=>aC⟩ (λk acc hk hj=>?_) λacc hj=>?_)
 .obtain⟨y,hy⟩:∃y,ids[k]?=some y:=⟨_,EH hk⟩;unfold qK;dsimp only;rw[eA hk,ax,au,hy];simp only[aL];rw[dC aa,aL,kf aa,kf aa];simp only[aL];rw[cL,cL,aL];have m1:nA a y=true↔y∈a:=by
   constructor
   .intro h;obtain⟨z,hz,e⟩:=List.any_eq_true.1 h;rw[DD e] at hz;exact hz
   .intro h;exact List.any_eq_true.2 ⟨y,h,aC⟩
  have m2:nA acc y=true↔y∈acc:=by
   constructor
   .intro h;obtain⟨z,hz,e⟩:=List.any_eq_true.1 h;rw[DD e] at hz;exact hz
   .intro h;exact List.any_eq_true.2 ⟨y,h,aC⟩
  have hc:∀b:Bool,(bif 0<=gO g y then bif !nA a y then !nA acc y else false else false)=b->(b=true↔y∈g.IDs/\y∉a/\y∉acc):=λb hb=>by rw[<-hb,<-lj,<-m1,<-m2];by_cases q1:0<=gO g y<;>cases nA a y<;>cases nA acc y<;>simp[q1]
  refine .ite (λhb=>?_) λhb=> .some ⟨aq aa,by show acc.length<=k+1;omega,hj.2.1,λx=>?_⟩
  .obtain⟨q1,l,m⟩:=(hc true hb).1 rfl;refine .bind (.app cq (.some ⟨aq aa,by grind,?_,λx=>?_⟩));all_goals grind
  .have q:=hc false hb;show x∈acc↔_;rw[hj.2.2 x];constructor
   .rintro⟨j,h1,h2⟩;exact⟨j,aa,h2⟩
   .rintro⟨j,h1,h2,h3,h4⟩;rcases It j k with hlt|hge
    .exact⟨j,hlt,h2,h3,h4⟩
    .obtain rfl:j=k:=aa;rw[hy] at h2;cases h2;by_cases hm:y∈acc
     .exact(hj.2.2 y).1 hm
     .have:=q.2 ⟨h3,h4,hm⟩;cases this
 .unfold qK;dsimp only;rw[eF,A7];refine .some (.bind ((kg aa).mono λr hr=>?_));have key:∀x,x∈r↔x∈ids/\x∈g.IDs/\¬∃k,g.IDs[k]?=some x/\uX g ids k:=λx=>by rw[hr.1.mem_iff,hj.2.2 x,<-c x];grind [G9]
  grind [T.some,EA,List.Perm.length_eq]
theorem QH(w:Fq g)(h:EA g ids)(d:Int):T (Fc g ids d) λn=>1<=n/\n<=2147483648:=by
 have hl:=h.len;unfold Fc;refine .bind (T.forA ids.length (λ_ n=>0<=n/\n<=2147483647) aa ⟨B5,B5⟩ (λk n hk hj=>?_) λn hj=>?_)
 .obtain⟨y,hy⟩:∃y,ids[k]?=some y:=⟨_,EH hk⟩;obtain⟨i,o,_,_,_,_,_,_,e,_,a⟩:=w.name (h.sub y (bO hy));have:=(nD a.numbers).2.1;unfold xu;dsimp only;rw[eA hk,ax,au,hy];simp only[aL];refine .dec (λ_=> .some ⟨aq aa,?_⟩) λ_=> .some ⟨aq aa,hj⟩;grind [E1]
 .unfold xu;dsimp only;rw[eF,A7];refine .some (.some ?_);grind [bM]
theorem N0(w:Fq g)(hl:ids.length<=1000):T (z8 g ids) λn=>0<=n/\n<=2147483647:=by
 have nL:=w.nL;have nI:=w.nI;unfold z8;refine .bind (T.forA ids.length (λ_ n=>0<=n/\n<=2147483647) aa ⟨B5,B5⟩ (λk n hk hj=>?_) λn hj=>?_)
 .obtain⟨y,hy⟩:∃y,ids[k]?=some y:=⟨_,EH hk⟩;unfold ue;dsimp only;rw[eA hk,ax,au,hy,aL,dC aa,aL];refine .dec (λhp=>?_) λ_=> .some ⟨aq aa,hj⟩;obtain⟨i,o,e,_,ho,_,_,a⟩:=w.place hp;have:=(nD a.numbers).2.2;rw[e,au,ho,aL];refine .some ⟨aq aa,?_⟩;grind [E1]
 .unfold ue;dsimp only;rw[eF,A7];exact .some (.some hj)
theorem eX(h:DW n)(hm:0<m):T (iq n m) λv=>0<=v/\v<m:=by obtain⟨h1,h2⟩:=h;grind [iq,T.rem,bM,Int.tmod_nonneg,Int.tmod_lt_of_pos]
def zId:Ab:=⟨0,0,0⟩
def Ys:Bj:=⟨0,0,0,0,[],0,0,0,0,[],⟨0,0,0⟩,0,[],[],⟨0,0,0⟩,[],0,0,[],0,[],⟨0,0⟩⟩
theorem dP:DW 0:=by unfold DW;omega
theorem pM:JU ⟨0,0,0⟩:=⟨dP,dP,by show(0:Nat)<_;omega⟩
theorem Wd:Be Ys:=by constructor<;>first|exact pM|(unfold Ys;simp;done)|(intro z hz;simp[Ys] at hz;subst hz;exact dP)|(show fS 0;unfold fS;omega)
theorem zb(w:Fq g)(h:EA g ids)(kd:Int):T (nS g ids kd) λr=>(r.1=zId/\r.2=Ys)\/(r.1∈ids/\Be r.2/\Gd r.2/\r.2.Kind=kd):=by
 have nL:=w.nL;have nI:=w.nI;have hl:=h.len;have e0:wI (ah g.L-1)=(g.L.length:Int)-1:=by grind [bM,ah]
 unfold nS;rw[e0];refine .bind (T.loop (λs=>s.1=zId/\s.2.1=Ys∧-1<=s.2.2/\s.2.2<g.L.length) (λs=>(s.2.2+1).toNat) ⟨rfl,rfl,by simp only;omega,by simp only;omega⟩ (by simp only;omega) ?_);rintro⟨a,b,i⟩ ⟨rfl,rfl,c,i1⟩;simp only at c i1;unfold vC;dsimp only;refine .dec (λhi=>?_) λhi=> .some (.some (.inl ⟨rfl,rfl⟩));obtain⟨n,rfl⟩:∃n:Nat,i=(n:Int):=⟨i.toNat,aa⟩;obtain⟨o,ho,so,d⟩:=w.op (i:=n) aa;obtain⟨x,hx⟩:∃x,g.IDs[n]?=some x:=⟨_,EH aa⟩;have ew:wI ((n:Int)-1)=(n:Int)-1:=bM aa aa;rw[au,ho,aL,au,hx];simp only[aL];rw[kf aa];simp only[aL];rw[cL,aL];refine .ite (λhb=> .some (.some (.inr ?_))) λhb=> .some ⟨⟨rfl,rfl,?_,?_⟩,?_⟩
 .by_cases hk:o.Kind=kd
  .rw[CO hk,ax] at hb;obtain⟨z,hz,e⟩:=List.any_eq_true.1 hb;grind
  grind
 all_goals grind
theorem yg{n:Int}(h1:n<=1000):T (o4 n) λr=>r.length<=1000/\(r.length:Int)=(if n<0 then 0 else n)/\∀x∈r,Ft x:=by
 unfold o4;refine .bind (T.forA n.toNat (λk acc=>acc.length=k/\∀x∈acc,Ft x) aa ⟨rfl,aC⟩ (λk acc hk hj=>?_) λacc hj=>?_)
 .unfold uc;dsimp only;rw[CO (show(k:Int)<n by omega),ax];refine .bind (.app cq (.some ⟨aq aa,by simp;exact hj.1,λx hx=>?_⟩));grind [Ft,fS,Mp]
 .unfold uc;dsimp only;rw[C5 (by grind),A7];refine .some (.some ⟨aa,?_,hj.2⟩);split<;>omega
theorem zc(w:Fq g)(d:Int):T (nT g d) λm=>DW m:=by grind [Fq.nC,nT,Cw,T.some,dP,mZ,Fq.cards]
theorem ED(w:Fq g)(d:Int)(h:0<=n/\n<=1000000):T (Sx g d n) λr=>EA g r:=by
 have nL:=w.nL;have nI:=w.nI;unfold Sx;refine .bind ((Cz w).mono λb hv1=>?_);have i1:EA g b:=by grind [EA,List.Perm.length_eq]
 refine .bind (T.mono (Q:=λx:Int=> -1<=x/\x<g.L.length) (T.forA g.L.length (λ_ x=> -1<=x/\x<g.L.length) aa ⟨B5,aa⟩ (λk x hk hj=>?_) λx hj=>?_) λa h4=>?_)
 .obtain⟨o,ho,_⟩:=w.op hk;unfold ub;dsimp only;rw[eA hk,ax,au,ho,aL];exact .dec (λ_=> .some (by constructor<;>grind [aq])) λ_=> .some ⟨aq aa,hj⟩
 .unfold ub;dsimp only;rw[eF,A7];exact .some hj
 .rw[cL,aL];refine .ite (λhb=>?_) λhb=>?_
  .have hx:0<a:=by grind
   obtain⟨k,rfl⟩:∃k:Nat,a=(k:Int):=⟨a.toNat,aa⟩;obtain⟨o,ho,so,c⟩:=w.op (i:=k) aa;rw[au,ho,aL];exact .bind (by grind [T.mono,yf,pK,Gd.long,T.some])
  .rw[cL,aL];refine .ite (λ_=> .some i1) λhb2=>?_;have hx:0<=a:=by grind
   obtain⟨k,rfl⟩:∃k:Nat,a=(k:Int):=⟨a.toNat,aa⟩;obtain⟨y,hy⟩:∃y,g.IDs[k]?=some y:=⟨_,EH aa⟩;rw[au,hy,aL];have e3:wI (n.tdiv 3)=n.tdiv 3:=by grind [bM]
   rw[e3];refine .bind (.rem (by unfold ah;omega) ?_);have q0:0<=(n.tdiv 3).tmod (ah g.IDs):=Int.tmod_nonneg _ (Int.tdiv_nonneg h.1 B5);have q1:(n.tdiv 3).tmod (ah g.IDs)<ah g.IDs:=Int.tmod_lt_of_pos _ (by unfold ah;omega);refine .bind (.ixl q0 (by unfold ah at q1;exact q1) λz _ _=>?_);exact .bind (by grind [T.mono,yf,T.some])
def il{α:Type}(p:α->Prop)(l:List α):Prop:=l.length<=1000/\∀x∈l,p x
theorem ay{p:α->Prop}:il p []:=⟨aC,aC⟩
theorem Hk(h1:DW o.By)(h2:DW o.Seq)(h3:DW o.Kind)(h4:DW o.At)(h5:il JU o.Past)(h6:DW o.Device)(h7:DW o.Old)(h8:DW o.Member)(h9:DW o.Role)(h10:il I9 o.Path)(h11:JU o.Epoch)(h12:DW o.N)(h13:o.Body.length<=1000)(a:il fS o.Refs)(e:JU o.Of)(b:il DW o.Guards)(g:DW o.Need)(h:DW o.Wait)(c:il Ft o.Boxes)(f:fS o.Pub)(d:il Ht o.Hist):Be o:=by refine⟨λz hz=>?_,h5.1,h5.2,h10.1,h10.2,h11,h13,a.1,a.2,e,b.1,b.2,c.1,c.2,f,d.1,d.2⟩;simp only[EZ,Lx,or_false] at hz;rcases hz with rfl|rfl|rfl|rfl|rfl|rfl|rfl|rfl|rfl|rfl|rfl<;>assumption
theorem Be.iBy{o:Bj}(h:Be o):DW o.By:=h.ints _ aC
theorem Be.iSeq{o:Bj}(h:Be o):DW o.Seq:=h.ints _ aC
theorem Be.iKind{o:Bj}(h:Be o):DW o.Kind:=h.ints _ aC
theorem Be.iAt{o:Bj}(h:Be o):DW o.At:=h.ints _ aC
theorem Be.iDevice{o:Bj}(h:Be o):DW o.Device:=h.ints _ aC
theorem Be.iOld{o:Bj}(h:Be o):DW o.Old:=h.ints _ aC
theorem Be.iMember{o:Bj}(h:Be o):DW o.Member:=h.ints _ aC
theorem Be.iRole{o:Bj}(h:Be o):DW o.Role:=h.ints _ aC
theorem Be.iN{o:Bj}(h:Be o):DW o.N:=h.ints _ aC
theorem Be.iNeed{o:Bj}(h:Be o):DW o.Need:=h.ints _ aC
theorem Be.iWait{o:Bj}(h:Be o):DW o.Wait:=h.ints _ aC
theorem Be.sPast{o:Bj}(h:Be o):il JU o.Past:=⟨h.nPast,h.past⟩
theorem Be.sRefs{o:Bj}(h:Be o):il fS o.Refs:=⟨h.nRefs,h.refs⟩
theorem Be.sGuards{o:Bj}(h:Be o):il DW o.Guards:=⟨h.nGuards,h.guards⟩
theorem Be.sBoxes{o:Bj}(h:Be o):il Ft o.Boxes:=⟨h.nBoxes,h.boxes⟩
theorem Be.sHist{o:Bj}(h:Be o):il Ht o.Hist:=⟨h.nHist,h.hist⟩
theorem Be.nopath{o:Bj}(h:Be o):Be {o with Path:=[]}:=by grind [Hk,iBy,iSeq,iKind,iAt,sPast,iDevice,iOld,iMember,iRole,ay,epoch,iN,nBody,sRefs,of_,sGuards,iNeed,iWait,sBoxes,pub,sHist]
theorem m7(h: -1000000<=n/\n<=1000000):DW n:=by unfold DW;omega
theorem EA.smid{g:AQ}(w:Fq g){ids:A3}(h:EA g ids){x:Ab}(hx:x∈ids):JU x:=by grind [EA,Fq.name]
theorem Ir(w:Fq g)(h:EA g ids)(so:Be o)(hn:0<=n/\n<=1000000):T (sc g ids o n) λr=>Be r:=by
 unfold sc;refine .bind ((zb w h 9).mono λc hv=>?_);have s1:JU c.1:=by
  rcases hv with⟨e,_⟩|⟨e,_⟩
  .rw[e];exact pM
  .exact h.smid w e
 have s2:Be c.2:=by grind [Wd]
 rw[cL,aL,cL,aL];have e16:wI (n.tdiv 16)=n.tdiv 16:=by grind [bM]
 have e32:wI (n.tdiv 32)=n.tdiv 32:=by grind [bM]
 refine .dec (λh9=>?_) λh9=>?_
 ·
  refine .bind (T.mono (Q:=λx:Bh=>x.length<=4/\∀z∈x,DW z) (T.loop (λs=>1<=s.2/\s.2<=5/\(s.1.length:Int)<=s.2-1/\∀z∈s.1,DW z) (λs=>(5-s.2).toNat) (by grind) B5 ?_) λp hx=>?_)
  .rintro⟨acc,i⟩ ⟨i1,q,t,k⟩
   simp only at i1 q t k
   have ei:wI (i+1)=i+1:=bM aa aa
   unfold vF
   dsimp only
   refine .dec (λh4=>?_) λh4=> .some ⟨aa,k⟩
   refine .bind (.quo aa (.dec (λ_=>?_) λ_=> .some ⟨⟨?_,?_,?_,k⟩,?_⟩))
   .refine .bind (.app cq (.some ⟨⟨?_,?_,?_,λz hz=>?_⟩,?_⟩))
    .show 1<=wI (i+1);omega
    all_goals grind [m7]
   all_goals grind
  .rw[cL,aL]
   have hj:∃j:Bh,(bif ah p=0 then([1,2]:Bh)else p)=j/\1<=j.length/\j.length<=4/\∀z∈j,DW z:=by grind [ah,m7]
   obtain⟨j,ej,E,F,u⟩:=hj
   rw[ej,e16]
   have hm:0<iI 2 (ah j)/\iI 2 (ah j)<=2:=by unfold iI ah;split<;>omega
   refine .bind (.rem aa (.bind ((yg (n:=ah j) (by unfold ah;omega)).mono λbx d=> .some ?_)))
   exact Hk so.iBy so.iSeq (by grind [m7]) so.iAt so.sPast so.iDevice so.iOld so.iMember so.iRole ay so.epoch so.iN so.nBody so.sRefs so.of_ ⟨by show j.length<=1000;omega,u⟩ (Sf _) (by grind [DW]) ⟨d.1,d.2.2⟩ (by show(5:Nat)<_;omega) so.sHist
 ·
  generalize hj5:(bif bif o.Kind≠9 then decide (c.1=(⟨0,0,0⟩:Ab))else false then(9:Int)else o.Kind)=v at h9⊢
  have hk5:v=o.Kind/\c.1≠⟨0,0,0⟩:=by grind
  obtain⟨rfl,l⟩:=hk5
  have hv2:Gd c.2/\c.2.Kind=9:=by
   rcases hv with⟨e,_⟩|⟨_,_,e,e'⟩
   .exact absurd e l
   .exact⟨e,e'⟩
  have hg:=l8 hv2.1.numbers hv2.2
  have hgl:0<ah c.2.Guards/\ah c.2.Guards<=1000:=by grind [Be.nGuards,ah]
  refine .bind ((zc w _).mono λm y=>?_)
  refine .bind (T.mono (Q:=λx:Int×List Hf=>DW x.1/\il Ft x.2) (.ite (λ_=> .bind ((yg hgl.2).mono λb hb=> .some ⟨s1.a,hb.1,hb.2.2⟩)) λ_=> .some ⟨so.iBy,so.sBoxes⟩) λA f=>?_)
  rw[cL,aL]
  refine .bind (T.mono (Q:=λx:Int×Int=>DW x.1/\DW x.2) (.ite (λ_=> .bind (.rem aa (.bind (.ixl (Int.tmod_nonneg _ hn.1) (Int.tmod_lt_of_pos _ hgl.1) (by grind [T.some,Be.guards,Sf]))))) λ_=> .some ⟨f.1,so.iDevice⟩) λB h36=>?_)
  refine .bind (T.mono (Q:=λx:List Hf=>il Ft x) (.ite (λ_=> .bind ((yg B5).mono λb hb=> .some ⟨hb.1,hb.2.2⟩)) λ_=> .some f.2) λC D=>?_)
  rw[cL,aL]
  have h40:DW (bif o.Kind=13 then m else o.Old):=by grind [Be.iOld]
  grind [T.some,Hk,Be.iSeq,Be.iKind,Be.iAt,Be.sPast,Be.iMember,Be.iRole,ay,Be.epoch,Be.iN,Be.nBody,Be.sRefs,Be.iNeed,Be.iWait,Be.pub,Be.sHist]
theorem EE(h:0<=n):T (z7 n) λk=>DW k:=by unfold z7;refine .bind (.ixl (Int.tmod_nonneg _ h) (by have:=Int.tmod_lt_of_pos n (show(0:Int)<20 by decide);simp;omega) λx _ hx=> .some ?_);have:x∈([6,4,3,2,5,7,8,3,6,9,11,11,13,12,10,4,3,2,6,13]:Bh):=hx;have key:∀y∈([6,4,3,2,5,7,8,3,6,9,11,11,13,12,10,4,3,2,6,13]:Bh),-1000000<=y/\y<=1000000:=B5;exact m7 (key x this)
theorem Mt:DW 1:=m7 aa
theorem Yt:DW 2:=m7 aa
theorem QJ:fS 0:=by unfold fS;omega
def Nx(g:AQ)(x:Bj×A3):Prop:=Be x.1/\EA g x.2
theorem Nx.np{g:AQ}{x:Bj×A3}(h:Nx g x):Nx g ({x.1 with Path:=[]},x.2):=⟨h.1.nopath,h.2⟩
theorem N2(w:Fq g)(hn:DW n)(hm:DW m):T (sd g n m) λr=>Be r:=by
 have nL:=w.nL;have nI:=w.nI;unfold sd;refine .bind ((eX hn B5).mono λf h1=> .bind ((eX hm B5).mono λi h3=> .bind ((EE h3.1).mono λD h5=>?_)));have hq:∀q:Int,0<q->wI (f.tdiv q)=f.tdiv q/\0<=f.tdiv q/\f.tdiv q<=1000000:=λq hq=>by have a:=Int.tdiv_nonneg h1.1 (show(0:Int)<=q by omega);have b:=Int.tdiv_le_self q h1.1;grind [bM]
 have hk:wI (i.tdiv 20)=i.tdiv 20/\0<=i.tdiv 20/\i.tdiv 20<=1000000:=by grind [bM]
 rw[hk.1];generalize hkk:i.tdiv 20=k at hk⊢;obtain⟨_,C,k1⟩:=hk;have tm:∀(z q:Int),0<q->q<=1000000→-1000000<=z.tmod q/\z.tmod q<=1000000:=λz q h h'=>by have h3:=Int.tmod_lt_of_pos z h;have h4: -q<z.tmod q:=Int.lt_tmod_of_pos z h;omega
 refine .dec (λh0=> .some ?_) λh0=>?_
 .grind [Hk,ay,pM,m7,QJ]
 have hL:0<g.L.length:=by unfold ah at h0;omega
 rw[cL,aL];generalize hj8:(bif ah g.L<4 then(⟨1,0,2,0,[],wI ((ah g.L)+1),0,0,wI (3-(wI (Int.tdiv (Int.tmod f 5) 4))),[],⟨0,0,0⟩,0,[],[],⟨0,0,0⟩,[],0,0,[],0,[],⟨0,0⟩⟩:Bj) else⟨wI (1+(Int.tmod f 5)),0,D,0,[],0,0,0,0,[],⟨0,0,0⟩,0,[],[],⟨0,0,0⟩,[],0,0,[],0,[],⟨0,0⟩⟩)=o;have s8:Be o:=by grind [Hk,Mt,dP,Yt,ay,Sf,pM,QJ]
 clear hj8;obtain⟨E,p,t⟩:=hq 5 B5;rw[E];refine .bind ((ED w o.By ⟨p,t⟩).mono λF h10=>?_);refine .bind (T.mono (Q:=λx=>EA g x) (.ite (λ_=> .bind ((Cz w).mono (by grind [T.some,EA,List.Perm.length_eq]))) λ_=> .some h10) λj12 h12=>?_);refine .bind ((zb w h12 6).mono λu v=>?_);have s14:JU u.1:=by
  rcases v with⟨e,_⟩|⟨e,_⟩
  .rw[e];exact pM
  .exact h12.smid w e
 refine .bind (T.mono (Q:=λx:Int×Int×Nat=>JU ⟨x.1,x.2.1,x.2.2⟩) (.ite (λ_=> .bind (.ixl B5 (by rw[nI];omega) λy _ hy=> .some ?_)) λ_=> .some s14) λH I=>?_)
 .obtain⟨_,_,_,_,_,_,s,_⟩:=w.name hy;exact s
 refine .bind (T.mono (Q:=λx:Bj×A3=>Nx g x) ?_ λJ A=>?_)
 .refine .ite (λ_=>?_) λ_=>?_
  .refine .bind (T.mono (Q:=λx:Int×Int=>DW x.1/\DW x.2) (by grind [T.some,Sf,Be.iDevice,Be.iRole]) λx hx=> .some ⟨?_,h12⟩);grind [Hk,Be.iBy,Be.iSeq,Be.iKind,Be.iAt,ay,Be.iOld,Be.iMember,Be.epoch,Be.iN,Be.of_,Be.iNeed,Be.iWait,Be.pub]
  refine .bind (T.mono (Q:=λx:Bj×A3=>Nx g x) ?_ λx hx=> .some hx.np);refine .ite (λ_=>?_) λ_=>?_
  .refine .bind (T.mono (Q:=λx:Int×Int=>DW x.1/\DW x.2) (by grind [T.some,dP,Sf,Be.iMember]) λx hx=> .some ⟨?_,h12⟩);grind [Hk,Be.iBy,Be.iSeq,Be.iKind,Be.iAt,ay,Be.iOld,Be.iRole,Be.epoch,Be.iN,Be.of_,Be.iNeed,Be.iWait,Be.pub]
  refine .bind (T.mono (Q:=λx:Bj×A3=>Nx g x) ?_ λx hx=> .some hx.np);refine .ite (λ_=> .some ⟨?_,h12⟩) λ_=>?_
  .grind [Hk,Be.iBy,Be.iSeq,Be.iKind,Be.iAt,ay,Be.iDevice,Be.iOld,Sf,Be.epoch,Be.iN,Be.of_,Be.iNeed,Be.iWait,Be.pub]
  refine .bind (T.mono (Q:=λx:Bj×A3=>Nx g x) ?_ λx hx=> .some hx.np);refine .ite (λ_=>?_) λ_=>?_
  .have hm4:0<iI (ah g.IDs) 4/\iI (ah g.IDs) 4<=ah g.IDs:=by unfold iI ah;split<;>omega
   refine .bind (.rem aa (.bind (.ixl (Int.tmod_nonneg _ C) (by have:=Int.tmod_lt_of_pos k hm4.1;grind [ah]) λy _ hy=>?_)));obtain⟨_,_,_,_,_,_,sy,_⟩:=w.name hy;refine .bind (T.mono (Q:=λx:Bq=>il fS x) (.ite (λ_=> .some ⟨aC,λz hz=>by simp at hz;rcases hz with rfl|rfl<;>exact Mp _⟩) λ_=> .some ay) λx hx=> .some ⟨?_,h12⟩);exact Hk s8.iBy s8.iSeq s8.iKind s8.iAt ay s8.iDevice s8.iOld s8.iMember s8.iRole ay sy (by grind [m7]) aC hx s8.of_ ay s8.iNeed s8.iWait ay s8.pub ay
  refine .bind (T.mono (Q:=λx:Bj×A3=>Nx g x) ?_ λx hx=> .some hx.np);refine .ite (λ_=> .some ⟨?_,h12⟩) λ_=>?_
  .grind [Hk,Be.iBy,Be.iSeq,Be.iKind,Be.iAt,ay,Be.iDevice,Be.iOld,Be.iMember,Be.iRole,Be.epoch,Be.iN,Be.iNeed,Be.iWait,Be.pub]
  refine .bind (T.mono (Q:=λx:Bj×A3=>Nx g x) ?_ λx hx=> .some hx.np);refine .ite (λ_=> .some ⟨?_,h12⟩) λ_=>?_
  .grind [Hk,Be.iBy,Be.iSeq,Be.iKind,Be.iAt,ay,Be.iDevice,Be.iOld,Be.iMember,Be.iRole,Be.epoch,Be.iN,Be.iNeed,Be.iWait,Be.pub]
  have s8':Be {o with Past:=[],Path:=[],Body:=[],Refs:=[],Guards:=[],Boxes:=[],Hist:=[]}:=by grind [Hk,Be.iBy,Be.iSeq,Be.iKind,Be.iAt,ay,Be.iDevice,Be.iOld,Be.iMember,Be.iRole,Be.epoch,Be.iN,Be.of_,Be.iNeed,Be.iWait,Be.pub]
  refine .bindc ?_ λb _=>?_
  .grind [T.some]
  refine .bind (T.mono (Q:=λx:Bj×A3=>Nx g x) (.ite (λ_=>?_) λ_=> .some ⟨s8',h12⟩) λx hx=> .some hx.np);refine .bind ((Ir w h12 s8' ⟨C,k1⟩).mono λK B=>?_);refine .bind (T.mono (Q:=λx=>EA g x) (by grind [ED,T.some]) λx hx=> .some ⟨B.nopath,hx⟩)
 .obtain⟨c,j⟩:=A;have M:=j.len;refine .bindc ?_ λb _=>?_
  .grind [T.some,kf]
  refine .bind (T.mono (Q:=λx=>EA g x) (.ite (λ_=> .bind ((Cz w).mono (by grind [T.some,EA,List.Perm.length_eq]))) λ_=> .some j) λN d=>?_);refine .bind ((KH w d.len).mono λO l=> .bind ((QH w d _).mono λP R=> .bind ((N0 w d.len).mono λS U=> .some ?_)));exact Hk c.iBy (by grind [DW]) c.iKind (Sf _) ⟨l.1.len,λx hx=>l.1.smid w hx⟩ c.iDevice c.iOld c.iMember c.iRole ay c.epoch c.iN c.nBody c.sRefs c.of_ c.sGuards c.iNeed c.iWait c.sBoxes c.pub c.sHist
theorem dk{l:List α}{k:Nat}(h:k<l.length):∃y,l[k]?=some y/\y∈l:=by simp_all
def EF(g:AQ)(l:Bh):Prop:=∀x∈l,0<=x/\x<(g.L.length:Int)
theorem EF.nat{g:AQ}{l:Bh}(h:EF g l){x:Int}(hx:x∈l):∃i:Nat,x=(i:Int)/\i<g.L.length:=by obtain⟨h1,h2⟩:=h x hx;exact⟨x.toNat,aa,aa⟩
theorem EF.snoc{g:AQ}{l:Bh}(h:EF g l){i:Nat}(hi:i<g.L.length):EF g (l++[(i:Int)]):=λx hx=>by
 rcases I6.1 hx with h'|h'
 .exact h x h'
 grind
theorem EF.nil{g:AQ}:EF g []:=λx hx=>by cases hx
structure Jo (g:AQ) (n:Nat) (r:C7):Prop where
 cards:r.Cards=g.Cards
 dev:r.In.length+r.Gone.length<=n
 nL:r.L.length<=n
 nV:r.V.length<=n
 mem:∀m∈r.L,m.Guards.length<=1000
def Nd(r:C7):Prop:=∀m∈r.L,m.Is=true->1<=m.Need
theorem Jo.up{g:AQ}{n m:Nat}{r:C7}(h:Jo g n r)(hm:n<=m):Jo g m r:=by grind [Jo]
section
variable {g:AQ} {n:Nat} {r:C7}
theorem dM(w:Fq g)(h:Jo g n r)(d:Int):T (gE r d) λ_=>True:=by
 have nC:=w.nC;have hc:r.Cards.length<=1000:=by rw[h.cards];exact nC
 unfold gE;refine .bind (T.mono (Q:=λ_=>True) (T.forI r.Cards.length (λ_=>True) aa trivial (λk hk _=>?_) λ_=>?_) λx _=>?_)
 .obtain⟨y,hy,_⟩:=dk hk;unfold AR;simp only[eA hk,ax,au,hy,aL];exact .ite (λ_=> .some trivial) λ_=> .some ⟨aq aa,trivial⟩
 .unfold AR;rw[eF,A7];exact .some trivial
 .cases x<;>exact .some trivial
theorem d9(h:Jo g n r)(hn:n<=100001)(d:Int):T (dS r d) λv=>v<0\/∃k:Nat,v=(k:Int)/\k<r.L.length:=by
 have nL:=h.nL;unfold dS;refine .bind (T.mono (Q:=λx:Unit⊕Int=>∀q,x= .inr q->∃k:Nat,q=(k:Int)/\k<r.L.length) (T.forI r.L.length (λ_=>True) aa trivial (λk hk _=>?_) λ_=>?_) λx hx=>?_)
 .obtain⟨y,hy,_⟩:=dk hk;unfold o5;simp only[eA hk,ax,au,hy,aL];refine .ite (λ_=> .some ?_) λ_=> .some ⟨aq aa,trivial⟩;intro q e;grind
 .unfold o5;rw[eF,A7];refine .some ?_;intro q e;cases e
 .cases x with
  |inl u=>exact .some (.inl B5)
  |inr q=>exact .some (.inr (hx q rfl))
theorem yh(hn:n<=100000)(h:Jo g n r)(d:Int):T (se r d) λ_=>True:=by grind [se,T.bind,T.mono,d9,T.some,au]
theorem QK(hn:n<=100000)(h:Jo g n r)(d:Int):T (Fd r d) λ_=>True:=by grind [Jo,Fd,cX,T.some]
theorem uY(w:Fq g)(hn:n<=100000)(h:Jo g n r)(d:Int):T (nW r d) λ_=>True:=by grind [nW,T.bindc,QK,dM,T.some]
theorem uZ(w:Fq g)(hn:n<=100000)(h:Jo g n r)(d role:Int):T (nX r d role) λr'=>Jo g (n+1) r'/\(Nd r->Nd r'):=by
 have h1:=h.dev;have h2:=h.nL;unfold nX;refine .bindc (uY w hn h d) λv _=> .ite (λ_=> .some ⟨h.up aa,id⟩) λ_=>?_;refine .bind (.app cq (.bind (.app cq ?_)));rw[Ni];have h':Jo g (n+1) {r with In:=r.In++[d]}:=⟨h.cards,by simp;omega,by show r.L.length<=_;omega,by have:=h.nV;show r.V.length<=_;omega,h.mem⟩;refine .bindc (dM w h' d) λa _=> .bind ((d9 h' (show n+1<=100001 by omega) a).mono λb _=> .dec (λ_=>?_) λ_=> .some ⟨h',id⟩);refine .bind (.bind (.app cq (.bind (.app cq (.some ?_)))));rw[Ni];refine .some ⟨⟨h'.cards,h'.dev,by simp;omega,h'.nV,λm hm=>?_⟩,λnd m hm=>?_⟩
 .rcases I6.1 hm with hm|hm
  .exact h.mem m hm
  .simp at hm;subst hm;simp
 .rcases I6.1 hm with hm|hm
  .exact nd m hm
  .simp at hm;subst hm;simp
theorem zd(h:Jo g n r)(hn:n<=100001)(i:Ab):T (jN r i) λv=>v<0\/∃(k:Nat) (m:Ef),v=(k:Int)/\r.L[k]?=some m/\m.Is=true:=by
 have nL:=h.nL;unfold jN;refine .bind (T.mono (Q:=λx:Unit⊕Int=>∀q,x= .inr q->∃(k:Nat) (m:Ef),q=(k:Int)/\r.L[k]?=some m/\m.Is=true) (T.forI r.L.length (λ_=>True) aa trivial (λk hk _=>?_) λ_=>?_) λx hx=>?_)
 .obtain⟨y,hy,_⟩:=dk hk;unfold qQ;simp only[eA hk,ax,au,hy,aL];refine .bind (T.mono (Q:=λb:Bool=>b=true->y.Is=true) (by grind [T.some]) λb hb=> .ite (λe=> .some ?_) λ_=> .some ⟨aq aa,trivial⟩);intro q e';grind
 .unfold qQ;rw[eF,A7];refine .some ?_;intro q e;cases e
 .cases x with
  |inl u=>exact .some (.inl B5)
  |inr q=>exact .some (.inr (hx q rfl))
theorem u4(hn:n<=100000)(h:Jo g n r)(i:Ab):T (jN r i) λv=>v<0\/∃(k:Nat) (m:Ef),v=(k:Int)/\r.L[k]?=some m/\m.Is=true:=zd h (Nat.le_succ_of_le hn) i
theorem CC(w:Fq g)(h:Jo g n r)(hn:n<=100001)(d:Int):T (sh r d) λr'=>Jo g n r'/\(Nd r->Nd r'):=by
 have h1:=h.dev;have h2:=h.nL;have h3:=h.nV;unfold sh;rw[cX aa,aL];refine .ite (λ_=> .some ⟨h,id⟩) λhh=>?_;have hd:d∈r.In:=by grind [QF]
 have hlt:(r.In.filter λx=>decide (x≠d)).length<r.In.length:=by simp_all
 refine .bindc (dM w h d) λq _=> .bind (T.mono (Q:=λx:Bh×Bool=>x.1=r.In.filter λx=>decide (x≠d)) ?_ λp h7=>?_)
 .refine T.mono (T.loop (Q:=λx:Bh×Bool=>x.1=r.In.filter λx=>decide (x≠d)) (λs=>∃k:Nat,k<=r.In.length/\s.2.2=(k:Int)/\s.1=(r.In.take k).filter λx=>decide (x≠d)) (λs=>r.In.length-s.2.2.toNat) (by grind) cq ?_) λ_ hx=>hx;rintro⟨a,b,i⟩ ⟨k,hk,rfl,ha⟩;simp only at ha;rcases It k r.In.length with hl|hg
  .obtain⟨y,hy,_⟩:=dk hl;have ht:(r.In.take (k+1)).filter (λx=>decide (x≠d))=a++[y].filter (λx=>decide (x≠d)):=by grind [Hp]
   have hal:a.length<=k:=by grind
   have hm:wI ((k:Int)+1)=((k+1:Nat):Int):=aq aa;unfold uj;simp only[eA hl,ax,au,hy,aL];refine .dec (λhp=> .bind (.app cq (.bindc (by grind [T.some,T.bindc,dM]) λj _=> .some ⟨⟨k+1,aa,hm,?_⟩,?_⟩))) λhp=> .some ⟨⟨k+1,aa,hm,?_⟩,?_⟩
   .grind
   .grind
   .grind
   .show r.In.length-(wI ((k:Int)+1)).toNat<_;rw[hm];simp;omega
  .obtain rfl:k=r.In.length:=aa;unfold uj;dsimp only;rw[eF,A7];exact .some (by show a=_;rw[ha,D3])
 .obtain⟨t,u⟩:=p;simp only at h7;subst h7;refine .bind (.app cq (.bind (.app cq ?_)));rw[Ni];have hk:∀(L:List Ef) (V:List G8),L.length<=n->V.length<=n->(∀m∈L,m∈r.L)->Jo g n {r with In:=r.In.filter λx=>decide (x≠d),Gone:=r.Gone++[d],L:=L,V:=V}:=by grind [Jo]
  refine .ite (λ_=> .some ⟨(by grind),id⟩) λ_=>?_;refine .bind (T.mono (Q:=λx:List Ef×List G8=>x.1.length<=n/\(∀m∈x.1,m∈r.L)/\x.2=[]) ?_ λc e=>?_)
  .refine T.mono (T.loop (Q:=λx:List Ef×List G8=>x.1.length<=n/\(∀m∈x.1,m∈r.L)/\x.2=[]) (λs=>∃k:Nat,k<=r.L.length/\s.2.2=(k:Int)/\s.1.length<=k/\(∀m∈s.1,m∈r.L)/\s.2.1=[]) (λs=>r.L.length-s.2.2.toNat) (by grind) cq ?_) λ_ hx=>hx;rintro⟨a,b,i⟩ ⟨k,hk,rfl,ha,hs,hb⟩;simp only at ha hs hb;rcases It k r.L.length with hl|hg
   .obtain⟨y,hy,f⟩:=dk hl;have hm:wI ((k:Int)+1)=((k+1:Nat):Int):=aq aa;unfold ui;simp only[eA hl,ax,au,hy,aL];refine .dec (λhp=> .bind (.app cq (.some ⟨⟨k+1,aa,hm,by simp;omega,λm hmm=>?_,hb⟩,?_⟩))) λhp=> .some ⟨⟨k+1,aa,hm,Nat.le_succ_of_le ha,hs,hb⟩,?_⟩;all_goals grind
   .obtain rfl:k=r.L.length:=aa;unfold ui;dsimp only;rw[eF,A7];exact .some ⟨JF ha h2,hs,hb⟩
  .obtain⟨L,V⟩:=c;obtain⟨hL,hs,hV⟩:=e;simp only at hL hs hV;subst hV;have hx:=hk L r.V hL h3 hs;refine .bind (T.mono (Q:=λv:List G8=>v.length<=n) (T.forA r.V.length (λk acc=>acc.length<=k) aa aC (λk acc hkl hj=>?_) λacc hj=>?_) λl o=> .some ⟨hk L l hL o hs,λnd m hm=>nd m (hs m hm)⟩)
   .obtain⟨y,hy,f⟩:=dk hkl;unfold uh;simp only[eA hkl,ax,au,hy,aL];refine .bind ((zd hx hn y.Of).mono λv _=> .dec (λ_=> .bind (.app cq (.some ⟨aq aa,by simp;omega⟩))) λ_=> .some ⟨aq aa,Nat.le_succ_of_le hj⟩)
   .unfold uh;dsimp only;rw[eF,A7];exact .some (JF hj h3)
theorem N5(w:Fq g)(hn:n<=100000)(h:Jo g n r)(d:Int):T (sh r d) λr'=>Jo g n r'/\(Nd r->Nd r'):=CC w h (Nat.le_succ_of_le hn) d
end
theorem yi{l:List Ef}(hl:l.length<=1000000){k:Nat}(hk:k<l.length)(m:Ef):T (o6 l (k:Int) m) λr=>r=l.set k m:=by grind [o6,T.bind,T.app,T.set]
theorem Mu{l:List Ef}{m x:Ef}(h:x∈l.set k m):x∈l\/x=m:=by grind
section
variable {g:AQ} {n:Nat} {r:C7}
theorem Jo.setL(h:Jo g n r){k:Nat}{m:Ef}(hm:m.Guards.length<=1000):Jo g n {r with L:=r.L.set k m}:=by grind [Jo]
theorem Nd.setL(h:Nd r){k:Nat}{m:Ef}(hm:m.Is=true->1<=m.Need):Nd {r with L:=r.L.set k m}:=λx hx=>by
 rcases Mu hx with hx|rfl
 .exact h x hx
 .exact hm
theorem Jo.setV(h:Jo g n r){V:List G8}(hV:V.length<=n):Jo g n {r with V:=V}:=by grind [Jo]
theorem Ga(w:Fq g)(hn:n<=100000)(h:Jo g n r)(so:Be o)(a:Ab):T (o7 r o a) λr'=>Jo g n r'/\((o.Kind=9->1<=o.Need)->o.Kind=9->Nd r->Nd r'):=by
 have h2:=h.nL;have h3:=h.nV;unfold o7;refine .bindc (dM w h _) λd _=> .bind ((d9 h aa d).mono λl hv=> .dec (by grind [T.some]) λhp=>?_);rcases hv with hv|⟨k,rfl,hk⟩
 .omega
 obtain⟨y,hy,hm⟩:=dk hk;simp only[au,hy,aL];refine .bind ((yi aa hk _).mono λf e=>?_);subst e;have hx:=h.setL (k:=k) (m:=⟨y.N,y.Role,true,a,o.Guards,o.Need,o.Wait,false,0⟩) so.sGuards.1;refine .bind (T.mono (Q:=λv:List G8=>v.length<=n) (T.forA r.V.length (λk acc=>acc.length<=k) aa aC (λk acc hkl hj=>?_) λacc hj=>?_) λi b=> .some ⟨hx.setV b,λhd c nd=>?_⟩)
 .obtain⟨y,hy,j⟩:=dk hkl;unfold ni;simp only[eA hkl,ax,au,hy,aL];refine .bind ((u4 hn hx y.Of).mono λv _=> .dec (λ_=> .bind (.app cq (.some ⟨aq aa,by simp;omega⟩))) λ_=> .some ⟨aq aa,Nat.le_succ_of_le hj⟩)
 .unfold ni;dsimp only;rw[eF,A7];exact .some (JF hj h3)
 .exact nd.setL (k:=k) λ_=>hd c
theorem ze(w:Fq g)(hn:n<=100000)(h:Jo g n r)(o:Bj):T (nY r o) λv=>v.2≠0\/∃(k:Nat) (m:Ef),v.1=(k:Int)/\r.L[k]?=some m/\m.Is=true:=by unfold nY;refine .bind ((u4 hn h o.Of).mono λv hv=> .dec (by grind [T.some]) λhp=>?_);grind [au,cX,Jo.mem,T.some]
theorem Gb(w:Fq g)(hn:n<=100000)(h:Jo g n r)(o:Bj):T (o8 r o) λr'=>Jo g (n+1) r'/\(Nd r->Nd r'):=by
 have h3:=h.nV;unfold o8;refine .bind ((ze w hn h o).mono λd _=> .dec (by grind [T.some,Jo.up]) λ_=>?_);refine .bind (T.mono (Q:=λx:Int×List G8=>x.2.length<=n) ?_ λe h5=> .bind (.app cq (.some ⟨(by grind [Jo.setV,Jo.up]),λnd=>nd⟩)));refine T.mono (T.loop (Q:=λx:Int×List G8=>x.2.length<=n) (λs=>∃k:Nat,k<=r.V.length/\s.2.2=(k:Int)/\s.2.1.length<=k) (λs=>r.V.length-s.2.2.toNat) (by grind) cq ?_) λ_ hx=>hx;rintro⟨a,b,i⟩ ⟨k,hk,rfl,ha⟩;simp only at ha;rcases It k r.V.length with hl|hg
 .obtain⟨y,hy,c⟩:=dk hl;have hm:wI ((k:Int)+1)=((k+1:Nat):Int):=aq aa;have hμ:r.V.length-(wI ((k:Int)+1)).toNat<r.V.length-((k:Int)).toNat:=by rw[hm];simp;omega
  unfold nj;simp only[eA hl,ax,au,hy,aL];refine .bindc ?_ λj _=> .ite (λ_=> .some (by constructor<;>grind)) λ_=> .bind (.app cq (.some (by constructor<;>grind)));grind [T.some]
 .obtain rfl:k=r.V.length:=aa;unfold nj;dsimp only;rw[eF,A7];exact .some (JF ha h3)
theorem N6(w:Fq g)(hn:n<=100000)(h:Jo g n r){o:Bj}{step:Bh×Int->Option ((Bh×Int)⊕Bh)}(he:step=λs=>bif s.2<ah r.In then((aS r.In s.2).bind λa=>(gE r a).bind λb=>bif b=o.Member then((aS r.In s.2).bind λc=>(aT 8 s.1 ([c]:Bh)).bind λd=>some (.inl (d,wI (s.2+1))))else(some (.inl (s.1,wI (s.2+1)))))else(some (.inr s.1))):T (AB step ([],0)) λl=>l.length<=n:=by
 have h1:=h.dev;subst he;refine T.forA r.In.length (λk acc=>acc.length<=k) aa aC (λk acc hk hj=>?_) λacc hj=>?_
 .obtain⟨y,hy,e⟩:=dk hk;simp only[eA hk,ax,au,hy,aL];refine .bindc (dM w h y) λv _=> .dec (λ_=> .bind (.app cq (.some ⟨aq aa,by simp;omega⟩))) λ_=> .some ⟨aq aa,Nat.le_succ_of_le hj⟩
 .dsimp only;rw[eF,A7];exact .some (by show acc.length<=n;omega)
theorem Gc(w:Fq g)(hn:n<=100000)(h:Jo g n r)(so:Be o)(c:Ab):T (DM r o c) λr'=>Jo g (n+1) r'/\((o.Kind=9->1<=o.Need)->Nd r->Nd r'):=by
 have h1:=h.dev;have h2:=h.nL;have up:=h.up (Nat.le_succ n);unfold DM;refine .bindc (dM w h _) λd _=> .bind ((d9 h aa d).mono λf hv=> .dec (λ_=>?_) λ_=>?_)
 .refine .bindc (by grind [T.some]) λj _=> .ite (by grind [T.some]) λ_=> .bind ((uZ w hn h _ _).mono λu h9=> .some ⟨(by grind [Jo]),λ_ nd=>h9.2 nd⟩)
 refine .dec (λ_=> .bind (by grind [T.mono,uZ,T.some])) λ_=>?_;refine .dec (λ_=>?_) λ_=>?_
 .refine .bind (T.mono (Q:=λx:Bh⊕C7=>∃l,x= .inl l/\l.length<=n+1) (.dec (λ_=> .bind ((N6 w hn h (o:=o) rfl).mono (by grind [T.some]))) (by grind [T.some])) λx hx=>?_);obtain⟨l,rfl,hl⟩:=hx;refine .bind (T.mono (Q:=λr':C7=>Jo g n r'/\(Nd r->Nd r')) (T.forA l.length (λ_ r'=>Jo g n r'/\(Nd r->Nd r')) aa ⟨h,λnd=>nd⟩ (λk acc hk hj=>?_) λacc hj=>?_) (by grind [T.some,Jo.up]))
  .obtain⟨y,hy,i⟩:=dk hk;unfold AT;simp only[eA hk,ax,au,hy,aL];exact .bind ((N5 w hn hj.1 y).mono λv hv=> .some (by constructor<;>grind [aq]))
  .unfold AT;dsimp only;rw[eF,A7];exact .some hj
 refine .dec (λ_=>?_) λ_=>?_
 .refine .bind ((d9 h aa o.Member).mono λv hv=> .dec (λhp=>?_) (by grind [T.some]));rcases hv with hv|⟨k,rfl,hk⟩
  .omega
  obtain⟨y,hy,hm⟩:=dk hk;rw[au,hy,aL];refine .bind ((yi aa hk _).mono λa e=> .some ?_);subst e;exact⟨up.setL (h.mem y hm),λ_ nd=>nd.setL λe=>nd y hm e⟩
 refine .dec (λhk=> .bind (by grind [T.mono,Ga,T.some,Jo.up])) λ_=>?_;refine .dec (λ_=> .bind (by grind [T.mono,Gb,T.some])) λ_=>?_;refine .dec (λ_=>?_) λ_=>?_
 .refine .bind (T.mono (Q:=λb:Bool=>b=true->0<=f) (.dec (λh0=>?_) (by grind [T.some])) λb hb=> .ite (λe=>?_) (by grind [T.some]))
  .grind [E1,au,T.some]
  .have h0:=hb e;rcases hv with hv|⟨k,rfl,hk⟩
   .omega
   obtain⟨y,hy,hm⟩:=dk hk;rw[au,hy,aL];refine .bind ((yi aa hk _).mono λa e=> .some ?_);subst e;exact⟨up.setL (h.mem y hm),λ_ nd=>nd.setL λe=>nd y hm e⟩
 refine .dec (λ_=>?_) (by grind [T.some]);refine .bind ((u4 hn h o.Of).mono λm hv=> .bindc (.dec (λh0=>?_) λ_=> .some trivial) λj _=> .ite (λ_=>?_) (by grind [T.some]))
 .grind [E1,cX,au,T.bindc,dM,T.some]
 .exact .bindc (dM w h _) λp _=> .bindc (yh hn h _) λq _=> .bind ((uZ w hn h _ _).mono λs t=> .bind (by grind [T.mono,CC,T.some]))
end
theorem Fq.inrow{g:AQ}(w:Fq g){i:Nat}(h:i<g.L.length):∃r,g.In[i]?=some r/\r.length=g.L.length:=by obtain⟨r,hr,_⟩:=dk (l:=g.In) (k:=i) (by rw[w.nN];exact h);grind [rows]
theorem Fq.cell{g:AQ}(w:Fq g){i k:Nat}(h:i<g.L.length)(hk:k<g.L.length):∃r b,g.In[i]?=some r/\r[k]?=some b:=by obtain⟨r,hr,hl⟩:=w.inrow h;simp_all
theorem Mv(g:AQ):Jo g 0 ⟨g.Cards,[],[],[],0,[]⟩:=by grind [Jo]
theorem Oc{n:Nat}(h:2<=n)(hn:n<=1000000):T (zZ (n:Int)) λv=>∃k:Nat,v=(k:Int)/\1<=k/\k<n:=by
 unfold zZ;refine .bind (T.mono (Q:=λv:Int=>∃k:Nat,v=(k:Int)/\1<=k/\k<n) (T.loop (λs=>∃k:Nat,s=(k:Int)/\1<=k/\k<n) (λs=>n-s.toNat) ⟨1,rfl,aa,aa⟩ cq ?_) λv hv=> .some hv);rintro s ⟨k,rfl,h1,h2⟩;unfold AE;have e:wI (2*(k:Int))=((2*k:Nat):Int):=by grind [bM]
 rw[e];refine .dec (λhp=> .some ⟨⟨2*k,rfl,aa,aa⟩,?_⟩) λ_=> .some ⟨k,rfl,h1,h2⟩;simp;omega
theorem u6:∀(nn:Nat) (l:Bh),l.length<nn->l.length<=1000000->T (KS nn l) λr=>r.length<=2*l.length-1/\∀y∈r,y.length<=l.length
 |0,_,h,_=>absurd h (Nat.not_lt_zero _)
 |nn+1,l,h,hl=>by
  unfold KS;refine .dec (λ_=> .some ⟨aC,aC⟩) λh0=> .dec (λh1=>?_) λh1=>?_
  .grind [ah,T.some]
  .unfold ah at h0 h1⊢;refine .bind ((Oc (n:=l.length) aa hl).mono λd hv=>?_);obtain⟨k,rfl,k1,k2⟩:=hv;refine .bind (.pre aa aa ?_);rw[EO];refine .bind ((u6 nn (l.take k) cq cq).mono λe h7=> .bind (.app (by simp at h7⊢;omega) (.bind (.suf aa aa ?_))));rw[EO];refine .bind ((u6 nn (l.drop k) cq cq).mono λc h13=> .bind (.app (by simp at h7 h13⊢;omega) (.some ?_)));simp only[LL,List.length_drop] at h7 h13;have e1:min k l.length=k:=aa;rw[e1] at h7;refine⟨?_,λy hy=>?_⟩
   .have a:=h7.1;have b:=h13.1;simp only[Ub,List.length_singleton];omega
   .simp only[I6,List.mem_singleton] at hy;rcases hy with(rfl|hy)|hy
    .exact Dl _
    .have:=h7.2 y hy;omega
    .have:=h13.2 y hy;omega
theorem Od{l:Bh}(hl:l.length<=100000)(d:Int):T (N4 l d) λr=>r.length<=200000:=by
 unfold N4 z0;refine .bind ((u6 _ l aa aa).mono λb h1=>?_);have e:wI (ah b-1)=ah b-1:=by grind [bM,ah]
 rw[e];refine .bind (T.mono (Q:=λr:M0=>r.length<=200000) (T.loop (λs=> -1<=s.2/\s.2<(b.length:Int)/\s.1.length+(s.2+1).toNat<=b.length) (λs=>(s.2+1).toNat) (by grind [ah]) (by grind [ah]) ?_) λ_ h=> .some h);rintro⟨a,i⟩ ⟨i1,c,f⟩;simp only at i1 c f;unfold AF;refine .dec (λh0=>?_) λ_=> .some (by show a.length<=_;omega);replace h0:0<=i:=h0;refine .bind (.ixl h0 (by show i<_;omega) λy hy hm=>?_);have hw:wI (i-1)=i-1:=bM aa aa;rw[cX (by have:=h1.2 y hm;omega),aL];refine .ite (λ_=>?_) λ_=> .some ⟨⟨?_,?_,?_⟩,?_⟩
 .rw[show aS b (a,i).2=aS b i from rfl];refine .bind (.ixl h0 aa λz _ _=> .bind (.app (by show(a.length+1)*24<=_;omega) (.some ⟨⟨?_,?_,?_⟩,?_⟩)));all_goals grind
 all_goals grind
theorem zh(k:Int):T (GI k) λ_=>True:=by grind [GI,T.some]
inductive MH (g0:AQ):AQ->Prop
 |base:MH g0 g0
 |step {g:AQ} {o:Bj} {id:Ab} {up:Bh} {row:List Bool}:MH g0 g->Fq g->Be o->fS o.Sig.R->fS o.Sig.S->R6 g o up->pV o=some id->jA g up=some row->MH g0 (pL g o id up row)
def u7:Mw:=(ql [1,2,3,1,2,3]).getD []
theorem Oe:ql [1,2,3,1,2,3]=some u7:=aH
def KK(c:DP):Bool:=decide (1<=c.Device/\c.Device<=6/\1<=c.Member/\c.Member<=3/\c.Sign<18446744073709551616)
theorem Og:u7.all KK=true:=aH
theorem KL:u7.length=6:=aH
attribute [irreducible] u7
def g0:AQ:=⟨u7,[],[],[],[]⟩
theorem Yu:Fq g0 where
 nL:=by simp[g0]
 nI:=rfl
 nU:=rfl
 nN:=rfl
 nC:=by show u7.length<=1000;rw[KL];decide
 cards:=λc hc=>by have h:KK c=true:=Gu.1 Og c hc;grind [KK,DW,fS]
 up:=by grind [g0]
 rows:=by grind [g0]
 inlt:=by grind [Pm,g0]
 ops:=by grind [g0]
 ids:=by grind [g0]
 nd:=by simp[g0]
 one:=by grind [g0]
 tr:=by grind [g0]
 la:=by grind [Pm,g0]
def We(c:Int):Bj:=⟨1,1,1,0,[],0,0,0,0,[],⟨0,0,0⟩,0,[],[],⟨0,0,0⟩,[],c,0,[],0,[],⟨0,0⟩⟩
theorem Yv{a b:Int}(ha:DW a)(hb:DW b):∃c∈([0,1,2,3]:Bh),sd g0 a b=some (We c):=by
 obtain⟨d,e1,h1⟩:=eX ha (show(0:Int)<1000000 by decide);obtain⟨e,e3,h3⟩:=eX hb (show(0:Int)<1000000 by decide);obtain⟨f,e5,_⟩:=EE h3.1;refine⟨d.tmod 4,?_,?_⟩
 .grind
 .unfold sd;rw[e1,aL,e3,aL,e5,aL];rfl
theorem T6(m:Jn)(i:Ab)(n:Int)(x:Ab):(CW m i n).get x=match m.get x with|some v=>some v|none=>if i=x then some n else none:=by grind [CW,FM.get]
theorem EV{k x:Ab}:∀{l:A3},bu k (l++[x])=match bu k l with|some n=>some n|none=>if x=k then some l.length else none
 |[]=>by grind [bu]
 |y::r=>by
  rw[List.cons_append,bu,bu];by_cases e:k=y
  .rw[Bz e,Bz e]
  .rw[BW e,BW e,EV (l:=r)];grind
theorem T7{m:Jn}(hn:g.Cards.length<=1000000){d:Int}{c:DP}(h:mZ g d=(c,true)):hY ⟨g.Cards,m,N⟩ d=some (c,true):=by
 unfold mZ at h;unfold hY;refine T.eq (.bind (T.forA g.Cards.length (λk acc=>∀(j:Nat) (c:DP),j<k->g.Cards[j]?=some c->c.Device≠d) aa (by grind) (λk acc hk hj=>?_) λacc hj=>?_))
 .obtain⟨x,hx⟩:∃x,g.Cards[k]?=some x:=⟨_,EH hk⟩;unfold ij;dsimp only;rw[eA hk,ax,au,hx,aL];refine .dec (λe=> .some (.some ?_)) λe=> .some ⟨aq aa,λj c' a b=>?_⟩
  .grind [List.find?_eq_some_iff_getElem]
  grind
 grind [G9]
theorem T8{m:Jn}(w:Fq g)(pg:OI g m N){id:Ab}{up:Bh}{row:List Bool}(sm:Be o)(hs:fS o.Sig.S)(a:R6 g o up)(hid:pV o=some id)(hrow:jA g up=some row):
  ∃y:C3,y.o=o/\y.id=id/\OI (pL g o id up row) (CW m id N.length) (N++[y])/\jg prog fI 34 [.ref 0 0,.agg (aJ o)] [(0,oG g.Cards N.length 2),(1,oM m),(2,zQ N)] 3 (iG 0) [(0,oG g.Cards (N++[y]).length 3),(1,oM (CW m id N.length)),(3,zQ (N++[y]))] 4:=by
 have nL:=w.nL
 have nI:=w.nI
 have pl:=pg.len
 have hro:=a.room
 have f:=T1 a.check.numbers
 have ul:up.length<=12:=by rw[a.upl];exact pK a.check.long
 obtain⟨s,d,r,t⟩:=yc w (up:=up) aa a.upb
 rw[hrow] at d
 cases d
 obtain⟨E,e,hfr⟩:=a.id
 rw[hid] at e
 cases e
 obtain⟨c,hc,i⟩:=a.card
 obtain⟨K,hr1,hr2⟩:=a.right
 rw[hrow] at hr1
 cases hr1
 obtain⟨v,hv,l⟩:=Xb w (o:=o) r
 rw[hr2] at hv
 cases hv
 have hR:=l rfl
 obtain⟨⟨p,b,F,lev⟩,h1,e1,e2,e3,e4,e5,e8⟩:=ZF w pg a sm
 dsimp only at e1 e2 e3 e4 e5 e8
 have hbeh:∀j:Nat,j<256->(gW (RU b p) j=true↔HR g up j):=by grind [RP,HR]
 obtain⟨⟨last,H⟩,h4,e6,e7⟩:=ZG (A:=RU b p) w pg f (by grind) hR
 dsimp only at e6 e7
 obtain⟨I,q,ho2⟩:=TU sm
 rw[hid] at ho2
 cases ho2
 have ap:Ad3 g.Cards m N o id c (pT o.Kind):={
  chk:=RL a.check sm
  sm:=sm
  cl:=RM sm
  id:=q
  fresh:=by rw[pg.get,hfr];rfl
  room:=aa
  card:=T7 (by have:=w.nC;omega) hc
  by_:=(yd hc).2.symm
  sig:=TW (by have:=yY sm;omega) i
  create:=by grind [R6.create]
  nPast:=by have:=sm.nPast;omega
  par:=λx hx=>by obtain⟨k,hk⟩:=G9 hx;obtain⟨n,hn,_⟩:=a.par k x hk;have hnl:n<g.IDs.length:=(cr (gb hn).1).1;grind [OI.get]}
 have h2:ZA p b 4=z4:=by grind [RQ,R6.apart]
 refine⟨⟨o,id,RU b p,lev⟩,rfl,rfl,⟨?_,?_,?_,?_⟩,(by grind [W7])⟩
 .show(N++[_]).length=(g.L++[o]).length
  simp[pl]
 .intro k y hy
  have inx:=kU w (o:=o) (id:=id) (up:=up) r
  rcases je hy with⟨hk,h⟩|⟨hk,rfl⟩
  .obtain⟨z,B,J,C,D⟩:=pg.nd k y h
   refine⟨Ms z,Ms B,λj hj=>?_,C,D⟩
   grind
  .subst hk
   refine⟨by rw[pl];exact F8,by rw[show N.length=g.IDs.length by omega];exact F8,λj hj=>?_,e4,e5⟩
   have:=inx N.length j
   have hb:=hbeh j hj
   have hrj:row[j]?=some true↔HR g up j:=by
    rcases It j g.L.length with h|h
    .exact t j h
    .constructor
     .grind
     .rintro(h2|⟨n,h2,h3⟩)
      .have:=(a.upb _ h2).2;omega
      .have:=w.inlt n j h3;omega
   grind
 .intro x
  rw[T6,pg.get,show(pL g o id up row).IDs=g.IDs++[id] from rfl,EV]
  cases bu x g.IDs<;>grind
 .intro k y u hy hu
  have hUp:(pL g o id up row).Up=g.Up++[up]:=rfl
  have nU:=w.nU
  rw[hUp] at hu
  rcases je hy with⟨hk,h⟩|⟨hk,rfl⟩
  .rw[List.getElem?_append_left aa] at hu
   rw[pg.lv k y u h hu]
   refine(Adi λx hx=>?_).symm
   have:=(w.up k u hu).2 x hx
   omega
  .subst hk
   rw[List.getElem?_append_right aa,show N.length-g.Up.length=0 by omega] at hu
   obtain rfl:=Bo hu
   show lev=_
   rw[e8]
   refine(Adi λx hx=>?_).symm
   have:=a.upb x hx
   omega
theorem OL{b:AQ}(h:MH b g)(hb:b.L=[])(hi:b.IDs=[])(hs:xf b.Cards):∃(c:Nat->Jn) (N:Jk),g.Cards=b.Cards/\g.L.length<=200/\Adh g c N/\OI g (c g.L.length) N:=by
 induction h with
 |base=>refine⟨λ_=>⟨[],0⟩,[],rfl,by rw[hb];exact Nat.zero_le _,⟨hs,by rw[hb];exact Nat.zero_le _,by rw[hb];rfl,rfl,λk o ho=>by rw[hb] at ho;simp at ho⟩,⟨by rw[hb];rfl,λk y hy=>by simp at hy,(λx=>by rw[hi];rfl),(λk y u hy=>by simp at hy)⟩⟩
 | @step g o id up row gr w sm _ d a hid hrow ih=>
  obtain⟨c,N,hc,hl,hrun,pg⟩:=ih;have pl:=pg.len;have hro:=a.room;obtain⟨y,f,i,e,hm⟩:=T8 w pg sm d a hid hrow;have el:(pL g o id up row).L=g.L++[o]:=rfl;have ell:(pL g o id up row).L.length=g.L.length+1:=by rw[el];simp
  have eC:(pL g o id up row).Cards=g.Cards:=rfl;refine⟨λk=>if k<=g.L.length then c k else CW (c g.L.length) id N.length,N++[y],hc,aa,⟨by rw[eC];exact hrun.srt,aa,by rw[ell];simp[pl],by show(if 0<=g.L.length then c 0 else _)=_;rw[Bz (Nat.zero_le _)];exact hrun.m0,λk p hp=>?_⟩,?_⟩
  .rw[eC];rcases je (l:=g.L) (x:=o) hp with⟨hk,h⟩|⟨hk,rfl⟩
   .grind [Adh.step]
   grind
  .rw[ell];dsimp only;rw[BW aa];exact e
structure Uq (gg:Aj):Prop where
 pos:∀x n,gg.at_.get x=some n->∃(k:Nat) (y:C3),n=(k:Int)/\gg.nodes[k]?=some y/\k<256
 cl:∀y∈gg.nodes,pG y.o=some y.o
 nc:gg.cards.length<=1000
def M6(gg:Aj)(x:Ab):Option C3:=(gg.at_.get x).bind λn=>aS gg.nodes n
def Agp(gg:Aj)(x y:Ab):Bool:=match gg.at_.get x,M6 gg y with
 |some n,some b=>gW b.past n.toNat
 |_,_=>false
def Pl(gg:Aj):Gi:=⟨λx=>(M6 gg x).map (·.o),Agp gg,λx=>match M6 gg x with|some y=>y.level|none=>0,gg.cards,λd=>gg.cards.find? λc=>decide (c.Device=d)⟩
theorem Ur(h:Uq gg)(e:gg.at_.get x=some n):∃(k:Nat) (y:C3),n=(k:Int)/\aS gg.nodes n=some y/\M6 gg x=some y/\k<256/\y∈gg.nodes:=by
 obtain⟨k,y,rfl,hy,hk⟩:=h.pos x n e;have hz:aS gg.nodes (k:Int)=some y:=by rw[au];exact hy
 refine⟨k,y,rfl,hz,?_,hk,bO hy⟩;unfold M6;rw[e];exact hz
theorem XL(e:gg.at_.get x=none):M6 gg x=none:=by unfold M6;rw[e];rfl
def Y1(q:Ab->Bool)(l:A3)(j:Nat):Nat:=((l.take j).filter q).length
def wK(q:Ab->Bool)(l:A3)(j:Nat):A3:=(l.take j).filter q++l.drop (Y1 q l j)
theorem AlX{q:Ab->Bool}{l:A3}{j:Nat}:Y1 q l j<=j/\Y1 q l j<=l.length:=by grind [Y1]
theorem Aaz{q:Ab->Bool}{l:A3}{j:Nat}:(wK q l j).length=l.length:=by grind [wK,Y1]
theorem AlY{q:Ab->Bool}:(wK q l j)[j]?=l[j]? :=by grind [wK,Y1]
theorem AlZ{q:Ab->Bool}(hx:l[j]?=some x)(hq:q x=false):Y1 q l (j+1)=Y1 q l j/\wK q l (j+1)=wK q l j:=by grind [Hp,Y1,wK]
theorem AnG{q:Ab->Bool}(hx:l[j]?=some x)(hq:q x=true):Y1 q l (j+1)=Y1 q l j+1/\ji (wK q l j) ((Y1 q l j:Nat):Int) x=some (wK q l (j+1)):=by
 have e:(l.take (j+1)).filter q=(l.take j).filter q++[x]:=by grind [Hp]
 have e2:Y1 q l (j+1)=Y1 q l j+1:=by grind [Y1]
 grind [ji,Aaz,wK,List.set_append_right,Y1,List.drop_eq_getElem_cons]
theorem Aj5{q:Ab->Bool}{l:A3}(h:l.findIdx? (λx=> !q x)=some i):i<l.length/\Y1 q l (i+1)=i/\wK q l (i+1)=l:=by
 obtain⟨hi,h1,h2⟩:=List.findIdx?_eq_some_iff_getElem.1 h;have e:(l.take i).filter q=l.take i:=by grind [List.filter_eq_self,List.getElem_of_mem]
 have hx:l[i]?=some l[i]:=EH hi;grind [Y1,AlZ,wK,Pu]
theorem AiO{q:Ab->Bool}(h:l.any (λx=> !q x)=false):l.filter q=l:=by grind [List.filter_eq_self]
theorem XM{q:Ab->Bool}{l:A3}:(wK q l l.length).take (l.filter q).length=l.filter q/\Y1 q l l.length=(l.filter q).length:=by grind [wK,Y1]
theorem AdF{s:A3}{f:Ab->Fp}{p:Ab->Bool}(hn:s.length<2305843009213693952)(hf:∀x∈s,f x=some (p x)):(Wy s f=some (-1)/\s.any p=false)\/∃j:Nat,Wy s f=some (j:Int)/\s.findIdx? p=some j:=by
 obtain⟨r,h1,h2⟩:=AjU (s:=s) p hn (step:=KI s f) (λk x hx=>by unfold KI;rw[CM hx,ax,Bp hx,aL,hf x (bO hx),aL];cases p x<;>simp) (by unfold KI;rw[DH];rfl)
 unfold Wy;rw[h1];rcases h2 with⟨rfl,h2⟩|⟨j,rfl,h2,h3⟩
 .exact .inl ⟨rfl,h2⟩
 .exact .inr ⟨j,rfl,h3⟩
def dfT(del:Ab->Bool)(s:Nat×Nat×A3):Option ((Nat×Nat×A3)⊕(Nat×A3)):=
 bif s.2.2.length<=1000/\s.2.1<=s.1 then bif (s.1:Int)<ah s.2.2 then(aS s.2.2 (s.1:Int)).bind λx=>bif del x then some (.inl (s.1+1,s.2.1,s.2.2))else(ji s.2.2 (s.2.1:Int) x).bind λW=>some (.inl (s.1+1,s.2.1+1,W))else some (.inr s.2)else none
theorem AiP{del:Ab->Bool}(hl:l.length<=1000)(h:l.findIdx? del=some i):AB (dfT del) (i+1,i,l)=some ((l.filter λx=> !del x).length,wK (λx=> !del x) l l.length):=by
 have h':l.findIdx? (λx=> !(!del x))=some i:=by simpa using h
 obtain⟨hi,k1,k2⟩:=Aj5 (q:=λx=> !del x) h';refine T.eq (T.loop (λs=>s.1<=l.length/\s.2.1=Y1 (λx=> !del x) l s.1/\s.2.2=wK (λx=> !del x) l s.1) (λs=>l.length-s.1) (by grind) (by show l.length-(i+1)<_;omega) ?_);rintro⟨j,k,W⟩ ⟨hj,hk,a⟩;dsimp only at hj hk a;subst hk;subst a;unfold dfT;dsimp only;have hlen:=Aaz (q:=λx=> !del x) (l:=l) (j:=j);rw[CO (by grind [AlX]),ax];refine .dec (λhh=>?_) λhh=> .some ?_
 .unfold ah at hh;have hlt:j<l.length:=aa;have hx:l[j]?=some l[j]:=EH hlt;refine .bind (.ix aa (x:=l[j]) (by rw[EO,AlY];exact hx) ?_);refine .ite (λhd=>?_) λhd=>?_
  .obtain⟨a1,a2⟩:=AlZ (q:=λx=> !del x) hx (by simpa using hd);exact .some (by constructor<;>grind)
  .obtain⟨a1,a2⟩:=AnG (q:=λx=> !del x) hx (by simpa using hd);rw[a2];exact .some (by constructor<;>grind)
 .unfold ah at hh;obtain rfl:j=l.length:=aa;rw[XM.2];exact rfl
abbrev zR(W:A3)(i:Nat):Bk:=(W.flatMap aj).take (0+(i:Int).toNat*3)++(bN zI ((W.length-(i:Int).toNat)*3)).map .lit++(W.flatMap aj).drop (0+(i:Int).toNat*3+(W.length-(i:Int).toNat)*3)
theorem Agq(W:A3)(i:Nat):∀g∈zR W i,bB g:=by grind [A9.imm,ac,mN]
theorem AdG(h:i<=W.length):(zR W i).take (i*3)=(W.take i).flatMap aj:=by grind [EO,Pu,A9.len,ac]
section
variable {gl:Cd}
end
abbrev tMI:Bn:=231
abbrev oLi(al:Bb)(v f:Nat):Option Ob:=some ⟨233,[.ptr (Ag al.g) 0,aE aj al.row,.mref v,.mref f],none⟩
abbrev XN(m:FM Ab Bool):Option Ob:=some (Ng tMI ga bG m)
abbrev oBl(b:Nat):Option Ob:=some ⟨181,[.ref b 0],none⟩
abbrev σL(al:Bb):aQ:=[(1,oBl 2),(2,oLi al 3 4),(3,XN al.void),(4,XN al.fork)]
abbrev ρL:DE:=[(0,0),(1,1),(2,2),(3,3),(4,4)]
abbrev kdL:List (Nat×Rk):=[(0,.row),(999999,.clo)]
theorem XP(m:FM Ab Bool):∀e∈X3 ga bG m,bB e.2.1:=by grind [mN]
abbrev mLs(al:Bb):List HP:=[hc (XP al.void),hc (XP al.fork)]
theorem AaA{b:Nat}(h1:ag st.σ b=oLi al v f)(h2:ag st.σ v=XN al.void)(h3:ag st.σ f=XN al.fork):ve P st (.ref b 0) (.ptr (BB al) 0):=by
 refine Mb h1 (Dl _) (Nw rfl λp hp=>?_);simp only[BB,List.zip_cons_cons,List.zip_nil_right,EZ,Lx,or_false] at hp;rcases hp with rfl|rfl|rfl|rfl
 .exact jB (Ah _ _)
 .exact jB (FC _ _)
 .exact OJ h2 λe _=>jB (mN _)
 .exact OJ h3 λe _=>jB (mN _)
theorem Ags{a b:Nat}(h0:ag st.σ a=oBl b)(h1:ag st.σ b=oLi al v f)(h2:ag st.σ v=XN al.void)(h3:ag st.σ f=XN al.fork):ve P st (.ref a 0) (.ptr [.ptr (BB al) 0] 0):=by refine Mb h0 (Dl _) (Nw rfl λp hp=>?_);grind [List.zip_cons_cons,List.zip_nil_right,AaA]
section
variable {gl:Cd}
theorem Aj7{al:Bb}{r:Bool}{c:Nat}(a:aK prog fi=true)(hF:ba prog gl fi [.agg (aj x),.ptr [.ptr (BB al) 0] 0] (bG r)):oJ prog gl fi [.agg (aj x),.ref 1 0] (σL al) c (bG r) [] c:=
 ON a hF (lR _) rfl λst h i y z h1 h2=>by
  match i with
  |0=>cases h1;cases h2;exact jB (aG 20 (.agg (aj x)) aH)
  |1=>cases h1;cases h2;exact Ags (h 1 _ rfl) (h 2 _ rfl) (h 3 _ rfl) (h 4 _ rfl)
  |j+2=>cases h1
theorem Agt{f:Ab->Fp}(hv:R7 prog gl fi [] [.ptr [.ptr (BB al) 0] 0] (λx:Ab=>[.agg (aj x)]) (λb:Bool=>bG b) f){l:A3}(e:Wy l f=some r):oJ prog gl 112 [.rsl 0 0 l.length,.clo (.func fi) [] [.ref 1 0]] ((0,Bt l)::σL al) 5 (iG r) [] 5:=
 ON aH (gS gl hv e) (lR _) rfl λst h i x y h1 h2=>by
  match i with
  |0=>
   cases h1;cases h2;exact FD (s:=3) (h 0 _ rfl) aH (by show 0+l.length*3<=(l.flatMap aj).length;rw[ac.len];omega) (ac.len l) λj g c a b=>by rw[Nat.zero_add] at a;rw[show(l.flatMap aj)[j]?=some g from a] at b;cases b;exact jB (ac.imm l g (bO a))
  |1=>
   cases h1;cases h2;exact SX rfl rfl (λi g c a b=>by cases a) (λi g c a b=>by
    match i with
    |0=>cases a;cases b;exact Ags (h 1 _ rfl) (h 2 _ rfl) (h 3 _ rfl) (h 4 _ rfl)
    |j+1=>cases a)
  |j+2=>cases h1
theorem Al0{σ:aQ}{i:Nat}(h:i<W.length):rF prog ((0,Bt W)::σ) 26 (.rsl 0 (0+(i:Int).toNat*3) (W.length-(i:Int).toNat))=some (0,⟨36,zR W i,none⟩):=by have e1:dp prog 26=some 36:=aH;have e2:jj prog 36=some zI:=aH;have e3:bw prog 36=some 3:=aH;have e4:ag ((0,Bt W)::σ) 0=some ⟨36,W.flatMap aj,none⟩:=rfl;have e5:(i:Int).toNat=i:=EO i;unfold rF;rw[e1];simp only[e2,e3,e4];rw[Bz ⟨rfl,aa,B5,by rw[ac.len];omega,rfl⟩]
theorem AcN{del:Ab->Bool}(a:aK prog fi=true)(hF:∀x,ba prog gl fi [.agg (aj x),.ptr [.ptr (BB al) 0] 0] (bG (del x)))(hl:l.length<=1000):SH prog gl 50 [.rsl 0 0 l.length,.clo (.func fi) [] [.ref 1 0]] ((0,Bt l)::σL al) 5 5 (.rsl 0 0 (l.filter λx=> !del x).length) ((0,Bt (l.filter λx=> !del x))::σL al):=by
 have hv:R7 prog gl fi [] [.ptr [.ptr (BB al) 0] 0] (λx:Ab=>[.agg (aj x)]) (λb:Bool=>bG b) (λx=>some (del x)):=⟨a,bf,eB aH,λx r e=>by cases e;exact hF x⟩;refine dFP func50 ?_;rcases AdF (s:=l) (p:=del) aa (λx _=>rfl) with⟨e,h0⟩|⟨i,e,h0⟩
 .have hi:=Agt hv e;rw[AiO (by simpa using h0)];exact ZT [hz 10 [0,1,2,3,4] hi] (hc (el l)::hc (ac.imm l)::mLs al) ρL kdL
 .have hi:=Agt hv e;have hlt:=(List.findIdx?_eq_some_iff_getElem.1 h0).1;have hkn:(l.filter λx=> !del x).length<l.length:=by have:=Aj5 (q:=λx=> !del x) (by simpa using h0);have h2:=XM (q:=λx=> !del x) (l:=l);refine Nat.lt_of_le_of_ne (KZ _ _) λhe=>?_;have h3:=List.length_filter_eq_length_iff.1 he _ (List.getElem_mem hlt);have h4:=(List.findIdx?_eq_some_iff_getElem.1 h0).2.1;simp[h4] at h3
  refine pN (λs:Nat×Nat×A3=>(s0 42 gl [(0,.rsl 0 0 s.2.2.length),(1,.clo (.func fi) [] [.ref 1 0]),(5,iG (s.2.1:Int)),(6,iG (s.1:Int))] ((0,Bt s.2.2)::σL al) 5 5)) 11110122 (AiP hl h0) [hz 10 [0,1,2,3,4] hi,hr 12 (show decide ((i:Int)= -1)=false from C5 aa),hbb 15 (Xl (q:=i) aa)] (hc (el l)::hc (ac.imm l)::mLs al) (λB s w hs k5 h=>?_) [] ρL kdL;obtain⟨j,k,W⟩:=s;unfold dfT at hs;dsimp only at hs;cases b0:decide (W.length<=1000/\k<=j) with
  |false=>rw[b0] at hs;cases hs
  |true=>
  rw[b0,ax] at hs;obtain⟨g1,g2⟩:=DD b0;rcases bC hs with⟨b1,hs⟩|⟨b1,hs⟩
  .have hjl:=DD b1;unfold ah at hjl;obtain⟨x,d,hs⟩:=bS hs;have hcl:=Aj7 (al:=al) (c:=6) a (hF x);have hjb:j<1000000:=aa;cases hd:del x with
   |true=>rw[hd] at hs hcl;obtain rfl:=Bo hs;exact jw [hr 19 b1,Az 24 (ac.ixrZ 0 d),Az 25 (ac.pt0Z aW d),hz 28 [1,2,3,4] hcl,hbb 21 (Xl (q:=j) aa)] (hc (el W)::hc (ac.imm W)::mLs al) (k5 _ rfl) [] ρL kdL
   |false=>rw[hd] at hs hcl;obtain⟨f,e2,hs⟩:=bS hs;obtain rfl:=Bo hs;have hkb:k<1000000:=aa;exact jw [hr 19 b1,Az 24 (ac.ixrZ 0 d),Az 25 (ac.pt0Z aW d),hz 28 [1,2,3,4] hcl,Az 33 (ac.ixsZ 0 e2),hw 33 (f.flatMap aj) (ac.putZ e2),hbb 35 (Xl (q:=k) aa),hbb 21 (Xl (q:=j) aa)] (hc (hZ e2)::hc (ac.imm f)::mLs al) (k5 _ rfl) [] ρL kdL
  .obtain rfl:=Bo hs;have ek:=h _ rfl;simp only[Fw] at ek;obtain⟨ek,g⟩:=ek;have hkW:k<W.length:=by rw[g,Aaz,ek];exact hkn
   have e:(zR W k).take (k*3)=(l.filter λx=> !del x).flatMap aj:=by rw[AdG (Nat.le_of_lt hkW),g,ek,XM.1]
   rw[<-ek];generalize (l.filter λx=> !del x)=F at e⊢;refine pO 1111110 (J:=(s0 42 gl [(0,.rsl 0 0 W.length),(5,iG (k:Int))] ((ob 0 36 (zR W k))::σL al) 5 5)) [hr 19 b1,Az 38 (ac.sufZ 0 (l:=W) (i:=(k:Int)) (y:=W.drop k) (by unfold mc;rw[Bz ⟨aa,by rw[EO];omega⟩,EO])),Go.Proofs.YtlijnaneopediaaGreatDoor.hcl 5 (Al0 (σ:=σL al) hkW)] (hc (el W)::hc (Agq W k)::mLs al) ?_ [] ρL kdL;refine dSh 0 (k*3) ?_;show Gp _ _ _ _ _ _ (s0 42 gl [(0,.rsl 0 0 W.length),(5,iG (k:Int))] ((ob 0 36 ((zR W k).take (k*3)))::(ob 0 36 (zR W k))::σL al) 5 5);rw[e];exact ZT [Az 41 (ac.preZ 0 (l:=W) (i:=(k:Int)) (y:=W.take k) (by unfold tq;rw[Bz ⟨aa,by rw[EO];omega⟩,EO]))] (hc (rfl:k=k)::hc (ac.imm F)::mLs al) ρL kdL
end
def JJ(k:Int):Bool:=bif k=3 then true else bif k=13 then true else decide (k=12)
def NQ(I:Gi)(R:Ad)(x:Ab):Ad:=Vq R (I.o x) x
def AbI(I:Gi)(cs:A3):Ad:=cs.foldl (NQ I) (Hh I.cards)
theorem XQ{I:Gi}:∀{l:A3} {R:Ad},Bi R->(∀x∈l,UQ (I.o x) x)->Bi (l.foldl (NQ I) R)
 |[],R,h,_=>h
 |x::r,R,h,hx=>XQ (l:=r) (Sb h (hx x aC)) (by grind)
section
variable {gl:Cd} {gg:Aj} {I:Gi}
theorem Aer(k:Int):ba prog gl 229 [iG k] (bG (JJ k)):=Yc gl (by unfold WE JJ;cases decide (k=3)<;>cases decide (k=13)<;>rfl)
theorem Ah4{al:Bb}(h:Pa gl al.g I)(x:Ab):ba prog gl 228 [.agg (aj x),.ptr [.ptr (BB al) 0] 0] (bG (!JJ (I.o x).Kind)):=by have h1:=h.op x;have h2:=Aer (gl:=gl) (I.o x).Kind;refine Gh func228 ?_;exact Ar [hf 12 h1,hf 17 h2] []
theorem AaB{al:Bb}(x:Ab):ba prog gl 230 [.agg (aj x),.ptr [.ptr (BB al) 0] 0] (bG (AH (al.void.get x))):=PC gl rfl
abbrev ρr0:DE:=[(0,0),(1,1),(2,2),(3,3),(4,4),(5,5),(6,6),(7,7),(8,8),(9,9),(10,10),(11,11),(12,12),(13,13)]
abbrev ρr2:DE:=[(0,0),(1,1),(2,2),(3,3),(4,4),(5,16),(6,17),(7,18),(8,19),(9,20),(10,21),(11,22),(12,23),(13,24)]
theorem Ah5(h:Pa gl gg I)(hc:Ael I.cards){ids cs:A3}(hC:ba prog gl 68 [.ptr (Ag gg) 0,aE aj ids] (aE aj cs))(hl:∀x∈cs,UQ (I.o x) x)(hn:cs.length<=1000):SH prog gl 24 [.ptr (Ag gg) 0,aE aj ids] [] 0 0 (.ref 0 0) (BG f0 (AbI I cs)):=by
 have hQ:∀k,Bi ((cs.take k).foldl (NQ I) (Hh I.cards)):=λk=>XQ (Lz hc.r) λx hx=>hl x (List.mem_of_mem_take hx);refine dFP func24 ?_;refine Un (l:=cs) aa (λk:Nat=>(s0 33 gl [(0,.ptr (Ag gg) 0),(5,.ref 0 0),(15,aE aj cs),(16,iG (ah cs)),(17,iG (k:Int))] (BG f0 ((cs.take k).foldl (NQ I) (Hh I.cards))) 14 0)) 1110122 [hf 11 h.cards,hrn 12 0 [aE bv I.cards] (Lz hc.r) (Age gl hc),hf 15 hC] (rlB ρr0 (OP 0) (hQ 0)) (λB k x hx hz k5=>?_) (λB=>?_) [] ρr0 N3
 .have hlt:=(cr hx).1;have hq:=hQ k;have a:=hl x (bO hx);rw[Hp,hx,Option.toList_some,O8,List.foldl_cons,List.foldl_nil] at k5;generalize (cs.take k).foldl (NQ I) (Hh I.cards)=Q at hq k5⊢;unfold NQ at k5;have b:=Sb hq a;exact jw [hr 18 (CM hx),Az 19 (ac.ixZ hz),Az 20 (ac.ptZ aW hz),hf 24 (h.op x),hrw 30 f0 16 [.agg (aJ (I.o x)),.agg (aj x)] hq b (Agd gl hq a),hbb 31 (Xl (q:=k) aa)] (rlB ρr2 (fW f0 16) b) k5 [] ρr2 N3
 .rw[D3];exact ZT [hr 18 (DH (s:=cs))] (rlB ρr0 f0 (XQ (Lz hc.r) hl)) ρr0 N3
end
section
variable {g:AQ} {m:Jn} {N:Jk}
theorem AbJ(w:Fq g)(p:OI g m N)(h:bu x g.IDs=some k):∃y,N[k]?=some y/\k<256/\y.id=x:=by have h1:=(gb h).1;have hlt:=(cr h1).1;have n1:=w.nL;have n2:=w.nI;have a:=p.len;have hy:N[k]?=some (N[k]'aa):=EH _;have:=(p.nd k _ hy).2.1;rw[h1] at this;exact⟨_,hy,aa,(Bo this).symm⟩
theorem Us(w:Fq g)(p:OI g m N)(x:Ab):M6 ⟨g.Cards,m,N⟩ x=(bu x g.IDs).bind λk=>N[k]? :=by
 unfold M6;show(m.get x).bind _=_;rw[p.get];cases bu x g.IDs with
 |none=>rfl
 |some k=>exact au
theorem AiQ(w:Fq g)(p:OI g m N)(x:Ab):(Pl ⟨g.Cards,m,N⟩).op x=(bu x g.IDs).bind λk=>g.L[k]? :=by
 show(M6 _ x).map (·.o)=_;rw[Us w p];cases hk:bu x g.IDs with
 |none=>rfl
 |some k=>obtain⟨y,h1,_,_⟩:=AbJ w p hk;show(N[k]?).map _=g.L[k]?;rw[h1,(p.nd k y h1).1];rfl
theorem Ut(w:Fq g)(p:OI g m N)(x y:Ab):(Pl ⟨g.Cards,m,N⟩).bef x y=match bu x g.IDs,bu y g.IDs with|some i,some j=>Pm g j i|_,_=>false:=by
 show Agp _ x y=_;unfold Agp;show(match m.get x,M6 ⟨g.Cards,m,N⟩ y with|some n,some b=>gW b.past n.toNat|_,_=>false)=_;rw[Us w p,p.get];cases hx:bu x g.IDs with
 |none=>rfl
 |some i=>
  cases hy:bu y g.IDs with
  |none=>rfl
  |some j=>obtain⟨b,h1,_,_⟩:=AbJ w p hy;obtain⟨_,_,h2,_⟩:=AbJ w p hx;show(match some (i:Int),N[j]? with|some n,some b=>gW b.past n.toNat|_,_=>false)=_;rw[h1];exact(p.nd j b h1).2.2.1 i h2
end
def GD(s:List EY×Int):Option ((List EY×Int)⊕(List EY)):=
 bif 0<s.2 then(aS s.1 s.2).bind λa=>(aS s.1 (wI (s.2-1))).bind λb=>(wz a b).bind λr=>bif r<0 then(ji s.1 s.2 b).bind λw1=>(ji w1 (wI (s.2-1)) a).bind λw2=>some (.inl (w2,wI (s.2-1)))else some (.inr s.1)else some (.inr s.1)
def Ln(n:Int)(s:List EY×Int):Option ((List EY×Int)⊕(List EY)):=
 bif s.2<n then(AB GD (s.1,s.2)).bind λl=>some (.inl (l,wI (s.2+1)))else some (.inr s.1)
def So(l:List EY):Option (List EY):=AB (Ln (ah l)) (l,wI (0+1))
structure Anh {K V:Type} (m:FM K V):Prop where
 nd:(m.es.map (·.2.2)).Nodup
 lt:∀e∈m.es,e.2.2<m.clk
structure Ani (m:FM EY Nat) (srt:List EY):Prop where
 ok:Anh m
 n:m.es.length<=12
 sr:∀ks:List EY,ks.Perm (m.es.map (·.1))->So ks=some srt
 len:srt.length=m.es.length
theorem Lt{l:Bh}{k:Nat}{v:Int}(hl:l.length<=3)(hv:v≠0)(hk:l[k]?=some v)(h:∀j,j<k->l[j]?=some 0):iy l=some v:=by
 unfold iy;refine T.eq (.bind ((T.search l (λy=>decide (y≠0)) (λ_ y=>y) aa (λk x hx hk=>?_) ?_).mono ?_))
 .grind [fm,eA,au,aq]
 .unfold fm;rw[eF,A7]
 .rintro r (⟨rfl,h0⟩|⟨k',x,hx,hp,rfl,h0⟩)
  .have:=h0 v (bO hk);simp[hv] at this
  .refine .some ?_;grind
theorem Uj:iy [0,0,0]=some 0:=by
 unfold iy;refine T.eq (.bind ((T.search [0,0,0] (λy=>decide (y≠0)) (λ_ y=>y) B5 (λk x hx hk=>?_) ?_).mono ?_))
 .grind [fm,eA,au,aq]
 .unfold fm;rw[eF,A7]
 .rintro r (⟨rfl,h0⟩|⟨k',x,hx,hp,rfl,h0⟩)
  .exact .some rfl
  grind
theorem EW(a b:Ab):pE a b=some (dt a b):=by
 by_cases hl:dt a b=true
 .rw[hl];exact MW hl
 have hl:dt a b=false:=by simpa using hl
 rw[hl];unfold pE;rw[Ax,Ax,MV];simp only[aL];unfold dt at hl;by_cases h1:a.By=b.By
 .rw[BW (by simp[h1])] at hl;by_cases h2:a.Seq=b.Seq
  .rw[BW (by simp[h2])] at hl;have h3:=Lw hl;by_cases h4:b.Sum<a.Sum
   .rw[Lt (k:=2) (v:=1) aC B5 (by simp[h3,h4]) (by grind)];rfl
   grind [Uj]
  .rw[Bz h2] at hl;have h3:=Lw hl;rw[Lt (k:=1) (v:=1) aC B5 (by simp[h3];omega) (by grind)];rfl
 .rw[Bz h1] at hl;have h3:=Lw hl;rw[Lt (k:=0) (v:=1) aC B5 (by simp[h3];omega) (by grind)];rfl
theorem EX(h1:dt a b=false)(h2:dt b a=false):a=b:=by obtain⟨x,y,z⟩:=a;obtain⟨c,d,e⟩:=b;grind [dt]
def AbK(x y:Int):Int:=bif x<y then-1 else bif y<x then 1 else 0
def He(a b:Ab):Int:=bif dt a b then-1 else bif dt b a then 1 else 0
def M7(I:Gi)(a b:Ab):Int:=bif AbK (I.lev a) (I.lev b)≠0 then AbK (I.lev a) (I.lev b)else He a b
theorem AdH(x y:Int):f8 x y=some (AbK x y):=by unfold f8 AbK FI;have h1:decide (x≠x)=false:=C5 aC;have h2:decide (y≠y)=false:=C5 aC;simp only[h1,h2,aL,A7];cases decide (x<y)<;>cases decide (y<x)<;>rfl
theorem Ah6(u v:Int):iy [u,v]=some (bif u≠0 then u else v):=by
 unfold iy;refine T.eq (.bind (T.forI 2 (λk=>0<k->u=0/\(1<k->v=0)) aa (λh=>absurd h (Nat.lt_irrefl _)) (λk hk a=>?_) λa=>?_))
 .unfold fm;rcases(by omega:k=0\/k=1) with rfl|rfl
  .show T ((bif u≠0 then _ else _)) _;refine .ite (λh=> .some (.some ?_)) λh=> .some ⟨rfl,λ_=>⟨by simpa using h,λh=>absurd h (Nat.lt_irrefl _)⟩⟩;rw[h];rfl
  .obtain⟨hu,_⟩:=a aa;show T ((bif v≠0 then _ else _)) _;refine .ite (λh=> .some (.some ?_)) λh=> .some ⟨rfl,λ_=>⟨hu,λ_=>by simpa using h⟩⟩;subst hu;rfl
 .obtain⟨hu,hv⟩:=a aa;have hv:=hv aa;subst hu;subst hv;exact .some (.some rfl)
theorem Aj8(h:Uq gg)(x:Ab):Fj gg x=some ((Pl gg).lev x):=by
 unfold Fj FR;cases e:gg.at_.get x with
 |none=>show _=some (match M6 gg x with|some y=>y.level|none=>0);rw[XL e];rfl
 |some n=>obtain⟨k,y,rfl,hz,hn,hk,hm⟩:=Ur h e;show _=some (match M6 gg x with|some y=>y.level|none=>0);rw[hn];simp only[Option.isSome_some,ax,MZ,hz,aL]
theorem Ah7(h:Uq gg)(a b:Ab):K4 ⟨gg⟩ a b=some (M7 (Pl gg) a b):=by unfold K4;rw[EW,EW];unfold M7 He;cases h1:dt a b<;>cases h2:dt b a<;>(simp only[ax,A7,aL,Aj8 h,AdH,Ah6])
theorem Ah8{gl:Cd}(h:Uq gg)(a b:Ab):ba prog gl 129 [.agg (Nr ⟨gg⟩),.agg (aj a),.agg (aj b)] (iG (M7 (Pl gg) a b)):=Sd gl (Ah7 h a b)
theorem AaC{gl:Cd}{s:A3}(hn:s.length<=1000)(v:Ab):ba prog gl 180 [aE aj s,.agg (aj v)] (bG (s.any λy=>decide (v=y))):=Jm gl (UG aa v)
abbrev dR(l:A3)(i:Nat):Bk:=(l.flatMap aj).take (i*3)++(l.drop (i+1)).flatMap aj++(l.flatMap aj).drop (i*3+(l.length-(i+1))*3)
abbrev zD(L:Bk)(n:Nat):Bk:=L.take (n*3)++(bN zI (1*3)).map .lit++L.drop (n*3+1*3)
theorem AcO(h:i<l.length):(dR l i).length=l.length*3:=by grind [A9.len,ac]
theorem Aj9(l:A3)(i:Nat):∀g∈dR l i,bB g:=by grind [A9.imm,ac]
theorem Aka{L:Bk}(h:∀g∈L,bB g)(n:Nat):∀g∈zD L n,bB g:=by grind [mN]
theorem Ah9{l:A3}{i:Nat}(h:i<l.length):(zD (dR l i) (l.length-1)).take ((l.length-1)*3)=(l.eraseIdx i).flatMap aj:=by
 have hl:=AcO h;have e1:(zD (dR l i) (l.length-1)).take ((l.length-1)*3)=(dR l i).take ((l.length-1)*3):=by grind
 have e2:(l.flatMap aj).take (i*3)=(l.take i).flatMap aj:=by grind [Pu,A9.len,ac,LL]
 grind [A9.len,ac]
theorem cI:dp prog 26=some 36/\bw prog 36=some 3/\jj prog 36=some zI:=⟨aH,aH,aH⟩
def hai(d:Nat){P:Br}{σ:aQ}{t:Bn}{gx gy:G}{i n:Nat}{ob:Ob}(h:R3 P σ t gx gy=some (i,ob,n)):HP:=⟨some (.i d i ob n),R3 P (UI σ (fR gx++fR gy)) t gx gy=some (i,ob,n),(Ade Hl).symm.trans h⟩
theorem Akb{l:A3}{i:Nat}(h:i<l.length):R3 prog [(0,Bt l)] 26 (.rsr 0 i) (.rsl 0 (0+((i+1:Nat):Int).toNat*3) (l.length-((i+1:Nat):Int).toNat))=some (0,⟨36,dR l i,none⟩,l.length-1):=by
 have e4:ag [(0,Bt l)] 0=some ⟨36,l.flatMap aj,none⟩:=rfl;have hlen:=ac.len l;have e5:fO [(0,Bt l)] 3 (.rsl 0 ((i+1)*3) (l.length-(i+1)))=some ((l.drop (i+1)).flatMap aj,l.length-(i+1)):=by
  unfold fO;simp only[e4,aL];rw[Bz (by rw[hlen];omega)];congr 2;have:(l.flatMap aj).drop ((i+1)*3)=(l.drop (i+1)).flatMap aj:=by
   conv=>lhs;rw[<-Pu (i+1) l,List.flatMap_append]
   grind [List.drop_left',A9.len,ac]
  grind [A9.len,ac]
 rw[EO,Nat.zero_add];grind [R3,cI]
theorem Akc{l:A3}{i:Nat}(h:i<l.length):sJ prog 26 (.rsl 0 0 l.length) (iG (i:Int)) (iG ((i+1:Nat):Int)) (iG (ah l))=some .junk:=by unfold sJ ah;grind [xL,cI]
theorem Akd{l:A3}{i:Nat}(h:i<l.length):JB prog [] 26 (.rsl 0 0 l.length) none (some (i:Int))=some (.rsr 0 i):=by unfold JB;grind [cI]
theorem Ake{l:A3}{i:Nat}(h:i<l.length):JB prog [ob 0 36 (dR l i)] 26 (.rsr 0 (l.length-1)) (some ((l.length-1:Nat):Int)) (some (ah l))=some (.rsl 0 ((l.length-1)*3) 1):=by have e4:ag [ob 0 36 (dR l i)] 0=some (⟨36,dR l i,none⟩:Ob):=rfl;unfold JB ah;simp only[cI.1,cI.2.1,e4];rw[Bz (by grind [AcO]),EO,EO,show l.length-(l.length-1)=1 by omega]
theorem Akf{l:A3}{i:Nat}(h:i<l.length):rF prog [ob 0 36 (dR l i),(1,some BC),(0,Bt l)] 26 (.rsl 0 ((l.length-1)*3) 1)=some (0,⟨36,zD (dR l i) (l.length-1),none⟩):=by have e4:ag [ob 0 36 (dR l i),(1,some BC),(0,Bt l)] 0=some (⟨36,dR l i,none⟩:Ob):=rfl;unfold rF;simp only[cI.1,cI.2.1,cI.2.2,e4];rw[Bz ⟨rfl,aa,B5,by rw[AcO h];omega,rfl⟩]
theorem ZM{l:A3}{i:Nat}(hl:l.length<=1000)(h:i<l.length):jg prog gl 232 [.rsl 0 0 l.length,iG (i:Int),iG ((i+1:Nat):Int)] [(0,Bt l)] 1 (.rsl 0 0 (l.length-1)) [(0,Bt (l.eraseIdx i))] 1:=by have hz:=Ah9 h;have hi:=Aka (Aj9 l i) (l.length-1);refine pP func232 ?_;refine pO 11111110 (J:=(s0 33 gl [(0,.rsl 0 0 (l.length-1))] [ob 0 36 (zD (dR l i) (l.length-1))] 1 1)) [hcv 13 (g:= .junk) (Akc h),hr 16 (show decide ((i:Int)=((i+1:Nat):Int))=false from C5 aa),hcv 22 (g:= .rsr 0 i) (Akd h),Az 25 (ac.sufZ 0 (l:=l) (i:=((i+1:Nat):Int)) (y:=l.drop (i+1)) (by unfold mc;rw[Bz ⟨aa,by rw[EO];omega⟩,EO])),hai 26 (Akb h),hcv 31 (g:= .rsl 0 ((l.length-1)*3) 1) (Ake h),hcl 2 (Akf h)] [hc (rfl:l.length-1=l.length-1),hc hi] ?_;refine dSh 0 ((l.length-1)*3) ?_;show Gp _ _ _ _ _ _ (s0 33 gl [(0,.rsl 0 0 (l.length-1))] ((ob 0 36 ((zD (dR l i) (l.length-1)).take ((l.length-1)*3)))::[ob 0 36 (zD (dR l i) (l.length-1))]) 1 1);rw[hz];exact mt .ret (s0 33 gl [(6,.rsl 0 0 (l.length-1))] [(0,Bt (l.eraseIdx i))] 1 1) [.rsl 0 0 (l.length-1)] [] [hc (rfl:l.length-1=l.length-1),hc (ac.imm (l.eraseIdx i))]
theorem AdI{gl:Cd}{fid:FuncId}{gs gs':Bk}{σR:aQ}{t:Bn}{m:Nat}{l:Bk}{c:Nat}(hc:aK P fid=true)(hF:iV P gl fid gs' t m l)(hr:∀g∈l,∃v,g= .lit v)(hl:gs'.length=gs.length)(hz:∀st:St,(∀i o,ag σR i=some o->ag st.σ i=some o)->∀(i:Nat) (x y:G),gs[i]?=some x->gs'[i]?=some y->ve P st x y):oJ P gl fid gs σR c (.rsl c 0 m) [(c,some ⟨t,l,none⟩)] (c+1):=λo st y xs ats fst cap ho hd hx hgs hgl b a=>by grind [H4,WG]
abbrev tSe:Bn:=265
abbrev oSe(m:FM Int Int):Option Ob:=some (Ng tSe JN iG m)
theorem AiR{σ:aQ}(m:FM Int Int)(h:ag σ 4=oSe m)(k v:Int):dZ prog σ tSe (.mref 4) (iG k) (iG v)=some (4,Ng tSe JN iG (C6 m k v)):=Af6 (P:=prog) (et:=3) PE Adt aH (k:=k) (gk:=iG k) rfl (m:=m) h v
theorem AiS(k:Ab):Instr.sameBits 10000 (ga k) (ga k)=true:=by(unfold ga Pe;simp[Instr.sameBits])
theorem Akg{σ:aQ}{i:Nat}(m:FM Ab Bool)(h:ag σ i=XN m)(k:Ab):dZ prog σ tMI (.mref i) (.agg (aj k)) (bG true)=some (i,Ng tMI ga bG (C6 m k true)):=Af6 (P:=prog) (et:=4) jt AiS aH (k:=k) (gk:= .agg (aj k)) rfl (m:=m) h true
def TC(cs:Mw):FM Int Int:=cs.foldl (λm c=>C6 m c.Device 12) ⟨[],0⟩
def UR(m:FM Int Int)(s:Bh):Nat->FM Int Int
 |0=>m
 |k+1=>match s[k]? with
  |some d=>C6 (UR m s k) d (k:Int)
  |none=>UR m s k
def NR(cs:Mw)(s:Bh):FM Int Int:=UR (TC cs) s s.length
abbrev wV(al:Bb)(v:FM Ab Bool):Bb:={al with void:=v}
def vFu(I:Gi)(row a:A3)(x:Ab)(v:FM Ab Bool)(y:Ab):FM Ab Bool:=bif D5 I x y then C6 v y true else bif a.any (λz=>decide (y=z))&&DZ I row x y then C6 v y true else v
def vAl(I:Gi)(row a:A3)(x:Ab)(v:FM Ab Bool):FM Ab Bool:=row.foldl (vFu I row a x) v
def Agu(I:Gi)(al:Bb)(sen:FM Int Int)(s:A3×FM Ab Bool):Option ((A3×FM Ab Bool)⊕FM Ab Bool):=
 bif s.1.length<=1000 then
 (λl1:A3=>bif ah l1=0 then some (.inr s.2)else(AB (Agn I al.row l1 sen) (0,-1)).bind λi=>(aS l1 i).bind λx=>
   bif(Fa I (wV al s.2)).any (λz=>decide (x=z))then some (.inl (l1.eraseIdx i.toNat,vAl I al.row (l1.eraseIdx i.toNat) x s.2))else some (.inl (l1.eraseIdx i.toNat,C6 s.2 x true)))
 (s.1.filter λx=> !AH (s.2.get x))
 else none
def AcP(I:Gi)(al:Bb)(sen:FM Int Int):Option (FM Ab Bool):=AB (Agu I al sen) (al.row.filter (λx=> !!JJ (I.o x).Kind),al.void)
abbrev σ3(al:Bb):aQ:=[(0,oLi al 1 2),(1,XN al.void),(2,XN al.fork)]
abbrev σ5(al:Bb)(sen:FM Int Int):aQ:=σ3 al++[(3,oBl 0),(4,oSe sen)]
abbrev σ6(al:Bb)(sen:FM Int Int)(l:A3):aQ:=σ5 al sen++[(5,Bt l)]
theorem Akh(m:FM Int Int):∀e∈X3 JN iG m,bB e.2.1:=by grind [mN]
theorem Agv{κ:Nat->Fu}{b b':Nat}(h:κ b=some b'):∀ob,oBl b'=some ob->∃o,oBl b=some o/\MB κ o ob:=λob e=>by cases e;refine⟨_,rfl,rfl,.inl ?_⟩;grind [qg]
theorem AaD{κ:Nat->Fu}{al:Bb}{v v' f f':Nat}(h:κ v=some v')(h2:κ f=some f'):∀ob,oLi al v' f'=some ob->∃o,oLi al v f=some o/\MB κ o ob:=λob e=>by cases e;refine⟨_,rfl,rfl,.inl ?_⟩;grind [qg]
theorem Qh{κ:Nat->Fu}{m:FM Ab Bool}:∀ob,XN m=some ob->∃o,XN m=some o/\MB κ o ob:=λob e=>by cases e;exact⟨_,rfl,rfl,rfl,rfl,rfl,.inr ⟨rfl,XP m⟩⟩
theorem AdJ{κ:Nat->Fu}:∀ob,Bt l=some ob->∃o,Bt l=some o/\MB κ o ob:=λob e=>by cases e;exact⟨_,rfl,rfl,.inr ⟨rfl,ac.imm l⟩⟩
theorem Al1(al:Bb)(l:A3):InP (vi [5,3,0,1,2]) [5,3,0,1,2] [(5,Bt l),(3,oBl 0),(0,oLi al 1 2),(1,XN al.void),(2,XN al.fork)] ((0,Bt l)::σL al):=λk o0 h=>by
 match k with
 |0=>obtain⟨o,h1,h2⟩:=AdJ (κ:=vi [5,3,0,1,2]) o0 h;exact⟨5,o,rfl,h1,h2⟩
 |1=>obtain⟨o,h1,h2⟩:=Agv (κ:=vi [5,3,0,1,2]) (b:=0) (b':=2) rfl o0 h;exact⟨3,o,rfl,h1,h2⟩
 |2=>obtain⟨o,h1,h2⟩:=AaD (κ:=vi [5,3,0,1,2]) (al:=al) (v:=1) (v':=3) (f:=2) (f':=4) rfl rfl o0 h;exact⟨0,o,rfl,h1,h2⟩
 |3=>obtain⟨o,h1,h2⟩:=Qh (κ:=vi [5,3,0,1,2]) (m:=al.void) o0 h;exact⟨1,o,rfl,h1,h2⟩
 |4=>obtain⟨o,h1,h2⟩:=Qh (κ:=vi [5,3,0,1,2]) (m:=al.fork) o0 h;exact⟨2,o,rfl,h1,h2⟩
 |j+5=>cases h
theorem Aki(al:Bb)(l d:A3)(c:Nat):Abg (kO ((0,Bt l)::σL al) [5,3,0,1,2] 5 0 c) ((0,Bt d)::σL al) [(5,Bt d),(3,oBl 0),(0,oLi al 1 2),(1,XN al.void),(2,XN al.fork)]:=λi o h0=>by
 generalize hκ:kO ((0,Bt l)::σL al) [5,3,0,1,2] 5 0 c=κ;have h0':κ 0=some 5:=by rw[<-hκ];rfl
 have h1':κ 1=some 3:=by rw[<-hκ];rfl
 have h2':κ 2=some 0:=by rw[<-hκ];rfl
 have h3':κ 3=some 1:=by rw[<-hκ];rfl
 have h4':κ 4=some 2:=by rw[<-hκ];rfl
 match i with
 |5=>obtain⟨a,h1,h2⟩:=AdJ (κ:=κ) o h0;exact⟨0,a,h0',h1,h2⟩
 |3=>obtain⟨a,h1,h2⟩:=Agv (κ:=κ) (b:=2) (b':=0) h2' o h0;exact⟨1,a,h1',h1,h2⟩
 |0=>obtain⟨a,h1,h2⟩:=AaD (κ:=κ) (al:=al) (v:=3) (v':=1) (f:=4) (f':=2) h3' h4' o h0;exact⟨2,a,h2',h1,h2⟩
 |1=>obtain⟨a,h1,h2⟩:=Qh (κ:=κ) (m:=al.void) o h0;exact⟨3,a,h3',h1,h2⟩
 |2=>obtain⟨a,h1,h2⟩:=Qh (κ:=κ) (m:=al.fork) o h0;exact⟨4,a,h4',h1,h2⟩
 |4=>cases h0
 |j+6=>cases h0
theorem Al2:aK prog 50=true:=aH
abbrev hdl(d c:Nat){fi:FuncId}{al:Bb}{del:Ab->Bool}{gl:Cd}(a:aK prog fi=true)(hF:∀x,ba prog gl fi [.agg (aj x),.ptr [.ptr (BB al) 0] 0] (bG (del x))){l l':A3}(hl:l.length<=1000)(e:(l.filter λx=> !del x)=l')(hlt:[5,3,0,1,2].all (λi=>Nat.blt i c)=true:=by kernel_rfl):HP:=
 hfm d [5,3,0,1,2] 5 0 c [(5,Bt l),(3,oBl 0),(0,oLi al 1 2),(1,XN al.void),(2,XN al.fork)] [.rsl 5 0 l.length,.clo (.func fi) [] [.ref 3 0]] [(5,Bt l'),(3,oBl 0),(0,oLi al 1 2),(1,XN al.void),(2,XN al.fork)] (e▸AcN a hF hl) (Al1 al l) (Aki al l l' c) Al2 hlt
section
variable {gl:Cd} {P:Br}
theorem AaE(h:ag st.σ i=Bt l):ve prog st (.rsl i 0 l.length) (aE aj l):=FD (s:=3) h aH (by grind [A9.len,ac]) (ac.len l) (by grind [jB,A9.imm,ac])
theorem AbL{al:Bb}{l:A3}{sen:FM Int Int}{c:Nat}(hF:ba prog gl 231 [.ptr (BB al) 0,aE aj l,FM.g JN iG sen] (iG r)):oJ prog gl 231 [.ref 0 0,.rsl 5 0 l.length,.mref 4] (σ6 al sen l) c (iG r) [] c:=
 ON aH hF (lR _) rfl λst h i x y h1 h2=>by
  match i with
  |0=>grind [AaA]
  |1=>cases h1;cases h2;exact AaE (h 5 _ rfl)
  |2=>cases h1;cases h2;exact OJ (h 4 _ rfl) λe _=>jB (mN _)
  |j+3=>cases h1
theorem Vr{al:Bb}{c:Nat}(hF:iV prog gl 134 [.ptr (BB al) 0] 36 (Fa I al).length ((Fa I al).flatMap aj)):oJ prog gl 134 [.ref 0 0] (σ3 al) c (.rsl c 0 (Fa I al).length) [(c,Bt (Fa I al))] (c+1):=
 AdI aH hF (Zy _) rfl (by grind [AaA])
theorem AaF{l:A3}{x:Ab}{i c:Nat}(hn:l.length<=1000):oJ prog gl 180 [.rsl i 0 l.length,.agg (aj x)] [(i,Bt l)] c (bG (l.any λy=>decide (x=y))) [] c:=
 ON aH (AaC hn x) (lR _) rfl λst h j y z h1 h2=>by
  match j with
  |0=>grind [AaE]
  |1=>cases h1;cases h2;exact jB (aG 20 (.agg (aj x)) aH)
  |j+2=>cases h1
theorem Agw{al:Bb}(h:Pa gl al.g I)(hn:al.row.length<=1000)(x y:Ab){c:Nat}:oJ prog gl 233 [.ref 0 0,.agg (aj x),.agg (aj y)] (σ3 al) c (bG (DZ I al.row x y)) [] c:=
 ON aH (AbH h hn x y) (lR _) rfl λst h i p q h1 h2=>by
  match i with
  |0=>grind [AaA]
  |1=>cases h1;cases h2;exact jB (aG 20 (.agg (aj x)) aH)
  |2=>cases h1;cases h2;exact jB (aG 20 (.agg (aj y)) aH)
  |j+3=>cases h1
end
abbrev oS(al:Bb)(sen:FM Int Int):List HP:=mLs al++[hc (Akh sen)]
abbrev ρ5:DE:=[(0,0),(1,1),(2,2),(3,3),(4,4)]
abbrev ρ6:DE:=ρ5++[(5,5)]
abbrev ρ7:DE:=ρ6++[(6,6)]
abbrev kd5:List (Nat×Rk):=[(5,.row)]
abbrev stM(al:Bb)(sen:FM Int Int)(s:A3×FM Ab Bool):St:=(s0 115 fI [(1,.ref 3 0),(2,.mref 4),(7,.rsl 5 0 s.1.length)] (σ6 (wV al s.2) sen s.1) 6 3)
abbrev oMn(al:Bb)(sen:FM Int Int)(s:A3×FM Ab Bool)(n:Nat)(h:n=s.1.length):List HP:=hc h::oS (wV al s.2) sen++[hc (ac.imm s.1)]
abbrev stV(al:Bb)(sen:FM Int Int)(l:A3)(x:Ab)(v:FM Ab Bool)(k:Nat):St:=(s0 115 fI [(1,.ref 3 0),(2,.mref 4),(7,.rsl 5 0 l.length),(9,.ref 6 0),(85,aE aj al.row),(86,iG (ah al.row)),(87,iG (k:Int))] (σ6 (wV al v) sen l++[(6,XX x)]) 7 3)
theorem ZN(h:AbG fI al I){s:Bh}(hS:ba prog fI 120 [.ptr (Ag al.g) 0,aE aj al.row] (aE cZ s))(t:s.length<=1000){v:FM Ab Bool}(hv0:AcP I al (NR I.cards s)=some v):SH prog fI 133 [.ref 0 0] (σ3 al) 3 3 (.tup []) (σ3 (wV al v)):=by
 have hn:=h.n;have hcn:=h.c.n;have hcl:cU al.row=some al.row:=by unfold cU aT;rw[Bz cq];rfl
 unfold AcP at hv0;refine dFP func133 ?_;refine Un (l:=I.cards) aa (λk:Nat=>(s0 115 fI [(1,.ref 3 0),(2,.mref 4),(17,aE bv I.cards),(18,iG (ah I.cards)),(19,iG (k:Int))] (σ5 al (TC (I.cards.take k))) 5 3)) 1110122 [hf 17 h.g.cards] (oS al (TC (I.cards.take 0))) (λB k x hx hz k5=>?_) (λB=>?_) [] ρ5 []
 .have hlt:=(cr hx).1;unfold TC at k5⊢;rw[Hp,hx,Option.toList_some,O8,List.foldl_cons,List.foldl_nil] at k5;generalize (I.cards.take k).foldl (λ(m:FM Int Int) (c:DP)=>C6 m c.Device (12:Int)) ⟨[],0⟩=m at k5⊢;exact jw [hr 20 (CM hx),Az 21 (bT.ixZ hz),Az 22 (bT.ptZ E2 hz),hmp 6 (AiR (σ:=(ob 5 127 (bv x))::σ5 al m) m rfl x.Device 12),hbb 26 (Xl (q:=k) aa)] (oS al (C6 m x.Device 12)) k5 [] ρ5 []
 .rw[D3];refine yl (Bs':=[]) [1,1,0,1] (J:=(s0 115 fI [(1,.ref 3 0),(2,.mref 4)] (σ5 al (TC I.cards)) 5 3)) [hr 20 (DH (s:=I.cards))] (oS al (TC I.cards)) ?_;refine Un (l:=s) aa (λk:Nat=>(s0 115 fI [(1,.ref 3 0),(2,.mref 4),(35,aE cZ s),(36,iG (ah s)),(37,iG (k:Int))] (σ5 al (UR (TC I.cards) s k)) 5 3)) 11110122 [hf 35 hS] (oS al (TC I.cards)) (λw k x hx hz k5=>?_) (λw=>?_) [] ρ5 []
  .have hlt:=(cr hx).1;have e:UR (TC I.cards) s (k+1)=C6 (UR (TC I.cards) s k) x (k:Int):=by show(match s[k]? with|some d=>_|none=>_)=_;rw[hx]
   rw[e] at k5;generalize UR (TC I.cards) s k=m at k5⊢;exact jw [hr 38 (CM hx),Az 40 (rZ.ixZ hz),Az 41 (rZ.p1Z tZ hz),hmp 5 (AiR (σ:=σ5 al m) m rfl x (k:Int)),hbb 45 (Xl (q:=k) aa)] (oS al (C6 m x (k:Int))) k5 [] ρ5 []
  .rw[show UR (TC I.cards) s s.length=NR I.cards s from rfl];generalize NR I.cards s=sen at hv0⊢;refine yl (Bs':=[]) [1,1,1,0,1] (J:=(s0 115 fI [(1,.ref 3 0),(2,.mref 4)] (σ5 al sen) 5 3)) [hr 38 (DH (s:=s))] (oS al sen) ?_;refine pN (stM al sen) [1,1,1,1,1,2,2] hv0 [ho 50 [aE aj al.row] [] (jY fI hcl) (Zy _),hdl 52 6 (al:=al) (fi:=228) (del:=λx=> !JJ (I.o x).Kind) aH (λx=>Ah4 h.g x) (l:=al.row) hn rfl] (oMn al sen (al.row.filter (λx=> !!JJ (I.o x).Kind),al.void) _ rfl) (λC z D hs k5 A=>?_) [] ρ6 kd5;obtain⟨l,vd⟩:=z;unfold Agu at hs;dsimp only at hs;cases b0:decide (l.length<=1000) with
   |false=>rw[b0] at hs;cases hs
   |true=>
   rw[b0,ax] at hs;have hln:=DD b0;have h':AbG fI (wV al vd) I:=⟨h.g,h.c,h.o,h.n⟩;have hkl:=λx y=>Uo h.g x y;generalize e1:(l.filter λx=> !AH (vd.get x))=l1 at hs;have hl1:l1.length<=1000:=by rw[<-e1];exact JF (KZ _ _) hln
   rcases bC hs with⟨b1,hs⟩|⟨b1,hs⟩
   .obtain rfl:=Bo hs;obtain rfl:=A _ rfl;exact ZT [hdl 55 6 (gl:=fI) (al:=wV al vd) (fi:=230) (del:=λx=>AH (vd.get x)) aH (λx=>AaB x) (l:=l) hln e1,hr 58 b1] (mLs (wV al vd)) [(0,0),(1,1),(2,2)] []
   .obtain⟨i,ei,hs⟩:=bS hs;obtain⟨x,r,hs⟩:=bS hs;obtain⟨k,rfl⟩:∃k:Nat,i=(k:Int):=by
     unfold aS at r;split at r
     .exact⟨i.toNat,aa⟩
     .cases r
    have hkx:l1[k]?=some x:=by rw[<-au];exact r
    have f:=(cr hkx).1;rw[EO] at hs;have hle:l1.length-1=(l1.eraseIdx k).length:=by rw[List.length_eraseIdx,Bz f]
    have hF:=Ago h'.g h'.n hl1 ei;have hg:=Aax h';have hgn:(Fa I (wV al vd)).length<=1000:=JF TB.2 (by simpa using hn);cases c2:(Fa I (wV al vd)).any (λz=>decide (x=z)) with
    |false=>rw[c2,A7] at hs;obtain rfl:=Bo hs;have j:=AaF (gl:=fI) (l:=Fa I (wV al vd)) (x:=x) (i:=7) (c:=8) hgn;rw[c2] at j;exact jw [hdl 55 6 (gl:=fI) (al:=wV al vd) (fi:=230) (del:=λx=>AH (vd.get x)) aH (λx=>AaB x) (l:=l) hln e1,hr 58 b1,hz 62 [0,1,2,3,4,5] (AbL (c:=6) hF),Az 65 (ac.ixrZ 5 r),Az 66 (ac.pt0Z aW r),hbb 70 (Xl (q:=k) aa),tN 71 [5] 7 [(5,Bt l1)] [.rsl 5 0 l1.length,iG (k:Int),iG ((k+1:Nat):Int)] [(0,Bt (l1.eraseIdx k))] (ZM fI hl1 f) ⟨⟨rfl,.inr ⟨rfl,ac.imm l1⟩⟩,trivial⟩ ⟨⟨rfl,.inr ⟨rfl,ac.imm _⟩⟩,trivial⟩,hz 73 [0,1,2] (Vr (c:=7) hg),hz 75 [7] j,hmr 8 (Akg (σ:=[(1,XN vd)]) (i:=1) vd rfl x)] (oMn al sen (l1.eraseIdx k,C6 vd x true) _ hle) (k5 _ rfl) [] ρ6 kd5
    |true=>
     rw[c2,ax] at hs;obtain rfl:=Bo hs;have k5:=k5 _ rfl;have j:=AaF (gl:=fI) (l:=Fa I (wV al vd)) (x:=x) (i:=7) (c:=8) hgn;rw[c2] at j;refine pN (λq:Nat=>stV al sen (l1.eraseIdx k) x ((al.row.take q).foldl (vFu I al.row (l1.eraseIdx k) x) vd) q) [1,1,1,1,1,2,2,2,1,1,1,1,1,1,1,2,2] (Aat (n:=al.row.length) aa) [hdl 55 6 (gl:=fI) (al:=wV al vd) (fi:=230) (del:=λx=>AH (vd.get x)) aH (λx=>AaB x) (l:=l) hln e1,hr 58 b1,hz 62 [0,1,2,3,4,5] (AbL (c:=6) hF),Az 65 (ac.ixrZ 5 r),Az 66 (ac.pt0Z aW r),hbb 70 (Xl (q:=k) aa),tN 71 [5] 7 [(5,Bt l1)] [.rsl 5 0 l1.length,iG (k:Int),iG ((k+1:Nat):Int)] [(0,Bt (l1.eraseIdx k))] (ZM fI hl1 f) ⟨⟨rfl,.inr ⟨rfl,ac.imm l1⟩⟩,trivial⟩ ⟨⟨rfl,.inr ⟨rfl,ac.imm _⟩⟩,trivial⟩,hz 73 [0,1,2] (Vr (c:=7) hg),hz 75 [7] j] (oMn al sen (l1.eraseIdx k,vd) _ hle) (λE q F hs b H=>?_) [] ρ7 kd5;have hl2:(l1.eraseIdx k).length<=1000:=aa;generalize l1.eraseIdx k=l2 at k5 b hl2⊢;unfold Aek at hs;split at hs
     .rename_i hlt;obtain rfl:=Bo hs;obtain⟨y,hy⟩:∃y,al.row[q]?=some y:=⟨_,EH hlt⟩;have a:=Bp hy;have b:=b _ rfl;rw[Hp,hy,Option.toList_some,O8,List.foldl_cons,List.foldl_nil] at b;generalize (al.row.take q).foldl (vFu I al.row l2 x) vd=u at b⊢;have hk:=hkl x y;unfold vFu at b;cases kk:D5 I x y with
      |true=>rw[kk] at hk b;exact jw [hr 88 (CM hy),Az 89 (ac.ixZ a),Az 90 (ac.ptZ aW a),hf 97 hk,hmr 8 (Akg (σ:=[(1,XN u)]) (i:=1) u rfl y),hbb 114 (Xl (q:=q) aa)] (oMn al sen (l2,C6 u y true) _ rfl) b [] ρ7 kd5
      |false=>
       rw[kk,A7] at b;rw[kk] at hk;have p:=AaF (gl:=fI) (l:=l2) (x:=y) (i:=5) (c:=8) hl2;cases cc:l2.any (λz=>decide (y=z)) with
       |false=>rw[cc] at p b;exact jw [hr 88 (CM hy),Az 89 (ac.ixZ a),Az 90 (ac.ptZ aW a),hf 97 hk,hz 101 [5] p,hbb 114 (Xl (q:=q) aa)] (oMn al sen (l2,u) _ rfl) b [] ρ7 kd5
       |true=>
        have hw:=Agw (al:=wV al u) (c:=8) h.g h.n x y;rw[show(wV al u).row=al.row from rfl] at hw;rw[cc,Bool.true_and] at b;rw[cc] at p;cases ww:DZ I al.row x y with
        |false=>rw[ww] at hw b;exact jw [hr 88 (CM hy),Az 89 (ac.ixZ a),Az 90 (ac.ptZ aW a),hf 97 hk,hz 101 [5] p,hz 106 [0,1,2] hw,hbb 114 (Xl (q:=q) aa)] (oMn al sen (l2,u) _ rfl) b [] ρ7 kd5
        |true=>rw[ww] at hw b;exact jw [hr 88 (CM hy),Az 89 (ac.ixZ a),Az 90 (ac.ptZ aW a),hf 97 hk,hz 101 [5] p,hz 106 [0,1,2] hw,hmr 8 (Akg (σ:=[(1,XN u)]) (i:=1) u rfl y),hbb 114 (Xl (q:=q) aa)] (oMn al sen (l2,C6 u y true) _ rfl) b [] ρ7 kd5
     .split at hs
      .rename_i he;subst he;unfold vAl at k5;rw[D3];generalize al.row.foldl (vFu I al.row l2 x) vd=u at k5⊢;exact jw [hr 88 (DH (s:=al.row))] (oMn al sen (l2,u) _ rfl) k5 [] ρ6 kd5
      .cases hs
theorem Akj{K V:Type}:RY (⟨[],0⟩:FM K V):=by grind [RY,FxOk]
def ofV(vs:A3):FM Ab Bool:=vs.foldl (λm x=>C6 m x true) ⟨[],0⟩
theorem Akk{vs:A3}:RY (ofV vs):=by
 have key:∀(l:A3) (m:FM Ab Bool),RY m->RY (l.foldl (λm x=>C6 m x true) m):=by intro l;induction l<;>grind [OO]
 exact key vs _ Akj
def Nf(gg:Aj)(row vs:A3):Bb:=⟨gg,row,ofV vs,ofV vs⟩
abbrev hsI(d i c:Nat){m:FM Ab Bool}(k:Ab):HP:=hme d [i] c (AjV (P:=prog) (σ:=[(i,XN m)]) (t:=tMI) (t':=tMI) (et:=4) (v0:=false) jt AiS aH aH (k:=k) (gk:= .agg (aj k)) rfl R9)
abbrev Al3(d i c:Nat){m:FM Ab Bool}(k:Ab)(h:FxOk m):HP:=hms d [i] c (AjW (σ:=[(i,some (Ng tMI ga bG (C6 m k ((m.get k).getD false))))]) (i:=i) (t':=tMI) (kv:=ga) (vg:=bG) (m:=m) (k:=k) (v0:=(m.get k).getD false) h R9 true)
section
variable {gl:Cd}
theorem AiW{row vs:A3}(hO:ba prog gl 62 [.ptr (Ag gg) 0,aE aj ids] (aE aj row))(hV:ba prog gl 227 [.ptr (Ag gg) 0,aE aj ids] (aE aj vs))(hn:vs.length<=1000):SH prog gl 132 [.ptr (Ag gg) 0,aE aj ids] [] 0 0 (.ref 0 0) (σ3 (Nf gg row vs)):=by
 refine dFP func132 ?_;refine Un (l:=vs) aa (λk:Nat=>(s0 40 gl [(5,.ref 0 0),(18,aE aj vs),(19,iG (ah vs)),(20,iG (k:Int))] (σ3 (Nf gg row (vs.take k))) 3 0)) 1110122 [hf 11 hO,hf 18 hV] (mLs (Nf gg row (vs.take 0))) (λB k x hx hz k5=>?_) (λB=>?_) [] [(0,2),(1,0),(2,1)] []
 .have hlt:=(cr hx).1;have e:Nf gg row (vs.take (k+1))=⟨gg,row,C6 (ofV (vs.take k)) x true,C6 (ofV (vs.take k)) x true⟩:=by unfold Nf ofV;rw[Hp,hx,Option.toList_some,O8];rfl
  have hm:=Akk (vs:=vs.take k);rw[e] at k5;unfold Nf;generalize ofV (vs.take k)=m at k5 hm⊢;exact jw [hr 21 (CM hx),Az 22 (ac.ixZ hz),Az 23 (ac.ptZ aW hz),hsI 34 1 4 (m:=m) x,Al3 35 1 4 x hm.1,hsI 36 2 4 (m:=m) x,Al3 37 2 4 x hm.1,hbb 38 (Xl (q:=k) aa)] (mLs ⟨gg,row,C6 m x true,C6 m x true⟩) k5 [] [(0,0),(1,1),(2,2)] []
 .rw[D3];exact ZT [hr 21 (DH (s:=vs))] (mLs (Nf gg row vs)) [(0,0),(1,1),(2,2)] []
end
def Agx(I:Gi)(al:Bb)(s:Bh):Option A3:=(AcP I al (NR I.cards s)).map λv=>Fa I (wV al v)
theorem Aia{κ:Nat->Fu}{al:Bb}(h0:κ 0=some 0)(h1:κ 1=some 1)(h2:κ 2=some 2):Abg κ (σ3 al) (σ3 al):=λk o h=>by
 match k with
 |0=>obtain⟨a,e⟩:=AaD (v:=1) (f:=2) h1 h2 o h;exact⟨0,a,h0,e⟩
 |1=>obtain⟨a,e⟩:=Qh o h;exact⟨1,a,h1,e⟩
 |2=>obtain⟨a,e⟩:=Qh o h;exact⟨2,a,h2,e⟩
 |j+3=>cases h
theorem in3{al:Bb}:InP (vi [0,1,2]) [0,1,2] (σ3 al) (σ3 al):=λk o h=>by
 match k with
 |0=>obtain⟨a,e⟩:=AaD (κ:=vi [0,1,2]) (v:=1) (f:=2) rfl rfl o h;exact⟨0,a,rfl,e⟩
 |1=>obtain⟨a,e⟩:=Qh (κ:=vi [0,1,2]) o h;exact⟨1,a,rfl,e⟩
 |2=>obtain⟨a,e⟩:=Qh (κ:=vi [0,1,2]) o h;exact⟨2,a,rfl,e⟩
 |j+3=>cases h
theorem Aes{I:Gi}{ids row vs:A3}{s:Bh}{r:A3}(h:AbG fI (Nf gg row vs) I)(hO:ba prog fI 62 [.ptr (Ag gg) 0,aE aj ids] (aE aj row))(hV:ba prog fI 227 [.ptr (Ag gg) 0,aE aj ids] (aE aj vs))(hn:vs.length<=1000)
  (hS:ba prog fI 120 [.ptr (Ag gg) 0,aE aj row] (aE cZ s)) (a:s.length<=1000) (hr:Agx I (Nf gg row vs) s=some r):ba prog fI 68 [.ptr (Ag gg) 0,aE aj ids] (aE aj r):=by
 unfold Agx at hr
 cases hd:AcP I (Nf gg row vs) (NR I.cards s) with
 |none=>rw[hd] at hr;cases hr
 |some v=>
  rw[hd] at hr
  obtain rfl:=Bo hr
  have h':AbG fI (wV (Nf gg row vs) v) I:=⟨h.g,h.c,h.o,h.n⟩
  have hg:=Aax h'
  have hof:=AiW hO hV hn
  have b:=ZN h hS a hd
  generalize Nf gg row vs=al at*
  refine Gh func68 ?_
  exact Ar [hfm 8 [] 0 3 0 [] [.ptr (Ag gg) 0,aE aj ids] (σ3 al) hof AcL (Aia rfl rfl rfl),hfm 10 [0,1,2] 3 0 3 (σ3 al) [.ref 0 0] (σ3 (wV al v)) b in3 (Aia rfl rfl rfl),hz 12 [0,1,2] (Vr (al:=wV al v) (c:=3) hg)] [hc (ac.al (Fa I (wV al v)))]
def AbM(o:Bj):JK:=bif o.Kind=1 then some o.By else bif o.Kind=2 then some o.Device else bif o.Kind=13 then some o.Device else none
def TD(I:Gi)(acc:Bh)(x:Ab):Bh:=match AbM (I.o x) with
 |none=>acc
 |some d=>bif acc.any (λy=>decide (d=y))then acc else acc++[d]
def NS(I:Gi)(row:A3):Bh:=row.foldl (TD I) []
theorem Agy{I:Gi}{acc:Bh}:(TD I acc x).length<=acc.length+1:=by grind [TD]
theorem XR{I:Gi}:∀{l:A3} {acc:Bh},(l.foldl (TD I) acc).length<=acc.length+l.length
 |[],acc=>Dl _
 |x::r,acc=>by have h1:=XR (I:=I) (l:=r) (acc:=TD I acc x);grind [Agy]
section
variable {gl:Cd} {gg:Aj}
abbrev Akl(gg:Aj)(ids:A3):G:= .clo (.func 307) [] [.ptr [.ptr (Ag gg) 0] 0,.ptr [aE aj ids] 0]
theorem Aib(ids:A3):ba prog gl 216 [.ptr (Ag gg) 0,aE aj ids] (Akl gg ids):=by refine Gh func216 ?_;refine pO [1,0] (s0 6 gl [(2,.ptr [.ptr (Ag gg) 0] 0),(3,.ptr [aE aj ids] 0)] [] 0 0) [] [hc (eB (gs:=[.ptr (Ag gg) 0]) aH),hc (aY (aG 20 (aE aj ids) aH) bf)] ?_;exact Ar [] []
noncomputable abbrev cSe:Code:=bq 111012 (ai Tryz.f120)
noncomputable abbrev US(st:LoopState):Option Ob:=some ⟨0,[],some (.loop st none 22 [(5,.ref 0 0)] (Dy cSe) (Dz cSe) (DA cSe))⟩
abbrev Al4(gg:Aj)(row:A3)(k:Nat):Fr:=[(0,.yld 1),(1,.ptr [.ptr (Ag gg) 0] 0),(11,aE aj row),(12,iG (ah row)),(13,iG (k:Int))]
noncomputable abbrev σCa(acc:Bh):aQ:=[(0,YF (.rsl 2 0 acc.length)),(1,US .ready),(2,Ju acc)]
noncomputable abbrev Akm(gl:Cd)(gg:Aj)(row:A3)(k:Nat)(acc:Bh):St:=(s0 40 gl (Al4 gg row k) (σCa acc) 3 2)
noncomputable abbrev Y2(gl:Cd)(gg:Aj)(row:A3)(k:Nat)(acc:Bh)(x:Ab)(d:Int):St:=(s0 40 gl ((5,.ref 3 0)::(8,iG d)::Al4 gg row k) (σCa acc++[(3,XX x)]) 4 2)
abbrev ρC3:DE:=[(0,0),(1,1),(2,2)]
abbrev ρC4:DE:=[(0,0),(1,1),(2,2),(3,3)]
theorem Agz{l:Bh}{d:Int}{i c:Nat}(hn:l.length<=1000000):oJ prog gl 123 [.rsl i 0 l.length,iG d] [(i,Ju l)] c (bG (l.any λy=>decide (d=y))) [] c:=
 ON aH (DL gl (UG aa d)) (lR _) rfl λst h j y z h1 h2=>by
  match j with
  |0=>cases h1;cases h2;have ho:ag st.σ i=Ju l:=h i _ (by rw[Bc,Bz rfl]);exact FD (s:=1) ho aH (by grind [A9.len,rZ]) (rZ.len l) (by grind [jB,A9.imm,rZ])
  |1=>grind [jB,mN]
  |j+2=>cases h1
theorem Ss{I:Gi}(h:Pa gl gg I){ids row:A3}(hO:ba prog gl 62 [.ptr (Ag gg) 0,aE aj ids] (aE aj row))(hn:row.length<=1000):ba prog gl 120 [.ptr (Ag gg) 0,aE aj ids] (aE cZ (NS I row)):=by
 refine Gh func120 ?_;refine YR [1,1,0,1,2] (s0 22 gl [(5,.ref 0 0),(10,Akl gg ids)] [(0,YF (.lit (.slice none 0 0)))] 1 0) [hf 10 (Aib (gl:=gl) (gg:=gg) ids)] ?_;refine Xt (fst:=[]) (cap:=[.ptr [.ptr (Ag gg) 0] 0,.ptr [aE aj ids] 0]) Tryz.f307 func307 ?_;refine Un (l:=row) aa (λk:Nat=>Akm gl gg row k ((row.take k).foldl (TD I) [])) [1,2,2] [hf 11 hO] [hc (rZ.imm [])] (λB k x hx e k5=>?_) (λB=>?_) (vs:=[3]) (ρ:=ρC3) (kd:=[(2,.row)])
 .have hlt:=(cr hx).1;have hal:=XR (I:=I) (l:=row.take k) (acc:=[]);rw[LL,List.length_nil] at hal;rw[Hp,hx,Option.toList_some,O8,List.foldl_cons,List.foldl_nil] at k5;generalize (row.take k).foldl (TD I) []=acc at k5 hal⊢;have ho:=h.op x;have hb2:k<1000000:=aa;have fin:∀d,B (Akm gl gg row (k+1) (bif acc.any (λy=>decide (d=y))then acc else acc++[d]))->Gp prog Tryz.f307 (sI prog (s0 22 gl [(5,.ref 0 0),(10,Akl gg ids)] [(0,YF (.lit (.slice none 0 0)))] 1 0) (dz prog (bE [1,1,0,1,2] (ai Tryz.f120) [] []) (tH prog Tryz.f120 (aE cZ (NS I row))))) [B] false [1,2,2,1,1,0,2,1,1,1,1,0] (Y2 gl gg row k acc x d):=λd hB=>by
   have f:=Agz (gl:=gl) (l:=acc) (d:=d) (i:=2) (c:=4) aa;cases cc:acc.any (λy=>decide (d=y)) with
   |true=>
    rw[cc] at hB f;refine Xw (i:=1) (j:=3) (n:=22) (t:=0) (t2:=0) (pe:=none) (fr:=[(5,.ref 0 0)]) (ps:=Dy cSe) (a:=Dz cSe) (b:=DA cSe) (s1:=(s0 40 gl ([(36,iG d),(35,.agg (aj x)),(34,.yld 1)]++(Y2 gl gg row k acc x d).fr) ((Y2 gl gg row k acc x d).σ) 4 2))
     (s3:=(s0 40 gl ([(38,bG false),(37,bG true),(36,iG d),(35,.agg (aj x)),(34,.yld 1)]++(Y2 gl gg row k acc x d).fr) ((1,US .ready)::[(0,YF (.rsl 2 0 acc.length)),(1,US .busy),(2,Ju acc)]) 4 2))
     [(0,YF (.rsl 2 0 acc.length)),(1,US .busy),(2,Ju acc)] 4 (.loop .ready none 22 [(5,.ref 0 0)] (Dy cSe) (Dz cSe) (DA cSe)) [] [] ?_ ?_
    .refine C9 .normal ⟨22,gl,[(5,.ref 0 0),(7,iG d)],[(0,YF (.rsl 2 0 acc.length)),(1,US .ready),(2,Ju acc)],4,4,true⟩ [] [hc (rfl:acc.length=acc.length),hc (rZ.imm acc)] (Xv Tryz.f120 ?_ rfl) (ρ:=ρC4);exact C9 .normal ⟨22,gl,[],[(0,YF (.rsl 2 0 acc.length)),(1,US .busy),(2,Ju acc)],4,4,true⟩ [hz 15 [2] f] [hc (rfl:acc.length=acc.length),hc (rZ.imm acc)] (by grind [jy]) (ρ:=ρC4) (kd:=[(2,.row)])
    .exact jw [hbb 39 (Xl (q:=k) aa)] [hc (rfl:acc.length=acc.length),hc (rZ.imm acc)] hB [] ρC3 [(2,.row)]
   |false=>
    rw[cc] at hB f;refine Xw (i:=1) (j:=3) (n:=22) (t:=0) (t2:=0) (pe:=none) (fr:=[(5,.ref 0 0)]) (ps:=Dy cSe) (a:=Dz cSe) (b:=DA cSe) (s1:=(s0 40 gl ([(36,iG d),(35,.agg (aj x)),(34,.yld 1)]++(Y2 gl gg row k acc x d).fr) ((Y2 gl gg row k acc x d).σ) 4 2))
     (s3:=(s0 40 gl ([(38,bG false),(37,bG true),(36,iG d),(35,.agg (aj x)),(34,.yld 1)]++(Y2 gl gg row k acc x d).fr) ((1,US .ready)::[(0,YF (.rsl 4 0 (acc++[d]).length)),(1,US .busy),(4,Ju (acc++[d]))]) 5 2))
     [(0,YF (.rsl 4 0 (acc++[d]).length)),(1,US .busy),(4,Ju (acc++[d]))] 5 (.loop .ready none 22 [(5,.ref 0 0)] (Dy cSe) (Dz cSe) (DA cSe)) [] [] ?_ ?_
    .refine C9 .normal ⟨22,gl,[(5,.ref 0 0),(7,iG d)],[(0,YF (.rsl 2 0 acc.length)),(1,US .ready),(2,Ju acc)],4,4,true⟩ [] [hc (rfl:acc.length=acc.length),hc (rZ.imm acc)] (Xv Tryz.f120 ?_ rfl) (ρ:=ρC4);exact C9 .normal ⟨22,gl,[],[(0,YF (.rsl 4 0 (acc++[d]).length)),(1,US .busy),(4,Ju (acc++[d]))],5,4,true⟩ [hz 15 [2] f,Tn 20 rZ 8 acc d aa] [hc (el (acc++[d])),hc (rZ.imm (acc++[d]))] (by grind [jy]) (ρ:=rI 4++[(4,5)]) (kd:=[(4,.row)])
    .exact jw [hbb 39 (Xl (q:=k) aa)] [hc (el (acc++[d])),hc (rZ.imm (acc++[d]))] hB [] [(0,0),(1,1),(2,4)] [(2,.row)]
  unfold TD at k5;generalize I.o x=o at ho k5;unfold AbM at k5;cases b1:decide (o.Kind=1) with
  |true=>rw[b1] at k5;exact pO 1122110211110 (Y2 gl gg row k acc x o.By) [hr 14 (CM hx),Az 15 (ac.ixZ e),Az 16 (ac.ptZ aW e),hf 20 ho,hr 26 b1] [hc (rfl:acc.length=acc.length),hc (rZ.imm acc)] (fin _ k5) [] ρC4 [(2,.row)]
  |false=>
   rw[b1,A7] at k5;cases b2:decide (o.Kind=2) with
   |true=>rw[b2] at k5;exact pO 1122110211110 (Y2 gl gg row k acc x o.Device) [hr 14 (CM hx),Az 15 (ac.ixZ e),Az 16 (ac.ptZ aW e),hf 20 ho,hr 26 b1,hr 30 b2] [hc (rfl:acc.length=acc.length),hc (rZ.imm acc)] (fin _ k5) [] ρC4 [(2,.row)]
   |false=>
    rw[b2,A7] at k5;cases b3:decide (o.Kind=13) with
    |true=>rw[b3] at k5;exact pO 1122110211110 (Y2 gl gg row k acc x o.Device) [hr 14 (CM hx),Az 15 (ac.ixZ e),Az 16 (ac.ptZ aW e),hf 20 ho,hr 26 b1,hr 30 b2,hr 31 b3] [hc (rfl:acc.length=acc.length),hc (rZ.imm acc)] (fin _ k5) [] ρC4 [(2,.row)]
    |false=>rw[b3] at k5;exact jw [hr 14 (CM hx),Az 15 (ac.ixZ e),Az 16 (ac.ptZ aW e),hf 20 ho,hr 26 b1,hr 30 b2,hr 31 b3,hbb 39 (Xl (q:=k) aa)] [hc (rfl:acc.length=acc.length),hc (rZ.imm acc)] k5 [] ρC3 [(2,.row)]
 .rw[D3];show Gp _ _ _ _ _ _ (Akm gl gg row row.length (NS I row));generalize NS I row=acc;refine C9 .normal (s0 40 gl [] [(0,YF (.rsl 2 0 acc.length)),(1,US .ready),(2,Ju acc)] 3 2) [hr 14 (DH (s:=row))] [hc (rfl:acc.length=acc.length),hc (rZ.imm acc)] (Xu ?_ rfl) (kd:=[(2,.row)]);exact Ar [] [hc (rZ.al acc)]
end
end Go.Proofs.YtlijnaneopediaaGreatDoor
