/- Texts. -/
import Derived.Test.YtlimmeehdfbheaaGreatDoorYQ
namespace Go.Proofs.YtlimmeehdfbheaaGreatDoor
set_option linter.unusedSectionVars false
set_option linter.unusedVariables false
set_option linter.unusedSimpArgs false
open Go.RowKit Tryz
attribute [local irreducible] Tr dz Gp
variable (gl:CC)
variable {α:Type}{N:Hl}{u:Bj}{a b x:Ab}{c d n:Int}{g:AB}{m:Hj}{o:Bi}{r:List Bool}{f i j k v:Nat}{W ids l:AH}{gg:Aj}{P:Br}{st:St}{al:Be}{fi:FuncId}{I:Gi}
def lvN(N:Hl)(j:Int):Int:=((N[j.toNat]?).map (·.level)).getD 0
def lvF(N:Hl)(u:Bj):Int:=u.foldl (λa j=>Fi a (lvN N j+1)) 1
theorem Abl{j:Int}:lvF N (u++[j])=Fi (lvF N u) (lvN N j+1):=by unfold lvF;rw[LF];rfl
theorem Ade{y:BX}(h:∀x∈u,0<=x/\x<(N.length:Int)):lvF (N++[y]) u=lvF N u:=by
 have key:∀(l:Bj) (a:Int),(∀x∈l,0<=x/\x<(N.length:Int))->l.foldl (λa j=>Fi a (lvN (N++[y]) j+1)) a=l.foldl (λa j=>Fi a (lvN N j+1)) a:=by
  intro l;induction l with
  |nil=>exact λa _=>rfl
  |cons x r ih=>
   intro a hh;have e:lvN (N++[y]) x=lvN N x:=by have:=hh x aC;grind [lvN]
   grind
 exact key u 1 h
structure ON (g:AB) (m:Hj) (N:Hl):Prop where
 len:N.length=g.L.length
 nd:∀(k:Nat) (y:BX),N[k]?=some y->g.L[k]?=some y.o/\g.IDs[k]?=some y.id/\(∀j,j<256->gW y.past j=O9 g k j)/\0<=y.level/\y.level<=(k:Int)+1
 get:∀x,m.get x=(bu x g.IDs).map (λn=>(n:Int))
 lv:∀(k:Nat) (y:BX) (u:Bj),N[k]?=some y->g.Up[k]?=some u->y.level=lvF N u
theorem MX{a b:Int}(h1:a<=c)(h2:b<=c):Fi a b<=c:=by unfold Fi;split<;>omega
theorem T5{a b:Int}(h1:c<=a):c<=Fi a b:=by unfold Fi;split<;>omega
theorem ZF{up:Bj}(w:Fv g)(pg:ON g m N)(a:Mj g o up)(sm:Bb o):T (AQ (Z6 m N o.Past) (z4,z4,0,1,0)) λr=>(∀j:Nat,j<256->(gW r.1 j=true↔(j:Int)∈up))/\(∀j:Nat,j<256->(gW r.2.1 j=true↔∃n:Nat,(n:Int)∈up/\O9 g n j=true))/\r.2.2.1<=o.At/\0<=r.2.2.2/\r.2.2.2<=(N.length:Int)+1/\r.2.2.2=lvF N up:=by
 have f:=T1 a.check.numbers;have n1:=sm.nPast;have nL:=w.nL;have nI:=w.nI;have pl:=pg.len;refine T.loop (λs=>∃k:Nat,s.2.2.2.2=(k:Int)/\k<=o.Past.length/\(∀j:Nat,j<256->(gW s.1 j=true↔∃i,i<k/\up[i]?=some (j:Int)))/\(∀j:Nat,j<256->(gW s.2.1 j=true↔∃i n:Nat,i<k/\up[i]?=some (n:Int)/\O9 g n j=true))/\s.2.2.1<=o.At/\0<=s.2.2.2.1/\s.2.2.2.1<=(N.length:Int)+1/\s.2.2.2.1=lvF N (up.take k)) (λs=>o.Past.length-s.2.2.2.2.toNat) ⟨0,rfl,aa,λj hj=>?_,λj hj=>?_,f.at_.1,Cd,by show(1:Int)<=_;omega,rfl⟩ (by show o.Past.length-_<_;omega) ?_
 .grind [gW]
 .grind [gW]
 rintro⟨p,b,z,lev,i⟩ ⟨k,rfl,hk,q1,h,c,d,e,t⟩;dsimp only at q1 h c d e t;unfold Z6;dsimp only;refine .dec (λhlt=>?_) λhge=>?_
 .unfold ah at hlt;have hk2:k<o.Past.length:=aa;have hx:=EA hk2;obtain⟨n,hn,hu⟩:=a.par k _ hx;have eg:m.get o.Past[k]=some (n:Int):=by rw[pg.get,hn];rfl
  have hnl:n<g.IDs.length:=(cr (gb hn).1).1;have hy:N[n]?=some (N[n]'aa):=EA _;obtain⟨l,u,q,v,x⟩:=pg.nd n _ hy;generalize N[n]'aa=y at hy l u q v x;have hmem:(n:Int)∈up:=bO hu;have hat:=a.late n _ hmem l;have ew:wI (y.level+1)=y.level+1:=bM aa aa;rw[au,hx,aL,eg];dsimp only[Nt];rw[au,hy,aL,ew,aq aa];refine .some ⟨⟨k+1,rfl,aa,λj hj=>?_,λj hj=>?_,MX c hat,T5 d,MX e aa,?_⟩,?_⟩
  .dsimp only;rw[Fm,T3 aa hj,Bool.or_eq_true,q1 j hj,decide_eq_true_eq];grind
  .dsimp only;rw[RP,Bool.or_eq_true,h j hj,q j hj];grind
  all_goals grind [Hv,lvN,Abl]
 .unfold ah at hge;obtain rfl:k=o.Past.length:=aa;have ul:=a.upl;refine .some ⟨λj hj=>?_,λj hj=>?_,c,d,e,by grind⟩;all_goals grind [EO]
def RR(g:AB)(o:Bi)(r:List Bool):Prop:=(∀(k:Nat) (p:Bi),g.L[k]?=some p->r[k]?=some true->p.By=o.By->p.Seq<o.Seq)/\(o.Seq=1\/∃(k:Nat) (p:Bi),g.L[k]?=some p/\r[k]?=some true/\p.By=o.By/\p.Seq=wI (o.Seq-1))
theorem Xb(w:Fv g){o:Bi}(hr:r.length=g.L.length):T (lA g o r) λv=>v=true->RR g o r:=by
 have nL:=w.nL;unfold lA;refine .bind (T.forA g.L.length (λk b=>(∀(j:Nat) (p:Bi),j<k->g.L[j]?=some p->r[j]?=some true->p.By=o.By->p.Seq<o.Seq)/\(b=true->∃(j:Nat) (p:Bi),g.L[j]?=some p/\r[j]?=some true/\p.By=o.By/\p.Seq=wI (o.Seq-1))) aa (by grind) (λk b hk a=>?_) λb a=>?_)
 .have hp:=EA hk;obtain⟨x,hx⟩:∃x,r[k]?=some x:=⟨_,EA aa⟩;generalize g.L[k]=p at hp;have more:∀(c:Prop),(c->p.Seq<o.Seq)->((r[k]?=some true/\p.By=o.By)->c)->∀(j:Nat) (q:Bi),j<k+1->g.L[j]?=some q->r[j]?=some true->q.By=o.By->q.Seq<o.Seq:=by grind
  unfold jK;dsimp only;rw[eA hk,ax,au,au,hx,hp];simp only[aL];cases x with
  |false=>exact .some (by constructor<;>grind [aq])
  |true=>
   simp only[Bool.not_true,A9,aL];by_cases hb:p.By=o.By
   .rw[C3 (by grind),A9];refine .dec (λhs=> .some (.some λh=>by cases h)) λhs=>?_;have hm:=more True (λ_=>aa) λ_=>trivial;cases b with
    |true=>exact .some ⟨aq aa,hm,a.2⟩
    |false=>exact .some (by constructor<;>grind [aq])
   .rw[CM hb,ax];exact .some (by constructor<;>grind [aq])
 .unfold jK;dsimp only;rw[eF,A9];refine .some ?_;show T (ma _ _ _) _;dsimp only[ma];have h1:∀(k:Nat) (p:Bi),g.L[k]?=some p->r[k]?=some true->p.By=o.By->p.Seq<o.Seq:=by grind
  by_cases hs:o.Seq=1
  .rw[CM hs];exact .some λ_=>⟨h1,.inl hs⟩
  .rw[C3 hs];exact .some λhb=>⟨h1,.inr (a.2 hb)⟩
theorem ZG{A:O0}(w:Fv g)(pg:ON g m N)(f:OJ o)(hA:∀j:Nat,j<g.L.length->(gW A j=true↔r[j]?=some true))(hR:RR g o r):T (AQ (Z7 N o A) (0,false,0)) λv=>v.1<o.Seq/\(1<o.Seq->v.2=true):=by
 have nL:=w.nL;have pl:=pg.len;have fs:=f.seq;refine T.loop (λs=>∃k:Nat,s.2.2=(k:Int)/\k<=N.length/\s.1<o.Seq/\∀(j:Nat) (p:Bi),j<k->g.L[j]?=some p->r[j]?=some true->p.By=o.By->p.Seq=wI (o.Seq-1)->s.2.1=true) (λs=>N.length-s.2.2.toNat) ⟨0,rfl,aa,by show(0:Int)<_;omega,λj p hj=>absurd hj (Nat.not_lt_zero _)⟩ (by show N.length-_<_;omega) ?_;rintro⟨la,b,i⟩ ⟨k,rfl,hk,q1,e⟩;dsimp only at q1 e;unfold Z7;dsimp only;refine .dec (λhlt=>?_) λhge=>?_
 .unfold ah at hlt;have hk2:k<N.length:=aa;have hy:=EA hk2;obtain⟨c,_⟩:=pg.nd k _ hy;generalize N[k]=y at hy c;rw[au,hy,aL,aq aa];have dn:N.length-(((k+1:Nat):Int)).toNat<N.length-((k:Int)).toNat:=aa;have more:∀a:Bool,(b=true->a=true)->(r[k]?=some true->y.o.By=o.By->y.o.Seq=wI (o.Seq-1)->a=true)->∀(j:Nat) (p:Bi),j<k+1->g.L[j]?=some p->r[j]?=some true->p.By=o.By->p.Seq=wI (o.Seq-1)->a=true:=λa h1 h2 j p hj hp h3 h4 h5=>by
   rcases JF j k with hjk|hjk
   .exact h1 (e j p hjk hp h3 h4 h5)
   .obtain rfl:j=k:=aa;rw[c] at hp;cases hp;exact h2 h3 h4 h5
  refine .dec (λhb=>?_) λhb=> .some ⟨⟨k+1,rfl,aa,q1,more b id λ_ h=>absurd h hb⟩,dn⟩;rw[Xa aa,aL];refine .ite (λhh=>?_) λhh=> .some ⟨⟨k+1,rfl,aa,q1,more b id λh=>?_⟩,dn⟩
  .have d:=(hA k aa).1 hh;refine .some ⟨⟨k+1,rfl,aa,?_,more _ (λh=>by rw[h];rfl) λ_ _ h=>by rw[CM h];cases b<;>rfl⟩,dn⟩;have:=hR.1 k _ c d hb;grind [Fi]
  .rw[(hA k aa).2 h] at hh;cases hh
 .unfold ah at hge;refine .some ⟨q1,λh1=>?_⟩;rcases hR.2 with h|⟨j,p,h2,h3,h4,h5⟩
  all_goals grind
theorem ye:dt a b=true↔a.By<b.By\/(a.By=b.By/\(a.Seq<b.Seq\/(a.Seq=b.Seq/\a.Sum<b.Sum))):=by grind [dt]
def rN(a b:Ab):Prop:=dt b a=false
theorem KG{c:Ab}(h1:rN a b)(h2:rN b c):rN a c:=by grind [rN,ye]
theorem F9(h:dt a b=true):rN a b:=by grind [rN,ye]
theorem Cy{x:α}{l:List α}:(l.take k++[x]++l.drop k).Perm (l++[x]):=by grind [List.perm_append_comm,Pt]
theorem kg(hl:l.length<=1000000):T (iu l) λr=>r.Perm l/\r.Pairwise rN:=by
 unfold iu;refine .bind (T.forA l.length (λk acc=>acc.Perm (l.take k)/\acc.Pairwise rN) aa (by simp_all) (λk acc hk hj=>?_) λacc hj=>?_)
 .obtain⟨x,hx⟩:∃x,l[k]?=some x:=by simp_all
  have ha:acc.length<=1000000:=by have:=hj.1.length_eq;grind
  unfold oZ;dsimp only;rw[eA hk,ax];refine .bind (T.mono (Q:=λq:Int=>∃n:Nat,q=(n:Int)/\n<=acc.length/\(∀(j:Nat) (y:Ab),n<=j->acc[j]?=some y->dt x y=true)/\∀(y:Ab),0<n->acc[n-1]?=some y->dt x y=false) (T.loop (λq=>∃n:Nat,q=(n:Int)/\n<=acc.length/\∀(j:Nat) (y:Ab),n<=j->acc[j]?=some y->dt x y=true) (λq=>q.toNat) ⟨acc.length,rfl,C6 _,(by grind)⟩ (by unfold ah;omega) ?_) ?_)
  .rintro q ⟨n,rfl,hn,b⟩;unfold vB;dsimp only;refine .dec (λh0=>?_) λh0=> .some ⟨n,rfl,hn,b,(by grind)⟩;obtain⟨y,hy⟩:∃y,acc[n-1]?=some y:=by grind
   rw[au,hx,aL,F7 aa aa,au,hy,aL,pJ,aL];refine .ite (λhf=> .some ⟨n,rfl,hn,b,(by grind)⟩) λht=> .some (by constructor<;>grind);all_goals grind
  .rintro q ⟨n,rfl,hn,h1,h2⟩;refine .bind (.pre aa aa (.bind (.app cq ?_)));rw[au,hx,aL];refine .bind (.app cq (.bind (.suf aa aa (.bind (.app cq (.some ⟨aq aa,?_,?_⟩))))))
   .grind [Cy,Hv]
   .show([]++acc.take (n:Int).toNat++[x]++acc.drop (n:Int).toNat).Pairwise rN;rw[Pu,Fm];have hp:=hj.2;rw[<-Pt n acc,List.pairwise_append] at hp;obtain⟨c,d,e⟩:=hp;have low:∀a∈acc.take n,rN a x:=by grind [rN,EO,List.pairwise_iff_getElem,KG]
    grind [EO,F9]
 .unfold oZ;dsimp only;rw[eF,A9];refine .some (.some ?_);grind
theorem Cz(w:Fv g):T (xt g) λr=>r.Perm g.IDs/\r.Pairwise rN:= .bind (by grind [T.mono,kg,Fv.nI,Fv.nL,T.some])
def uX(g:AB)(ids:AH)(k:Nat):Prop:=∃x∈ids,∃n,bu x g.IDs=some n/\O9 g n k=true
theorem EB(w:Fv g)(hl:ids.length<=1000):T (r9 g ids) λr=>r.Nodup/\(∀x,x∈r↔∃k,g.IDs[k]?=some x/\uX g ids k)/\r.Pairwise rN/\r.length<=g.L.length:=by
 have nL:=w.nL;have nI:=w.nI;unfold r9;refine .bind (T.forA g.L.length (λk acc=>acc.length<=k/\acc.Nodup/\∀x,x∈acc↔∃j,j<k/\g.IDs[j]?=some x/\uX g ids j) aa ⟨aC,aC,λx=>aC⟩ (λk acc hk hj=>?_) λacc hj=>?_)
 .obtain⟨y,hy⟩:∃y,g.IDs[k]?=some y:=⟨_,EA aa⟩;unfold t8;dsimp only;rw[eA hk,ax];refine .bind (T.mono (Q:=λb:Bool=>b=true↔uX g ids k) (T.forA ids.length (λm b=>b=true↔∃(j:Nat) (x:Ab) (n:Nat),j<m/\ids[j]?=some x/\bu x g.IDs=some n/\O9 g n k=true) aa aC (λm b hm hjm=>?_) λb hjm=>?_) λb hb=>?_)
  .obtain⟨x,hx⟩:∃x,ids[m]?=some x:=⟨_,EA hm⟩;unfold t7;dsimp only;rw[eA hm,ax,au,hx,aL,dC aa,aL];refine .bind (T.mono (Q:=λc:Bool=>c=true↔(b=true\/∃n,bu x g.IDs=some n/\O9 g n k=true)) ?_ λc hc=> .some ⟨aq aa,?_⟩)
   .refine .ite (λhb=> .some (by simp[hb])) λhb=>?_;unfold gO;cases hkx:bu x g.IDs with
    |none=>grind [T.some]
    |some n=>
     have hn:n<g.L.length:=by have:=(cr (gb hkx).1).1;omega
     grind [Fv,Fi,au,T.some,wO]
   grind
  .unfold t7;dsimp only;rw[eF,A9];refine .some ?_;show b=true↔_;rw[hjm];constructor
   .rintro⟨j,x,n,_,h2,h3,h4⟩;exact⟨x,bO h2,n,h3,h4⟩
   .rintro⟨x,hx,n,h3,h4⟩;grind [EO]
  .refine .ite (λhbt=>?_) λhbf=> .some ⟨aq aa,by show acc.length<=k+1;have:=hj.1;omega,hj.2.1,λx=>?_⟩
   .have hin:=hb.1 hbt;rw[au,hy,aL];have hny:y∉acc:=λhm=>by obtain⟨j,h1,h2,_⟩:=(hj.2.2 y).1 hm;have:=(List.getElem?_inj (show j<g.IDs.length by omega) w.nd).1 (h2.trans hy.symm);omega
    refine .bind (.app (by grind) (.some ⟨aq aa,by simp;exact hj.1,?_,λx=>?_⟩));all_goals grind
   .show x∈acc↔_;rw[hj.2.2 x];constructor
    .rintro⟨j,h1,h2⟩;exact⟨j,aa,h2⟩
    .rintro⟨j,h1,h2,h3⟩;rcases JF j k with hlt|hge
     .exact⟨j,hlt,h2,h3⟩
     .obtain rfl:j=k:=aa;rw[hb.2 h3] at hbf;cases hbf
 .unfold t8;dsimp only;rw[eF,A9];refine .some (.bind ((kg (by grind)).mono λr hr=> .some ⟨hr.1.nodup_iff.2 hj.2.1,λx=>?_,hr.2,by rw[hr.1.length_eq];exact hj.1⟩));rw[hr.1.mem_iff,hj.2.2 x];constructor
  .rintro⟨j,_,h2⟩;exact⟨j,h2⟩
  .rintro⟨j,h2,h3⟩;exact⟨j,by have:=(cr h2).1;omega,h2,h3⟩
structure C5 (g:AB) (r:AH):Prop where
 sub:∀x∈r,x∈g.IDs
 len:r.length<=1000
theorem R1(z:Int):Fk (wI z):=by grind [Fk,wI,IntKind.wrap_i64]
theorem nD(h:gU o=true):(1<=o.By/\o.By<=12)/\(1<=o.Seq/\o.Seq<=2147483647)/\0<=o.At/\o.At<=2147483647:=by have e:=jF o;rw[h] at e;unfold Fs at e;simp only[gT,aL] at e;grind
theorem l8(h:gU o=true)(hk:o.Kind=9):1<=o.Need/\o.Need<=(o.Guards.length:Int):=by obtain⟨h1,h2,h3⟩:=nD h;have e:=jF o;rw[h] at e;unfold Fs at e;simp only[gT,aL,hk,CM h1,CM h2,CM h3] at e;grind [ah]
theorem Fv.name{g:AB}(w:Fv g){x:Ab}(h:x∈g.IDs):∃i o,g.IDs[i]?=some x/\g.L[i]?=some o/\bu x g.IDs=some i/\i<g.L.length/\JM x/\x.By=o.By/\x.Seq=o.Seq/\Bb o/\EH o:=by have nI:=w.nI;obtain⟨i,hi⟩:=EO h;have hlt:=(cr hi).1;obtain⟨o,ho,so,a⟩:=w.op (i:=i) aa;obtain⟨y,e,h1,h2,_,h4⟩:=wN so;grind [ids,y0,List.getElem?_inj,nd]
theorem Fv.place{g:AB}(w:Fv g){x:Ab}(h:0<=gO g x):∃i o,gO g x=(i:Nat)/\g.IDs[i]?=some x/\g.L[i]?=some o/\x∈g.IDs/\Bb o/\EH o:=by
 have nI:=w.nI;unfold gO at h⊢;cases hk:bu x g.IDs with
 |none=>rw[hk] at h;simp at h
 |some i=>have hi:=(gb hk).1;grind [op]
theorem lj:0<=gO g x↔x∈g.IDs:=by grind [gO,jv]
theorem EC{α:Type}[DecidableEq α]:∀{l m:List α},l.Nodup->(∀x∈l,x∈m)->l.length<=m.length
 |[],_,_,_=>aC
 |x::r,m,h,hs=>by have hx:=hs x aC;have h2:=M2.1 h;have:=EC (l:=r) (m:=m.erase x) h2.2 (by grind);grind
theorem yf(w:Fv g){ids:AH}(hl:ids.length<=1000):T (Ja g ids) λr=>C5 g r/\r.Nodup/\(∀x,x∈r↔(∃k,g.IDs[k]?=some x/\uX g ids k)\/x∈ids/\x∈g.IDs)/\r.Pairwise rN:=by
 have nL:=w.nL;have nI:=w.nI;unfold Ja;refine .bind ((EB w aa).mono λv1 h1=>?_);obtain⟨b,a,c,d⟩:=h1;refine .bind (T.forA ids.length (λk acc=>acc.length<=v1.length+k/\acc.Nodup/\∀x,x∈acc↔x∈v1\/∃j,j<k/\ids[j]?=some x/\x∈g.IDs) aa (by grind) (λk acc hk hj=>?_) λacc hj=>?_)
 .obtain⟨y,hy⟩:∃y,ids[k]?=some y:=⟨_,EA hk⟩;unfold t9;dsimp only;rw[eA hk,ax,au,hy];simp only[aL];rw[dC aa,aL,kf aa];simp only[aL];rw[cL,aL];refine .ite (λhb=>?_) λhb=> .some ⟨aq aa,by grind,hj.2.1,λx=>?_⟩
  .by_cases hp:0<=gO g y
   .rw[CM hp,ax] at hb;have hny:y∉acc:=by grind [nA]
    refine .bind (.app cq (.some ⟨aq aa,by grind,?_,λx=>?_⟩))
    .grind
    grind [lj]
   grind
  grind [lj,nA]
 .unfold t9;dsimp only;rw[eF,A9];refine .some (.bind ((kg aa).mono λr hr=>?_));have key:∀x,x∈r↔(∃k,g.IDs[k]?=some x/\uX g ids k)\/x∈ids/\x∈g.IDs:=λx=>by rw[hr.1.mem_iff,hj.2.2 x,a x];grind [EO]
  have hsub:∀x∈r,x∈g.IDs:=by grind
  have hnd:r.Nodup:=hr.1.nodup_iff.2 hj.2.1;exact .some ⟨⟨hsub,by have:=EC hnd hsub;omega⟩,hnd,key,hr.2⟩
theorem KH(w:Fv g){ids:AH}(hl:ids.length<=1000):T (qL g ids) λr=>C5 g r/\r.Nodup/\(∀x,x∈r↔x∈ids/\x∈g.IDs/\¬∃k,g.IDs[k]?=some x/\uX g ids k)/\r.Pairwise rN:=by
 have nL:=w.nL;have nI:=w.nI;unfold qL;refine .bind ((EB w aa).mono λv1 h1=>?_);obtain⟨c,a,d,f⟩:=h1;refine .bind (T.forA ids.length (λk acc=>acc.length<=k/\acc.Nodup/\∀x,x∈acc↔∃j,j<k/\ids[j]?=some x/\x∈g.IDs/\x∉v1) aa ⟨aC,aC,λx=>aC⟩ (λk acc hk hj=>?_) λacc hj=>?_)
 .obtain⟨y,hy⟩:∃y,ids[k]?=some y:=⟨_,EA hk⟩;unfold qK;dsimp only;rw[eA hk,ax,au,hy];simp only[aL];rw[dC aa,aL,kf aa,kf aa];simp only[aL];rw[cL,cL,aL];have m1:nA v1 y=true↔y∈v1:=by
   constructor
   .intro h;obtain⟨z,hz,e⟩:=List.any_eq_true.1 h;rw[DP e] at hz;exact hz
   .intro h;exact List.any_eq_true.2 ⟨y,h,aC⟩
  have m2:nA acc y=true↔y∈acc:=by
   constructor
   .intro h;obtain⟨z,hz,e⟩:=List.any_eq_true.1 h;rw[DP e] at hz;exact hz
   .intro h;exact List.any_eq_true.2 ⟨y,h,aC⟩
  have hc:∀b:Bool,(bif 0<=gO g y then bif !nA v1 y then !nA acc y else false else false)=b->(b=true↔y∈g.IDs/\y∉v1/\y∉acc):=λb hb=>by rw[<-hb,<-lj,<-m1,<-m2];by_cases q1:0<=gO g y<;>cases nA v1 y<;>cases nA acc y<;>simp[q1]
  refine .ite (λhb=>?_) λhb=> .some ⟨aq aa,by show acc.length<=k+1;omega,hj.2.1,λx=>?_⟩
  .obtain⟨q1,i,l⟩:=(hc true hb).1 rfl;refine .bind (.app cq (.some ⟨aq aa,by grind,?_,λx=>?_⟩));all_goals grind
  .have q:=hc false hb;show x∈acc↔_;rw[hj.2.2 x];constructor
   .rintro⟨j,h1,h2⟩;exact⟨j,aa,h2⟩
   .rintro⟨j,h1,h2,h3,h4⟩;rcases JF j k with hlt|hge
    .exact⟨j,hlt,h2,h3,h4⟩
    .obtain rfl:j=k:=aa;rw[hy] at h2;cases h2;by_cases hm:y∈acc
     .exact(hj.2.2 y).1 hm
     .have:=q.2 ⟨h3,h4,hm⟩;cases this
 .unfold qK;dsimp only;rw[eF,A9];refine .some (.bind ((kg aa).mono λr hr=>?_));have key:∀x,x∈r↔x∈ids/\x∈g.IDs/\¬∃k,g.IDs[k]?=some x/\uX g ids k:=λx=>by rw[hr.1.mem_iff,hj.2.2 x,<-a x];grind [EO]
  grind [T.some,C5,List.Perm.length_eq]
theorem QH(w:Fv g){ids:AH}(h:C5 g ids)(d:Int):T (Fc g ids d) λn=>1<=n/\n<=2147483648:=by
 have hl:=h.len;unfold Fc;refine .bind (T.forA ids.length (λ_ n=>0<=n/\n<=2147483647) aa ⟨Cd,Cd⟩ (λk n hk hj=>?_) λn hj=>?_)
 .obtain⟨y,hy⟩:∃y,ids[k]?=some y:=⟨_,EA hk⟩;obtain⟨i,o,_,_,_,_,_,_,e,_,a⟩:=w.name (h.sub y (bO hy));have:=(nD a.numbers).2.1;unfold xu;dsimp only;rw[eA hk,ax,au,hy];simp only[aL];refine .dec (λ_=> .some ⟨aq aa,?_⟩) λ_=> .some ⟨aq aa,hj⟩;grind [Fi]
 .unfold xu;dsimp only;rw[eF,A9];refine .some (.some ?_);grind [bM]
theorem N0(w:Fv g){ids:AH}(hl:ids.length<=1000):T (z8 g ids) λn=>0<=n/\n<=2147483647:=by
 have nL:=w.nL;have nI:=w.nI;unfold z8;refine .bind (T.forA ids.length (λ_ n=>0<=n/\n<=2147483647) aa ⟨Cd,Cd⟩ (λk n hk hj=>?_) λn hj=>?_)
 .obtain⟨y,hy⟩:∃y,ids[k]?=some y:=⟨_,EA hk⟩;unfold ue;dsimp only;rw[eA hk,ax,au,hy,aL,dC aa,aL];refine .dec (λhp=>?_) λ_=> .some ⟨aq aa,hj⟩;obtain⟨i,o,e,_,ho,_,_,a⟩:=w.place hp;have:=(nD a.numbers).2.2;rw[e,au,ho,aL];refine .some ⟨aq aa,?_⟩;grind [Fi]
 .unfold ue;dsimp only;rw[eF,A9];exact .some (.some hj)
theorem eX{n m:Int}(h:Fk n)(hm:0<m):T (iq n m) λv=>0<=v/\v<m:=by obtain⟨h1,h2⟩:=h;grind [iq,T.rem,bM,Int.tmod_nonneg,Int.tmod_lt_of_pos]
def zId:Ab:=⟨0,0,0⟩
def Ys:Bi:=⟨0,0,0,0,[],0,0,0,0,[],⟨0,0,0⟩,0,[],[],⟨0,0,0⟩,[],0,0,[],0,[],⟨0,0⟩⟩
theorem dP:Fk 0:=by unfold Fk;omega
theorem pM:JM ⟨0,0,0⟩:=⟨dP,dP,by show(0:Nat)<_;omega⟩
theorem Wd:Bb Ys:=by constructor<;>first|exact pM|(unfold Ys;simp;done)|(intro z hz;simp[Ys] at hz;subst hz;exact dP)|(show fS 0;unfold fS;omega)
theorem zb(w:Fv g)(h:C5 g ids)(kd:Int):T (nS g ids kd) λr=>(r.1=zId/\r.2=Ys)\/(r.1∈ids/\Bb r.2/\EH r.2/\r.2.Kind=kd):=by
 have nL:=w.nL;have nI:=w.nI;have hl:=h.len;have e0:wI (ah g.L-1)=(g.L.length:Int)-1:=by grind [bM,ah]
 unfold nS;rw[e0];refine .bind (T.loop (λs=>s.1=zId/\s.2.1=Ys∧-1<=s.2.2/\s.2.2<g.L.length) (λs=>(s.2.2+1).toNat) ⟨rfl,rfl,by simp only;omega,by simp only;omega⟩ (by simp only;omega) ?_);rintro⟨a,b,i⟩ ⟨rfl,rfl,c,i1⟩;simp only at c i1;unfold vC;dsimp only;refine .dec (λhi=>?_) λhi=> .some (.some (.inl ⟨rfl,rfl⟩));obtain⟨n,rfl⟩:∃n:Nat,i=(n:Int):=⟨i.toNat,aa⟩;obtain⟨o,ho,so,d⟩:=w.op (i:=n) aa;obtain⟨x,hx⟩:∃x,g.IDs[n]?=some x:=⟨_,EA aa⟩;have ew:wI ((n:Int)-1)=(n:Int)-1:=bM aa aa;rw[au,ho,aL,au,hx];simp only[aL];rw[kf aa];simp only[aL];rw[cL,aL];refine .ite (λhb=> .some (.some (.inr ?_))) λhb=> .some ⟨⟨rfl,rfl,?_,?_⟩,?_⟩
 .by_cases hk:o.Kind=kd
  .rw[CM hk,ax] at hb;obtain⟨z,hz,e⟩:=List.any_eq_true.1 hb;grind
  grind
 all_goals grind
theorem yg{n:Int}(h1:n<=1000):T (o4 n) λr=>r.length<=1000/\(r.length:Int)=(if n<0 then 0 else n)/\∀x∈r,FI x:=by
 unfold o4;refine .bind (T.forA n.toNat (λk acc=>acc.length=k/\∀x∈acc,FI x) aa ⟨rfl,aC⟩ (λk acc hk hj=>?_) λacc hj=>?_)
 .unfold uc;dsimp only;rw[CM (show(k:Int)<n by omega),ax];refine .bind (.app cq (.some ⟨aq aa,by simp;exact hj.1,λx hx=>?_⟩));grind [FI,fS,Mp]
 .unfold uc;dsimp only;rw[C3 (by grind),A9];refine .some (.some ⟨aa,?_,hj.2⟩);split<;>omega
theorem zc(w:Fv g)(d:Int):T (nT g d) λm=>Fk m:=by grind [Fv.nC,nT,Cw,T.some,dP,mZ,Fv.cards]
theorem ED(w:Fv g)(d:Int)(h:0<=n/\n<=1000000):T (Sq g d n) λr=>C5 g r:=by
 have nL:=w.nL;have nI:=w.nI;unfold Sq;refine .bind ((Cz w).mono λv1 hv1=>?_);have i1:C5 g v1:=by grind [C5,List.Perm.length_eq]
 refine .bind (T.mono (Q:=λx:Int=> -1<=x/\x<g.L.length) (T.forA g.L.length (λ_ x=> -1<=x/\x<g.L.length) aa ⟨Cd,aa⟩ (λk x hk hj=>?_) λx hj=>?_) λa h4=>?_)
 .obtain⟨o,ho,_⟩:=w.op hk;unfold ub;dsimp only;rw[eA hk,ax,au,ho,aL];exact .dec (λ_=> .some (by constructor<;>grind [aq])) λ_=> .some ⟨aq aa,hj⟩
 .unfold ub;dsimp only;rw[eF,A9];exact .some hj
 .rw[cL,aL];refine .ite (λhb=>?_) λhb=>?_
  .have hx:0<a:=by grind
   obtain⟨k,rfl⟩:∃k:Nat,a=(k:Int):=⟨a.toNat,aa⟩;obtain⟨o,ho,so,b⟩:=w.op (i:=k) aa;rw[au,ho,aL];exact .bind (by grind [T.mono,yf,pK,EH.long,T.some])
  .rw[cL,aL];refine .ite (λ_=> .some i1) λhb2=>?_;have hx:0<=a:=by grind
   obtain⟨k,rfl⟩:∃k:Nat,a=(k:Int):=⟨a.toNat,aa⟩;obtain⟨y,hy⟩:∃y,g.IDs[k]?=some y:=⟨_,EA aa⟩;rw[au,hy,aL];have e3:wI (n.tdiv 3)=n.tdiv 3:=by grind [bM]
   rw[e3];refine .bind (.rem (by unfold ah;omega) ?_);have q0:0<=(n.tdiv 3).tmod (ah g.IDs):=Int.tmod_nonneg _ (Int.tdiv_nonneg h.1 Cd);have q1:(n.tdiv 3).tmod (ah g.IDs)<ah g.IDs:=Int.tmod_lt_of_pos _ (by unfold ah;omega);refine .bind (.ixl q0 (by unfold ah at q1;exact q1) λz _ _=>?_);exact .bind (by grind [T.mono,yf,T.some])
def il{α:Type}(p:α->Prop)(l:List α):Prop:=l.length<=1000/\∀x∈l,p x
theorem ay{p:α->Prop}:il p []:=⟨aC,aC⟩
theorem Hr(h1:Fk o.By)(h2:Fk o.Seq)(h3:Fk o.Kind)(h4:Fk o.At)(h5:il JM o.Past)(h6:Fk o.Device)(h7:Fk o.Old)(h8:Fk o.Member)(h9:Fk o.Role)(h10:il Hz o.Path)(h11:JM o.Epoch)(h12:Fk o.N)(h13:o.Body.length<=1000)(a:il fS o.Refs)(e:JM o.Of)(b:il Fk o.Guards)(g:Fk o.Need)(h:Fk o.Wait)(c:il FI o.Boxes)(f:fS o.Pub)(d:il HA o.Hist):Bb o:=by refine⟨λz hz=>?_,h5.1,h5.2,h10.1,h10.2,h11,h13,a.1,a.2,e,b.1,b.2,c.1,c.2,f,d.1,d.2⟩;simp only[EY,Lv,or_false] at hz;rcases hz with rfl|rfl|rfl|rfl|rfl|rfl|rfl|rfl|rfl|rfl|rfl<;>assumption
theorem Bb.iBy{o:Bi}(h:Bb o):Fk o.By:=h.ints _ aC
theorem Bb.iSeq{o:Bi}(h:Bb o):Fk o.Seq:=h.ints _ aC
theorem Bb.iKind{o:Bi}(h:Bb o):Fk o.Kind:=h.ints _ aC
theorem Bb.iAt{o:Bi}(h:Bb o):Fk o.At:=h.ints _ aC
theorem Bb.iDevice{o:Bi}(h:Bb o):Fk o.Device:=h.ints _ aC
theorem Bb.iOld{o:Bi}(h:Bb o):Fk o.Old:=h.ints _ aC
theorem Bb.iMember{o:Bi}(h:Bb o):Fk o.Member:=h.ints _ aC
theorem Bb.iRole{o:Bi}(h:Bb o):Fk o.Role:=h.ints _ aC
theorem Bb.iN{o:Bi}(h:Bb o):Fk o.N:=h.ints _ aC
theorem Bb.iNeed{o:Bi}(h:Bb o):Fk o.Need:=h.ints _ aC
theorem Bb.iWait{o:Bi}(h:Bb o):Fk o.Wait:=h.ints _ aC
theorem Bb.sPast{o:Bi}(h:Bb o):il JM o.Past:=⟨h.nPast,h.past⟩
theorem Bb.sRefs{o:Bi}(h:Bb o):il fS o.Refs:=⟨h.nRefs,h.refs⟩
theorem Bb.sGuards{o:Bi}(h:Bb o):il Fk o.Guards:=⟨h.nGuards,h.guards⟩
theorem Bb.sBoxes{o:Bi}(h:Bb o):il FI o.Boxes:=⟨h.nBoxes,h.boxes⟩
theorem Bb.sHist{o:Bi}(h:Bb o):il HA o.Hist:=⟨h.nHist,h.hist⟩
theorem Bb.nopath{o:Bi}(h:Bb o):Bb {o with Path:=[]}:=by grind [Hr,iBy,iSeq,iKind,iAt,sPast,iDevice,iOld,iMember,iRole,ay,epoch,iN,nBody,sRefs,of_,sGuards,iNeed,iWait,sBoxes,pub,sHist]
theorem m7(h: -1000000<=n/\n<=1000000):Fk n:=by unfold Fk;omega
theorem C5.smid{g:AB}(w:Fv g){ids:AH}(h:C5 g ids){x:Ab}(hx:x∈ids):JM x:=by grind [C5,Fv.name]
theorem Ir(w:Fv g)(h:C5 g ids)(so:Bb o)(hn:0<=n/\n<=1000000):T (sc g ids o n) λr=>Bb r:=by
 unfold sc;refine .bind ((zb w h 9).mono λv1 hv=>?_);have s1:JM v1.1:=by
  rcases hv with⟨e,_⟩|⟨e,_⟩
  .rw[e];exact pM
  .exact h.smid w e
 have s2:Bb v1.2:=by grind [Wd]
 rw[cL,aL,cL,aL];have e16:wI (n.tdiv 16)=n.tdiv 16:=by grind [bM]
 have e32:wI (n.tdiv 32)=n.tdiv 32:=by grind [bM]
 refine .dec (λh9=>?_) λh9=>?_
 ·
  refine .bind (T.mono (Q:=λx:Bj=>x.length<=4/\∀z∈x,Fk z) (T.loop (λs=>1<=s.2/\s.2<=5/\(s.1.length:Int)<=s.2-1/\∀z∈s.1,Fk z) (λs=>(5-s.2).toNat) (by grind) Cd ?_) λm hx=>?_)
  .rintro⟨acc,i⟩ ⟨i1,p,q,f⟩
   simp only at i1 p q f
   have ei:wI (i+1)=i+1:=bM aa aa
   unfold vF
   dsimp only
   refine .dec (λh4=>?_) λh4=> .some ⟨aa,f⟩
   refine .bind (.quo aa (.dec (λ_=>?_) λ_=> .some ⟨⟨?_,?_,?_,f⟩,?_⟩))
   .refine .bind (.app cq (.some ⟨⟨?_,?_,?_,λz hz=>?_⟩,?_⟩))
    .show 1<=wI (i+1);omega
    all_goals grind [m7]
   all_goals grind
  .rw[cL,aL]
   have hj:∃j:Bj,(bif ah m=0 then([1,2]:Bj)else m)=j/\1<=j.length/\j.length<=4/\∀z∈j,Fk z:=by grind [ah,m7]
   obtain⟨j,ej,D,E,t⟩:=hj
   rw[ej,e16]
   have hm:0<iI 2 (ah j)/\iI 2 (ah j)<=2:=by unfold iI ah;split<;>omega
   refine .bind (.rem aa (.bind ((yg (n:=ah j) (by unfold ah;omega)).mono λbx c=> .some ?_)))
   exact Hr so.iBy so.iSeq (by grind [m7]) so.iAt so.sPast so.iDevice so.iOld so.iMember so.iRole ay so.epoch so.iN so.nBody so.sRefs so.of_ ⟨by show j.length<=1000;omega,t⟩ (R1 _) (by grind [Fk]) ⟨c.1,c.2.2⟩ (by show(5:Nat)<_;omega) so.sHist
 ·
  generalize hj5:(bif bif o.Kind≠9 then decide (v1.1=(⟨0,0,0⟩:Ab))else false then(9:Int)else o.Kind)=u at h9⊢
  have hk5:u=o.Kind/\v1.1≠⟨0,0,0⟩:=by grind
  obtain⟨rfl,k⟩:=hk5
  have hv2:EH v1.2/\v1.2.Kind=9:=by
   rcases hv with⟨e,_⟩|⟨_,_,e,e'⟩
   .exact absurd e k
   .exact⟨e,e'⟩
  have hg:=l8 hv2.1.numbers hv2.2
  have hgl:0<ah v1.2.Guards/\ah v1.2.Guards<=1000:=by grind [Bb.nGuards,ah]
  refine .bind ((zc w _).mono λl v=>?_)
  refine .bind (T.mono (Q:=λx:Int×List Ho=>Fk x.1/\il FI x.2) (.ite (λ_=> .bind ((yg hgl.2).mono λb hb=> .some ⟨s1.a,hb.1,hb.2.2⟩)) λ_=> .some ⟨so.iBy,so.sBoxes⟩) λy d=>?_)
  rw[cL,aL]
  refine .bind (T.mono (Q:=λx:Int×Int=>Fk x.1/\Fk x.2) (.ite (λ_=> .bind (.rem aa (.bind (.ixl (Int.tmod_nonneg _ hn.1) (Int.tmod_lt_of_pos _ hgl.1) (by grind [T.some,Bb.guards,R1]))))) λ_=> .some ⟨d.1,so.iDevice⟩) λA h36=>?_)
  refine .bind (T.mono (Q:=λx:List Ho=>il FI x) (.ite (λ_=> .bind ((yg Cd).mono λb hb=> .some ⟨hb.1,hb.2.2⟩)) λ_=> .some d.2) λB C=>?_)
  rw[cL,aL]
  have h40:Fk (bif o.Kind=13 then l else o.Old):=by grind [Bb.iOld]
  grind [T.some,Hr,Bb.iSeq,Bb.iKind,Bb.iAt,Bb.sPast,Bb.iMember,Bb.iRole,ay,Bb.epoch,Bb.iN,Bb.nBody,Bb.sRefs,Bb.iNeed,Bb.iWait,Bb.pub,Bb.sHist]
theorem EE(h:0<=n):T (z7 n) λk=>Fk k:=by unfold z7;refine .bind (.ixl (Int.tmod_nonneg _ h) (by have:=Int.tmod_lt_of_pos n (show(0:Int)<20 by decide);simp;omega) λx _ hx=> .some ?_);have:x∈([6,4,3,2,5,7,8,3,6,9,11,11,13,12,10,4,3,2,6,13]:Bj):=hx;have key:∀y∈([6,4,3,2,5,7,8,3,6,9,11,11,13,12,10,4,3,2,6,13]:Bj),-1000000<=y/\y<=1000000:=Cd;exact m7 (key x this)
theorem Mt:Fk 1:=m7 aa
theorem Yt:Fk 2:=m7 aa
theorem QJ:fS 0:=by unfold fS;omega
def Nx(g:AB)(x:Bi×AH):Prop:=Bb x.1/\C5 g x.2
theorem Nx.np{g:AB}{x:Bi×AH}(h:Nx g x):Nx g ({x.1 with Path:=[]},x.2):=⟨h.1.nopath,h.2⟩
theorem N2(w:Fv g){m:Int}(hn:Fk n)(hm:Fk m):T (sd g n m) λr=>Bb r:=by
 have nL:=w.nL;have nI:=w.nI;unfold sd;refine .bind ((eX hn Cd).mono λv1 h1=> .bind ((eX hm Cd).mono λf h3=> .bind ((EE h3.1).mono λC h5=>?_)));have hq:∀q:Int,0<q->wI (v1.tdiv q)=v1.tdiv q/\0<=v1.tdiv q/\v1.tdiv q<=1000000:=λq hq=>by have a:=Int.tdiv_nonneg h1.1 (show(0:Int)<=q by omega);have b:=Int.tdiv_le_self q h1.1;grind [bM]
 have hk:wI (f.tdiv 20)=f.tdiv 20/\0<=f.tdiv 20/\f.tdiv 20<=1000000:=by grind [bM]
 rw[hk.1];generalize hkk:f.tdiv 20=k at hk⊢;obtain⟨_,B,k1⟩:=hk;have tm:∀(z q:Int),0<q->q<=1000000→-1000000<=z.tmod q/\z.tmod q<=1000000:=λz q h h'=>by have h3:=Int.tmod_lt_of_pos z h;have h4: -q<z.tmod q:=Int.lt_tmod_of_pos z h;omega
 refine .dec (λh0=> .some ?_) λh0=>?_
 .grind [Hr,ay,pM,m7,QJ]
 have hL:0<g.L.length:=by unfold ah at h0;omega
 rw[cL,aL];generalize hj8:(bif ah g.L<4 then(⟨1,0,2,0,[],wI ((ah g.L)+1),0,0,wI (3-(wI (Int.tdiv (Int.tmod v1 5) 4))),[],⟨0,0,0⟩,0,[],[],⟨0,0,0⟩,[],0,0,[],0,[],⟨0,0⟩⟩:Bi) else⟨wI (1+(Int.tmod v1 5)),0,C,0,[],0,0,0,0,[],⟨0,0,0⟩,0,[],[],⟨0,0,0⟩,[],0,0,[],0,[],⟨0,0⟩⟩)=l;have s8:Bb l:=by grind [Hr,Mt,dP,Yt,ay,R1,pM,QJ]
 clear hj8;obtain⟨D,o,p⟩:=hq 5 Cd;rw[D];refine .bind ((ED w l.By ⟨o,p⟩).mono λE h10=>?_);refine .bind (T.mono (Q:=λx=>C5 g x) (.ite (λ_=> .bind ((Cz w).mono (by grind [T.some,C5,List.Perm.length_eq]))) λ_=> .some h10) λj12 h12=>?_);refine .bind ((zb w h12 6).mono λt u=>?_);have s14:JM t.1:=by
  rcases u with⟨e,_⟩|⟨e,_⟩
  .rw[e];exact pM
  .exact h12.smid w e
 refine .bind (T.mono (Q:=λx:Int×Int×Nat=>JM ⟨x.1,x.2.1,x.2.2⟩) (.ite (λ_=> .bind (.ixl Cd (by rw[nI];omega) λy _ hy=> .some ?_)) λ_=> .some s14) λF H=>?_)
 .obtain⟨_,_,_,_,_,_,s,_⟩:=w.name hy;exact s
 refine .bind (T.mono (Q:=λx:Bi×AH=>Nx g x) ?_ λI v=>?_)
 .refine .ite (λ_=>?_) λ_=>?_
  .refine .bind (T.mono (Q:=λx:Int×Int=>Fk x.1/\Fk x.2) (by grind [T.some,R1,Bb.iDevice,Bb.iRole]) λx hx=> .some ⟨?_,h12⟩);grind [Hr,Bb.iBy,Bb.iSeq,Bb.iKind,Bb.iAt,ay,Bb.iOld,Bb.iMember,Bb.epoch,Bb.iN,Bb.of_,Bb.iNeed,Bb.iWait,Bb.pub]
  refine .bind (T.mono (Q:=λx:Bi×AH=>Nx g x) ?_ λx hx=> .some hx.np);refine .ite (λ_=>?_) λ_=>?_
  .refine .bind (T.mono (Q:=λx:Int×Int=>Fk x.1/\Fk x.2) (by grind [T.some,dP,R1,Bb.iMember]) λx hx=> .some ⟨?_,h12⟩);grind [Hr,Bb.iBy,Bb.iSeq,Bb.iKind,Bb.iAt,ay,Bb.iOld,Bb.iRole,Bb.epoch,Bb.iN,Bb.of_,Bb.iNeed,Bb.iWait,Bb.pub]
  refine .bind (T.mono (Q:=λx:Bi×AH=>Nx g x) ?_ λx hx=> .some hx.np);refine .ite (λ_=> .some ⟨?_,h12⟩) λ_=>?_
  .grind [Hr,Bb.iBy,Bb.iSeq,Bb.iKind,Bb.iAt,ay,Bb.iDevice,Bb.iOld,R1,Bb.epoch,Bb.iN,Bb.of_,Bb.iNeed,Bb.iWait,Bb.pub]
  refine .bind (T.mono (Q:=λx:Bi×AH=>Nx g x) ?_ λx hx=> .some hx.np);refine .ite (λ_=>?_) λ_=>?_
  .have hm4:0<iI (ah g.IDs) 4/\iI (ah g.IDs) 4<=ah g.IDs:=by unfold iI ah;split<;>omega
   refine .bind (.rem aa (.bind (.ixl (Int.tmod_nonneg _ B) (by have:=Int.tmod_lt_of_pos k hm4.1;grind [ah]) λy _ hy=>?_)));obtain⟨_,_,_,_,_,_,sy,_⟩:=w.name hy;refine .bind (T.mono (Q:=λx:Bp=>il fS x) (.ite (λ_=> .some ⟨aC,λz hz=>by simp at hz;rcases hz with rfl|rfl<;>exact Mp _⟩) λ_=> .some ay) λx hx=> .some ⟨?_,h12⟩);exact Hr s8.iBy s8.iSeq s8.iKind s8.iAt ay s8.iDevice s8.iOld s8.iMember s8.iRole ay sy (by grind [m7]) aC hx s8.of_ ay s8.iNeed s8.iWait ay s8.pub ay
  refine .bind (T.mono (Q:=λx:Bi×AH=>Nx g x) ?_ λx hx=> .some hx.np);refine .ite (λ_=> .some ⟨?_,h12⟩) λ_=>?_
  .grind [Hr,Bb.iBy,Bb.iSeq,Bb.iKind,Bb.iAt,ay,Bb.iDevice,Bb.iOld,Bb.iMember,Bb.iRole,Bb.epoch,Bb.iN,Bb.iNeed,Bb.iWait,Bb.pub]
  refine .bind (T.mono (Q:=λx:Bi×AH=>Nx g x) ?_ λx hx=> .some hx.np);refine .ite (λ_=> .some ⟨?_,h12⟩) λ_=>?_
  .grind [Hr,Bb.iBy,Bb.iSeq,Bb.iKind,Bb.iAt,ay,Bb.iDevice,Bb.iOld,Bb.iMember,Bb.iRole,Bb.epoch,Bb.iN,Bb.iNeed,Bb.iWait,Bb.pub]
  have s8':Bb {l with Past:=[],Path:=[],Body:=[],Refs:=[],Guards:=[],Boxes:=[],Hist:=[]}:=by grind [Hr,Bb.iBy,Bb.iSeq,Bb.iKind,Bb.iAt,ay,Bb.iDevice,Bb.iOld,Bb.iMember,Bb.iRole,Bb.epoch,Bb.iN,Bb.of_,Bb.iNeed,Bb.iWait,Bb.pub]
  refine .bindc ?_ λb _=>?_
  .grind [T.some]
  refine .bind (T.mono (Q:=λx:Bi×AH=>Nx g x) (.ite (λ_=>?_) λ_=> .some ⟨s8',h12⟩) λx hx=> .some hx.np);refine .bind ((Ir w h12 s8' ⟨B,k1⟩).mono λJ A=>?_);refine .bind (T.mono (Q:=λx=>C5 g x) (by grind [ED,T.some]) λx hx=> .some ⟨A.nopath,hx⟩)
 .obtain⟨c,i⟩:=v;have K:=i.len;refine .bindc ?_ λb _=>?_
  .grind [T.some,kf]
  refine .bind (T.mono (Q:=λx=>C5 g x) (.ite (λ_=> .bind ((Cz w).mono (by grind [T.some,C5,List.Perm.length_eq]))) λ_=> .some i) λM d=>?_);refine .bind ((KH w d.len).mono λN j=> .bind ((QH w d _).mono λO P=> .bind ((N0 w d.len).mono λR S=> .some ?_)));exact Hr c.iBy (by grind [Fk]) c.iKind (R1 _) ⟨j.1.len,λx hx=>j.1.smid w hx⟩ c.iDevice c.iOld c.iMember c.iRole ay c.epoch c.iN c.nBody c.sRefs c.of_ c.sGuards c.iNeed c.iWait c.sBoxes c.pub c.sHist
theorem dk{l:List α}{k:Nat}(h:k<l.length):∃y,l[k]?=some y/\y∈l:=by simp_all
def EF(g:AB)(l:Bj):Prop:=∀x∈l,0<=x/\x<(g.L.length:Int)
theorem EF.nat{g:AB}{l:Bj}(h:EF g l){x:Int}(hx:x∈l):∃i:Nat,x=(i:Int)/\i<g.L.length:=by obtain⟨h1,h2⟩:=h x hx;exact⟨x.toNat,aa,aa⟩
theorem EF.snoc{g:AB}{l:Bj}(h:EF g l){i:Nat}(hi:i<g.L.length):EF g (l++[(i:Int)]):=λx hx=>by
 rcases Hp.1 hx with h'|h'
 .exact h x h'
 grind
theorem EF.nil{g:AB}:EF g []:=λx hx=>by cases hx
structure RkS (g:AB) (n:Nat) (r:C7):Prop where
 cards:r.Cards=g.Cards
 nV:r.V.length<=n
theorem RkS.up{g:AB}{n m:Nat}{r:C7}(h:RkS g n r)(hm:n<=m):RkS g m r:=by grind [RkS]
theorem Fv.inrow{g:AB}(w:Fv g){i:Nat}(h:i<g.L.length):∃r,g.In[i]?=some r/\r.length=g.L.length:=by obtain⟨r,hr,_⟩:=dk (l:=g.In) (k:=i) (by rw[w.nN];exact h);grind [rows]
theorem Fv.cell{g:AB}(w:Fv g){i k:Nat}(h:i<g.L.length)(hk:k<g.L.length):∃r b,g.In[i]?=some r/\r[k]?=some b:=by obtain⟨r,hr,hl⟩:=w.inrow h;simp_all
theorem Mv(g:AB):RkS g 0 ⟨g.Cards,[],[],[],0,[]⟩:=by grind [RkS]
theorem Oc{n:Nat}(h:2<=n)(hn:n<=1000000):T (zZ (n:Int)) λv=>∃k:Nat,v=(k:Int)/\1<=k/\k<n:=by
 unfold zZ;refine .bind (T.mono (Q:=λv:Int=>∃k:Nat,v=(k:Int)/\1<=k/\k<n) (T.loop (λs=>∃k:Nat,s=(k:Int)/\1<=k/\k<n) (λs=>n-s.toNat) ⟨1,rfl,aa,aa⟩ cq ?_) λv hv=> .some hv);rintro s ⟨k,rfl,h1,h2⟩;unfold AE;have e:wI (2*(k:Int))=((2*k:Nat):Int):=by grind [bM]
 rw[e];refine .dec (λhp=> .some ⟨⟨2*k,rfl,aa,aa⟩,?_⟩) λ_=> .some ⟨k,rfl,h1,h2⟩;simp;omega
theorem Ow:∀(nn:Nat) (l:Bj),l.length<nn->l.length<=1000000->T (Ll nn l) λr=>r.length<=2*l.length-1/\∀y∈r,y.length<=l.length
 |0,_,h,_=>absurd h (Nat.not_lt_zero _)
 |nn+1,l,h,hl=>by
  unfold Ll;refine .dec (λ_=> .some ⟨aC,aC⟩) λh0=> .dec (λh1=>?_) λh1=>?_
  .grind [ah,T.some]
  .unfold ah at h0 h1⊢;refine .bind ((Oc (n:=l.length) aa hl).mono λd hv=>?_);obtain⟨k,rfl,k1,k2⟩:=hv;refine .bind (.pre aa aa ?_);rw[Fm];refine .bind ((Ow nn (l.take k) cq cq).mono λe h7=> .bind (.app (by simp at h7⊢;omega) (.bind (.suf aa aa ?_))));rw[Fm];refine .bind ((Ow nn (l.drop k) cq cq).mono λc h13=> .bind (.app (by simp at h7 h13⊢;omega) (.some ?_)));simp only[Ns,List.length_drop] at h7 h13;have e1:min k l.length=k:=aa;rw[e1] at h7;refine⟨?_,λy hy=>?_⟩
   .have a:=h7.1;have b:=h13.1;simp only[Sv,List.length_singleton];omega
   .simp only[Hp,List.mem_singleton] at hy;rcases hy with(rfl|hy)|hy
    .exact C6 _
    .have:=h7.2 y hy;omega
    .have:=h13.2 y hy;omega
theorem Od{l:Bj}(hl:l.length<=100000)(d:Int):T (N9 l d) λr=>r.length<=200000:=by
 unfold N9 z0;refine .bind ((Ow _ l aa aa).mono λv1 h1=>?_);have e:wI (ah v1-1)=ah v1-1:=by grind [bM,ah]
 rw[e];refine .bind (T.mono (Q:=λr:Ni=>r.length<=200000) (T.loop (λs=> -1<=s.2/\s.2<(v1.length:Int)/\s.1.length+(s.2+1).toNat<=v1.length) (λs=>(s.2+1).toNat) (by grind [ah]) (by grind [ah]) ?_) λ_ h=> .some h);rintro⟨a,i⟩ ⟨i1,b,c⟩;simp only at i1 b c;unfold AF;refine .dec (λh0=>?_) λ_=> .some (by show a.length<=_;omega);replace h0:0<=i:=h0;refine .bind (.ixl h0 (by show i<_;omega) λy hy hm=>?_);have hw:wI (i-1)=i-1:=bM aa aa;rw[cX (by have:=h1.2 y hm;omega),aL];refine .ite (λ_=>?_) λ_=> .some ⟨⟨?_,?_,?_⟩,?_⟩
 .rw[show aS v1 (a,i).2=aS v1 i from rfl];refine .bind (.ixl h0 aa λz _ _=> .bind (.app (by show(a.length+1)*24<=_;omega) (.some ⟨⟨?_,?_,?_⟩,?_⟩)));all_goals grind
 all_goals grind
theorem zh(k:Int):T (E0 k) λ_=>True:=by grind [E0,T.some]
inductive JS (g0:AB):AB->Prop
 |base:JS g0 g0
 |step {g:AB} {o:Bi} {id:Ab} {up:Bj} {row:List Bool}:JS g0 g->Fv g->Bb o->fS o.Sig.R->fS o.Sig.S->Mj g o up->pV o=some id->jA g up=some row->JS g0 (pL g o id up row)
def GR:LP:=(ql [1,2,3,1,2,3]).getD []
theorem Oe:ql [1,2,3,1,2,3]=some GR:=aH
def KK(c:DF):Bool:=decide (1<=c.Device/\c.Device<=6/\1<=c.Member/\c.Member<=3/\c.Sign<18446744073709551616)
theorem Og:GR.all KK=true:=aH
theorem KL:GR.length=6:=aH
attribute [irreducible] GR
def g0:AB:=⟨GR,[],[],[],[]⟩
theorem Yu:Fv g0 where
 nL:=by simp[g0]
 nI:=rfl
 nU:=rfl
 nN:=rfl
 nC:=by show GR.length<=1000;rw[KL];decide
 cards:=λc hc=>by have h:KK c=true:=GE.1 Og c hc;grind [KK,Fk,fS]
 up:=by grind [g0]
 rows:=by grind [g0]
 inlt:=by grind [O9,g0]
 ops:=by grind [g0]
 ids:=by grind [g0]
 nd:=by simp[g0]
 one:=by grind [g0]
 tr:=by grind [g0]
 la:=by grind [O9,g0]
def We(c:Int):Bi:=⟨1,1,1,0,[],0,0,0,0,[],⟨0,0,0⟩,0,[],[],⟨0,0,0⟩,[],c,0,[],0,[],⟨0,0⟩⟩
theorem Yv{a b:Int}(ha:Fk a)(hb:Fk b):∃c∈([0,1,2,3]:Bj),sd g0 a b=some (We c):=by
 obtain⟨v1,e1,h1⟩:=eX ha (show(0:Int)<1000000 by decide);obtain⟨d,e3,h3⟩:=eX hb (show(0:Int)<1000000 by decide);obtain⟨e,e5,_⟩:=EE h3.1;refine⟨v1.tmod 4,?_,?_⟩
 .grind
 .unfold sd;rw[e1,aL,e3,aL,e5,aL];rfl
theorem T6(m:Hj)(i:Ab)(n:Int)(x:Ab):(CW m i n).get x=match m.get x with|some v=>some v|none=>if i=x then some n else none:=by grind [CW,FM.get]
theorem EV{k x:Ab}:∀{l:AH},bu k (l++[x])=match bu k l with|some n=>some n|none=>if x=k then some l.length else none
 |[]=>by grind [bu]
 |y::r=>by
  rw[List.cons_append,bu,bu];by_cases e:k=y
  .rw[Bx e,Bx e]
  .rw[BB e,BB e,EV (l:=r)];grind
theorem T7(hn:g.Cards.length<=1000000){c:DF}(h:mZ g d=(c,true)):hY ⟨g.Cards,m,N⟩ d=some (c,true):=by
 unfold mZ at h;unfold hY;refine T.eq (.bind (T.forA g.Cards.length (λk acc=>∀(j:Nat) (c:DF),j<k->g.Cards[j]?=some c->c.Device≠d) aa (by grind) (λk acc hk hj=>?_) λacc hj=>?_))
 .obtain⟨x,hx⟩:∃x,g.Cards[k]?=some x:=⟨_,EA hk⟩;unfold ij;dsimp only;rw[eA hk,ax,au,hx,aL];refine .dec (λe=> .some (.some ?_)) λe=> .some ⟨aq aa,λj c' a b=>?_⟩
  .grind [List.find?_eq_some_iff_getElem]
  grind
 grind [EO]
theorem T8(w:Fv g)(pg:ON g m N){id:Ab}{up:Bj}{row:List Bool}(sm:Bb o)(hs:fS o.Sig.S)(a:Mj g o up)(hid:pV o=some id)(hrow:jA g up=some row):
  ∃y:BX,y.o=o/\y.id=id/\ON (pL g o id up row) (CW m id N.length) (N++[y])/\jg prog fI 15 [.ref 0 0,.agg (aJ o)] [(0,oG g.Cards N.length 2),(1,oM m),(2,zQ N)] 3 (iG 0) [(0,oG g.Cards (N++[y]).length 3),(1,oM (CW m id N.length)),(3,zQ (N++[y]))] 4:=by
 have nL:=w.nL
 have nI:=w.nI
 have pl:=pg.len
 have hro:=a.room
 have f:=T1 a.check.numbers
 have ul:up.length<=12:=by rw[a.upl];exact pK a.check.long
 obtain⟨r,hrow',q,s⟩:=yc w (up:=up) aa a.upb
 rw[hrow] at hrow'
 cases hrow'
 obtain⟨D,d,hfr⟩:=a.id
 rw[hid] at d
 cases d
 obtain⟨c,hc,e⟩:=a.card
 obtain⟨J,hr1,hr2⟩:=a.right
 rw[hrow] at hr1
 cases hr1
 obtain⟨v,hv,i⟩:=Xb w (o:=o) q
 rw[hr2] at hv
 cases hv
 have hR:=i rfl
 obtain⟨⟨p,b,E,lev⟩,h1,e1,e2,e3,e4,e5,e8⟩:=ZF w pg a sm
 dsimp only at e1 e2 e3 e4 e5 e8
 have hbeh:∀j:Nat,j<256->(gW (Q6 b p) j=true↔EP g up j):=by grind [RP,EP]
 obtain⟨⟨last,F⟩,h4,e6,e7⟩:=ZG (A:=Q6 b p) w pg f (by grind) hR
 dsimp only at e6 e7
 obtain⟨H,l,ho2⟩:=TU sm
 rw[hid] at ho2
 cases ho2
 have ap:Ad3 g.Cards m N o id c (pT o.Kind):={
  chk:=RL a.check sm
  sm:=sm
  cl:=RM sm
  id:=l
  fresh:=by rw[pg.get,hfr];rfl
  room:=aa
  card:=T7 (by have:=w.nC;omega) hc
  by_:=(yd hc).2.symm
  sig:=TW (by have:=yY sm;omega) e
  create:=by grind [Mj.create]
  nPast:=by have:=sm.nPast;omega
  par:=λx hx=>by obtain⟨k,hk⟩:=EO hx;obtain⟨n,hn,_⟩:=a.par k x hk;have hnl:n<g.IDs.length:=(cr (gb hn).1).1;grind [ON.get]}
 have h2:ZA p b 4=z4:=by grind [RQ,Mj.apart]
 refine⟨⟨o,id,Q6 b p,lev⟩,rfl,rfl,⟨?_,?_,?_,?_⟩,(by grind [W7])⟩
 .show(N++[_]).length=(g.L++[o]).length
  simp[pl]
 .intro k y hy
  have inx:=kU w (o:=o) (id:=id) (up:=up) q
  rcases je hy with⟨hk,h⟩|⟨hk,rfl⟩
  .obtain⟨t,z,I,B,C⟩:=pg.nd k y h
   refine⟨Ms t,Ms z,λj hj=>?_,B,C⟩
   grind
  .subst hk
   refine⟨by rw[pl];exact F8,by rw[show N.length=g.IDs.length by omega];exact F8,λj hj=>?_,e4,e5⟩
   have:=inx N.length j
   have hb:=hbeh j hj
   have hrj:row[j]?=some true↔EP g up j:=by
    rcases JF j g.L.length with h|h
    .exact s j h
    .constructor
     .grind
     .rintro(h2|⟨n,h2,h3⟩)
      .have:=(a.upb _ h2).2;omega
      .have:=w.inlt n j h3;omega
   grind
 .intro x
  rw[T6,pg.get,show(pL g o id up row).IDs=g.IDs++[id] from rfl,EV]
  cases bu x g.IDs<;>grind
 .intro k y u hy hu
  have hUp:(pL g o id up row).Up=g.Up++[up]:=rfl
  have nU:=w.nU
  rw[hUp] at hu
  rcases je hy with⟨hk,h⟩|⟨hk,rfl⟩
  .rw[List.getElem?_append_left aa] at hu
   rw[pg.lv k y u h hu]
   refine(Ade λx hx=>?_).symm
   have:=(w.up k u hu).2 x hx
   omega
  .subst hk
   rw[List.getElem?_append_right aa,show N.length-g.Up.length=0 by omega] at hu
   obtain rfl:=Bh hu
   show lev=_
   rw[e8]
   refine(Ade λx hx=>?_).symm
   have:=a.upb x hx
   omega
theorem OL{b:AB}(h:JS b g)(hb:b.L=[])(hi:b.IDs=[])(hs:xf b.Cards):∃(c:Nat->Hj) (N:Hl),g.Cards=b.Cards/\g.L.length<=200/\Adc g c N/\ON g (c g.L.length) N:=by
 induction h with
 |base=>refine⟨λ_=>⟨[],0⟩,[],rfl,by rw[hb];exact Nat.zero_le _,⟨hs,by rw[hb];exact Nat.zero_le _,by rw[hb];rfl,rfl,λk o ho=>by rw[hb] at ho;simp at ho⟩,⟨by rw[hb];rfl,λk y hy=>by simp at hy,(λx=>by rw[hi];rfl),(λk y u hy=>by simp at hy)⟩⟩
 | @step g o id up row gr w sm _ d a hid hrow ih=>
  obtain⟨c,N,hc,hl,hrun,pg⟩:=ih;have pl:=pg.len;have hro:=a.room;obtain⟨y,f,i,e,hm⟩:=T8 w pg sm d a hid hrow;have el:(pL g o id up row).L=g.L++[o]:=rfl;have ell:(pL g o id up row).L.length=g.L.length+1:=by rw[el];simp
  have eC:(pL g o id up row).Cards=g.Cards:=rfl;refine⟨λk=>if k<=g.L.length then c k else CW (c g.L.length) id N.length,N++[y],hc,aa,⟨by rw[eC];exact hrun.srt,aa,by rw[ell];simp[pl],by show(if 0<=g.L.length then c 0 else _)=_;rw[Bx (Nat.zero_le _)];exact hrun.m0,λk p hp=>?_⟩,?_⟩
  .rw[eC];rcases je (l:=g.L) (x:=o) hp with⟨hk,h⟩|⟨hk,rfl⟩
   .grind [Adc.step]
   grind
  .rw[ell];dsimp only;rw[BB aa];exact e
structure Ug (gg:Aj):Prop where
 pos:∀x n,gg.at_.get x=some n->∃(k:Nat) (y:BX),n=(k:Int)/\gg.nodes[k]?=some y/\k<256
 cl:∀y∈gg.nodes,pG y.o=some y.o
 nc:gg.cards.length<=1000
def MY(gg:Aj)(x:Ab):Option BX:=(gg.at_.get x).bind λn=>aS gg.nodes n
def Agw(gg:Aj)(x y:Ab):Bool:=match gg.at_.get x,MY gg y with
 |some n,some b=>gW b.past n.toNat
 |_,_=>false
def Rf(gg:Aj):Gi:=⟨λx=>(MY gg x).map (·.o),Agw gg,λx=>match MY gg x with|some y=>y.level|none=>0,gg.cards,λd=>gg.cards.find? λc=>decide (c.Device=d)⟩
theorem Uh(h:Ug gg)(e:gg.at_.get x=some n):∃(k:Nat) (y:BX),n=(k:Int)/\aS gg.nodes n=some y/\MY gg x=some y/\k<256/\y∈gg.nodes:=by
 obtain⟨k,y,rfl,hy,hk⟩:=h.pos x n e;have hz:aS gg.nodes (k:Int)=some y:=by rw[au];exact hy
 refine⟨k,y,rfl,hz,?_,hk,bO hy⟩;unfold MY;rw[e];exact hz
theorem WY(e:gg.at_.get x=none):MY gg x=none:=by unfold MY;rw[e];rfl
def Ya(q:Ab->Bool)(l:AH)(j:Nat):Nat:=((l.take j).filter q).length
def wK(q:Ab->Bool)(l:AH)(j:Nat):AH:=(l.take j).filter q++l.drop (Ya q l j)
theorem Amp{q:Ab->Bool}{l:AH}{j:Nat}:Ya q l j<=j/\Ya q l j<=l.length:=by grind [Ya]
theorem Aaw{q:Ab->Bool}{l:AH}{j:Nat}:(wK q l j).length=l.length:=by grind [wK,Ya]
theorem Amq{q:Ab->Bool}:(wK q l j)[j]?=l[j]? :=by grind [wK,Ya]
theorem Amr{q:Ab->Bool}(hx:l[j]?=some x)(hq:q x=false):Ya q l (j+1)=Ya q l j/\wK q l (j+1)=wK q l j:=by grind [Hv,Ya,wK]
theorem Aoa{q:Ab->Bool}(hx:l[j]?=some x)(hq:q x=true):Ya q l (j+1)=Ya q l j+1/\ji (wK q l j) ((Ya q l j:Nat):Int) x=some (wK q l (j+1)):=by
 have e:(l.take (j+1)).filter q=(l.take j).filter q++[x]:=by grind [Hv]
 have e2:Ya q l (j+1)=Ya q l j+1:=by grind [Ya]
 grind [ji,Aaw,wK,List.set_append_right,Ya,List.drop_eq_getElem_cons]
theorem Akp{q:Ab->Bool}{l:AH}(h:l.findIdx? (λx=> !q x)=some i):i<l.length/\Ya q l (i+1)=i/\wK q l (i+1)=l:=by
 obtain⟨hi,h1,h2⟩:=List.findIdx?_eq_some_iff_getElem.1 h;have e:(l.take i).filter q=l.take i:=by grind [List.filter_eq_self,List.getElem_of_mem]
 have hx:l[i]?=some l[i]:=EA hi;grind [Ya,Amr,wK,Pt]
theorem Ai8{q:Ab->Bool}(h:l.any (λx=> !q x)=false):l.filter q=l:=by grind [List.filter_eq_self]
theorem W6{q:Ab->Bool}{l:AH}:(wK q l l.length).take (l.filter q).length=l.filter q/\Ya q l l.length=(l.filter q).length:=by grind [wK,Ya]
theorem AdD{s:AH}{f:Ab->Fw}{p:Ab->Bool}(hn:s.length<2305843009213693952)(hf:∀x∈s,f x=some (p x)):(Vz s f=some (-1)/\s.any p=false)\/∃j:Nat,Vz s f=some (j:Int)/\s.findIdx? p=some j:=by
 obtain⟨r,h1,h2⟩:=Akf (s:=s) p hn (step:=K0 s f) (λk x hx=>by unfold K0;rw[Dk hx,ax,Bq hx,aL,hf x (bO hx),aL];cases p x<;>simp) (by unfold K0;rw[Fe];rfl)
 unfold Vz;rw[h1];rcases h2 with⟨rfl,h2⟩|⟨j,rfl,h2,h3⟩
 .exact .inl ⟨rfl,h2⟩
 .exact .inr ⟨j,rfl,h3⟩
def dfT(del:Ab->Bool)(s:Nat×Nat×AH):Option ((Nat×Nat×AH)⊕(Nat×AH)):=
 bif s.2.2.length<=1000/\s.2.1<=s.1 then bif (s.1:Int)<ah s.2.2 then(aS s.2.2 (s.1:Int)).bind λx=>bif del x then some (.inl (s.1+1,s.2.1,s.2.2))else(ji s.2.2 (s.2.1:Int) x).bind λW=>some (.inl (s.1+1,s.2.1+1,W))else some (.inr s.2)else none
theorem Ai9{del:Ab->Bool}(hl:l.length<=1000)(h:l.findIdx? del=some i):AQ (dfT del) (i+1,i,l)=some ((l.filter λx=> !del x).length,wK (λx=> !del x) l l.length):=by
 have h':l.findIdx? (λx=> !(!del x))=some i:=by simpa using h
 obtain⟨hi,k1,k2⟩:=Akp (q:=λx=> !del x) h';refine T.eq (T.loop (λs=>s.1<=l.length/\s.2.1=Ya (λx=> !del x) l s.1/\s.2.2=wK (λx=> !del x) l s.1) (λs=>l.length-s.1) (by grind) (by show l.length-(i+1)<_;omega) ?_);rintro⟨j,k,W⟩ ⟨hj,hk,a⟩;dsimp only at hj hk a;subst hk;subst a;unfold dfT;dsimp only;have hlen:=Aaw (q:=λx=> !del x) (l:=l) (j:=j);rw[CM (by grind [Amp]),ax];refine .dec (λhh=>?_) λhh=> .some ?_
 .unfold ah at hh;have hlt:j<l.length:=aa;have hx:l[j]?=some l[j]:=EA hlt;refine .bind (.ix aa (x:=l[j]) (by rw[Fm,Amq];exact hx) ?_);refine .ite (λhd=>?_) λhd=>?_
  .obtain⟨a1,a2⟩:=Amr (q:=λx=> !del x) hx (by simpa using hd);exact .some (by constructor<;>grind)
  .obtain⟨a1,a2⟩:=Aoa (q:=λx=> !del x) hx (by simpa using hd);rw[a2];exact .some (by constructor<;>grind)
 .unfold ah at hh;obtain rfl:j=l.length:=aa;rw[W6.2];exact rfl
abbrev zR(W:AH)(i:Nat):Bo:=(W.flatMap aj).take (0+(i:Int).toNat*3)++(bN zI ((W.length-(i:Int).toNat)*3)).map .lit++(W.flatMap aj).drop (0+(i:Int).toNat*3+(W.length-(i:Int).toNat)*3)
theorem Agx(W:AH)(i:Nat):∀g∈zR W i,bB g:=by grind [Ba.imm,ac,mN]
theorem AdE(h:i<=W.length):(zR W i).take (i*3)=(W.take i).flatMap aj:=by grind [Fm,Pt,Ba.len,ac]
section
variable {gl:CC}
end
abbrev tMI:Bn:=207
abbrev oLi(al:Be)(v f:Nat):Option Ob:=some ⟨209,[.ptr (Ag al.g) 0,aE aj al.row,.mref v,.mref f],none⟩
abbrev Xc(m:FM Ab Bool):Option Ob:=some (No tMI ga bG m)
abbrev oBl(b:Nat):Option Ob:=some ⟨125,[.ref b 0],none⟩
abbrev σL(al:Be):aQ:=[(1,oBl 2),(2,oLi al 3 4),(3,Xc al.void),(4,Xc al.fork)]
abbrev ρL:Dx:=[(0,0),(1,1),(2,2),(3,3),(4,4)]
abbrev kdL:List (Nat×Rk):=[(0,.row),(999999,.clo)]
theorem AcG(m:FM Ab Bool):∀e∈mEs ga bG m,bB e.2.1:=by grind [mN]
abbrev mLs(al:Be):List HP:=[hc (AcG al.void),hc (AcG al.fork)]
theorem Aax{b:Nat}(h1:ag st.σ b=oLi al v f)(h2:ag st.σ v=Xc al.void)(h3:ag st.σ f=Xc al.fork):ve P st (.ref b 0) (.ptr (BG al) 0):=by
 refine Mb h1 (C6 _) (NR rfl λp hp=>?_);simp only[BG,List.zip_cons_cons,List.zip_nil_right,EY,Lv,or_false] at hp;rcases hp with rfl|rfl|rfl|rfl
 .exact jB (Ah _ _)
 .exact jB (FC _ _)
 .exact OO h2 λe _=>jB (mN _)
 .exact OO h3 λe _=>jB (mN _)
theorem Agz{a b:Nat}(h0:ag st.σ a=oBl b)(h1:ag st.σ b=oLi al v f)(h2:ag st.σ v=Xc al.void)(h3:ag st.σ f=Xc al.fork):ve P st (.ref a 0) (.ptr [.ptr (BG al) 0] 0):=by refine Mb h0 (C6 _) (NR rfl λp hp=>?_);grind [List.zip_cons_cons,List.zip_nil_right,Aax]
section
variable {gl:CC}
theorem Akr{al:Be}{r:Bool}{c:Nat}(a:aK prog fi=true)(hF:ba prog gl fi [.agg (aj x),.ptr [.ptr (BG al) 0] 0] (bG r)):oJ prog gl fi [.agg (aj x),.ref 1 0] (σL al) c (bG r) [] c:=
 OP a hF (lR _) rfl λst h i y z h1 h2=>by
  match i with
  |0=>cases h1;cases h2;exact jB (aG 20 (.agg (aj x)) aH)
  |1=>cases h1;cases h2;exact Agz (h 1 _ rfl) (h 2 _ rfl) (h 3 _ rfl) (h 4 _ rfl)
  |j+2=>cases h1
theorem AgA{f:Ab->Fw}(hv:R3 prog gl fi [] [.ptr [.ptr (BG al) 0] 0] (λx:Ab=>[.agg (aj x)]) (λb:Bool=>bG b) f){l:AH}{r:Int}(e:Vz l f=some r):oJ prog gl 206 [.rsl 0 0 l.length,.clo (.func fi) [] [.ref 1 0]] ((0,Bt l)::σL al) 5 (iG r) [] 5:=
 OP aH (gS gl hv e) (lR _) rfl λst h i x y h1 h2=>by
  match i with
  |0=>
   cases h1;cases h2;exact FD (s:=3) (h 0 _ rfl) aH (by show 0+l.length*3<=(l.flatMap aj).length;rw[ac.len];omega) (ac.len l) λj g c a b=>by rw[Nat.zero_add] at a;rw[show(l.flatMap aj)[j]?=some g from a] at b;cases b;exact jB (ac.imm l g (bO a))
  |1=>
   cases h1;cases h2;exact SX rfl rfl (λi g c a b=>by cases a) (λi g c a b=>by
    match i with
    |0=>cases a;cases b;exact Agz (h 1 _ rfl) (h 2 _ rfl) (h 3 _ rfl) (h 4 _ rfl)
    |j+1=>cases a)
  |j+2=>cases h1
theorem Ams{σ:aQ}{i:Nat}(h:i<W.length):rF prog ((0,Bt W)::σ) 26 (.rsl 0 (0+(i:Int).toNat*3) (W.length-(i:Int).toNat))=some (0,⟨42,zR W i,none⟩):=by have e1:dp prog 26=some 42:=aH;have e2:jj prog 42=some zI:=aH;have e3:bw prog 42=some 3:=aH;have e4:ag ((0,Bt W)::σ) 0=some ⟨42,W.flatMap aj,none⟩:=rfl;have e5:(i:Int).toNat=i:=Fm i;unfold rF;rw[e1];simp only[e2,e3,e4];rw[Bx ⟨rfl,aa,Cd,by rw[ac.len];omega,rfl⟩]
theorem AcH{del:Ab->Bool}(a:aK prog fi=true)(hF:∀x,ba prog gl fi [.agg (aj x),.ptr [.ptr (BG al) 0] 0] (bG (del x)))(hl:l.length<=1000):R4 prog gl 112 [.rsl 0 0 l.length,.clo (.func fi) [] [.ref 1 0]] ((0,Bt l)::σL al) 5 5 (.rsl 0 0 (l.filter λx=> !del x).length) ((0,Bt (l.filter λx=> !del x))::σL al):=by
 have hv:R3 prog gl fi [] [.ptr [.ptr (BG al) 0] 0] (λx:Ab=>[.agg (aj x)]) (λb:Bool=>bG b) (λx=>some (del x)):=⟨a,bf,eB aH,λx r e=>by cases e;exact hF x⟩;refine dFP func112 ?_;rcases AdD (s:=l) (p:=del) aa (λx _=>rfl) with⟨e,h0⟩|⟨i,e,h0⟩
 .have hi:=AgA hv e;rw[Ai8 (by simpa using h0)];exact ZT [hz 10 [0,1,2,3,4] hi] (hc (el l)::hc (ac.imm l)::mLs al) ρL kdL
 .have hi:=AgA hv e;have hlt:=(List.findIdx?_eq_some_iff_getElem.1 h0).1;have hkn:(l.filter λx=> !del x).length<l.length:=by have:=Akp (q:=λx=> !del x) (by simpa using h0);have h2:=W6 (q:=λx=> !del x) (l:=l);refine Nat.lt_of_le_of_ne (Nr _ _) λhe=>?_;have h3:=List.length_filter_eq_length_iff.1 he _ (List.getElem_mem hlt);have h4:=(List.findIdx?_eq_some_iff_getElem.1 h0).2.1;simp[h4] at h3
  refine pN (λs:Nat×Nat×AH=>(s0 42 gl [(0,.rsl 0 0 s.2.2.length),(1,.clo (.func fi) [] [.ref 1 0]),(5,iG (s.2.1:Int)),(6,iG (s.1:Int))] ((0,Bt s.2.2)::σL al) 5 5)) 11110122 (Ai9 hl h0) [hz 10 [0,1,2,3,4] hi,hr 12 (show decide ((i:Int)= -1)=false from C3 aa),hbb 15 (Xl (q:=i) aa)] (hc (el l)::hc (ac.imm l)::mLs al) (λB s w hs k5 h=>?_) [] ρL kdL;obtain⟨j,k,W⟩:=s;unfold dfT at hs;dsimp only at hs;cases b0:decide (W.length<=1000/\k<=j) with
  |false=>rw[b0] at hs;cases hs
  |true=>
  rw[b0,ax] at hs;obtain⟨g1,g2⟩:=DP b0;rcases bC hs with⟨b1,hs⟩|⟨b1,hs⟩
  .have hjl:=DP b1;unfold ah at hjl;obtain⟨x,d,hs⟩:=bS hs;have hcl:=Akr (al:=al) (c:=6) a (hF x);have hjb:j<1000000:=aa;cases hd:del x with
   |true=>rw[hd] at hs hcl;obtain rfl:=Bh hs;exact jw [hr 19 b1,AA 24 (ac.ixrZ 0 d),AA 25 (ac.pt0Z aW d),hz 28 [1,2,3,4] hcl,hbb 21 (Xl (q:=j) aa)] (hc (el W)::hc (ac.imm W)::mLs al) (k5 _ rfl) [] ρL kdL
   |false=>rw[hd] at hs hcl;obtain⟨f,e2,hs⟩:=bS hs;obtain rfl:=Bh hs;have hkb:k<1000000:=aa;exact jw [hr 19 b1,AA 24 (ac.ixrZ 0 d),AA 25 (ac.pt0Z aW d),hz 28 [1,2,3,4] hcl,AA 33 (ac.ixsZ 0 e2),hw 33 (f.flatMap aj) (ac.putZ e2),hbb 35 (Xl (q:=k) aa),hbb 21 (Xl (q:=j) aa)] (hc (hZ e2)::hc (ac.imm f)::mLs al) (k5 _ rfl) [] ρL kdL
  .obtain rfl:=Bh hs;have ek:=h _ rfl;simp only[Gb] at ek;obtain⟨ek,g⟩:=ek;have hkW:k<W.length:=by rw[g,Aaw,ek];exact hkn
   have e:(zR W k).take (k*3)=(l.filter λx=> !del x).flatMap aj:=by rw[AdE (Nat.le_of_lt hkW),g,ek,W6.1]
   rw[<-ek];generalize (l.filter λx=> !del x)=F at e⊢;refine pO 1111110 (J:=(s0 42 gl [(0,.rsl 0 0 W.length),(5,iG (k:Int))] ((ob 0 42 (zR W k))::σL al) 5 5)) [hr 19 b1,AA 38 (ac.sufZ 0 (l:=W) (i:=(k:Int)) (y:=W.drop k) (by unfold mc;rw[Bx ⟨aa,by rw[Fm];omega⟩,Fm])),Go.Proofs.YtlimmeehdfbheaaGreatDoor.hcl 5 (Ams (σ:=σL al) hkW)] (hc (el W)::hc (Agx W k)::mLs al) ?_ [] ρL kdL;refine dSh 0 (k*3) ?_;show Gp _ _ _ _ _ _ (s0 42 gl [(0,.rsl 0 0 W.length),(5,iG (k:Int))] ((ob 0 42 ((zR W k).take (k*3)))::(ob 0 42 (zR W k))::σL al) 5 5);rw[e];exact ZT [AA 41 (ac.preZ 0 (l:=W) (i:=(k:Int)) (y:=W.take k) (by unfold tq;rw[Bx ⟨aa,by rw[Fm];omega⟩,Fm]))] (hc (rfl:k=k)::hc (ac.imm F)::mLs al) ρL kdL
end
def Hk(k:Int):Bool:=bif k=3 then true else bif k=13 then true else decide (k=12)
def JV(I:Gi)(R:Ad)(x:Ab):Ad:=Sd R (I.o x) x
def MZ(I:Gi)(cs:AH):Ad:=cs.foldl (JV I) (Ha I.cards)
theorem P2{I:Gi}:∀{l:AH} {R:Ad},Bf R->(∀x∈l,TB (I.o x) x)->Bf (l.foldl (JV I) R)
 |[],R,h,_=>h
 |x::r,R,h,hx=>P2 (l:=r) (PR h (hx x aC)) (by grind)
section
variable {gl:CC} {gg:Aj} {I:Gi}
theorem Aeo(k:Int):ba prog gl 148 [iG k] (bG (Hk k)):=XS gl (by unfold VC Hk;cases decide (k=3)<;>cases decide (k=13)<;>rfl)
theorem Ain{al:Be}(h:Sf gl al.g I)(x:Ab):ba prog gl 147 [.agg (aj x),.ptr [.ptr (BG al) 0] 0] (bG (!Hk (I.o x).Kind)):=by have h1:=h.op x;have h2:=Aeo (gl:=gl) (I.o x).Kind;refine Gh func147 ?_;exact Ar [hf 12 h1,hf 17 h2] []
theorem Aay{al:Be}(x:Ab):ba prog gl 149 [.agg (aj x),.ptr [.ptr (BG al) 0] 0] (bG (A7 (al.void.get x))):=PC gl rfl
abbrev ρr0:Dx:=[(0,0),(1,1),(2,2),(3,3),(4,4),(5,5),(6,6),(7,7),(8,8),(9,9),(10,10),(11,11),(12,12),(13,13)]
abbrev ρr2:Dx:=[(0,0),(1,1),(2,2),(3,3),(4,4),(5,16),(6,17),(7,18),(8,19),(9,20),(10,21),(11,22),(12,23),(13,24)]
theorem Aio(h:Sf gl gg I)(hc:Aeh I.cards){ids cs:AH}(hC:ba prog gl 27 [.ptr (Ag gg) 0,aE aj ids] (aE aj cs))(hl:∀x∈cs,TB (I.o x) x)(hn:cs.length<=1000):R4 prog gl 6 [.ptr (Ag gg) 0,aE aj ids] [] 0 0 (.ref 0 0) (Bz f0 (MZ I cs)):=by
 have hQ:∀k,Bf ((cs.take k).foldl (JV I) (Ha I.cards)):=λk=>P2 (K4 hc.r) λx hx=>hl x (List.mem_of_mem_take hx);refine dFP func6 ?_;refine dLl (l:=cs) aa (λk:Nat=>(s0 33 gl [(0,.ptr (Ag gg) 0),(5,.ref 0 0),(15,aE aj cs),(16,iG (ah cs)),(17,iG (k:Int))] (Bz f0 ((cs.take k).foldl (JV I) (Ha I.cards))) 14 0)) 1110122 [hf 11 h.cards,hrn 12 0 [aE bv I.cards] (K4 hc.r) (AcB gl hc),hf 15 hC] (rlB ρr0 (JN 0) (hQ 0)) (λB k x hx hz k5=>?_) (λB=>?_) [] ρr0 N7
 .have hlt:=(cr hx).1;have hq:=hQ k;have a:=hl x (bO hx);rw[Hv,hx,Option.toList_some,LF,List.foldl_cons,List.foldl_nil] at k5;generalize (cs.take k).foldl (JV I) (Ha I.cards)=Q at hq k5⊢;unfold JV at k5;have b:=PR hq a;exact jw [hr 18 (Dk hx),AA 19 (ac.ixZ hz),AA 20 (ac.ptZ aW hz),hf 24 (h.op x),Y4 30 f0 16 [.agg (aJ (I.o x)),.agg (aj x)] hq b (Adw gl hq a),hbb 31 (Xl (q:=k) aa)] (rlB ρr2 (fW f0 16) b) k5 [] ρr2 N7
 .rw[D5];exact ZT [hr 18 (Fe (s:=cs))] (rlB ρr0 f0 (P2 (K4 hc.r) hl)) ρr0 N7
end
section
variable {g:AB} {m:Hj} {N:Hl}
theorem AbF(w:Fv g)(p:ON g m N)(h:bu x g.IDs=some k):∃y,N[k]?=some y/\k<256/\y.id=x:=by have h1:=(gb h).1;have hlt:=(cr h1).1;have n1:=w.nL;have n2:=w.nI;have a:=p.len;have hy:N[k]?=some (N[k]'aa):=EA _;have:=(p.nd k _ hy).2.1;rw[h1] at this;exact⟨_,hy,aa,(Bh this).symm⟩
theorem Qh(w:Fv g)(p:ON g m N)(x:Ab):MY ⟨g.Cards,m,N⟩ x=(bu x g.IDs).bind λk=>N[k]? :=by
 unfold MY;show(m.get x).bind _=_;rw[p.get];cases bu x g.IDs with
 |none=>rfl
 |some k=>exact au
theorem Aja(w:Fv g)(p:ON g m N)(x:Ab):(Rf ⟨g.Cards,m,N⟩).op x=(bu x g.IDs).bind λk=>g.L[k]? :=by
 show(MY _ x).map (·.o)=_;rw[Qh w p];cases hk:bu x g.IDs with
 |none=>rfl
 |some k=>obtain⟨y,h1,_,_⟩:=AbF w p hk;show(N[k]?).map _=g.L[k]?;rw[h1,(p.nd k y h1).1];rfl
theorem AcI(w:Fv g)(p:ON g m N)(x y:Ab):(Rf ⟨g.Cards,m,N⟩).bef x y=match bu x g.IDs,bu y g.IDs with|some i,some j=>O9 g j i|_,_=>false:=by
 show Agw _ x y=_;unfold Agw;show(match m.get x,MY ⟨g.Cards,m,N⟩ y with|some n,some b=>gW b.past n.toNat|_,_=>false)=_;rw[Qh w p,p.get];cases hx:bu x g.IDs with
 |none=>rfl
 |some i=>
  cases hy:bu y g.IDs with
  |none=>rfl
  |some j=>obtain⟨b,h1,_,_⟩:=AbF w p hy;obtain⟨_,_,h2,_⟩:=AbF w p hx;show(match some (i:Int),N[j]? with|some n,some b=>gW b.past n.toNat|_,_=>false)=_;rw[h1];exact(p.nd j b h1).2.2.1 i h2
end
def GD(s:List E5×Int):Option ((List E5×Int)⊕(List E5)):=
 bif 0<s.2 then(aS s.1 s.2).bind λa=>(aS s.1 (wI (s.2-1))).bind λb=>(wz a b).bind λr=>bif r<0 then(ji s.1 s.2 b).bind λw1=>(ji w1 (wI (s.2-1)) a).bind λw2=>some (.inl (w2,wI (s.2-1)))else some (.inr s.1)else some (.inr s.1)
def Ln(n:Int)(s:List E5×Int):Option ((List E5×Int)⊕(List E5)):=
 bif s.2<n then(AQ GD (s.1,s.2)).bind λl=>some (.inl (l,wI (s.2+1)))else some (.inr s.1)
def So(l:List E5):Option (List E5):=AQ (Ln (ah l)) (l,wI (0+1))
structure AnM {K V:Type} (m:FM K V):Prop where
 nd:(m.es.map (·.2.2)).Nodup
 lt:∀e∈m.es,e.2.2<m.clk
structure AnN (m:FM E5 Nat) (srt:List E5):Prop where
 ok:AnM m
 n:m.es.length<=12
 sr:∀ks:List E5,ks.Perm (m.es.map (·.1))->So ks=some srt
 len:srt.length=m.es.length
theorem Lt{l:Bj}{k:Nat}{v:Int}(hl:l.length<=3)(hv:v≠0)(hk:l[k]?=some v)(h:∀j,j<k->l[j]?=some 0):iy l=some v:=by
 unfold iy;refine T.eq (.bind ((T.search l (λy=>decide (y≠0)) (λ_ y=>y) aa (λk x hx hk=>?_) ?_).mono ?_))
 .grind [fm,eA,au,aq]
 .unfold fm;rw[eF,A9]
 .rintro r (⟨rfl,h0⟩|⟨k',x,hx,hp,rfl,h0⟩)
  .have:=h0 v (bO hk);simp[hv] at this
  .refine .some ?_;grind
theorem Uj:iy [0,0,0]=some 0:=by
 unfold iy;refine T.eq (.bind ((T.search [0,0,0] (λy=>decide (y≠0)) (λ_ y=>y) Cd (λk x hx hk=>?_) ?_).mono ?_))
 .grind [fm,eA,au,aq]
 .unfold fm;rw[eF,A9]
 .rintro r (⟨rfl,h0⟩|⟨k',x,hx,hp,rfl,h0⟩)
  .exact .some rfl
  grind
theorem EW(a b:Ab):pE a b=some (dt a b):=by
 by_cases hl:dt a b=true
 .rw[hl];exact MW hl
 have hl:dt a b=false:=by simpa using hl
 rw[hl];unfold pE;rw[Ax,Ax,MV];simp only[aL];unfold dt at hl;by_cases h1:a.By=b.By
 .rw[BB (by simp[h1])] at hl;by_cases h2:a.Seq=b.Seq
  .rw[BB (by simp[h2])] at hl;have h3:=Np hl;by_cases h4:b.Sum<a.Sum
   .rw[Lt (k:=2) (v:=1) aC Cd (by simp[h3,h4]) (by grind)];rfl
   grind [Uj]
  .rw[Bx h2] at hl;have h3:=Np hl;rw[Lt (k:=1) (v:=1) aC Cd (by simp[h3];omega) (by grind)];rfl
 .rw[Bx h1] at hl;have h3:=Np hl;rw[Lt (k:=0) (v:=1) aC Cd (by simp[h3];omega) (by grind)];rfl
theorem EX(h1:dt a b=false)(h2:dt b a=false):a=b:=by obtain⟨x,y,z⟩:=a;obtain⟨c,d,e⟩:=b;grind [dt]
def AbG(x y:Int):Int:=bif x<y then-1 else bif y<x then 1 else 0
def Gu(a b:Ab):Int:=bif dt a b then-1 else bif dt b a then 1 else 0
def M4(I:Gi)(a b:Ab):Int:=bif AbG (I.lev a) (I.lev b)≠0 then AbG (I.lev a) (I.lev b)else Gu a b
theorem AdF(x y:Int):f8 x y=some (AbG x y):=by unfold f8 AbG Gd;have h1:decide (x≠x)=false:=C3 aC;have h2:decide (y≠y)=false:=C3 aC;simp only[h1,h2,aL,A9];cases decide (x<y)<;>cases decide (y<x)<;>rfl
theorem Aip(u v:Int):iy [u,v]=some (bif u≠0 then u else v):=by
 unfold iy;refine T.eq (.bind (T.forI 2 (λk=>0<k->u=0/\(1<k->v=0)) aa (λh=>absurd h (Nat.lt_irrefl _)) (λk hk a=>?_) λa=>?_))
 .unfold fm;rcases(by omega:k=0\/k=1) with rfl|rfl
  .show T ((bif u≠0 then _ else _)) _;refine .ite (λh=> .some (.some ?_)) λh=> .some ⟨rfl,λ_=>⟨by simpa using h,λh=>absurd h (Nat.lt_irrefl _)⟩⟩;rw[h];rfl
  .obtain⟨hu,_⟩:=a aa;show T ((bif v≠0 then _ else _)) _;refine .ite (λh=> .some (.some ?_)) λh=> .some ⟨rfl,λ_=>⟨hu,λ_=>by simpa using h⟩⟩;subst hu;rfl
 .obtain⟨hu,hv⟩:=a aa;have hv:=hv aa;subst hu;subst hv;exact .some (.some rfl)
theorem Aks(h:Ug gg)(x:Ab):Fp gg x=some ((Rf gg).lev x):=by
 unfold Fp FR;cases e:gg.at_.get x with
 |none=>show _=some (match MY gg x with|some y=>y.level|none=>0);rw[WY e];rfl
 |some n=>obtain⟨k,y,rfl,hz,hn,hk,hm⟩:=Uh h e;show _=some (match MY gg x with|some y=>y.level|none=>0);rw[hn];simp only[Option.isSome_some,ax,Nt,hz,aL]
theorem Aiq(h:Ug gg)(a b:Ab):Ly ⟨gg⟩ a b=some (M4 (Rf gg) a b):=by unfold Ly;rw[EW,EW];unfold M4 Gu;cases h1:dt a b<;>cases h2:dt b a<;>(simp only[ax,A9,aL,Aks h,AdF,Aip])
theorem Air{gl:CC}(h:Ug gg)(a b:Ab):ba prog gl 231 [.agg (Nw ⟨gg⟩),.agg (aj a),.agg (aj b)] (iG (M4 (Rf gg) a b)):=RZ gl (Aiq h a b)
theorem Ais{gl:CC}{s:AH}(hn:s.length<=1000)(v:Ab):ba prog gl 152 [aE aj s,.agg (aj v)] (bG (s.any λy=>decide (v=y))):=Jo gl (Uv aa v)
abbrev dR(l:AH)(i:Nat):Bo:=(l.flatMap aj).take (i*3)++(l.drop (i+1)).flatMap aj++(l.flatMap aj).drop (i*3+(l.length-(i+1))*3)
abbrev zD(L:Bo)(n:Nat):Bo:=L.take (n*3)++(bN zI (1*3)).map .lit++L.drop (n*3+1*3)
theorem AcJ(h:i<l.length):(dR l i).length=l.length*3:=by grind [Ba.len,ac]
theorem Akt(l:AH)(i:Nat):∀g∈dR l i,bB g:=by grind [Ba.imm,ac]
theorem Aku{L:Bo}(h:∀g∈L,bB g)(n:Nat):∀g∈zD L n,bB g:=by grind [mN]
theorem Ait{l:AH}{i:Nat}(h:i<l.length):(zD (dR l i) (l.length-1)).take ((l.length-1)*3)=(l.eraseIdx i).flatMap aj:=by
 have hl:=AcJ h;have e1:(zD (dR l i) (l.length-1)).take ((l.length-1)*3)=(dR l i).take ((l.length-1)*3):=by grind
 have e2:(l.flatMap aj).take (i*3)=(l.take i).flatMap aj:=by grind [Pt,Ba.len,ac,Ns]
 grind [Ba.len,ac]
theorem cI:dp prog 26=some 42/\bw prog 42=some 3/\jj prog 42=some zI:=⟨aH,aH,aH⟩
def hai(d:Nat){P:Br}{σ:aQ}{t:Bn}{gx gy:G}{i n:Nat}{ob:Ob}(h:RT P σ t gx gy=some (i,ob,n)):HP:=⟨some (.i d i ob n),RT P (Uy σ (fR gx++fR gy)) t gx gy=some (i,ob,n),(Ac9 Hs).symm.trans h⟩
theorem Akv{l:AH}{i:Nat}(h:i<l.length):RT prog [(0,Bt l)] 26 (.rsr 0 i) (.rsl 0 (0+((i+1:Nat):Int).toNat*3) (l.length-((i+1:Nat):Int).toNat))=some (0,⟨42,dR l i,none⟩,l.length-1):=by
 have e4:ag [(0,Bt l)] 0=some ⟨42,l.flatMap aj,none⟩:=rfl;have hlen:=ac.len l;have e5:fO [(0,Bt l)] 3 (.rsl 0 ((i+1)*3) (l.length-(i+1)))=some ((l.drop (i+1)).flatMap aj,l.length-(i+1)):=by
  unfold fO;simp only[e4,aL];rw[Bx (by rw[hlen];omega)];congr 2;have:(l.flatMap aj).drop ((i+1)*3)=(l.drop (i+1)).flatMap aj:=by
   conv=>lhs;rw[<-Pt (i+1) l,List.flatMap_append]
   grind [List.drop_left',Ba.len,ac]
  grind [Ba.len,ac]
 rw[Fm,Nat.zero_add];grind [RT,cI]
theorem Akw{l:AH}{i:Nat}(h:i<l.length):sJ prog 26 (.rsl 0 0 l.length) (iG (i:Int)) (iG ((i+1:Nat):Int)) (iG (ah l))=some .junk:=by unfold sJ ah;grind [xL,cI]
theorem Akx{l:AH}{i:Nat}(h:i<l.length):JD prog [] 26 (.rsl 0 0 l.length) none (some (i:Int))=some (.rsr 0 i):=by unfold JD;grind [cI]
theorem Aky{l:AH}{i:Nat}(h:i<l.length):JD prog [ob 0 42 (dR l i)] 26 (.rsr 0 (l.length-1)) (some ((l.length-1:Nat):Int)) (some (ah l))=some (.rsl 0 ((l.length-1)*3) 1):=by have e4:ag [ob 0 42 (dR l i)] 0=some (⟨42,dR l i,none⟩:Ob):=rfl;unfold JD ah;simp only[cI.1,cI.2.1,e4];rw[Bx (by grind [AcJ]),Fm,Fm,show l.length-(l.length-1)=1 by omega]
theorem Akz{l:AH}{i:Nat}(h:i<l.length):rF prog [ob 0 42 (dR l i),(1,some BC),(0,Bt l)] 26 (.rsl 0 ((l.length-1)*3) 1)=some (0,⟨42,zD (dR l i) (l.length-1),none⟩):=by have e4:ag [ob 0 42 (dR l i),(1,some BC),(0,Bt l)] 0=some (⟨42,dR l i,none⟩:Ob):=rfl;unfold rF;simp only[cI.1,cI.2.1,cI.2.2,e4];rw[Bx ⟨rfl,aa,Cd,by rw[AcJ h];omega,rfl⟩]
theorem Zv{l:AH}{i:Nat}(hl:l.length<=1000)(h:i<l.length):jg prog gl 151 [.rsl 0 0 l.length,iG (i:Int),iG ((i+1:Nat):Int)] [(0,Bt l)] 1 (.rsl 0 0 (l.length-1)) [(0,Bt (l.eraseIdx i))] 1:=by have hz:=Ait h;have hi:=Aku (Akt l i) (l.length-1);refine pP func151 ?_;refine pO 11111110 (J:=(s0 33 gl [(0,.rsl 0 0 (l.length-1))] [ob 0 42 (zD (dR l i) (l.length-1))] 1 1)) [hcv 13 (g:= .junk) (Akw h),hr 16 (show decide ((i:Int)=((i+1:Nat):Int))=false from C3 aa),hcv 22 (g:= .rsr 0 i) (Akx h),AA 25 (ac.sufZ 0 (l:=l) (i:=((i+1:Nat):Int)) (y:=l.drop (i+1)) (by unfold mc;rw[Bx ⟨aa,by rw[Fm];omega⟩,Fm])),hai 26 (Akv h),hcv 31 (g:= .rsl 0 ((l.length-1)*3) 1) (Aky h),hcl 2 (Akz h)] [hc (rfl:l.length-1=l.length-1),hc hi] ?_;refine dSh 0 ((l.length-1)*3) ?_;show Gp _ _ _ _ _ _ (s0 33 gl [(0,.rsl 0 0 (l.length-1))] ((ob 0 42 ((zD (dR l i) (l.length-1)).take ((l.length-1)*3)))::[ob 0 42 (zD (dR l i) (l.length-1))]) 1 1);rw[hz];exact mt .ret (s0 33 gl [(6,.rsl 0 0 (l.length-1))] [(0,Bt (l.eraseIdx i))] 1 1) [.rsl 0 0 (l.length-1)] [] [hc (rfl:l.length-1=l.length-1),hc (ac.imm (l.eraseIdx i))]
theorem AdG{gl:CC}{fid:FuncId}{gs gs':Bo}{σR:aQ}{t:Bn}{m:Nat}{l:Bo}{c:Nat}(hc:aK P fid=true)(hF:iV P gl fid gs' t m l)(hr:∀g∈l,∃v,g= .lit v)(hl:gs'.length=gs.length)(hz:∀st:St,(∀i o,ag σR i=some o->ag st.σ i=some o)->∀(i:Nat) (x y:G),gs[i]?=some x->gs'[i]?=some y->ve P st x y):oJ P gl fid gs σR c (.rsl c 0 m) [(c,some ⟨t,l,none⟩)] (c+1):=λo st y xs ats fst cap ho hd hx hgs hgl b a=>by grind [H4,VX]
abbrev tSe:Bn:=210
abbrev oSe(m:FM Int Int):Option Ob:=some (No tSe JR iG m)
theorem Ajb{σ:aQ}(m:FM Int Int)(h:ag σ 4=oSe m)(k v:Int):dZ prog σ tSe (.mref 4) (iG k) (iG v)=some (4,No tSe JR iG (C4 m k v)):=Agc (P:=prog) (et:=3) PE Adn aH (k:=k) (gk:=iG k) rfl (m:=m) h v
theorem Ajc(k:Ab):Instr.sameBits 10000 (ga k) (ga k)=true:=by(unfold ga Pe;simp[Instr.sameBits])
theorem AkA{σ:aQ}{i:Nat}(m:FM Ab Bool)(h:ag σ i=Xc m)(k:Ab):dZ prog σ tMI (.mref i) (.agg (aj k)) (bG true)=some (i,No tMI ga bG (C4 m k true)):=Agc (P:=prog) (et:=4) jt Ajc aH (k:=k) (gk:= .agg (aj k)) rfl (m:=m) h true
def Tl(cs:LP):FM Int Int:=cs.foldl (λm c=>C4 m c.Device 12) ⟨[],0⟩
def UH(m:FM Int Int)(s:Bj):Nat->FM Int Int
 |0=>m
 |k+1=>match s[k]? with
  |some d=>C4 (UH m s k) d (k:Int)
  |none=>UH m s k
def OR(cs:LP)(s:Bj):FM Int Int:=UH (Tl cs) s s.length
abbrev wV(al:Be)(v:FM Ab Bool):Be:={al with void:=v}
def vFu(I:Gi)(row a:AH)(x:Ab)(v:FM Ab Bool)(y:Ab):FM Ab Bool:=bif Hb I x y then C4 v y true else bif a.any (λz=>decide (y=z))&&DQ I row x y then C4 v y true else v
def vAl(I:Gi)(row a:AH)(x:Ab)(v:FM Ab Bool):FM Ab Bool:=row.foldl (vFu I row a x) v
def Aeq(I:Gi)(al:Be)(sen:FM Int Int)(s:AH×FM Ab Bool):Option ((AH×FM Ab Bool)⊕FM Ab Bool):=
 bif s.1.length<=1000 then
 (λl1:AH=>bif ah l1=0 then some (.inr s.2)else(AQ (X9 I al.row l1 sen) (0,-1)).bind λi=>(aS l1 i).bind λx=>
   bif(Jt I (wV al s.2)).any (λz=>decide (x=z))then some (.inl (l1.eraseIdx i.toNat,vAl I al.row (l1.eraseIdx i.toNat) x s.2))else some (.inl (l1.eraseIdx i.toNat,C4 s.2 x true)))
 (s.1.filter λx=> !A7 (s.2.get x))
 else none
def AbH(I:Gi)(al:Be)(sen:FM Int Int):Option (FM Ab Bool):=AQ (Aeq I al sen) (al.row.filter (λx=> !!Hk (I.o x).Kind),al.void)
abbrev σ3(al:Be):aQ:=[(0,oLi al 1 2),(1,Xc al.void),(2,Xc al.fork)]
abbrev σ5(al:Be)(sen:FM Int Int):aQ:=σ3 al++[(3,oBl 0),(4,oSe sen)]
abbrev σ6(al:Be)(sen:FM Int Int)(l:AH):aQ:=σ5 al sen++[(5,Bt l)]
theorem AkC(m:FM Int Int):∀e∈mEs JR iG m,bB e.2.1:=by grind [mN]
theorem AgB{κ:Nat->FF}{b b':Nat}(h:κ b=some b'):∀ob,oBl b'=some ob->∃o,oBl b=some o/\MB κ o ob:=λob e=>by cases e;refine⟨_,rfl,rfl,.inl ?_⟩;grind [qg]
theorem Aaz{κ:Nat->FF}{al:Be}{v v' f f':Nat}(h:κ v=some v')(h2:κ f=some f'):∀ob,oLi al v' f'=some ob->∃o,oLi al v f=some o/\MB κ o ob:=λob e=>by cases e;refine⟨_,rfl,rfl,.inl ?_⟩;grind [qg]
theorem Qi{κ:Nat->FF}{m:FM Ab Bool}:∀ob,Xc m=some ob->∃o,Xc m=some o/\MB κ o ob:=λob e=>by cases e;exact⟨_,rfl,rfl,rfl,rfl,rfl,.inr ⟨rfl,AcG m⟩⟩
theorem AdH{κ:Nat->FF}:∀ob,Bt l=some ob->∃o,Bt l=some o/\MB κ o ob:=λob e=>by cases e;exact⟨_,rfl,rfl,.inr ⟨rfl,ac.imm l⟩⟩
theorem Amt(al:Be)(l:AH):InP (vi [5,3,0,1,2]) [5,3,0,1,2] [(5,Bt l),(3,oBl 0),(0,oLi al 1 2),(1,Xc al.void),(2,Xc al.fork)] ((0,Bt l)::σL al):=λk o0 h=>by
 match k with
 |0=>obtain⟨o,h1,h2⟩:=AdH (κ:=vi [5,3,0,1,2]) o0 h;exact⟨5,o,rfl,h1,h2⟩
 |1=>obtain⟨o,h1,h2⟩:=AgB (κ:=vi [5,3,0,1,2]) (b:=0) (b':=2) rfl o0 h;exact⟨3,o,rfl,h1,h2⟩
 |2=>obtain⟨o,h1,h2⟩:=Aaz (κ:=vi [5,3,0,1,2]) (al:=al) (v:=1) (v':=3) (f:=2) (f':=4) rfl rfl o0 h;exact⟨0,o,rfl,h1,h2⟩
 |3=>obtain⟨o,h1,h2⟩:=Qi (κ:=vi [5,3,0,1,2]) (m:=al.void) o0 h;exact⟨1,o,rfl,h1,h2⟩
 |4=>obtain⟨o,h1,h2⟩:=Qi (κ:=vi [5,3,0,1,2]) (m:=al.fork) o0 h;exact⟨2,o,rfl,h1,h2⟩
 |j+5=>cases h
theorem AkD(al:Be)(l d:AH)(c:Nat):aad (kO ((0,Bt l)::σL al) [5,3,0,1,2] 5 0 c) ((0,Bt d)::σL al) [(5,Bt d),(3,oBl 0),(0,oLi al 1 2),(1,Xc al.void),(2,Xc al.fork)]:=λi o h0=>by
 generalize hκ:kO ((0,Bt l)::σL al) [5,3,0,1,2] 5 0 c=κ;have h0':κ 0=some 5:=by rw[<-hκ];rfl
 have h1':κ 1=some 3:=by rw[<-hκ];rfl
 have h2':κ 2=some 0:=by rw[<-hκ];rfl
 have h3':κ 3=some 1:=by rw[<-hκ];rfl
 have h4':κ 4=some 2:=by rw[<-hκ];rfl
 match i with
 |5=>obtain⟨a,h1,h2⟩:=AdH (κ:=κ) o h0;exact⟨0,a,h0',h1,h2⟩
 |3=>obtain⟨a,h1,h2⟩:=AgB (κ:=κ) (b:=2) (b':=0) h2' o h0;exact⟨1,a,h1',h1,h2⟩
 |0=>obtain⟨a,h1,h2⟩:=Aaz (κ:=κ) (al:=al) (v:=3) (v':=1) (f:=4) (f':=2) h3' h4' o h0;exact⟨2,a,h2',h1,h2⟩
 |1=>obtain⟨a,h1,h2⟩:=Qi (κ:=κ) (m:=al.void) o h0;exact⟨3,a,h3',h1,h2⟩
 |2=>obtain⟨a,h1,h2⟩:=Qi (κ:=κ) (m:=al.fork) o h0;exact⟨4,a,h4',h1,h2⟩
 |4=>cases h0
 |j+6=>cases h0
theorem Amu:aK prog 112=true:=aH
abbrev hdl(d c:Nat){fi:FuncId}{al:Be}{del:Ab->Bool}{gl:CC}(a:aK prog fi=true)(hF:∀x,ba prog gl fi [.agg (aj x),.ptr [.ptr (BG al) 0] 0] (bG (del x))){l l':AH}(hl:l.length<=1000)(e:(l.filter λx=> !del x)=l')(hlt:[5,3,0,1,2].all (λi=>Nat.blt i c)=true:=by kernel_rfl):HP:=
 hfm d [5,3,0,1,2] 5 0 c [(5,Bt l),(3,oBl 0),(0,oLi al 1 2),(1,Xc al.void),(2,Xc al.fork)] [.rsl 5 0 l.length,.clo (.func fi) [] [.ref 3 0]] [(5,Bt l'),(3,oBl 0),(0,oLi al 1 2),(1,Xc al.void),(2,Xc al.fork)] (e▸AcH a hF hl) (Amt al l) (AkD al l l' c) Amu hlt
section
variable {gl:CC} {P:Br}
theorem AaA(h:ag st.σ i=Bt l):ve prog st (.rsl i 0 l.length) (aE aj l):=FD (s:=3) h aH (by grind [Ba.len,ac]) (ac.len l) (by grind [jB,Ba.imm,ac])
theorem AbI{al:Be}{l:AH}{sen:FM Int Int}{r:Int}{c:Nat}(hF:ba prog gl 150 [.ptr (BG al) 0,aE aj l,FM.g JR iG sen] (iG r)):oJ prog gl 150 [.ref 0 0,.rsl 5 0 l.length,.mref 4] (σ6 al sen l) c (iG r) [] c:=
 OP aH hF (lR _) rfl λst h i x y h1 h2=>by
  match i with
  |0=>grind [Aax]
  |1=>cases h1;cases h2;exact AaA (h 5 _ rfl)
  |2=>cases h1;cases h2;exact OO (h 4 _ rfl) λe _=>jB (mN _)
  |j+3=>cases h1
theorem AaB{al:Be}{c:Nat}(hF:iV prog gl 69 [.ptr (BG al) 0] 42 (Jt I al).length ((Jt I al).flatMap aj)):oJ prog gl 69 [.ref 0 0] (σ3 al) c (.rsl c 0 (Jt I al).length) [(c,Bt (Jt I al))] (c+1):=
 AdG aH hF (Zy _) rfl (by grind [Aax])
theorem AaC{l:AH}{x:Ab}{i c:Nat}(hn:l.length<=1000):oJ prog gl 152 [.rsl i 0 l.length,.agg (aj x)] [(i,Bt l)] c (bG (l.any λy=>decide (x=y))) [] c:=
 OP aH (Ais hn x) (lR _) rfl λst h j y z h1 h2=>by
  match j with
  |0=>grind [AaA]
  |1=>cases h1;cases h2;exact jB (aG 20 (.agg (aj x)) aH)
  |j+2=>cases h1
theorem AgC{al:Be}(h:Sf gl al.g I)(hn:al.row.length<=1000)(x y:Ab){c:Nat}:oJ prog gl 154 [.ref 0 0,.agg (aj x),.agg (aj y)] (σ3 al) c (bG (DQ I al.row x y)) [] c:=
 OP aH (AbE h hn x y) (lR _) rfl λst h i p q h1 h2=>by
  match i with
  |0=>grind [Aax]
  |1=>cases h1;cases h2;exact jB (aG 20 (.agg (aj x)) aH)
  |2=>cases h1;cases h2;exact jB (aG 20 (.agg (aj y)) aH)
  |j+3=>cases h1
end
abbrev oS(al:Be)(sen:FM Int Int):List HP:=mLs al++[hc (AkC sen)]
abbrev ρ5:Dx:=[(0,0),(1,1),(2,2),(3,3),(4,4)]
abbrev ρ6:Dx:=ρ5++[(5,5)]
abbrev ρ7:Dx:=ρ6++[(6,6)]
abbrev kd5:List (Nat×Rk):=[(5,.row)]
abbrev stM(al:Be)(sen:FM Int Int)(s:AH×FM Ab Bool):St:=(s0 115 fI [(1,.ref 3 0),(2,.mref 4),(7,.rsl 5 0 s.1.length)] (σ6 (wV al s.2) sen s.1) 6 3)
abbrev oMn(al:Be)(sen:FM Int Int)(s:AH×FM Ab Bool)(n:Nat)(h:n=s.1.length):List HP:=hc h::oS (wV al s.2) sen++[hc (ac.imm s.1)]
abbrev stV(al:Be)(sen:FM Int Int)(l:AH)(x:Ab)(v:FM Ab Bool)(k:Nat):St:=(s0 115 fI [(1,.ref 3 0),(2,.mref 4),(7,.rsl 5 0 l.length),(9,.ref 6 0),(85,aE aj al.row),(86,iG (ah al.row)),(87,iG (k:Int))] (σ6 (wV al v) sen l++[(6,Xi x)]) 7 3)
theorem Aer(h:Ael fI al I){s:Bj}(hS:ba prog fI 130 [.ptr (Ag al.g) 0,aE aj al.row] (aE cZ s))(hsn:s.length<=1000){v:FM Ab Bool}(hv0:AbH I al (OR I.cards s)=some v):R4 prog fI 68 [.ref 0 0] (σ3 al) 3 3 (.tup []) (σ3 (wV al v)):=by
 have hn:=h.n;have hcn:=h.c.n;have hcl:cU al.row=some al.row:=by unfold cU aT;rw[Bx cq];rfl
 unfold AbH at hv0;refine dFP func68 ?_;refine dLl (l:=I.cards) aa (λk:Nat=>(s0 115 fI [(1,.ref 3 0),(2,.mref 4),(17,aE bv I.cards),(18,iG (ah I.cards)),(19,iG (k:Int))] (σ5 al (Tl (I.cards.take k))) 5 3)) 1110122 [hf 17 h.g.cards] (oS al (Tl (I.cards.take 0))) (λB k x hx hz k5=>?_) (λB=>?_) [] ρ5 []
 .have hlt:=(cr hx).1;unfold Tl at k5⊢;rw[Hv,hx,Option.toList_some,LF,List.foldl_cons,List.foldl_nil] at k5;generalize (I.cards.take k).foldl (λ(m:FM Int Int) (c:DF)=>C4 m c.Device (12:Int)) ⟨[],0⟩=m at k5⊢;exact jw [hr 20 (Dk hx),AA 21 (bT.ixZ hz),AA 22 (bT.ptZ E2 hz),hmp 6 (Ajb (σ:=(ob 5 103 (bv x))::σ5 al m) m rfl x.Device 12),hbb 26 (Xl (q:=k) aa)] (oS al (C4 m x.Device 12)) k5 [] ρ5 []
 .rw[D5];refine yl (Bs':=[]) [1,1,0,1] (J:=(s0 115 fI [(1,.ref 3 0),(2,.mref 4)] (σ5 al (Tl I.cards)) 5 3)) [hr 20 (Fe (s:=I.cards))] (oS al (Tl I.cards)) ?_;refine dLl (l:=s) aa (λk:Nat=>(s0 115 fI [(1,.ref 3 0),(2,.mref 4),(35,aE cZ s),(36,iG (ah s)),(37,iG (k:Int))] (σ5 al (UH (Tl I.cards) s k)) 5 3)) 11110122 [hf 35 hS] (oS al (Tl I.cards)) (λr k x hx hz k5=>?_) (λr=>?_) [] ρ5 []
  .have hlt:=(cr hx).1;have e:UH (Tl I.cards) s (k+1)=C4 (UH (Tl I.cards) s k) x (k:Int):=by show(match s[k]? with|some d=>_|none=>_)=_;rw[hx]
   rw[e] at k5;generalize UH (Tl I.cards) s k=m at k5⊢;exact jw [hr 38 (Dk hx),AA 40 (rZ.ixZ hz),AA 41 (rZ.p1Z tZ hz),hmp 5 (Ajb (σ:=σ5 al m) m rfl x (k:Int)),hbb 45 (Xl (q:=k) aa)] (oS al (C4 m x (k:Int))) k5 [] ρ5 []
  .rw[show UH (Tl I.cards) s s.length=OR I.cards s from rfl];generalize OR I.cards s=sen at hv0⊢;refine yl (Bs':=[]) [1,1,1,0,1] (J:=(s0 115 fI [(1,.ref 3 0),(2,.mref 4)] (σ5 al sen) 5 3)) [hr 38 (Fe (s:=s))] (oS al sen) ?_;refine pN (stM al sen) [1,1,1,1,1,2,2] hv0 [ho 50 [aE aj al.row] [] (jY fI hcl) (Zy _),hdl 52 6 (al:=al) (fi:=147) (del:=λx=> !Hk (I.o x).Kind) aH (λx=>Ain h.g x) (l:=al.row) hn rfl] (oMn al sen (al.row.filter (λx=> !!Hk (I.o x).Kind),al.void) _ rfl) (λw z A hs k5 t=>?_) [] ρ6 kd5;obtain⟨l,vd⟩:=z;unfold Aeq at hs;dsimp only at hs;cases b0:decide (l.length<=1000) with
   |false=>rw[b0] at hs;cases hs
   |true=>
   rw[b0,ax] at hs;have hln:=DP b0;have h':Ael fI (wV al vd) I:=⟨h.g,h.c,h.o,h.n⟩;have hkl:=λx y=>Zu h.g x y;generalize e1:(l.filter λx=> !A7 (vd.get x))=l1 at hs;have hl1:l1.length<=1000:=by rw[<-e1];exact M1 (Nr _ _) hln
   rcases bC hs with⟨b1,hs⟩|⟨b1,hs⟩
   .obtain rfl:=Bh hs;obtain rfl:=t _ rfl;exact ZT [hdl 55 6 (gl:=fI) (al:=wV al vd) (fi:=149) (del:=λx=>A7 (vd.get x)) aH (λx=>Aay x) (l:=l) hln e1,hr 58 b1] (mLs (wV al vd)) [(0,0),(1,1),(2,2)] []
   .obtain⟨i,ei,hs⟩:=bS hs;obtain⟨x,p,hs⟩:=bS hs;obtain⟨k,rfl⟩:∃k:Nat,i=(k:Int):=by
     unfold aS at p;split at p
     .exact⟨i.toNat,aa⟩
     .cases p
    have hkx:l1[k]?=some x:=by rw[<-au];exact p
    have f:=(cr hkx).1;rw[Fm] at hs;have hle:l1.length-1=(l1.eraseIdx k).length:=by rw[List.length_eraseIdx,Bx f]
    have hF:=Agv h'.g h'.n hl1 ei;have hg:=AdC h';have hgn:(Jt I (wV al vd)).length<=1000:=M1 WG.2 (by simpa using hn);cases c2:(Jt I (wV al vd)).any (λz=>decide (x=z)) with
    |false=>rw[c2,A9] at hs;obtain rfl:=Bh hs;have j:=AaC (gl:=fI) (l:=Jt I (wV al vd)) (x:=x) (i:=7) (c:=8) hgn;rw[c2] at j;exact jw [hdl 55 6 (gl:=fI) (al:=wV al vd) (fi:=149) (del:=λx=>A7 (vd.get x)) aH (λx=>Aay x) (l:=l) hln e1,hr 58 b1,hz 62 [0,1,2,3,4,5] (AbI (c:=6) hF),AA 65 (ac.ixrZ 5 p),AA 66 (ac.pt0Z aW p),hbb 70 (Xl (q:=k) aa),tN 71 [5] 7 [(5,Bt l1)] [.rsl 5 0 l1.length,iG (k:Int),iG ((k+1:Nat):Int)] [(0,Bt (l1.eraseIdx k))] (Zv fI hl1 f) ⟨⟨rfl,.inr ⟨rfl,ac.imm l1⟩⟩,trivial⟩ ⟨⟨rfl,.inr ⟨rfl,ac.imm _⟩⟩,trivial⟩,hz 73 [0,1,2] (AaB (c:=7) hg),hz 75 [7] j,hmr 8 (AkA (σ:=[(1,Xc vd)]) (i:=1) vd rfl x)] (oMn al sen (l1.eraseIdx k,C4 vd x true) _ hle) (k5 _ rfl) [] ρ6 kd5
    |true=>
     rw[c2,ax] at hs;obtain rfl:=Bh hs;have k5:=k5 _ rfl;have j:=AaC (gl:=fI) (l:=Jt I (wV al vd)) (x:=x) (i:=7) (c:=8) hgn;rw[c2] at j;refine pN (λq:Nat=>stV al sen (l1.eraseIdx k) x ((al.row.take q).foldl (vFu I al.row (l1.eraseIdx k) x) vd) q) [1,1,1,1,1,2,2,2,1,1,1,1,1,1,1,2,2] (Aat (n:=al.row.length) aa) [hdl 55 6 (gl:=fI) (al:=wV al vd) (fi:=149) (del:=λx=>A7 (vd.get x)) aH (λx=>Aay x) (l:=l) hln e1,hr 58 b1,hz 62 [0,1,2,3,4,5] (AbI (c:=6) hF),AA 65 (ac.ixrZ 5 p),AA 66 (ac.pt0Z aW p),hbb 70 (Xl (q:=k) aa),tN 71 [5] 7 [(5,Bt l1)] [.rsl 5 0 l1.length,iG (k:Int),iG ((k+1:Nat):Int)] [(0,Bt (l1.eraseIdx k))] (Zv fI hl1 f) ⟨⟨rfl,.inr ⟨rfl,ac.imm l1⟩⟩,trivial⟩ ⟨⟨rfl,.inr ⟨rfl,ac.imm _⟩⟩,trivial⟩,hz 73 [0,1,2] (AaB (c:=7) hg),hz 75 [7] j] (oMn al sen (l1.eraseIdx k,vd) _ hle) (λC q D hs b E=>?_) [] ρ7 kd5;have hl2:(l1.eraseIdx k).length<=1000:=aa;generalize l1.eraseIdx k=l2 at k5 b hl2⊢;unfold Aeg at hs;split at hs
     .rename_i hlt;obtain rfl:=Bh hs;obtain⟨y,hy⟩:∃y,al.row[q]?=some y:=⟨_,EA hlt⟩;have a:=Bq hy;have b:=b _ rfl;rw[Hv,hy,Option.toList_some,LF,List.foldl_cons,List.foldl_nil] at b;generalize (al.row.take q).foldl (vFu I al.row l2 x) vd=u at b⊢;have hk:=hkl x y;unfold vFu at b;cases kk:Hb I x y with
      |true=>rw[kk] at hk b;exact jw [hr 88 (Dk hy),AA 89 (ac.ixZ a),AA 90 (ac.ptZ aW a),hf 97 hk,hmr 8 (AkA (σ:=[(1,Xc u)]) (i:=1) u rfl y),hbb 114 (Xl (q:=q) aa)] (oMn al sen (l2,C4 u y true) _ rfl) b [] ρ7 kd5
      |false=>
       rw[kk,A9] at b;rw[kk] at hk;have hct:=AaC (gl:=fI) (l:=l2) (x:=y) (i:=5) (c:=8) hl2;cases cc:l2.any (λz=>decide (y=z)) with
       |false=>rw[cc] at hct b;exact jw [hr 88 (Dk hy),AA 89 (ac.ixZ a),AA 90 (ac.ptZ aW a),hf 97 hk,hz 101 [5] hct,hbb 114 (Xl (q:=q) aa)] (oMn al sen (l2,u) _ rfl) b [] ρ7 kd5
       |true=>
        have hw:=AgC (al:=wV al u) (c:=8) h.g h.n x y;rw[show(wV al u).row=al.row from rfl] at hw;rw[cc,Bool.true_and] at b;rw[cc] at hct;cases ww:DQ I al.row x y with
        |false=>rw[ww] at hw b;exact jw [hr 88 (Dk hy),AA 89 (ac.ixZ a),AA 90 (ac.ptZ aW a),hf 97 hk,hz 101 [5] hct,hz 106 [0,1,2] hw,hbb 114 (Xl (q:=q) aa)] (oMn al sen (l2,u) _ rfl) b [] ρ7 kd5
        |true=>rw[ww] at hw b;exact jw [hr 88 (Dk hy),AA 89 (ac.ixZ a),AA 90 (ac.ptZ aW a),hf 97 hk,hz 101 [5] hct,hz 106 [0,1,2] hw,hmr 8 (AkA (σ:=[(1,Xc u)]) (i:=1) u rfl y),hbb 114 (Xl (q:=q) aa)] (oMn al sen (l2,C4 u y true) _ rfl) b [] ρ7 kd5
     .split at hs
      .rename_i he;subst he;unfold vAl at k5;rw[D5];generalize al.row.foldl (vFu I al.row l2 x) vd=u at k5⊢;exact jw [hr 88 (Fe (s:=al.row))] (oMn al sen (l2,u) _ rfl) k5 [] ρ6 kd5
      .cases hs
theorem AkE{K V:Type}:Q9 (⟨[],0⟩:FM K V):=by grind [Q9,FxOk]
def ofV(vs:AH):FM Ab Bool:=vs.foldl (λm x=>C4 m x true) ⟨[],0⟩
theorem AkF{vs:AH}:Q9 (ofV vs):=by
 have key:∀(l:AH) (m:FM Ab Bool),Q9 m->Q9 (l.foldl (λm x=>C4 m x true) m):=by intro l;induction l<;>grind [OQ]
 exact key vs _ AkE
def Sh(gg:Aj)(row vs:AH):Be:=⟨gg,row,ofV vs,ofV vs⟩
abbrev hsI(d i c:Nat){m:FM Ab Bool}(k:Ab):HP:=hme d [i] c (Akg (P:=prog) (σ:=[(i,Xc m)]) (t:=tMI) (t':=tMI) (et:=4) (v0:=false) jt Ajc aH aH (k:=k) (gk:= .agg (aj k)) rfl RW)
abbrev Amv(d i c:Nat){m:FM Ab Bool}(k:Ab)(h:FxOk m):HP:=hms d [i] c (Akh (σ:=[(i,some (No tMI ga bG (C4 m k ((m.get k).getD false))))]) (i:=i) (t':=tMI) (kv:=ga) (vg:=bG) (m:=m) (k:=k) (v0:=(m.get k).getD false) h RW true)
section
variable {gl:CC}
theorem Amw{row vs:AH}(hO:ba prog gl 145 [.ptr (Ag gg) 0,aE aj ids] (aE aj row))(hV:ba prog gl 146 [.ptr (Ag gg) 0,aE aj ids] (aE aj vs))(hn:vs.length<=1000):R4 prog gl 67 [.ptr (Ag gg) 0,aE aj ids] [] 0 0 (.ref 0 0) (σ3 (Sh gg row vs)):=by
 refine dFP func67 ?_;refine dLl (l:=vs) aa (λk:Nat=>(s0 40 gl [(5,.ref 0 0),(18,aE aj vs),(19,iG (ah vs)),(20,iG (k:Int))] (σ3 (Sh gg row (vs.take k))) 3 0)) 1110122 [hf 11 hO,hf 18 hV] (mLs (Sh gg row (vs.take 0))) (λB k x hx hz k5=>?_) (λB=>?_) [] [(0,2),(1,0),(2,1)] []
 .have hlt:=(cr hx).1;have e:Sh gg row (vs.take (k+1))=⟨gg,row,C4 (ofV (vs.take k)) x true,C4 (ofV (vs.take k)) x true⟩:=by unfold Sh ofV;rw[Hv,hx,Option.toList_some,LF];rfl
  have hm:=AkF (vs:=vs.take k);rw[e] at k5;unfold Sh;generalize ofV (vs.take k)=m at k5 hm⊢;exact jw [hr 21 (Dk hx),AA 22 (ac.ixZ hz),AA 23 (ac.ptZ aW hz),hsI 34 1 4 (m:=m) x,Amv 35 1 4 x hm.1,hsI 36 2 4 (m:=m) x,Amv 37 2 4 x hm.1,hbb 38 (Xl (q:=k) aa)] (mLs ⟨gg,row,C4 m x true,C4 m x true⟩) k5 [] [(0,0),(1,1),(2,2)] []
 .rw[D5];exact ZT [hr 21 (Fe (s:=vs))] (mLs (Sh gg row vs)) [(0,0),(1,1),(2,2)] []
end
def Yb(I:Gi)(al:Be)(s:Bj):Option AH:=(AbH I al (OR I.cards s)).map λv=>Jt I (wV al v)
theorem Amx{κ:Nat->FF}{al:Be}(h0:κ 0=some 0)(h1:κ 1=some 1)(h2:κ 2=some 2):aad κ (σ3 al) (σ3 al):=λk o h=>by
 match k with
 |0=>obtain⟨a,e⟩:=Aaz (v:=1) (f:=2) h1 h2 o h;exact⟨0,a,h0,e⟩
 |1=>obtain⟨a,e⟩:=Qi o h;exact⟨1,a,h1,e⟩
 |2=>obtain⟨a,e⟩:=Qi o h;exact⟨2,a,h2,e⟩
 |j+3=>cases h
theorem in3{al:Be}:InP (vi [0,1,2]) [0,1,2] (σ3 al) (σ3 al):=λk o h=>by
 match k with
 |0=>obtain⟨a,e⟩:=Aaz (κ:=vi [0,1,2]) (v:=1) (f:=2) rfl rfl o h;exact⟨0,a,rfl,e⟩
 |1=>obtain⟨a,e⟩:=Qi (κ:=vi [0,1,2]) o h;exact⟨1,a,rfl,e⟩
 |2=>obtain⟨a,e⟩:=Qi (κ:=vi [0,1,2]) o h;exact⟨2,a,rfl,e⟩
 |j+3=>cases h
theorem ZH{I:Gi}{ids row vs:AH}{s:Bj}{r:AH}(h:Ael fI (Sh gg row vs) I)(hO:ba prog fI 145 [.ptr (Ag gg) 0,aE aj ids] (aE aj row))(hV:ba prog fI 146 [.ptr (Ag gg) 0,aE aj ids] (aE aj vs))(hn:vs.length<=1000)
  (hS:ba prog fI 130 [.ptr (Ag gg) 0,aE aj row] (aE cZ s)) (hsn:s.length<=1000) (hr:Yb I (Sh gg row vs) s=some r):iV prog fI 27 [.ptr (Ag gg) 0,aE aj ids] 42 r.length (r.flatMap aj):=by
 unfold Yb at hr
 cases hd:AbH I (Sh gg row vs) (OR I.cards s) with
 |none=>rw[hd] at hr;cases hr
 |some v=>
  rw[hd] at hr
  obtain rfl:=Bh hr
  have h':Ael fI (wV (Sh gg row vs) v) I:=⟨h.g,h.c,h.o,h.n⟩
  have hg:=AdC h'
  have hof:=Amw hO hV hn
  have a:=Aer h hS hsn hd
  generalize Sh gg row vs=al at*
  refine OW func27 ?_
  exact EI [hfm 8 [] 0 3 0 [] [.ptr (Ag gg) 0,aE aj ids] (σ3 al) hof Ags (Amx rfl rfl rfl),hfm 10 [0,1,2] 3 0 3 (σ3 al) [.ref 0 0] (σ3 (wV al v)) a in3 (Amx rfl rfl rfl),hz 12 [0,1,2] (AaB (al:=wV al v) (c:=3) hg)] (ac.imm (Jt I (wV al v)))
def Yc(o:Bi):JP:=bif o.Kind=1 then some o.By else bif o.Kind=2 then some o.Device else bif o.Kind=13 then some o.Device else none
def OS(I:Gi)(acc:Bj)(x:Ab):Bj:=match Yc (I.o x) with
 |none=>acc
 |some d=>bif acc.any (λy=>decide (d=y))then acc else acc++[d]
def M0(I:Gi)(row:AH):Bj:=row.foldl (OS I) []
theorem AgD{I:Gi}{acc:Bj}:(OS I acc x).length<=acc.length+1:=by grind [OS]
theorem Xd{I:Gi}:∀{l:AH} {acc:Bj},(l.foldl (OS I) acc).length<=acc.length+l.length
 |[],acc=>C6 _
 |x::r,acc=>by have h1:=Xd (I:=I) (l:=r) (acc:=OS I acc x);grind [AgD]
section
variable {gl:CC} {gg:Aj}
abbrev AkG(gg:Aj)(ids:AH):G:= .clo (.func 298) [] [.ptr [.ptr (Ag gg) 0] 0,.ptr [aE aj ids] 0]
theorem Aiu(ids:AH):ba prog gl 217 [.ptr (Ag gg) 0,aE aj ids] (AkG gg ids):=by refine Gh func217 ?_;refine pO [1,0] (s0 6 gl [(2,.ptr [.ptr (Ag gg) 0] 0),(3,.ptr [aE aj ids] 0)] [] 0 0) [] [hc (eB (gs:=[.ptr (Ag gg) 0]) aH),hc (aY (aG 20 (aE aj ids) aH) bf)] ?_;exact Ar [] []
noncomputable abbrev cSe:Code:=bq 111012 (ai Tryz.f130)
noncomputable abbrev UI(st:LoopState):Option Ob:=some ⟨0,[],some (.loop st none 22 [(5,.ref 0 0)] (Dy cSe) (Dz cSe) (DA cSe))⟩
abbrev Amy(gg:Aj)(row:AH)(k:Nat):Fr:=[(0,.yld 1),(1,.ptr [.ptr (Ag gg) 0] 0),(11,aE aj row),(12,iG (ah row)),(13,iG (k:Int))]
noncomputable abbrev σCa(acc:Bj):aQ:=[(0,X5 (.rsl 2 0 acc.length)),(1,UI .ready),(2,JI acc)]
noncomputable abbrev AkH(gl:CC)(gg:Aj)(row:AH)(k:Nat)(acc:Bj):St:=(s0 40 gl (Amy gg row k) (σCa acc) 3 2)
noncomputable abbrev Ye(gl:CC)(gg:Aj)(row:AH)(k:Nat)(acc:Bj)(x:Ab)(d:Int):St:=(s0 40 gl ((5,.ref 3 0)::(8,iG d)::Amy gg row k) (σCa acc++[(3,Xi x)]) 4 2)
abbrev ρC3:Dx:=[(0,0),(1,1),(2,2)]
abbrev ρC4:Dx:=[(0,0),(1,1),(2,2),(3,3)]
theorem AgE{l:Bj}{d:Int}{i c:Nat}(hn:l.length<=1000000):oJ prog gl 133 [.rsl i 0 l.length,iG d] [(i,JI l)] c (bG (l.any λy=>decide (d=y))) [] c:=
 OP aH (DL gl (Uv aa d)) (lR _) rfl λst h j y z h1 h2=>by
  match j with
  |0=>cases h1;cases h2;have ho:ag st.σ i=JI l:=h i _ (by rw[A3,Bx rfl]);exact FD (s:=1) ho aH (by grind [Ba.len,rZ]) (rZ.len l) (by grind [jB,Ba.imm,rZ])
  |1=>grind [jB,mN]
  |j+2=>cases h1
theorem Si{I:Gi}(h:Sf gl gg I){ids row:AH}(hO:ba prog gl 145 [.ptr (Ag gg) 0,aE aj ids] (aE aj row))(hn:row.length<=1000):ba prog gl 130 [.ptr (Ag gg) 0,aE aj ids] (aE cZ (M0 I row)):=by
 refine Gh func130 ?_;refine YR [1,1,0,1,2] (s0 22 gl [(5,.ref 0 0),(10,AkG gg ids)] [(0,X5 (.lit (.slice none 0 0)))] 1 0) [hf 10 (Aiu (gl:=gl) (gg:=gg) ids)] ?_;refine Xt (fst:=[]) (cap:=[.ptr [.ptr (Ag gg) 0] 0,.ptr [aE aj ids] 0]) Tryz.f298 func298 ?_;refine dLl (l:=row) aa (λk:Nat=>AkH gl gg row k ((row.take k).foldl (OS I) [])) [1,2,2] [hf 11 hO] [hc (rZ.imm [])] (λB k x hx e k5=>?_) (λB=>?_) (vs:=[3]) (ρ:=ρC3) (kd:=[(2,.row)])
 .have hlt:=(cr hx).1;have hal:=Xd (I:=I) (l:=row.take k) (acc:=[]);rw[Ns,List.length_nil] at hal;rw[Hv,hx,Option.toList_some,LF,List.foldl_cons,List.foldl_nil] at k5;generalize (row.take k).foldl (OS I) []=acc at k5 hal⊢;have ho:=h.op x;have hb2:k<1000000:=aa;have fin:∀d,B (AkH gl gg row (k+1) (bif acc.any (λy=>decide (d=y))then acc else acc++[d]))->Gp prog Tryz.f298 (sI prog (s0 22 gl [(5,.ref 0 0),(10,AkG gg ids)] [(0,X5 (.lit (.slice none 0 0)))] 1 0) (dz prog (bE [1,1,0,1,2] (ai Tryz.f130) [] []) (tH prog Tryz.f130 (aE cZ (M0 I row))))) [B] false [1,2,2,1,1,0,2,1,1,1,1,0] (Ye gl gg row k acc x d):=λd hB=>by
   have f:=AgE (gl:=gl) (l:=acc) (d:=d) (i:=2) (c:=4) aa;cases cc:acc.any (λy=>decide (d=y)) with
   |true=>
    rw[cc] at hB f;refine Xw (i:=1) (j:=3) (n:=22) (t:=0) (t2:=0) (pe:=none) (fr:=[(5,.ref 0 0)]) (ps:=Dy cSe) (a:=Dz cSe) (b:=DA cSe) (s1:=(s0 40 gl ([(36,iG d),(35,.agg (aj x)),(34,.yld 1)]++(Ye gl gg row k acc x d).fr) ((Ye gl gg row k acc x d).σ) 4 2))
     (s3:=(s0 40 gl ([(38,bG false),(37,bG true),(36,iG d),(35,.agg (aj x)),(34,.yld 1)]++(Ye gl gg row k acc x d).fr) ((1,UI .ready)::[(0,X5 (.rsl 2 0 acc.length)),(1,UI .busy),(2,JI acc)]) 4 2))
     [(0,X5 (.rsl 2 0 acc.length)),(1,UI .busy),(2,JI acc)] 4 (.loop .ready none 22 [(5,.ref 0 0)] (Dy cSe) (Dz cSe) (DA cSe)) [] [] ?_ ?_
    .refine C9 .normal ⟨22,gl,[(5,.ref 0 0),(7,iG d)],[(0,X5 (.rsl 2 0 acc.length)),(1,UI .ready),(2,JI acc)],4,4,true⟩ [] [hc (rfl:acc.length=acc.length),hc (rZ.imm acc)] (Xv Tryz.f130 ?_ rfl) (ρ:=ρC4);exact C9 .normal ⟨22,gl,[],[(0,X5 (.rsl 2 0 acc.length)),(1,UI .busy),(2,JI acc)],4,4,true⟩ [hz 15 [2] f] [hc (rfl:acc.length=acc.length),hc (rZ.imm acc)] (by grind [jy]) (ρ:=ρC4) (kd:=[(2,.row)])
    .exact jw [hbb 39 (Xl (q:=k) aa)] [hc (rfl:acc.length=acc.length),hc (rZ.imm acc)] hB [] ρC3 [(2,.row)]
   |false=>
    rw[cc] at hB f;refine Xw (i:=1) (j:=3) (n:=22) (t:=0) (t2:=0) (pe:=none) (fr:=[(5,.ref 0 0)]) (ps:=Dy cSe) (a:=Dz cSe) (b:=DA cSe) (s1:=(s0 40 gl ([(36,iG d),(35,.agg (aj x)),(34,.yld 1)]++(Ye gl gg row k acc x d).fr) ((Ye gl gg row k acc x d).σ) 4 2))
     (s3:=(s0 40 gl ([(38,bG false),(37,bG true),(36,iG d),(35,.agg (aj x)),(34,.yld 1)]++(Ye gl gg row k acc x d).fr) ((1,UI .ready)::[(0,X5 (.rsl 4 0 (acc++[d]).length)),(1,UI .busy),(4,JI (acc++[d]))]) 5 2))
     [(0,X5 (.rsl 4 0 (acc++[d]).length)),(1,UI .busy),(4,JI (acc++[d]))] 5 (.loop .ready none 22 [(5,.ref 0 0)] (Dy cSe) (Dz cSe) (DA cSe)) [] [] ?_ ?_
    .refine C9 .normal ⟨22,gl,[(5,.ref 0 0),(7,iG d)],[(0,X5 (.rsl 2 0 acc.length)),(1,UI .ready),(2,JI acc)],4,4,true⟩ [] [hc (rfl:acc.length=acc.length),hc (rZ.imm acc)] (Xv Tryz.f130 ?_ rfl) (ρ:=ρC4);exact C9 .normal ⟨22,gl,[],[(0,X5 (.rsl 4 0 (acc++[d]).length)),(1,UI .busy),(4,JI (acc++[d]))],5,4,true⟩ [hz 15 [2] f,Tn 20 rZ 8 acc d aa] [hc (el (acc++[d])),hc (rZ.imm (acc++[d]))] (by grind [jy]) (ρ:=rI 4++[(4,5)]) (kd:=[(4,.row)])
    .exact jw [hbb 39 (Xl (q:=k) aa)] [hc (el (acc++[d])),hc (rZ.imm (acc++[d]))] hB [] [(0,0),(1,1),(2,4)] [(2,.row)]
  unfold OS at k5;generalize I.o x=o at ho k5;unfold Yc at k5;cases b1:decide (o.Kind=1) with
  |true=>rw[b1] at k5;exact pO 1122110211110 (Ye gl gg row k acc x o.By) [hr 14 (Dk hx),AA 15 (ac.ixZ e),AA 16 (ac.ptZ aW e),hf 20 ho,hr 26 b1] [hc (rfl:acc.length=acc.length),hc (rZ.imm acc)] (fin _ k5) [] ρC4 [(2,.row)]
  |false=>
   rw[b1,A9] at k5;cases b2:decide (o.Kind=2) with
   |true=>rw[b2] at k5;exact pO 1122110211110 (Ye gl gg row k acc x o.Device) [hr 14 (Dk hx),AA 15 (ac.ixZ e),AA 16 (ac.ptZ aW e),hf 20 ho,hr 26 b1,hr 30 b2] [hc (rfl:acc.length=acc.length),hc (rZ.imm acc)] (fin _ k5) [] ρC4 [(2,.row)]
   |false=>
    rw[b2,A9] at k5;cases b3:decide (o.Kind=13) with
    |true=>rw[b3] at k5;exact pO 1122110211110 (Ye gl gg row k acc x o.Device) [hr 14 (Dk hx),AA 15 (ac.ixZ e),AA 16 (ac.ptZ aW e),hf 20 ho,hr 26 b1,hr 30 b2,hr 31 b3] [hc (rfl:acc.length=acc.length),hc (rZ.imm acc)] (fin _ k5) [] ρC4 [(2,.row)]
    |false=>rw[b3] at k5;exact jw [hr 14 (Dk hx),AA 15 (ac.ixZ e),AA 16 (ac.ptZ aW e),hf 20 ho,hr 26 b1,hr 30 b2,hr 31 b3,hbb 39 (Xl (q:=k) aa)] [hc (rfl:acc.length=acc.length),hc (rZ.imm acc)] k5 [] ρC3 [(2,.row)]
 .rw[D5];show Gp _ _ _ _ _ _ (AkH gl gg row row.length (M0 I row));generalize M0 I row=acc;refine C9 .normal (s0 40 gl [] [(0,X5 (.rsl 2 0 acc.length)),(1,UI .ready),(2,JI acc)] 3 2) [hr 14 (Fe (s:=row))] [hc (rfl:acc.length=acc.length),hc (rZ.imm acc)] (Xu ?_ rfl) (kd:=[(2,.row)]);exact Ar [] [hc (rZ.al acc)]
end
abbrev CmV(gl:CC)(fi:FuncId)(fa fc:Bo)(cmp:Ab->Ab->Int):Prop:=R3 prog gl fi fa fc (λp:Ab×Ab=>[.agg (aj p.1),.agg (aj p.2)]) (λz:Int=>iG z) (λp=>some (cmp p.1 p.2))
abbrev Sm(fi:FuncId)(fa fc:Bo):G:= .clo (.func fi) fa fc
theorem imP(p:Ab×Ab):∀g∈([.agg (aj p.1),.agg (aj p.2)]:Bo),bB g:=aY (aG 20 (.agg (aj p.1)) aH) (aY (aG 20 (.agg (aj p.2)) aH) bf)
abbrev hcp(d c:Nat){gl:CC}{fi:FuncId}{fa fc:Bo}{cmp:Ab->Ab->Int}(hv:CmV gl fi fa fc cmp)(x y:Ab):HP:=hz d [] (hv.cs (c:=c) (x:=(x,y)) rfl (imP (x,y)))
def AaD{α:Type}(cmp:α->α->Int)(a:Int)(s:List α×Int):Option ((List α×Int)⊕List α):=
 bif a<s.2 then(aS s.1 s.2).bind λx=>(aS s.1 (wI (s.2-1))).bind λy=>bif cmp x y<0 then(ji s.1 s.2 y).bind λw1=>(ji w1 (wI (s.2-1)) x).bind λw2=>some (.inl (w2,wI (s.2-1)))else some (.inr s.1)else some (.inr s.1)
def AaE{α:Type}(cmp:α->α->Int)(a b:Int)(s:List α×Int):Option ((List α×Int)⊕List α):=
 bif s.2<b then(AQ (AaD cmp a) (s.1,s.2)).bind λl=>some (.inl (l,wI (s.2+1)))else some (.inr s.1)
def inI{α:Type}(cmp:α->α->Int)(a b:Int)(l:List α):Option (List α):=AQ (AaE cmp a b) (l,wI (a+1))
theorem Ajf{w1 w2:AH}{i j:Int}(h1:ji l i b=some w1)(h2:ji w1 j a=some w2):fh prog 26 (.rsl 0 0 l.length) j=some (.ref 0 (0+j.toNat*3)):=by rw[hZ h1];exact ac.ixsZ 0 h2
section
variable {gl:CC} {fi:FuncId} {fa fc:Bo} {cmp:Ab->Ab->Int} (hv:CmV gl fi fa fc cmp)
include hv
theorem AdI{a b:Int}{r:AH}(h:inI cmp a b l=some r):jg prog gl 288 [.rsl 0 0 l.length,iG a,iG b,Sm fi fa fc] [(0,Bt l)] 1 (.tup []) [(0,Bt r)] 1:=by
 unfold inI at h;refine pP func288 ?_;refine pN (λs:AH×Int=>(s0 53 gl [(0,.rsl 0 0 s.1.length),(1,iG a),(2,iG b),(3,Sm fi fa fc),(8,iG s.2)] [(0,Bt s.1)] 1 1)) 1122 h [] [hc (el l),hc hv.im,hc (ac.imm l)] (λB s w hs k5 f=>?_);obtain⟨l1,i⟩:=s;unfold AaE at hs;dsimp only at hs;rcases bC hs with⟨b1,hs⟩|⟨b1,hs⟩
 .obtain⟨l2,e2,hs⟩:=bS hs;obtain rfl:=Bh hs;refine Ix 11221021 (s0 53 gl [(0,.rsl 0 0 l2.length),(1,iG a),(2,iG b),(3,Sm fi fa fc),(8,iG i)] [(0,Bt l2)] 1 1) ?_ λkk=>?_
  .exact jw [] [hc (el l2),hc hv.im,hc (ac.imm l2)] (k5 _ rfl)
  refine pN (λs:AH×Int=>(s0 53 gl [(0,.rsl 0 0 s.1.length),(1,iG a),(2,iG b),(3,Sm fi fa fc),(8,iG i),(9,iG s.2)] [(0,Bt s.1)] 1 1)) 1122102122 e2 [hr 14 b1] [hc (el l1),hc hv.im,hc (ac.imm l1)] (λk z v hz g e=>?_);obtain⟨l3,j⟩:=z;unfold AaD at hz;dsimp only at hz;rcases bC hz with⟨b2,hz⟩|⟨b2,hz⟩
  .obtain⟨x,c,hz⟩:=bS hz;obtain⟨y,d,hz⟩:=bS hz;rcases bC hz with⟨b3,hz⟩|⟨b3,hz⟩
   .obtain⟨w1,e1,hz⟩:=bS hz;obtain⟨w2,e3,hz⟩:=bS hz;obtain rfl:=Bh hz;exact jw [hr 20 b2,AA 25 (ac.ixrZ 0 c),AA 26 (ac.pt0Z aW c),AA 30 (ac.ixrZ 0 d),AA 31 (ac.pt0Z aW d),hcp 32 1 hv x y,hr 33 b3,AA 45 (ac.ixrZ 0 d),AA 46 (ac.pt0Z aW d),AA 49 (ac.ixrZ 0 c),AA 50 (ac.pt0Z aW c),AA 51 (ac.ixsZ 0 e1),hw 51 (w1.flatMap aj) (ac.putZ e1),AA 52 (Ajf e1 e3),hw 52 (w2.flatMap aj) (ac.putZ e3)] [hc ((hZ e1).trans (hZ e3)),hc hv.im,hc (ac.imm w2)] (g _ rfl)
   .obtain rfl:=Bh hz;obtain rfl:=e _ rfl;exact yl 11221021 [hr 20 b2,AA 25 (ac.ixrZ 0 c),AA 26 (ac.pt0Z aW c),AA 30 (ac.ixrZ 0 d),AA 31 (ac.pt0Z aW d),hcp 32 1 hv x y,hr 33 b3] [hc (el l3),hc hv.im,hc (ac.imm l3)] kk
  .obtain rfl:=Bh hz;obtain rfl:=e _ rfl;exact yl 11221021 [hr 20 b2] [hc (el l3),hc hv.im,hc (ac.imm l3)] kk
 .obtain rfl:=Bh hs;obtain rfl:=f _ rfl;exact mt .normal (s0 53 gl [] [(0,Bt l1)] 1 1) [] [hr 14 b1] [hc (ac.imm l1)] (kd:=[(0,.row)])
omit hv
def swZ{α:Type}(l:List α)(i j:Nat):Option (List α):=(l[i]?).bind λx=>(l[j]?).bind λy=>some ((l.set i y).set j x)
theorem I9{l r:List α}{i j:Nat}(h:swZ l i j=some r):∃x y,l[i]?=some x/\l[j]?=some y/\r=(l.set i y).set j x:=by grind [swZ]
theorem stZ{l:List α}{i:Nat}{y x:α}(h:l[i]?=some y):ji l (i:Int) x=some (l.set i x):=by grind [ji]
theorem Aiw{l:List α}{i j:Nat}{y x z w:α}(h:l[j]?=some y):ji (l.set i z) (j:Int) x=some ((l.set i z).set j x):=by grind [ji]
theorem Ui{y:Ab}:l.length=((l.set i y).set j x).length:=by rw[List.length_set,List.length_set]
abbrev hsw(a b c d:Nat){l w:AH}{i j:Nat}{x y:Ab}(hx:l[i]?=some x)(hy:l[j]?=some y)(e:w=(l.set i y).set j x):List HP:=[AA a (ac.ixrZ 0 (Bq hy)),AA (a+1) (ac.pt0Z aW (Bq hy)),AA b (ac.ixrZ 0 (Bq hx)),AA (b+1) (ac.pt0Z aW (Bq hx)),AA c (ac.ixsZ 0 (stZ (x:=y) hx)),hw c ((l.set i y).flatMap aj) (ac.putZ (stZ (x:=y) hx)),AA d (Ajf (stZ (x:=y) hx) (Aiw (w:=x) (x:=x) (z:=y) (i:=i) hy)),hw d (w.flatMap aj) (e▸ac.putZ (Aiw (w:=x) (x:=x) (z:=y) (i:=i) hy))]
theorem JW{c:Bool}{x:Option α}{v:α}(h:(bif c then x else none)=some v):c=true/\x=some v:=by grind
theorem AgF(h:Nat.blt 0 j=true):∃k,j=k+1:=by simp_all
theorem AgG{v:Nat⊕α}(h:(bif Nat.blt 0 j then some (.inl (j-1))else none)=some v):∃k,j=k+1/\v= .inl k:=by
 cases j with
 |zero=>cases h
 |succ k=>grind
def scU(cmp:Ab->Ab->Int)(l:AH)(a j i:Nat):Option (Nat⊕Nat):=bif (i:Int)<=(j:Int)then(l[i]?).bind λx=>(l[a]?).bind λy=>bif cmp x y<0 then some (.inl (i+1))else some (.inr i)else some (.inr i)
def scD(cmp:Ab->Ab->Int)(l:AH)(a i j:Nat):Option (Nat⊕Nat):=bif (i:Int)<=(j:Int)then(l[j]?).bind λx=>(l[a]?).bind λy=>bif cmp x y<0 then some (.inr j)else bif Nat.blt 0 j then some (.inl (j-1))else none else some (.inr j)
def paT(cmp:Ab->Ab->Int)(a:Nat)(s:AH×Nat×Nat):Option ((AH×Nat×Nat)⊕(AH×Nat)):=
 bif s.1.length<=1000 then(AQ (scU cmp s.1 a s.2.2) s.2.1).bind λi=>(AQ (scD cmp s.1 a i) s.2.2).bind λj=>bif (j:Int)<(i:Int)then some (.inr (s.1,j))else bif Nat.blt 0 j then(swZ s.1 i j).bind λl=>some (.inl (l,i+1,j-1))else none else none
def paS(cmp:Ab->Ab->Int)(a b p:Nat)(l:AH):Option (Nat×Bool×AH):=
 (
  swZ l a p).bind λl0=>(AQ (scU cmp l0 a (b-1)) (a+1)).bind λi=>(AQ (scD cmp l0 a i) (b-1)).bind λj=>
  bif (j:Int)<(i:Int)then(swZ l0 j a).bind λr=>some (j,true,r)else bif Nat.blt 0 j then(swZ l0 i j).bind λl1=>(AQ (paT cmp a) (l1,i+1,j-1)).bind λs=>(swZ s.1 s.2 a).bind λr=>some (s.2,false,r)else none
include hv
abbrev AaG(gl:CC)(fi:FuncId)(fa fc:Bo)(a b:Nat)(l:AH)(i j:Nat):St:=(s0 178 gl [(0,.rsl 0 0 l.length),(1,iG (a:Int)),(2,iG (b:Int)),(4,Sm fi fa fc),(12,iG (i:Int)),(13,iG (j:Int))] [(0,Bt l)] 1 1)
theorem U1{a b p:Nat}{r:AH}{m:Nat}{f:Bool}(hl:l.length<=1000)(ha:a<1000)(hb1:1<=b)(hb2:b<=1000)(h:paS cmp a b p l=some (m,f,r)):jg prog gl 295 [.rsl 0 0 l.length,iG (a:Int),iG (b:Int),iG (p:Int),Sm fi fa fc] [(0,Bt l)] 1 (.tup [iG (m:Int),bG f]) [(0,Bt r)] 1:=by
 obtain⟨b,rfl⟩:∃q,b=q+1:=⟨b-1,aa⟩;unfold paS at h;rw[Nat.add_sub_cancel] at h;obtain⟨l0,e0,h⟩:=bS h;obtain⟨i,ei,h⟩:=bS h;obtain⟨j,ej,h⟩:=bS h;obtain⟨D,E,h1,h2,e0⟩:=I9 e0;have hl0:l.length=l0.length:=by rw[e0];exact Ui
 refine pP func295 ?_;refine Ix 11110 (AaG gl fi fa fc a (b+1) l0 i b) ?_ λkk=>?_;rotate_left
 .have hl2:l0.length<=1000:=aa;refine pN (λq:Nat=>AaG gl fi fa fc a (b+1) l0 q b) [1,1,1,0,2,2] ei (hsw 20 24 26 27 h1 h2 e0++[hbb 29 (Xl (q:=a) aa),hbb 31 (dec (q:=b) aa)]) [hc hl0,hc hv.im,hc (ac.imm l0)] (λu q v hz n g=>?_);unfold scU at hz;rcases bC hz with⟨b2,hz⟩|⟨b2,hz⟩
  .obtain⟨x,c,hz⟩:=bS hz;obtain⟨y,d,hz⟩:=bS hz;have hq:=(cr c).1;rcases bC hz with⟨b3,hz⟩|⟨b3,hz⟩
   .obtain rfl:=Bh hz;exact jw [hr 34 b2,AA 39 (ac.ixrZ 0 (Bq c)),AA 40 (ac.pt0Z aW (Bq c)),AA 43 (ac.ixrZ 0 (Bq d)),AA 44 (ac.pt0Z aW (Bq d)),hcp 45 1 hv x y,hr 46 b3,hbb 49 (Xl (q:=q) aa)] [hc (rfl:l0.length=l0.length),hc hv.im,hc (ac.imm l0)] (n _ rfl)
   .obtain rfl:=Bh hz;obtain rfl:=g _ rfl;exact yl 11110 [hr 34 b2,AA 39 (ac.ixrZ 0 (Bq c)),AA 40 (ac.pt0Z aW (Bq c)),AA 43 (ac.ixrZ 0 (Bq d)),AA 44 (ac.pt0Z aW (Bq d)),hcp 45 1 hv x y,hr 46 b3] [hc (rfl:l0.length=l0.length),hc hv.im,hc (ac.imm l0)] kk
  .obtain rfl:=Bh hz;obtain rfl:=g _ rfl;exact yl 11110 [hr 34 b2] [hc (rfl:l0.length=l0.length),hc hv.im,hc (ac.imm l0)] kk
 have hl0:l0.length<=1000:=aa;clear e0 h1 h2 hl ei;refine Ix 111110 (AaG gl fi fa fc a (b+1) l0 i j) ?_ λkk=>?_;rotate_left
 .skip;refine pN (λq:Nat=>AaG gl fi fa fc a (b+1) l0 i q) [1,1,1,1,0,2,2] ej [] [hc (rfl:l0.length=l0.length),hc hv.im,hc (ac.imm l0)] (λu q v hz n g=>?_);unfold scD at hz;rcases bC hz with⟨b2,hz⟩|⟨b2,hz⟩
  .obtain⟨x,c,hz⟩:=bS hz;obtain⟨y,d,hz⟩:=bS hz;have hq:=(cr c).1;rcases bC hz with⟨b3,hz⟩|⟨b3,hz⟩
   .obtain rfl:=Bh hz;obtain rfl:=g _ rfl;exact yl 111110 [hr 52 b2,AA 57 (ac.ixrZ 0 (Bq c)),AA 58 (ac.pt0Z aW (Bq c)),AA 61 (ac.ixrZ 0 (Bq d)),AA 62 (ac.pt0Z aW (Bq d)),hcp 63 1 hv x y,hr 64 b3] [hc (rfl:l0.length=l0.length),hc hv.im,hc (ac.imm l0)] kk
   .obtain⟨k,rfl,rfl⟩:=AgG hz;exact jw [hr 52 b2,AA 57 (ac.ixrZ 0 (Bq c)),AA 58 (ac.pt0Z aW (Bq c)),AA 61 (ac.ixrZ 0 (Bq d)),AA 62 (ac.pt0Z aW (Bq d)),hcp 63 1 hv x y,hr 64 b3,hbb 68 (dec (q:=k) aa)] [hc (rfl:l0.length=l0.length),hc hv.im,hc (ac.imm l0)] (n _ rfl)
  .obtain rfl:=Bh hz;obtain rfl:=g _ rfl;exact yl 111110 [hr 52 b2] [hc (rfl:l0.length=l0.length),hc hv.im,hc (ac.imm l0)] kk
 clear ej;rcases bC h with⟨b1,h⟩|⟨b1,h⟩
 .obtain⟨r',A,h⟩:=bS h;simp only[Ft,Gb] at h;obtain⟨rfl,rfl,rfl⟩:=h;obtain⟨x,y,hx,hy,e⟩:=I9 A;exact mt .ret (s0 178 gl [(10,iG (j:Int)),(11,bG true)] [(0,Bt r')] 1 1) [iG (j:Int),bG true] (hr 71 b1::hsw 78 82 84 85 hx hy e) [hc (ac.imm r')] (kd:=[(0,.row)])
 obtain⟨hj,h⟩:=JW h;obtain⟨j,rfl⟩:=AgF hj;rw[Nat.add_sub_cancel] at h;obtain⟨l1,e1,h⟩:=bS h;obtain⟨s,es,h⟩:=bS h;obtain⟨r',A,h⟩:=bS h;simp only[Ft,Gb] at h;obtain⟨rfl,rfl,rfl⟩:=h;obtain⟨x,y,hx,hy,e1⟩:=I9 e1;have hli:=(cr hx).1;have o:=(cr hy).1;have hl1:l0.length=l1.length:=by rw[e1];exact Ui
 refine pN (λz:AH×Nat×Nat=>AaG gl fi fa fc a (b+1) z.1 z.2.1 z.2.2) [1,1,1,1,1,1,1,1,1,0,2,2] es (hr 71 b1::hsw 93 97 99 100 hx hy e1++[hbb 102 (Xl (q:=i) aa),hbb 104 (dec (q:=j) aa)]) [hc hl1,hc hv.im,hc (ac.imm l1)] (λB z w hs k5 C=>?_);clear hx hy e1 hli o hl1 b1 hl0;obtain⟨l1,i,j⟩:=z;unfold paT at hs;dsimp only at hs;cases b0:decide (l1.length<=1000) with
 |false=>rw[b0] at hs;cases hs
 |true=>
 rw[b0,ax] at hs;have hl1:=DP b0;obtain⟨i1,ei,hs⟩:=bS hs;obtain⟨t,ej,hs⟩:=bS hs;refine Ix 111111111102220 (AaG gl fi fa fc a (b+1) l1 i1 j) ?_ λkk=>?_;rotate_left
 .skip;refine pN (λq:Nat=>AaG gl fi fa fc a (b+1) l1 q j) [1,1,1,1,1,1,1,1,1,0,2,2,2,0,2,2] ei [] [hc (rfl:l1.length=l1.length),hc hv.im,hc (ac.imm l1)] (λu q v hz n g=>?_);unfold scU at hz;rcases bC hz with⟨b2,hz⟩|⟨b2,hz⟩
  .obtain⟨x,c,hz⟩:=bS hz;obtain⟨y,d,hz⟩:=bS hz;have hq:=(cr c).1;rcases bC hz with⟨b3,hz⟩|⟨b3,hz⟩
   .obtain rfl:=Bh hz;exact jw [hr 107 b2,AA 112 (ac.ixrZ 0 (Bq c)),AA 113 (ac.pt0Z aW (Bq c)),AA 116 (ac.ixrZ 0 (Bq d)),AA 117 (ac.pt0Z aW (Bq d)),hcp 118 1 hv x y,hr 119 b3,hbb 122 (Xl (q:=q) aa)] [hc (rfl:l1.length=l1.length),hc hv.im,hc (ac.imm l1)] (n _ rfl)
   .obtain rfl:=Bh hz;obtain rfl:=g _ rfl;exact yl 111111111102220 [hr 107 b2,AA 112 (ac.ixrZ 0 (Bq c)),AA 113 (ac.pt0Z aW (Bq c)),AA 116 (ac.ixrZ 0 (Bq d)),AA 117 (ac.pt0Z aW (Bq d)),hcp 118 1 hv x y,hr 119 b3] [hc (rfl:l1.length=l1.length),hc hv.im,hc (ac.imm l1)] kk
  .obtain rfl:=Bh hz;obtain rfl:=g _ rfl;exact yl 111111111102220 [hr 107 b2] [hc (rfl:l1.length=l1.length),hc hv.im,hc (ac.imm l1)] kk
 clear ei;refine Ix 1111111111022210 (AaG gl fi fa fc a (b+1) l1 i1 t) ?_ λkk=>?_;rotate_left
 .skip;refine pN (λq:Nat=>AaG gl fi fa fc a (b+1) l1 i1 q) [1,1,1,1,1,1,1,1,1,0,2,2,2,1,0,2,2] ej [] [hc (rfl:l1.length=l1.length),hc hv.im,hc (ac.imm l1)] (λu q v hz n g=>?_);unfold scD at hz;rcases bC hz with⟨b2,hz⟩|⟨b2,hz⟩
  .obtain⟨x,c,hz⟩:=bS hz;obtain⟨y,d,hz⟩:=bS hz;have hq:=(cr c).1;rcases bC hz with⟨b3,hz⟩|⟨b3,hz⟩
   .obtain rfl:=Bh hz;obtain rfl:=g _ rfl;exact yl 1111111111022210 [hr 125 b2,AA 130 (ac.ixrZ 0 (Bq c)),AA 131 (ac.pt0Z aW (Bq c)),AA 134 (ac.ixrZ 0 (Bq d)),AA 135 (ac.pt0Z aW (Bq d)),hcp 136 1 hv x y,hr 137 b3] [hc (rfl:l1.length=l1.length),hc hv.im,hc (ac.imm l1)] kk
   .obtain⟨k,rfl,rfl⟩:=AgG hz;exact jw [hr 125 b2,AA 130 (ac.ixrZ 0 (Bq c)),AA 131 (ac.pt0Z aW (Bq c)),AA 134 (ac.ixrZ 0 (Bq d)),AA 135 (ac.pt0Z aW (Bq d)),hcp 136 1 hv x y,hr 137 b3,hbb 141 (dec (q:=k) aa)] [hc (rfl:l1.length=l1.length),hc hv.im,hc (ac.imm l1)] (n _ rfl)
  .obtain rfl:=Bh hz;obtain rfl:=g _ rfl;exact yl 1111111111022210 [hr 125 b2] [hc (rfl:l1.length=l1.length),hc hv.im,hc (ac.imm l1)] kk
 clear ej;rcases bC hs with⟨b1,hs⟩|⟨b1,hs⟩
 .obtain rfl:=Bh hs;obtain rfl:=C _ rfl;obtain⟨x,y,hx,hy,e⟩:=I9 A;exact mt .ret (s0 178 gl [(10,iG (t:Int)),(11,bG false)] [(0,Bt r')] 1 1) [iG (t:Int),bG false] (hr 144 b1::hsw 169 173 175 176 hx hy e) [hc (ac.imm r')] (kd:=[(0,.row)])
 .obtain⟨hj,hs⟩:=JW hs;obtain⟨t,rfl⟩:=AgF hj;rw[Nat.add_sub_cancel] at hs;obtain⟨l2,e2,hs⟩:=bS hs;obtain rfl:=Bh hs;obtain⟨x,y,hx,hy,e2⟩:=I9 e2;have hli:=(cr hx).1;have o:=(cr hy).1;have hl2:l1.length=l2.length:=by rw[e2];exact Ui
  exact jw (hr 144 b1::hsw 151 155 157 158 hx hy e2++[hbb 160 (Xl (q:=i1) aa),hbb 162 (dec (q:=t) aa)]) [hc hl2,hc hv.im,hc (ac.imm l2)] (k5 _ rfl)
end
section
variable {gl:CC}
abbrev oLs(l:Ni):Option Ob:=some ⟨22,l.flatMap Jc,none⟩
def Ad0(s:Ni×Nat×Nat):Option ((Ni×Nat×Nat)⊕Ni):=bif (s.2.1:Int)<(s.2.2:Int)-1 then(bif Nat.ble s.1.length 4000 then(swZ s.1 s.2.1 (s.2.2-1)).bind λw=>some (.inl (w,s.2.1+1,s.2.2-1))else none)else some (.inr s.1)
theorem AlU{q:Nat}(h:q<1000000):lD .sub (iG (q:Int)) (iG 1)=some (iG ((q:Int)-1)):=by grind [sb]
theorem AjS{l r:Ni}(hn:l.length<=4000)(h:AQ Ad0 (l,0,l.length)=some r):jg prog gl 362 [.rsl 0 0 l.length] [(0,oLs l)] 1 (.tup []) [(0,oLs r)] 1:=by
 refine pP func362 ?_;refine pN (λs:Ni×Nat×Nat=>(s0 28 gl [(0,.rsl 0 0 s.1.length),(2,iG (s.2.1:Int)),(3,iG ((s.2.2:Int)-1))] [(0,oLs s.1)] 1 1)) 1122 h [hbb 6 (AlU (q:=l.length) aa)] [hc (el l),hc (nH.imm l)] (λB s w hs k5 a=>?_);obtain⟨l1,i,j⟩:=s;unfold Ad0 at hs;dsimp only at hs;rcases bC hs with⟨b1,hs⟩|⟨b1,hs⟩
 .rcases bC hs with⟨b2,hs⟩|⟨b2,hs⟩;rotate_left;· cases hs
  obtain⟨w1,e0,hs⟩:=bS hs;obtain rfl:=Bh hs;obtain⟨j,rfl⟩:∃c,j=c+1:=⟨j-1,by have:=DP b1;omega⟩;rw[Nat.add_sub_cancel] at e0 k5;obtain⟨x,y,hx,hy,e1⟩:=I9 e0;have hw1:l1.length=w1.length:=by rw[e1,List.length_set,List.length_set]
  have hi:=(cr hx).1;have hj:=(cr hy).1;have hl:=EG b2;rw[show((j+1:Nat):Int)-1=(j:Int) by omega] at b1⊢;exact jw [hr 9 b1,AA 20 (nH.ixrZ 0 (Bq hy)),AA 21 (nH.p10Z Vs (Bq hy)),AA 24 (nH.ixrZ 0 (Bq hx)),AA 25 (nH.p10Z Vs (Bq hx)),AA 26 (nH.ixsZ 0 (stZ (x:=y) hx)),hw 26 ((l1.set i y).flatMap Jc) (nH.putZ (stZ (x:=y) hx)),AA 27 (nH.ixsZ 0 (stZ (x:=x) hy)),hw 27 (w1.flatMap Jc) (e1▸nH.putZ (Aiw (w:=x) (x:=x) (z:=y) (i:=i) hy)),hbb 11 (Xl (q:=i) aa),hbb 13 (AlU (q:=j) aa)] [hc hw1,hc (nH.imm w1)] (k5 _ rfl)
 .obtain rfl:=Bh hs;obtain rfl:=a _ rfl;exact mt .normal (s0 28 gl [] [(0,oLs l1)] 1 1) [] [hr 9 b1] [hc (nH.imm l1)] (kd:=[(0,.row)])
def Mw(s:Ni):Option Ni:=aT 24 [] s
theorem SH{s:Ni}:Mu prog gl (Mw s) 361 [aE Jc s] 22 Jc:=λr h=>by
 unfold Mw at h;refine OW func361 ?_;refine pO 1100 (s0 8 gl [(0,aE Jc s)] [] 0 0) [] [] ?_;refine IA 0 3 4 27 22 rfl (EG aH) (EG aH) λb hb=>?_;cases b
 .exact EI [eu 7 nH h] (nH.imm _)
 .obtain rfl:=nH.isNil (hb rfl);obtain rfl:=mV h;exact EI [] (nH.imm [])
theorem Ad1{l r:Ni}(hn:l.length<=4000)(h:AQ Ad0 (l,0,l.length)=some r)(hl:r.length=l.length):ba prog gl 337 [aE Jc l] (aE Jc r):=by refine Gh func337 ?_;have hC:=SH (gl:=gl) (s:=l) (r:=l) (by unfold Mw;grind [aT]);have hM:=AjS (gl:=gl) hn h;rw[<-hl] at hC hM;exact Ar [hz 5 [] (UO (c:=0) aH hC (eB aH) (nH.imm l)),tN 7 [0] 1 [(0,oLs l)] [.rsl 0 0 r.length] [(0,oLs r)] hM ⟨⟨rfl,.inr ⟨rfl,nH.imm l⟩⟩,trivial⟩ ⟨⟨rfl,.inr ⟨rfl,nH.imm r⟩⟩,trivial⟩] [hc (nH.al r)]
theorem Adb{l:Bj}{a b r:Ni}(hd:PJ l d=some (a,b))(hn:a.length<=4000)(h:AQ Ad0 (a,0,a.length)=some r)(hl:r.length=a.length):ba prog gl 287 [aE cZ l,iG d] (aE Jc r):=by refine Gh func287 ?_;exact Ar [hf 10 (Abi gl hd),hf 14 (Ad1 (gl:=gl) hn h hl)] []
end
theorem Ahy(n:Int):SG n=zZ n:=by
 have:PG n=AE n:=by grind [PG,AE]
 grind [SG,zZ]
def Uz(n:Nat):Nat:=((zZ (n:Int)).getD 0).toNat
theorem V2{n:Nat}(h:2<=n)(hn:n<=1000000):zZ (n:Int)=some ((Uz n:Nat):Int)/\1<=Uz n/\Uz n<n:=by obtain⟨v,e,k,rfl,h1,h2⟩:=Oc h hn;grind [Uz]
def O5:Nat->Bj->Ni
 |0,_=>[]
 |n+1,l=>if l.length=0 then[]else if l.length=1 then[l]else l::(O5 n (l.take (Uz l.length))++O5 n (l.drop (Uz l.length)))
def UQ(d:Int):Nat->Bj->Ni
 |0,_=>[]
 |n+1,l=>if l.length<=1 then[l]else l::(if d∈l.take (Uz l.length)then UQ d n (l.take (Uz l.length))else UQ d n (l.drop (Uz l.length)))
theorem SI(d:Int):∀(n m:Nat) (l:Bj),l.length<n->l.length<m->l.length<=1000000->UQ d n l=UQ d m l
 |0,_,_,h,_,_=>(by grind)
 |_,0,_,_,h,_=>(by grind)
 |n+1,m+1,l,h,h',hl=>by
  unfold UQ;split
  .rfl
  .obtain⟨_,k1,k2⟩:=V2 (n:=l.length) aa hl;rw[SI d n m (l.take (Uz l.length)) cq cq cq,SI d n m (l.drop (Uz l.length)) cq cq cq]
theorem aaj:∀(nn:Nat) (l:Bj),l.length<nn->l.length<=1000000->Ll nn l=some (O5 nn l)/\(O5 nn l).length<=2*l.length-1
 |0,_,h,_=>absurd h (Nat.not_lt_zero _)
 |nn+1,l,h,hl=>by
  unfold Ll O5;by_cases h0:l.length=0
  .simp[ah,h0]
  by_cases h1:l.length=1
  .simp[ah,h1]
  obtain⟨e,k1,k2⟩:=V2 (n:=l.length) aa hl;obtain⟨e2,n2⟩:=aaj nn (l.take (Uz l.length)) cq cq;obtain⟨e3,a⟩:=aaj nn (l.drop (Uz l.length)) cq cq;rw[show decide (ah l=0)=false from C3 (by unfold ah;omega),show decide (ah l=1)=false from C3 (by unfold ah;omega),A9,A9,show ah l=(l.length:Int) from rfl,e,aL,BB h0,BB h1];rw[Ns] at n2;rw[List.length_drop] at a;constructor
  .refine T.eq (.bind (.pre aa aa ?_));rw[Fm,e2,aL];refine .bind (.app (by simp only[List.length_singleton];omega) (.bind (.suf aa aa ?_)));rw[Fm,e3,aL];exact .bind (.app (by simp only[Sv,List.length_singleton];omega) (.some aC))
  grind
theorem Ub:∀(nn:Nat) (l:Bj),∀s∈O5 nn l,∀x∈s,x∈l
 |0,_=>by simp[O5]
 |nn+1,l=>by
  intro s hs x hx;unfold O5 at hs;split at hs
  .cases hs
  split at hs
  .grind
  .rcases EY.1 hs with rfl|hs
   .exact hx
   rcases Hp.1 hs with hs|hs
   .exact List.mem_of_mem_take (Ub nn _ s hs x hx)
   .exact List.mem_of_mem_drop (Ub nn _ s hs x hx)
theorem aal(d:Int):∀(nn:Nat) (l:Bj),l.length<nn->l.length<=1000000->l.Nodup->(O5 nn l).filter (λs=>decide (d∈s))=if d∈l then UQ d nn l else[]
 |0,_,h,_,_=>(by grind)
 |nn+1,l,h,hl,hnd=>by
  by_cases hd:d∈l
  .rw[Bx hd];have hp:0<l.length:=List.length_pos_of_mem hd;unfold O5 UQ;rw[BB aa];by_cases h1:l.length=1
   .grind
   rw[BB h1,BB aa];obtain⟨_,k1,k2⟩:=V2 (n:=l.length) aa hl;generalize Uz l.length=k at k1 k2;have e2:=aal d nn (l.take k) cq cq (by grind);have e3:=aal d nn (l.drop k) cq cq (by grind);grind [Pt]
  grind [List.filter_eq_nil_iff,Ub]
theorem Afq{l:Ni}(hl:l.length<=4000):AQ Ad0 (l,0,l.length)=some l.reverse:=by
 refine T.eq (T.loop (λs=>s.2.1+s.2.2=l.length/\s.1.length=l.length/\∀k,k<l.length->s.1[k]?=if s.2.1<=k/\k<s.2.2 then l[k]? else l.reverse[k]?) (λs=>s.2.2) (by grind) (by grind) ?_);rintro⟨w,i,j⟩ ⟨h1,h2,h3⟩;simp only at h1 h2 h3;unfold Ad0;refine .dec (λh0=>?_) λh0=> .some (show w=l.reverse from ?_)
 .have h0:(i:Int)<(j:Int)-1:=h0;rw[show Nat.ble (w,i,j).1.length 4000=true from(by grind [Ng]),ax];have hi:i<w.length:=aa;have hj:j-1<w.length:=aa;have e:swZ w i (j-1)=some ((w.set i (w[j-1]'hj)).set (j-1) (w[i]'hi)):=by grind [swZ]
  show T ((swZ w i (j-1)).bind _) _;rw[e,aL];refine .some ⟨⟨by grind,by simp[h2],λk hk=>?_⟩,by grind⟩;have ei:=h3 i aa;have ej:=h3 (j-1) aa;have ek:=h3 k hk;rw[Bx (by grind)] at ei;rw[Bx (by grind)] at ej;show((w.set i _).set (j-1) _)[k]?=if i+1<=k/\k<j-1 then _ else _
  rw[List.getElem?_set,List.getElem?_set];by_cases k1:j-1=k
  .grind
  grind
 .have h0:¬(i:Int)<(j:Int)-1:=h0;refine List.ext_getElem? λk=>?_;grind
theorem Ahz{l:Bj}(hl:l.length<=3000)(hd:d∈l):∃b,PJ l d=some (UQ d (l.length+1) l,b):=by
 unfold PJ;rw[Uv aa,aL,show(l.any λy=>decide (d=y))=true from(by grind),Bool.not_true,A9];obtain⟨R,hR⟩:∃R,UQ d (l.length+1) l=R:=⟨_,rfl⟩;rw[hR];have key:T (AQ (PH d) (l,[],[])) λv=>∃b,v= .inr (R,b):=by
  refine T.loop (λs:Bj×Ni×Ni=>d∈s.1/\s.1.length<=3000/\s.2.1.length+s.1.length<=6000/\s.2.2.length+s.1.length<=6000/\s.2.1++UQ d (s.1.length+1) s.1=R) (λs=>s.1.length) (by grind) (by grind) ?_;rintro⟨c,a,f⟩ ⟨h1,h2,h3,h4,h5⟩;simp only at h1 h2 h3 h4 h5;have hp:0<c.length:=List.length_pos_of_mem h1;unfold PH fF;dsimp only;refine .bind (.app (by grind) (.bind (.app (by grind) ?_)));rw[Pu];unfold UQ at h5;by_cases hc:c.length<2
  .rw[show Nz c=some ([],[]) by grind [Nz,ah],aL];rw[Bx aa] at h5;exact .some ⟨f,by rw[<-h5]⟩
  obtain⟨e,k1,k2⟩:=V2 (n:=c.length) aa aa;rw[BB aa] at h5;generalize Uz c.length=k at e k1 k2 h5;have eK:Nz c=some (c.take k,c.drop k):=by unfold Nz fF;rw[C3 (by grind [ah]),A9,show ah c=(c.length:Int) from rfl,Ahy,e,aL];refine T.eq (.bind (.pre aa aa ?_));grind [T.bind,T.app,T.suf,T.some]
  have lt:(c.take k).length=k:=by grind
  have ld:(c.drop k).length=c.length-k:=List.length_drop;rw[eK,aL];dsimp only;rw[show decide (ah (c.drop k)=0)=false from(by grind [ah]),A9,Uv aa,aL];have hx:d∈c.take k\/d∈c.drop k:=by grind [Pt]
  rw[SI d c.length ((c.take k).length+1) (c.take k) aa aa aa,SI d c.length ((c.drop k).length+1) (c.drop k) aa aa aa] at h5;by_cases ht:d∈c.take k
  .rw[show((c.take k).any λy=>decide (d=y))=true from(by grind),ax];rw[Bx ht] at h5;refine .bind (.app (by grind) (.some (by constructor<;>grind)));all_goals grind
  .rw[show((c.take k).any λy=>decide (d=y))=false from(by grind),A9];rw[BB ht] at h5;refine .bind (.app (by grind) (.some (by constructor<;>grind)));all_goals grind
 obtain⟨v,e,b,rfl⟩:=key;rw[e];exact⟨b,rfl⟩
end Go.Proofs.YtlimmeehdfbheaaGreatDoor
