/- Texts. -/
import Derived.Test.YtdpdicldkohflaaGreatDoorYT
namespace Go.Proofs.YtdpdicldkohflaaGreatDoor
set_option linter.unusedSectionVars false
set_option linter.unusedVariables false
set_option linter.unusedSimpArgs false
open Go.RowKit Tryz
attribute [local irreducible] Tr dz Gp
variable (gl:CB)
variable {α:Type}{N:IX}{u:Bp}{a b c n:Int}{g:Ba}{m:I1}{o:Bq}{r:List Bool}{f i j k v:Nat}{W ids l:Bb}{x:Ab}{gg:Az}{P:Bu}{st:St}{al:Bc}{fi:FuncId}{I:Gi}
def lvN(N:IX)(j:Int):Int:=((N[j.toNat]?).map (·.level)).getD 0
def lvF(N:IX)(u:Bp):Int:=u.foldl (λa j=>Ft a (lvN N j+1)) 1
theorem Abg{j:Int}:lvF N (u++[j])=Ft (lvF N u) (lvN N j+1):=by unfold lvF;rw[No];rfl
theorem Ada{y:Dd}(h:∀x∈u,0<=x/\x<(N.length:Int)):lvF (N++[y]) u=lvF N u:=by
 have key:∀(l:Bp) (a:Int),(∀x∈l,0<=x/\x<(N.length:Int))->l.foldl (λa j=>Ft a (lvN (N++[y]) j+1)) a=l.foldl (λa j=>Ft a (lvN N j+1)) a:=by
  intro l;induction l with
  |nil=>exact λa _=>rfl
  |cons x r ih=>
   intro a hh;have e:lvN (N++[y]) x=lvN N x:=by have:=hh x aC;grind [lvN]
   grind
 exact key u 1 h
structure Oo (g:Ba) (m:I1) (N:IX):Prop where
 len:N.length=g.L.length
 nd:∀(k:Nat) (y:Dd),N[k]?=some y->g.L[k]?=some y.o/\g.IDs[k]?=some y.id/\(∀j,j<256->gW y.past j=Re g k j)/\0<=y.level/\y.level<=(k:Int)+1
 get:∀x,m.get x=(bu x g.IDs).map (λn=>(n:Int))
 lv:∀(k:Nat) (y:Dd) (u:Bp),N[k]?=some y->g.Up[k]?=some u->y.level=lvF N u
theorem MX(h1:a<=c)(h2:b<=c):Ft a b<=c:=by unfold Ft;split<;>omega
theorem T5(h1:c<=a):c<=Ft a b:=by unfold Ft;split<;>omega
theorem ZF{up:Bp}(w:GR g)(pg:Oo g m N)(a:R0 g o up)(sm:Bg o):T (AQ (Z6 m N o.Past) (z4,z4,0,1,0)) λr=>(∀j:Nat,j<256->(gW r.1 j=true↔(j:Int)∈up))/\(∀j:Nat,j<256->(gW r.2.1 j=true↔∃n:Nat,(n:Int)∈up/\Re g n j=true))/\r.2.2.1<=o.At/\0<=r.2.2.2/\r.2.2.2<=(N.length:Int)+1/\r.2.2.2=lvF N up:=by
 have f:=T1 a.check.numbers;have n1:=sm.nPast;have nL:=w.nL;have nI:=w.nI;have pl:=pg.len;refine T.loop (λs=>∃k:Nat,s.2.2.2.2=(k:Int)/\k<=o.Past.length/\(∀j:Nat,j<256->(gW s.1 j=true↔∃i,i<k/\up[i]?=some (j:Int)))/\(∀j:Nat,j<256->(gW s.2.1 j=true↔∃i n:Nat,i<k/\up[i]?=some (n:Int)/\Re g n j=true))/\s.2.2.1<=o.At/\0<=s.2.2.2.1/\s.2.2.2.1<=(N.length:Int)+1/\s.2.2.2.1=lvF N (up.take k)) (λs=>o.Past.length-s.2.2.2.2.toNat) ⟨0,rfl,aa,λj hj=>?_,λj hj=>?_,f.at_.1,Cd,by show(1:Int)<=_;omega,rfl⟩ (by show o.Past.length-_<_;omega) ?_
 .grind [gW]
 .grind [gW]
 rintro⟨p,b,z,lev,i⟩ ⟨k,rfl,hk,q1,h,c,d,e,t⟩;dsimp only at q1 h c d e t;unfold Z6;dsimp only;refine .dec (λhlt=>?_) λhge=>?_
 .unfold ah at hlt;have hk2:k<o.Past.length:=aa;have hx:=EA hk2;obtain⟨n,hn,hu⟩:=a.par k _ hx;have eg:m.get o.Past[k]=some (n:Int):=by rw[pg.get,hn];rfl
  have hnl:n<g.IDs.length:=(cr (gb hn).1).1;have hy:N[n]?=some (N[n]'aa):=EA _;obtain⟨l,u,q,v,x⟩:=pg.nd n _ hy;generalize N[n]'aa=y at hy l u q v x;have hmem:(n:Int)∈up:=bO hu;have hat:=a.late n _ hmem l;have ew:wI (y.level+1)=y.level+1:=bM aa aa;rw[au,hx,aL,eg];dsimp only[Nf];rw[au,hy,aL,ew,aq aa];refine .some ⟨⟨k+1,rfl,aa,λj hj=>?_,λj hj=>?_,MX c hat,T5 d,MX e aa,?_⟩,?_⟩
  .dsimp only;rw[Fu,T3 aa hj,Bool.or_eq_true,q1 j hj,decide_eq_true_eq];grind
  .dsimp only;rw[RP,Bool.or_eq_true,h j hj,q j hj];grind
  all_goals grind [Jk,lvN,Abg]
 .unfold ah at hge;obtain rfl:k=o.Past.length:=aa;have ul:=a.upl;refine .some ⟨λj hj=>?_,λj hj=>?_,c,d,e,by grind⟩;all_goals grind [GL]
def RR(g:Ba)(o:Bq)(r:List Bool):Prop:=(∀(k:Nat) (p:Bq),g.L[k]?=some p->r[k]?=some true->p.By=o.By->p.Seq<o.Seq)/\(o.Seq=1\/∃(k:Nat) (p:Bq),g.L[k]?=some p/\r[k]?=some true/\p.By=o.By/\p.Seq=wI (o.Seq-1))
theorem Xb(w:GR g){o:Bq}(hr:r.length=g.L.length):T (lA g o r) λv=>v=true->RR g o r:=by
 have nL:=w.nL;unfold lA;refine .bind (T.forA g.L.length (λk b=>(∀(j:Nat) (p:Bq),j<k->g.L[j]?=some p->r[j]?=some true->p.By=o.By->p.Seq<o.Seq)/\(b=true->∃(j:Nat) (p:Bq),g.L[j]?=some p/\r[j]?=some true/\p.By=o.By/\p.Seq=wI (o.Seq-1))) aa (by grind) (λk b hk a=>?_) λb a=>?_)
 .have hp:=EA hk;obtain⟨x,hx⟩:∃x,r[k]?=some x:=⟨_,EA aa⟩;generalize g.L[k]=p at hp;have more:∀(c:Prop),(c->p.Seq<o.Seq)->((r[k]?=some true/\p.By=o.By)->c)->∀(j:Nat) (q:Bq),j<k+1->g.L[j]?=some q->r[j]?=some true->q.By=o.By->q.Seq<o.Seq:=by grind
  unfold jK;dsimp only;rw[eA hk,ax,au,au,hx,hp];simp only[aL];cases x with
  |false=>exact .some (by constructor<;>grind [aq])
  |true=>
   simp only[Bool.not_true,Be,aL];by_cases hb:p.By=o.By
   .rw[Dk (by grind),Be];refine .dec (λhs=> .some (.some λh=>by cases h)) λhs=>?_;have hm:=more True (λ_=>aa) λ_=>trivial;cases b with
    |true=>exact .some ⟨aq aa,hm,a.2⟩
    |false=>exact .some (by constructor<;>grind [aq])
   .rw[C5 hb,ax];exact .some (by constructor<;>grind [aq])
 .unfold jK;dsimp only;rw[eF,Be];refine .some ?_;show T (ma _ _ _) _;dsimp only[ma];have h1:∀(k:Nat) (p:Bq),g.L[k]?=some p->r[k]?=some true->p.By=o.By->p.Seq<o.Seq:=by grind
  by_cases hs:o.Seq=1
  .rw[C5 hs];exact .some λ_=>⟨h1,.inl hs⟩
  .rw[Dk hs];exact .some λhb=>⟨h1,.inr (a.2 hb)⟩
theorem ZG{A:ON}(w:GR g)(pg:Oo g m N)(f:On o)(hA:∀j:Nat,j<g.L.length->(gW A j=true↔r[j]?=some true))(hR:RR g o r):T (AQ (Z7 N o A) (0,false,0)) λv=>v.1<o.Seq/\(1<o.Seq->v.2=true):=by
 have nL:=w.nL;have pl:=pg.len;have fs:=f.seq;refine T.loop (λs=>∃k:Nat,s.2.2=(k:Int)/\k<=N.length/\s.1<o.Seq/\∀(j:Nat) (p:Bq),j<k->g.L[j]?=some p->r[j]?=some true->p.By=o.By->p.Seq=wI (o.Seq-1)->s.2.1=true) (λs=>N.length-s.2.2.toNat) ⟨0,rfl,aa,by show(0:Int)<_;omega,λj p hj=>absurd hj (Nat.not_lt_zero _)⟩ (by show N.length-_<_;omega) ?_;rintro⟨la,b,i⟩ ⟨k,rfl,hk,q1,e⟩;dsimp only at q1 e;unfold Z7;dsimp only;refine .dec (λhlt=>?_) λhge=>?_
 .unfold ah at hlt;have hk2:k<N.length:=aa;have hy:=EA hk2;obtain⟨c,_⟩:=pg.nd k _ hy;generalize N[k]=y at hy c;rw[au,hy,aL,aq aa];have dn:N.length-(((k+1:Nat):Int)).toNat<N.length-((k:Int)).toNat:=aa;have more:∀a:Bool,(b=true->a=true)->(r[k]?=some true->y.o.By=o.By->y.o.Seq=wI (o.Seq-1)->a=true)->∀(j:Nat) (p:Bq),j<k+1->g.L[j]?=some p->r[j]?=some true->p.By=o.By->p.Seq=wI (o.Seq-1)->a=true:=λa h1 h2 j p hj hp h3 h4 h5=>by
   rcases Je j k with hjk|hjk
   .exact h1 (e j p hjk hp h3 h4 h5)
   .obtain rfl:j=k:=aa;rw[c] at hp;cases hp;exact h2 h3 h4 h5
  refine .dec (λhb=>?_) λhb=> .some ⟨⟨k+1,rfl,aa,q1,more b id λ_ h=>absurd h hb⟩,dn⟩;rw[Xa aa,aL];refine .ite (λhh=>?_) λhh=> .some ⟨⟨k+1,rfl,aa,q1,more b id λh=>?_⟩,dn⟩
  .have d:=(hA k aa).1 hh;refine .some ⟨⟨k+1,rfl,aa,?_,more _ (λh=>by rw[h];rfl) λ_ _ h=>by rw[C5 h];cases b<;>rfl⟩,dn⟩;have:=hR.1 k _ c d hb;grind [Ft]
  .rw[(hA k aa).2 h] at hh;cases hh
 .unfold ah at hge;refine .some ⟨q1,λh1=>?_⟩;rcases hR.2 with h|⟨j,p,h2,h3,h4,h5⟩
  all_goals grind
theorem ye{a b:Ab}:dt a b=true↔a.By<b.By\/(a.By=b.By/\(a.Seq<b.Seq\/(a.Seq=b.Seq/\a.Sum<b.Sum))):=by grind [dt]
def rN(a b:Ab):Prop:=dt b a=false
theorem KG{a b c:Ab}(h1:rN a b)(h2:rN b c):rN a c:=by grind [rN,ye]
theorem F9{a b:Ab}(h:dt a b=true):rN a b:=by grind [rN,ye]
theorem Cy{x:α}{l:List α}:(l.take k++[x]++l.drop k).Perm (l++[x]):=by grind [List.perm_append_comm,Pr]
theorem kg(hl:l.length<=1000000):T (iu l) λr=>r.Perm l/\r.Pairwise rN:=by
 unfold iu;refine .bind (T.forA l.length (λk acc=>acc.Perm (l.take k)/\acc.Pairwise rN) aa (by simp_all) (λk acc hk hj=>?_) λacc hj=>?_)
 .obtain⟨x,hx⟩:∃x,l[k]?=some x:=by simp_all
  have ha:acc.length<=1000000:=by have:=hj.1.length_eq;grind
  unfold oZ;dsimp only;rw[eA hk,ax];refine .bind (T.mono (Q:=λq:Int=>∃n:Nat,q=(n:Int)/\n<=acc.length/\(∀(j:Nat) (y:Ab),n<=j->acc[j]?=some y->dt x y=true)/\∀(y:Ab),0<n->acc[n-1]?=some y->dt x y=false) (T.loop (λq=>∃n:Nat,q=(n:Int)/\n<=acc.length/\∀(j:Nat) (y:Ab),n<=j->acc[j]?=some y->dt x y=true) (λq=>q.toNat) ⟨acc.length,rfl,Dl _,(by grind)⟩ (by unfold ah;omega) ?_) ?_)
  .rintro q ⟨n,rfl,hn,b⟩;unfold vB;dsimp only;refine .dec (λh0=>?_) λh0=> .some ⟨n,rfl,hn,b,(by grind)⟩;obtain⟨y,hy⟩:∃y,acc[n-1]?=some y:=by grind
   rw[au,hx,aL,F7 aa aa,au,hy,aL,pJ,aL];refine .ite (λhf=> .some ⟨n,rfl,hn,b,(by grind)⟩) λht=> .some (by constructor<;>grind);all_goals grind
  .rintro q ⟨n,rfl,hn,h1,h2⟩;refine .bind (.pre aa aa (.bind (.app cq ?_)));rw[au,hx,aL];refine .bind (.app cq (.bind (.suf aa aa (.bind (.app cq (.some ⟨aq aa,?_,?_⟩))))))
   .grind [Cy,Jk]
   .show([]++acc.take (n:Int).toNat++[x]++acc.drop (n:Int).toNat).Pairwise rN;rw[OS,Fu];have hp:=hj.2;rw[<-Pr n acc,List.pairwise_append] at hp;obtain⟨c,d,e⟩:=hp;have low:∀a∈acc.take n,rN a x:=by grind [rN,GL,List.pairwise_iff_getElem,KG]
    grind [GL,F9]
 .unfold oZ;dsimp only;rw[eF,Be];refine .some (.some ?_);grind
theorem Cz(w:GR g):T (xt g) λr=>r.Perm g.IDs/\r.Pairwise rN:= .bind (by grind [T.mono,kg,GR.nI,GR.nL,T.some])
def uX(g:Ba)(ids:Bb)(k:Nat):Prop:=∃x∈ids,∃n,bu x g.IDs=some n/\Re g n k=true
theorem EB(w:GR g)(hl:ids.length<=1000):T (r9 g ids) λr=>r.Nodup/\(∀x,x∈r↔∃k,g.IDs[k]?=some x/\uX g ids k)/\r.Pairwise rN/\r.length<=g.L.length:=by
 have nL:=w.nL;have nI:=w.nI;unfold r9;refine .bind (T.forA g.L.length (λk acc=>acc.length<=k/\acc.Nodup/\∀x,x∈acc↔∃j,j<k/\g.IDs[j]?=some x/\uX g ids j) aa ⟨aC,aC,λx=>aC⟩ (λk acc hk hj=>?_) λacc hj=>?_)
 .obtain⟨y,hy⟩:∃y,g.IDs[k]?=some y:=⟨_,EA aa⟩;unfold t8;dsimp only;rw[eA hk,ax];refine .bind (T.mono (Q:=λb:Bool=>b=true↔uX g ids k) (T.forA ids.length (λm b=>b=true↔∃(j:Nat) (x:Ab) (n:Nat),j<m/\ids[j]?=some x/\bu x g.IDs=some n/\Re g n k=true) aa aC (λm b hm hjm=>?_) λb hjm=>?_) λb hb=>?_)
  .obtain⟨x,hx⟩:∃x,ids[m]?=some x:=⟨_,EA hm⟩;unfold t7;dsimp only;rw[eA hm,ax,au,hx,aL,dC aa,aL];refine .bind (T.mono (Q:=λc:Bool=>c=true↔(b=true\/∃n,bu x g.IDs=some n/\Re g n k=true)) ?_ λc hc=> .some ⟨aq aa,?_⟩)
   .refine .ite (λhb=> .some (by simp[hb])) λhb=>?_;unfold gO;cases hkx:bu x g.IDs with
    |none=>grind [T.some]
    |some n=>
     have hn:n<g.L.length:=by have:=(cr (gb hkx).1).1;omega
     grind [GR,Ft,au,T.some,wO]
   grind
  .unfold t7;dsimp only;rw[eF,Be];refine .some ?_;show b=true↔_;rw[hjm];constructor
   .rintro⟨j,x,n,_,h2,h3,h4⟩;exact⟨x,bO h2,n,h3,h4⟩
   .rintro⟨x,hx,n,h3,h4⟩;grind [GL]
  .refine .ite (λhbt=>?_) λhbf=> .some ⟨aq aa,by show acc.length<=k+1;have:=hj.1;omega,hj.2.1,λx=>?_⟩
   .have hin:=hb.1 hbt;rw[au,hy,aL];have hny:y∉acc:=λhm=>by obtain⟨j,h1,h2,_⟩:=(hj.2.2 y).1 hm;have:=(List.getElem?_inj (show j<g.IDs.length by omega) w.nd).1 (h2.trans hy.symm);omega
    refine .bind (.app (by grind) (.some ⟨aq aa,by simp;exact hj.1,?_,λx=>?_⟩));all_goals grind
   .show x∈acc↔_;rw[hj.2.2 x];constructor
    .rintro⟨j,h1,h2⟩;exact⟨j,aa,h2⟩
    .rintro⟨j,h1,h2,h3⟩;rcases Je j k with hlt|hge
     .exact⟨j,hlt,h2,h3⟩
     .obtain rfl:j=k:=aa;rw[hb.2 h3] at hbf;cases hbf
 .unfold t8;dsimp only;rw[eF,Be];refine .some (.bind ((kg (by grind)).mono λr hr=> .some ⟨hr.1.nodup_iff.2 hj.2.1,λx=>?_,hr.2,by rw[hr.1.length_eq];exact hj.1⟩));rw[hr.1.mem_iff,hj.2.2 x];constructor
  .rintro⟨j,_,h2⟩;exact⟨j,h2⟩
  .rintro⟨j,h2,h3⟩;exact⟨j,by have:=(cr h2).1;omega,h2,h3⟩
structure E1 (g:Ba) (r:Bb):Prop where
 sub:∀x∈r,x∈g.IDs
 len:r.length<=1000
theorem Sc(z:Int):c8 (wI z):=by grind [c8,wI,IntKind.wrap_i64]
theorem nD(h:gU o=true):(1<=o.By/\o.By<=12)/\(1<=o.Seq/\o.Seq<=2147483647)/\0<=o.At/\o.At<=2147483647:=by have e:=jF o;rw[h] at e;unfold FI at e;simp only[gT,aL] at e;grind
theorem l8(h:gU o=true)(hk:o.Kind=9):1<=o.Need/\o.Need<=(o.Guards.length:Int):=by obtain⟨h1,h2,h3⟩:=nD h;have e:=jF o;rw[h] at e;unfold FI at e;simp only[gT,aL,hk,C5 h1,C5 h2,C5 h3] at e;grind [ah]
theorem GR.name{g:Ba}(w:GR g){x:Ab}(h:x∈g.IDs):∃i o,g.IDs[i]?=some x/\g.L[i]?=some o/\bu x g.IDs=some i/\i<g.L.length/\JS x/\x.By=o.By/\x.Seq=o.Seq/\Bg o/\FF o:=by have nI:=w.nI;obtain⟨i,hi⟩:=GL h;have hlt:=(cr hi).1;obtain⟨o,ho,so,a⟩:=w.op (i:=i) aa;obtain⟨y,e,h1,h2,_,h4⟩:=wN so;grind [ids,y0,List.getElem?_inj,nd]
theorem GR.place{g:Ba}(w:GR g){x:Ab}(h:0<=gO g x):∃i o,gO g x=(i:Nat)/\g.IDs[i]?=some x/\g.L[i]?=some o/\x∈g.IDs/\Bg o/\FF o:=by
 have nI:=w.nI;unfold gO at h⊢;cases hk:bu x g.IDs with
 |none=>rw[hk] at h;simp at h
 |some i=>have hi:=(gb hk).1;grind [op]
theorem lj:0<=gO g x↔x∈g.IDs:=by grind [gO,jv]
theorem EC{α:Type}[DecidableEq α]:∀{l m:List α},l.Nodup->(∀x∈l,x∈m)->l.length<=m.length
 |[],_,_,_=>aC
 |x::r,m,h,hs=>by have hx:=hs x aC;have h2:=MH.1 h;have:=EC (l:=r) (m:=m.erase x) h2.2 (by grind);grind
theorem yf(w:GR g){ids:Bb}(hl:ids.length<=1000):T (M0 g ids) λr=>E1 g r/\r.Nodup/\(∀x,x∈r↔(∃k,g.IDs[k]?=some x/\uX g ids k)\/x∈ids/\x∈g.IDs)/\r.Pairwise rN:=by
 have nL:=w.nL;have nI:=w.nI;unfold M0;refine .bind ((EB w aa).mono λv1 h1=>?_);obtain⟨b,a,c,d⟩:=h1;refine .bind (T.forA ids.length (λk acc=>acc.length<=v1.length+k/\acc.Nodup/\∀x,x∈acc↔x∈v1\/∃j,j<k/\ids[j]?=some x/\x∈g.IDs) aa (by grind) (λk acc hk hj=>?_) λacc hj=>?_)
 .obtain⟨y,hy⟩:∃y,ids[k]?=some y:=⟨_,EA hk⟩;unfold t9;dsimp only;rw[eA hk,ax,au,hy];simp only[aL];rw[dC aa,aL,kf aa];simp only[aL];rw[cL,aL];refine .ite (λhb=>?_) λhb=> .some ⟨aq aa,by grind,hj.2.1,λx=>?_⟩
  .by_cases hp:0<=gO g y
   .rw[C5 hp,ax] at hb;have hny:y∉acc:=by grind [nA]
    refine .bind (.app cq (.some ⟨aq aa,by grind,?_,λx=>?_⟩))
    .grind
    grind [lj]
   grind
  grind [lj,nA]
 .unfold t9;dsimp only;rw[eF,Be];refine .some (.bind ((kg aa).mono λr hr=>?_));have key:∀x,x∈r↔(∃k,g.IDs[k]?=some x/\uX g ids k)\/x∈ids/\x∈g.IDs:=λx=>by rw[hr.1.mem_iff,hj.2.2 x,a x];grind [GL]
  have hsub:∀x∈r,x∈g.IDs:=by grind
  have hnd:r.Nodup:=hr.1.nodup_iff.2 hj.2.1;exact .some ⟨⟨hsub,by have:=EC hnd hsub;omega⟩,hnd,key,hr.2⟩
theorem KH(w:GR g)(hl:ids.length<=1000):T (qL g ids) λr=>E1 g r/\r.Nodup/\(∀x,x∈r↔x∈ids/\x∈g.IDs/\¬∃k,g.IDs[k]?=some x/\uX g ids k)/\r.Pairwise rN:=by
 have nL:=w.nL;have nI:=w.nI;unfold qL;refine .bind ((EB w aa).mono λv1 h1=>?_);obtain⟨c,a,d,f⟩:=h1;refine .bind (T.forA ids.length (λk acc=>acc.length<=k/\acc.Nodup/\∀x,x∈acc↔∃j,j<k/\ids[j]?=some x/\x∈g.IDs/\x∉v1) aa ⟨aC,aC,λx=>aC⟩ (λk acc hk hj=>?_) λacc hj=>?_)
 .obtain⟨y,hy⟩:∃y,ids[k]?=some y:=⟨_,EA hk⟩;unfold qK;dsimp only;rw[eA hk,ax,au,hy];simp only[aL];rw[dC aa,aL,kf aa,kf aa];simp only[aL];rw[cL,cL,aL];have m1:nA v1 y=true↔y∈v1:=by
   constructor
   .intro h;obtain⟨z,hz,e⟩:=List.any_eq_true.1 h;rw[DS e] at hz;exact hz
   .intro h;exact List.any_eq_true.2 ⟨y,h,aC⟩
  have m2:nA acc y=true↔y∈acc:=by
   constructor
   .intro h;obtain⟨z,hz,e⟩:=List.any_eq_true.1 h;rw[DS e] at hz;exact hz
   .intro h;exact List.any_eq_true.2 ⟨y,h,aC⟩
  have hc:∀b:Bool,(bif 0<=gO g y then bif !nA v1 y then !nA acc y else false else false)=b->(b=true↔y∈g.IDs/\y∉v1/\y∉acc):=λb hb=>by rw[<-hb,<-lj,<-m1,<-m2];by_cases q1:0<=gO g y<;>cases nA v1 y<;>cases nA acc y<;>simp[q1]
  refine .ite (λhb=>?_) λhb=> .some ⟨aq aa,by show acc.length<=k+1;omega,hj.2.1,λx=>?_⟩
  .obtain⟨q1,i,l⟩:=(hc true hb).1 rfl;refine .bind (.app cq (.some ⟨aq aa,by grind,?_,λx=>?_⟩));all_goals grind
  .have q:=hc false hb;show x∈acc↔_;rw[hj.2.2 x];constructor
   .rintro⟨j,h1,h2⟩;exact⟨j,aa,h2⟩
   .rintro⟨j,h1,h2,h3,h4⟩;rcases Je j k with hlt|hge
    .exact⟨j,hlt,h2,h3,h4⟩
    .obtain rfl:j=k:=aa;rw[hy] at h2;cases h2;by_cases hm:y∈acc
     .exact(hj.2.2 y).1 hm
     .have:=q.2 ⟨h3,h4,hm⟩;cases this
 .unfold qK;dsimp only;rw[eF,Be];refine .some (.bind ((kg aa).mono λr hr=>?_));have key:∀x,x∈r↔x∈ids/\x∈g.IDs/\¬∃k,g.IDs[k]?=some x/\uX g ids k:=λx=>by rw[hr.1.mem_iff,hj.2.2 x,<-a x];grind [GL]
  grind [T.some,E1,List.Perm.length_eq]
theorem QH(w:GR g)(h:E1 g ids)(d:Int):T (Fc g ids d) λn=>1<=n/\n<=2147483648:=by
 have hl:=h.len;unfold Fc;refine .bind (T.forA ids.length (λ_ n=>0<=n/\n<=2147483647) aa ⟨Cd,Cd⟩ (λk n hk hj=>?_) λn hj=>?_)
 .obtain⟨y,hy⟩:∃y,ids[k]?=some y:=⟨_,EA hk⟩;obtain⟨i,o,_,_,_,_,_,_,e,_,a⟩:=w.name (h.sub y (bO hy));have:=(nD a.numbers).2.1;unfold xu;dsimp only;rw[eA hk,ax,au,hy];simp only[aL];refine .dec (λ_=> .some ⟨aq aa,?_⟩) λ_=> .some ⟨aq aa,hj⟩;grind [Ft]
 .unfold xu;dsimp only;rw[eF,Be];refine .some (.some ?_);grind [bM]
theorem N0(w:GR g)(hl:ids.length<=1000):T (z8 g ids) λn=>0<=n/\n<=2147483647:=by
 have nL:=w.nL;have nI:=w.nI;unfold z8;refine .bind (T.forA ids.length (λ_ n=>0<=n/\n<=2147483647) aa ⟨Cd,Cd⟩ (λk n hk hj=>?_) λn hj=>?_)
 .obtain⟨y,hy⟩:∃y,ids[k]?=some y:=⟨_,EA hk⟩;unfold ue;dsimp only;rw[eA hk,ax,au,hy,aL,dC aa,aL];refine .dec (λhp=>?_) λ_=> .some ⟨aq aa,hj⟩;obtain⟨i,o,e,_,ho,_,_,a⟩:=w.place hp;have:=(nD a.numbers).2.2;rw[e,au,ho,aL];refine .some ⟨aq aa,?_⟩;grind [Ft]
 .unfold ue;dsimp only;rw[eF,Be];exact .some (.some hj)
theorem eX{m:Int}(h:c8 n)(hm:0<m):T (iq n m) λv=>0<=v/\v<m:=by obtain⟨h1,h2⟩:=h;grind [iq,T.rem,bM,Int.tmod_nonneg,Int.tmod_lt_of_pos]
def zId:Ab:=⟨0,0,0⟩
def Ys:Bq:=⟨0,0,0,0,[],0,0,0,0,[],⟨0,0,0⟩,0,[],[],⟨0,0,0⟩,[],0,0,[],0,[],⟨0,0⟩⟩
theorem dP:c8 0:=by unfold c8;omega
theorem pM:JS ⟨0,0,0⟩:=⟨dP,dP,by show(0:Nat)<_;omega⟩
theorem Wd:Bg Ys:=by constructor<;>first|exact pM|(unfold Ys;simp;done)|(intro z hz;simp[Ys] at hz;subst hz;exact dP)|(show fS 0;unfold fS;omega)
theorem zb(w:GR g)(h:E1 g ids)(kd:Int):T (nS g ids kd) λr=>(r.1=zId/\r.2=Ys)\/(r.1∈ids/\Bg r.2/\FF r.2/\r.2.Kind=kd):=by
 have nL:=w.nL;have nI:=w.nI;have hl:=h.len;have e0:wI (ah g.L-1)=(g.L.length:Int)-1:=by grind [bM,ah]
 unfold nS;rw[e0];refine .bind (T.loop (λs=>s.1=zId/\s.2.1=Ys∧-1<=s.2.2/\s.2.2<g.L.length) (λs=>(s.2.2+1).toNat) ⟨rfl,rfl,by simp only;omega,by simp only;omega⟩ (by simp only;omega) ?_);rintro⟨a,b,i⟩ ⟨rfl,rfl,c,i1⟩;simp only at c i1;unfold vC;dsimp only;refine .dec (λhi=>?_) λhi=> .some (.some (.inl ⟨rfl,rfl⟩));obtain⟨n,rfl⟩:∃n:Nat,i=(n:Int):=⟨i.toNat,aa⟩;obtain⟨o,ho,so,d⟩:=w.op (i:=n) aa;obtain⟨x,hx⟩:∃x,g.IDs[n]?=some x:=⟨_,EA aa⟩;have ew:wI ((n:Int)-1)=(n:Int)-1:=bM aa aa;rw[au,ho,aL,au,hx];simp only[aL];rw[kf aa];simp only[aL];rw[cL,aL];refine .ite (λhb=> .some (.some (.inr ?_))) λhb=> .some ⟨⟨rfl,rfl,?_,?_⟩,?_⟩
 .by_cases hk:o.Kind=kd
  .rw[C5 hk,ax] at hb;obtain⟨z,hz,e⟩:=List.any_eq_true.1 hb;grind
  grind
 all_goals grind
theorem yg{n:Int}(h1:n<=1000):T (o4 n) λr=>r.length<=1000/\(r.length:Int)=(if n<0 then 0 else n)/\∀x∈r,Fp x:=by
 unfold o4;refine .bind (T.forA n.toNat (λk acc=>acc.length=k/\∀x∈acc,Fp x) aa ⟨rfl,aC⟩ (λk acc hk hj=>?_) λacc hj=>?_)
 .unfold uc;dsimp only;rw[C5 (show(k:Int)<n by omega),ax];refine .bind (.app cq (.some ⟨aq aa,by simp;exact hj.1,λx hx=>?_⟩));grind [Fp,fS,Mp]
 .unfold uc;dsimp only;rw[Dk (by grind),Be];refine .some (.some ⟨aa,?_,hj.2⟩);split<;>omega
theorem zc(w:GR g)(d:Int):T (nT g d) λm=>c8 m:=by grind [GR.nC,nT,Cw,T.some,dP,mZ,GR.cards]
theorem ED(w:GR g)(d:Int)(h:0<=n/\n<=1000000):T (Su g d n) λr=>E1 g r:=by
 have nL:=w.nL;have nI:=w.nI;unfold Su;refine .bind ((Cz w).mono λv1 hv1=>?_);have i1:E1 g v1:=by grind [E1,List.Perm.length_eq]
 refine .bind (T.mono (Q:=λx:Int=> -1<=x/\x<g.L.length) (T.forA g.L.length (λ_ x=> -1<=x/\x<g.L.length) aa ⟨Cd,aa⟩ (λk x hk hj=>?_) λx hj=>?_) λa h4=>?_)
 .obtain⟨o,ho,_⟩:=w.op hk;unfold ub;dsimp only;rw[eA hk,ax,au,ho,aL];exact .dec (λ_=> .some (by constructor<;>grind [aq])) λ_=> .some ⟨aq aa,hj⟩
 .unfold ub;dsimp only;rw[eF,Be];exact .some hj
 .rw[cL,aL];refine .ite (λhb=>?_) λhb=>?_
  .have hx:0<a:=by grind
   obtain⟨k,rfl⟩:∃k:Nat,a=(k:Int):=⟨a.toNat,aa⟩;obtain⟨o,ho,so,b⟩:=w.op (i:=k) aa;rw[au,ho,aL];exact .bind (by grind [T.mono,yf,pK,FF.long,T.some])
  .rw[cL,aL];refine .ite (λ_=> .some i1) λhb2=>?_;have hx:0<=a:=by grind
   obtain⟨k,rfl⟩:∃k:Nat,a=(k:Int):=⟨a.toNat,aa⟩;obtain⟨y,hy⟩:∃y,g.IDs[k]?=some y:=⟨_,EA aa⟩;rw[au,hy,aL];have e3:wI (n.tdiv 3)=n.tdiv 3:=by grind [bM]
   rw[e3];refine .bind (.rem (by unfold ah;omega) ?_);have q0:0<=(n.tdiv 3).tmod (ah g.IDs):=Int.tmod_nonneg _ (Int.tdiv_nonneg h.1 Cd);have q1:(n.tdiv 3).tmod (ah g.IDs)<ah g.IDs:=Int.tmod_lt_of_pos _ (by unfold ah;omega);refine .bind (.ixl q0 (by unfold ah at q1;exact q1) λz _ _=>?_);exact .bind (by grind [T.mono,yf,T.some])
def il{α:Type}(p:α->Prop)(l:List α):Prop:=l.length<=1000/\∀x∈l,p x
theorem ay{p:α->Prop}:il p []:=⟨aC,aC⟩
theorem He(h1:c8 o.By)(h2:c8 o.Seq)(h3:c8 o.Kind)(h4:c8 o.At)(h5:il JS o.Past)(h6:c8 o.Device)(h7:c8 o.Old)(h8:c8 o.Member)(h9:c8 o.Role)(h10:il I4 o.Path)(h11:JS o.Epoch)(h12:c8 o.N)(h13:o.Body.length<=1000)(h14:il fS o.Refs)(d:JS o.Of)(a:il c8 o.Guards)(f:c8 o.Need)(g:c8 o.Wait)(b:il Fp o.Boxes)(e:fS o.Pub)(c:il Hl o.Hist):Bg o:=by refine⟨λz hz=>?_,h5.1,h5.2,h10.1,h10.2,h11,h13,h14.1,h14.2,d,a.1,a.2,b.1,b.2,e,c.1,c.2⟩;simp only[EY,LD,or_false] at hz;rcases hz with rfl|rfl|rfl|rfl|rfl|rfl|rfl|rfl|rfl|rfl|rfl<;>assumption
theorem Bg.iBy{o:Bq}(h:Bg o):c8 o.By:=h.ints _ aC
theorem Bg.iSeq{o:Bq}(h:Bg o):c8 o.Seq:=h.ints _ aC
theorem Bg.iKind{o:Bq}(h:Bg o):c8 o.Kind:=h.ints _ aC
theorem Bg.iAt{o:Bq}(h:Bg o):c8 o.At:=h.ints _ aC
theorem Bg.iDevice{o:Bq}(h:Bg o):c8 o.Device:=h.ints _ aC
theorem Bg.iOld{o:Bq}(h:Bg o):c8 o.Old:=h.ints _ aC
theorem Bg.iMember{o:Bq}(h:Bg o):c8 o.Member:=h.ints _ aC
theorem Bg.iRole{o:Bq}(h:Bg o):c8 o.Role:=h.ints _ aC
theorem Bg.iN{o:Bq}(h:Bg o):c8 o.N:=h.ints _ aC
theorem Bg.iNeed{o:Bq}(h:Bg o):c8 o.Need:=h.ints _ aC
theorem Bg.iWait{o:Bq}(h:Bg o):c8 o.Wait:=h.ints _ aC
theorem Bg.sPast{o:Bq}(h:Bg o):il JS o.Past:=⟨h.nPast,h.past⟩
theorem Bg.sRefs{o:Bq}(h:Bg o):il fS o.Refs:=⟨h.nRefs,h.refs⟩
theorem Bg.sGuards{o:Bq}(h:Bg o):il c8 o.Guards:=⟨h.nGuards,h.guards⟩
theorem Bg.sBoxes{o:Bq}(h:Bg o):il Fp o.Boxes:=⟨h.nBoxes,h.boxes⟩
theorem Bg.sHist{o:Bq}(h:Bg o):il Hl o.Hist:=⟨h.nHist,h.hist⟩
theorem Bg.nopath{o:Bq}(h:Bg o):Bg {o with Path:=[]}:=by grind [He,iBy,iSeq,iKind,iAt,sPast,iDevice,iOld,iMember,iRole,ay,epoch,iN,nBody,sRefs,of_,sGuards,iNeed,iWait,sBoxes,pub,sHist]
theorem m7(h: -1000000<=n/\n<=1000000):c8 n:=by unfold c8;omega
theorem E1.smid{g:Ba}(w:GR g){ids:Bb}(h:E1 g ids){x:Ab}(hx:x∈ids):JS x:=by grind [E1,GR.name]
theorem Ir(w:GR g)(h:E1 g ids)(so:Bg o)(hn:0<=n/\n<=1000000):T (sc g ids o n) λr=>Bg r:=by
 unfold sc;refine .bind ((zb w h 9).mono λv1 hv=>?_);have s1:JS v1.1:=by
  rcases hv with⟨e,_⟩|⟨e,_⟩
  .rw[e];exact pM
  .exact h.smid w e
 have s2:Bg v1.2:=by grind [Wd]
 rw[cL,aL,cL,aL];have e16:wI (n.tdiv 16)=n.tdiv 16:=by grind [bM]
 have e32:wI (n.tdiv 32)=n.tdiv 32:=by grind [bM]
 refine .dec (λh9=>?_) λh9=>?_
 ·
  refine .bind (T.mono (Q:=λx:Bp=>x.length<=4/\∀z∈x,c8 z) (T.loop (λs=>1<=s.2/\s.2<=5/\(s.1.length:Int)<=s.2-1/\∀z∈s.1,c8 z) (λs=>(5-s.2).toNat) (by grind) Cd ?_) λm hx=>?_)
  .rintro⟨acc,i⟩ ⟨i1,p,q,f⟩
   simp only at i1 p q f
   have ei:wI (i+1)=i+1:=bM aa aa
   unfold vF
   dsimp only
   refine .dec (λh4=>?_) λh4=> .some ⟨aa,f⟩
   refine .bind (.quo aa (.dec (λ_=>?_) λ_=> .some ⟨⟨?_,?_,?_,f⟩,?_⟩))
   .refine .bind (.app cq (.some ⟨⟨?_,?_,?_,λz hz=>?_⟩,?_⟩))
    .show 1<=wI (i+1);omega
    all_goals grind [m7]
   all_goals grind
  .rw[cL,aL]
   have hj:∃j:Bp,(bif ah m=0 then([1,2]:Bp)else m)=j/\1<=j.length/\j.length<=4/\∀z∈j,c8 z:=by grind [ah,m7]
   obtain⟨j,ej,D,E,t⟩:=hj
   rw[ej,e16]
   have hm:0<iI 2 (ah j)/\iI 2 (ah j)<=2:=by unfold iI ah;split<;>omega
   refine .bind (.rem aa (.bind ((yg (n:=ah j) (by unfold ah;omega)).mono λbx c=> .some ?_)))
   exact He so.iBy so.iSeq (by grind [m7]) so.iAt so.sPast so.iDevice so.iOld so.iMember so.iRole ay so.epoch so.iN so.nBody so.sRefs so.of_ ⟨by show j.length<=1000;omega,t⟩ (Sc _) (by grind [c8]) ⟨c.1,c.2.2⟩ (by show(5:Nat)<_;omega) so.sHist
 ·
  generalize hj5:(bif bif o.Kind≠9 then decide (v1.1=(⟨0,0,0⟩:Ab))else false then(9:Int)else o.Kind)=u at h9⊢
  have hk5:u=o.Kind/\v1.1≠⟨0,0,0⟩:=by grind
  obtain⟨rfl,k⟩:=hk5
  have hv2:FF v1.2/\v1.2.Kind=9:=by
   rcases hv with⟨e,_⟩|⟨_,_,e,e'⟩
   .exact absurd e k
   .exact⟨e,e'⟩
  have hg:=l8 hv2.1.numbers hv2.2
  have hgl:0<ah v1.2.Guards/\ah v1.2.Guards<=1000:=by grind [Bg.nGuards,ah]
  refine .bind ((zc w _).mono λl v=>?_)
  refine .bind (T.mono (Q:=λx:Int×List Ha=>c8 x.1/\il Fp x.2) (.ite (λ_=> .bind ((yg hgl.2).mono λb hb=> .some ⟨s1.a,hb.1,hb.2.2⟩)) λ_=> .some ⟨so.iBy,so.sBoxes⟩) λy d=>?_)
  rw[cL,aL]
  refine .bind (T.mono (Q:=λx:Int×Int=>c8 x.1/\c8 x.2) (.ite (λ_=> .bind (.rem aa (.bind (.ixl (Int.tmod_nonneg _ hn.1) (Int.tmod_lt_of_pos _ hgl.1) (by grind [T.some,Bg.guards,Sc]))))) λ_=> .some ⟨d.1,so.iDevice⟩) λA h36=>?_)
  refine .bind (T.mono (Q:=λx:List Ha=>il Fp x) (.ite (λ_=> .bind ((yg Cd).mono λb hb=> .some ⟨hb.1,hb.2.2⟩)) λ_=> .some d.2) λB C=>?_)
  rw[cL,aL]
  have h40:c8 (bif o.Kind=13 then l else o.Old):=by grind [Bg.iOld]
  grind [T.some,He,Bg.iSeq,Bg.iKind,Bg.iAt,Bg.sPast,Bg.iMember,Bg.iRole,ay,Bg.epoch,Bg.iN,Bg.nBody,Bg.sRefs,Bg.iNeed,Bg.iWait,Bg.pub,Bg.sHist]
theorem EE(h:0<=n):T (z7 n) λk=>c8 k:=by unfold z7;refine .bind (.ixl (Int.tmod_nonneg _ h) (by have:=Int.tmod_lt_of_pos n (show(0:Int)<20 by decide);simp;omega) λx _ hx=> .some ?_);have:x∈([6,4,3,2,5,7,8,3,6,9,11,11,13,12,10,4,3,2,6,13]:Bp):=hx;have key:∀y∈([6,4,3,2,5,7,8,3,6,9,11,11,13,12,10,4,3,2,6,13]:Bp),-1000000<=y/\y<=1000000:=Cd;exact m7 (key x this)
theorem Mt:c8 1:=m7 aa
theorem Yt:c8 2:=m7 aa
theorem QJ:fS 0:=by unfold fS;omega
def Nx(g:Ba)(x:Bq×Bb):Prop:=Bg x.1/\E1 g x.2
theorem Nx.np{g:Ba}{x:Bq×Bb}(h:Nx g x):Nx g ({x.1 with Path:=[]},x.2):=⟨h.1.nopath,h.2⟩
theorem N2(w:GR g){m:Int}(hn:c8 n)(hm:c8 m):T (sd g n m) λr=>Bg r:=by
 have nL:=w.nL;have nI:=w.nI;unfold sd;refine .bind ((eX hn Cd).mono λv1 h1=> .bind ((eX hm Cd).mono λf h3=> .bind ((EE h3.1).mono λB h5=>?_)));have hq:∀q:Int,0<q->wI (v1.tdiv q)=v1.tdiv q/\0<=v1.tdiv q/\v1.tdiv q<=1000000:=λq hq=>by have a:=Int.tdiv_nonneg h1.1 (show(0:Int)<=q by omega);have b:=Int.tdiv_le_self q h1.1;grind [bM]
 have hk:wI (f.tdiv 20)=f.tdiv 20/\0<=f.tdiv 20/\f.tdiv 20<=1000000:=by grind [bM]
 rw[hk.1];generalize hkk:f.tdiv 20=k at hk⊢;obtain⟨_,A,k1⟩:=hk;have tm:∀(z q:Int),0<q->q<=1000000→-1000000<=z.tmod q/\z.tmod q<=1000000:=λz q h h'=>by have h3:=Int.tmod_lt_of_pos z h;have h4: -q<z.tmod q:=Int.lt_tmod_of_pos z h;omega
 refine .dec (λh0=> .some ?_) λh0=>?_
 .grind [He,ay,pM,m7,QJ]
 have hL:0<g.L.length:=by unfold ah at h0;omega
 rw[cL,aL];generalize hj8:(bif ah g.L<4 then(⟨1,0,2,0,[],wI ((ah g.L)+1),0,0,wI (3-(wI (Int.tdiv (Int.tmod v1 5) 4))),[],⟨0,0,0⟩,0,[],[],⟨0,0,0⟩,[],0,0,[],0,[],⟨0,0⟩⟩:Bq) else⟨wI (1+(Int.tmod v1 5)),0,B,0,[],0,0,0,0,[],⟨0,0,0⟩,0,[],[],⟨0,0,0⟩,[],0,0,[],0,[],⟨0,0⟩⟩)=l;have s8:Bg l:=by grind [He,Mt,dP,Yt,ay,Sc,pM,QJ]
 clear hj8;obtain⟨C,o,p⟩:=hq 5 Cd;rw[C];refine .bind ((ED w l.By ⟨o,p⟩).mono λD h10=>?_);refine .bind (T.mono (Q:=λx=>E1 g x) (.ite (λ_=> .bind ((Cz w).mono (by grind [T.some,E1,List.Perm.length_eq]))) λ_=> .some h10) λj12 h12=>?_);refine .bind ((zb w h12 6).mono λt h14=>?_);have s14:JS t.1:=by
  rcases h14 with⟨e,_⟩|⟨e,_⟩
  .rw[e];exact pM
  .exact h12.smid w e
 refine .bind (T.mono (Q:=λx:Int×Int×Nat=>JS ⟨x.1,x.2.1,x.2.2⟩) (.ite (λ_=> .bind (.ixl Cd (by rw[nI];omega) λy _ hy=> .some ?_)) λ_=> .some s14) λE F=>?_)
 .obtain⟨_,_,_,_,_,_,s,_⟩:=w.name hy;exact s
 refine .bind (T.mono (Q:=λx:Bq×Bb=>Nx g x) ?_ λH u=>?_)
 .refine .ite (λ_=>?_) λ_=>?_
  .refine .bind (T.mono (Q:=λx:Int×Int=>c8 x.1/\c8 x.2) (by grind [T.some,Sc,Bg.iDevice,Bg.iRole]) λx hx=> .some ⟨?_,h12⟩);grind [He,Bg.iBy,Bg.iSeq,Bg.iKind,Bg.iAt,ay,Bg.iOld,Bg.iMember,Bg.epoch,Bg.iN,Bg.of_,Bg.iNeed,Bg.iWait,Bg.pub]
  refine .bind (T.mono (Q:=λx:Bq×Bb=>Nx g x) ?_ λx hx=> .some hx.np);refine .ite (λ_=>?_) λ_=>?_
  .refine .bind (T.mono (Q:=λx:Int×Int=>c8 x.1/\c8 x.2) (by grind [T.some,dP,Sc,Bg.iMember]) λx hx=> .some ⟨?_,h12⟩);grind [He,Bg.iBy,Bg.iSeq,Bg.iKind,Bg.iAt,ay,Bg.iOld,Bg.iRole,Bg.epoch,Bg.iN,Bg.of_,Bg.iNeed,Bg.iWait,Bg.pub]
  refine .bind (T.mono (Q:=λx:Bq×Bb=>Nx g x) ?_ λx hx=> .some hx.np);refine .ite (λ_=> .some ⟨?_,h12⟩) λ_=>?_
  .grind [He,Bg.iBy,Bg.iSeq,Bg.iKind,Bg.iAt,ay,Bg.iDevice,Bg.iOld,Sc,Bg.epoch,Bg.iN,Bg.of_,Bg.iNeed,Bg.iWait,Bg.pub]
  refine .bind (T.mono (Q:=λx:Bq×Bb=>Nx g x) ?_ λx hx=> .some hx.np);refine .ite (λ_=>?_) λ_=>?_
  .have hm4:0<iI (ah g.IDs) 4/\iI (ah g.IDs) 4<=ah g.IDs:=by unfold iI ah;split<;>omega
   refine .bind (.rem aa (.bind (.ixl (Int.tmod_nonneg _ A) (by have:=Int.tmod_lt_of_pos k hm4.1;grind [ah]) λy _ hy=>?_)));obtain⟨_,_,_,_,_,_,sy,_⟩:=w.name hy;refine .bind (T.mono (Q:=λx:Br=>il fS x) (.ite (λ_=> .some ⟨aC,λz hz=>by simp at hz;rcases hz with rfl|rfl<;>exact Mp _⟩) λ_=> .some ay) λx hx=> .some ⟨?_,h12⟩);exact He s8.iBy s8.iSeq s8.iKind s8.iAt ay s8.iDevice s8.iOld s8.iMember s8.iRole ay sy (by grind [m7]) aC hx s8.of_ ay s8.iNeed s8.iWait ay s8.pub ay
  refine .bind (T.mono (Q:=λx:Bq×Bb=>Nx g x) ?_ λx hx=> .some hx.np);refine .ite (λ_=> .some ⟨?_,h12⟩) λ_=>?_
  .grind [He,Bg.iBy,Bg.iSeq,Bg.iKind,Bg.iAt,ay,Bg.iDevice,Bg.iOld,Bg.iMember,Bg.iRole,Bg.epoch,Bg.iN,Bg.iNeed,Bg.iWait,Bg.pub]
  refine .bind (T.mono (Q:=λx:Bq×Bb=>Nx g x) ?_ λx hx=> .some hx.np);refine .ite (λ_=> .some ⟨?_,h12⟩) λ_=>?_
  .grind [He,Bg.iBy,Bg.iSeq,Bg.iKind,Bg.iAt,ay,Bg.iDevice,Bg.iOld,Bg.iMember,Bg.iRole,Bg.epoch,Bg.iN,Bg.iNeed,Bg.iWait,Bg.pub]
  have s8':Bg {l with Past:=[],Path:=[],Body:=[],Refs:=[],Guards:=[],Boxes:=[],Hist:=[]}:=by grind [He,Bg.iBy,Bg.iSeq,Bg.iKind,Bg.iAt,ay,Bg.iDevice,Bg.iOld,Bg.iMember,Bg.iRole,Bg.epoch,Bg.iN,Bg.of_,Bg.iNeed,Bg.iWait,Bg.pub]
  refine .bindc ?_ λb _=>?_
  .grind [T.some]
  refine .bind (T.mono (Q:=λx:Bq×Bb=>Nx g x) (.ite (λ_=>?_) λ_=> .some ⟨s8',h12⟩) λx hx=> .some hx.np);refine .bind ((Ir w h12 s8' ⟨A,k1⟩).mono λI v=>?_);refine .bind (T.mono (Q:=λx=>E1 g x) (by grind [ED,T.some]) λx hx=> .some ⟨v.nopath,hx⟩)
 .obtain⟨c,i⟩:=u;have J:=i.len;refine .bindc ?_ λb _=>?_
  .grind [T.some,kf]
  refine .bind (T.mono (Q:=λx=>E1 g x) (.ite (λ_=> .bind ((Cz w).mono (by grind [T.some,E1,List.Perm.length_eq]))) λ_=> .some i) λK d=>?_);refine .bind ((KH w d.len).mono λM j=> .bind ((QH w d _).mono λN O=> .bind ((N0 w d.len).mono λP R=> .some ?_)));exact He c.iBy (by grind [c8]) c.iKind (Sc _) ⟨j.1.len,λx hx=>j.1.smid w hx⟩ c.iDevice c.iOld c.iMember c.iRole ay c.epoch c.iN c.nBody c.sRefs c.of_ c.sGuards c.iNeed c.iWait c.sBoxes c.pub c.sHist
theorem dk{l:List α}{k:Nat}(h:k<l.length):∃y,l[k]?=some y/\y∈l:=by simp_all
def EF(g:Ba)(l:Bp):Prop:=∀x∈l,0<=x/\x<(g.L.length:Int)
theorem EF.nat{g:Ba}{l:Bp}(h:EF g l){x:Int}(hx:x∈l):∃i:Nat,x=(i:Int)/\i<g.L.length:=by obtain⟨h1,h2⟩:=h x hx;exact⟨x.toNat,aa,aa⟩
theorem EF.snoc{g:Ba}{l:Bp}(h:EF g l){i:Nat}(hi:i<g.L.length):EF g (l++[(i:Int)]):=λx hx=>by
 rcases Jn.1 hx with h'|h'
 .exact h x h'
 grind
theorem EF.nil{g:Ba}:EF g []:=λx hx=>by cases hx
structure RkS (g:Ba) (n:Nat) (r:Dx):Prop where
 cards:r.Cards=g.Cards
 nV:r.V.length<=n
theorem RkS.up{g:Ba}{n m:Nat}{r:Dx}(h:RkS g n r)(hm:n<=m):RkS g m r:=by grind [RkS]
theorem GR.inrow{g:Ba}(w:GR g){i:Nat}(h:i<g.L.length):∃r,g.In[i]?=some r/\r.length=g.L.length:=by obtain⟨r,hr,_⟩:=dk (l:=g.In) (k:=i) (by rw[w.nN];exact h);grind [rows]
theorem GR.cell{g:Ba}(w:GR g){i k:Nat}(h:i<g.L.length)(hk:k<g.L.length):∃r b,g.In[i]?=some r/\r[k]?=some b:=by obtain⟨r,hr,hl⟩:=w.inrow h;simp_all
theorem Mv(g:Ba):RkS g 0 ⟨g.Cards,[],[],[],0,[]⟩:=by grind [RkS]
theorem Oc{n:Nat}(h:2<=n)(hn:n<=1000000):T (zZ (n:Int)) λv=>∃k:Nat,v=(k:Int)/\1<=k/\k<n:=by
 unfold zZ;refine .bind (T.mono (Q:=λv:Int=>∃k:Nat,v=(k:Int)/\1<=k/\k<n) (T.loop (λs=>∃k:Nat,s=(k:Int)/\1<=k/\k<n) (λs=>n-s.toNat) ⟨1,rfl,aa,aa⟩ cq ?_) λv hv=> .some hv);rintro s ⟨k,rfl,h1,h2⟩;unfold AE;have e:wI (2*(k:Int))=((2*k:Nat):Int):=by grind [bM]
 rw[e];refine .dec (λhp=> .some ⟨⟨2*k,rfl,aa,aa⟩,?_⟩) λ_=> .some ⟨k,rfl,h1,h2⟩;simp;omega
theorem u6:∀(nn:Nat) (l:Bp),l.length<nn->l.length<=1000000->T (KE nn l) λr=>r.length<=2*l.length-1/\∀y∈r,y.length<=l.length
 |0,_,h,_=>absurd h (Nat.not_lt_zero _)
 |nn+1,l,h,hl=>by
  unfold KE;refine .dec (λ_=> .some ⟨aC,aC⟩) λh0=> .dec (λh1=>?_) λh1=>?_
  .grind [ah,T.some]
  .unfold ah at h0 h1⊢;refine .bind ((Oc (n:=l.length) aa hl).mono λd hv=>?_);obtain⟨k,rfl,k1,k2⟩:=hv;refine .bind (.pre aa aa ?_);rw[Fu];refine .bind ((u6 nn (l.take k) cq cq).mono λe h7=> .bind (.app (by simp at h7⊢;omega) (.bind (.suf aa aa ?_))));rw[Fu];refine .bind ((u6 nn (l.drop k) cq cq).mono λc h13=> .bind (.app (by simp at h7 h13⊢;omega) (.some ?_)));simp only[MG,List.length_drop] at h7 h13;have e1:min k l.length=k:=aa;rw[e1] at h7;refine⟨?_,λy hy=>?_⟩
   .have a:=h7.1;have b:=h13.1;simp only[UI,List.length_singleton];omega
   .simp only[Jn,List.mem_singleton] at hy;rcases hy with(rfl|hy)|hy
    .exact Dl _
    .have:=h7.2 y hy;omega
    .have:=h13.2 y hy;omega
theorem Od{l:Bp}(hl:l.length<=100000)(d:Int):T (N4 l d) λr=>r.length<=200000:=by
 unfold N4 U2;refine .bind ((u6 _ l aa aa).mono λv1 h1=>?_);have e:wI (ah v1-1)=ah v1-1:=by grind [bM,ah]
 rw[e];refine .bind (T.mono (Q:=λr:LQ=>r.length<=200000) (T.loop (λs=> -1<=s.2/\s.2<(v1.length:Int)/\s.1.length+(s.2+1).toNat<=v1.length) (λs=>(s.2+1).toNat) (by grind [ah]) (by grind [ah]) ?_) λ_ h=> .some h);rintro⟨a,i⟩ ⟨i1,b,c⟩;simp only at i1 b c;unfold AF;refine .dec (λh0=>?_) λ_=> .some (by show a.length<=_;omega);replace h0:0<=i:=h0;refine .bind (.ixl h0 (by show i<_;omega) λy hy hm=>?_);have hw:wI (i-1)=i-1:=bM aa aa;rw[cX (by have:=h1.2 y hm;omega),aL];refine .ite (λ_=>?_) λ_=> .some ⟨⟨?_,?_,?_⟩,?_⟩
 .rw[show aS v1 (a,i).2=aS v1 i from rfl];refine .bind (.ixl h0 aa λz _ _=> .bind (.app (by show(a.length+1)*24<=_;omega) (.some ⟨⟨?_,?_,?_⟩,?_⟩)));all_goals grind
 all_goals grind
theorem zh(k:Int):T (E7 k) λ_=>True:=by grind [E7,T.some]
inductive Lu (g0:Ba):Ba->Prop
 |base:Lu g0 g0
 |step {g:Ba} {o:Bq} {id:Ab} {up:Bp} {row:List Bool}:Lu g0 g->GR g->Bg o->fS o.Sig.R->fS o.Sig.S->R0 g o up->pV o=some id->jA g up=some row->Lu g0 (pL g o id up row)
def u7:Mj:=(ql [1,2,3,1,2,3]).getD []
theorem Oe:ql [1,2,3,1,2,3]=some u7:=aH
def KK(c:DQ):Bool:=decide (1<=c.Device/\c.Device<=6/\1<=c.Member/\c.Member<=3/\c.Sign<18446744073709551616)
theorem Og:u7.all KK=true:=aH
theorem KL:u7.length=6:=aH
attribute [irreducible] u7
def g0:Ba:=⟨u7,[],[],[],[]⟩
theorem Yu:GR g0 where
 nL:=by simp[g0]
 nI:=rfl
 nU:=rfl
 nN:=rfl
 nC:=by show u7.length<=1000;rw[KL];decide
 cards:=λc hc=>by have h:KK c=true:=GK.1 Og c hc;grind [KK,c8,fS]
 up:=by grind [g0]
 rows:=by grind [g0]
 inlt:=by grind [Re,g0]
 ops:=by grind [g0]
 ids:=by grind [g0]
 nd:=by simp[g0]
 one:=by grind [g0]
 tr:=by grind [g0]
 la:=by grind [Re,g0]
def We(c:Int):Bq:=⟨1,1,1,0,[],0,0,0,0,[],⟨0,0,0⟩,0,[],[],⟨0,0,0⟩,[],c,0,[],0,[],⟨0,0⟩⟩
theorem Yv(ha:c8 a)(hb:c8 b):∃c∈([0,1,2,3]:Bp),sd g0 a b=some (We c):=by
 obtain⟨v1,e1,h1⟩:=eX ha (show(0:Int)<1000000 by decide);obtain⟨d,e3,h3⟩:=eX hb (show(0:Int)<1000000 by decide);obtain⟨e,e5,_⟩:=EE h3.1;refine⟨v1.tmod 4,?_,?_⟩
 .grind
 .unfold sd;rw[e1,aL,e3,aL,e5,aL];rfl
def Mw(c:Int)(b:Bool):Option (Ba×Int):=(jm g0 ({We c with Path:=[]})).bind λa=>(bif b then(some (wI ((ah a)+1)))else(some (ah a))).bind λd=>(E7 (We c).Kind).bind λe=>(AQ (lw (g0,0) d e) ([],0)).bind λf=>(nR ({We c with Path:=f})).bind λg=>AO g0 g
theorem QO:(([0,1,2,3]:Bp).all λc=>[true,false].all λb=>(Mw c b).map (λr=>(r.2,r.1.L.length))==some (0,1))=true:=aH
theorem Tm(hc:c∈([0,1,2,3]:Bp))(b:Bool):∃r,Mw c b=some r/\r.2=0/\r.1.L.length=1:=by have h:=GK.1 (GK.1 QO c hc) b (by cases b<;>simp);simp_all
theorem KM{l:Bp}(hi:∀x∈l,c8 x){most:Int}(h0:0<most){r:(Ba×Int)⊕Ba}(h:ly l most (g0,((0:Nat):Int))=some r):∃g,r= .inl (g,1)/\g.L.length=1:=by
 have at_:∀(n:Int),0<=n->∃v,c8 v/\(bif n<ah l then((aS l n).bind λk=>some k)else(some 0))=some v:=by grind [ah,aS,dP]
 have e2:wI (2*((0:Nat):Int))=0:=bM Cd Cd;have e3:wI ((0:Int)+1)=1:=bM Cd Cd;have e4:wI (((0:Nat):Int)+1)=1:=bM Cd Cd;obtain⟨a,ha,p⟩:=at_ 0 Cd;obtain⟨b,hb,eb⟩:=at_ 1 Cd;obtain⟨c,hc,s⟩:=Yv ha hb;obtain⟨d,m,_⟩:=eX hb (show(0:Int)<31 by decide);obtain⟨q,hq,q1,t⟩:=Tm hc (decide (d=30));unfold Mw at hq;unfold ly at h;simp only[e2,e3,e4] at h;rw[C5 (by grind),C5 (by grind),ax,ax,aL,ax,p,aL,eb,aL,s,aL] at h;cases hs:jm g0 ({We c with Path:=[]}) with
 |none=>rw[hs] at hq;cases hq
 |some e=>
  rw[hs,aL] at hq;rw[hs,aL,m,aL] at h;cases hj:(bif d=30 then(some (wI ((ah e)+1)))else(some (ah e)):JJ) with
  |none=>rw[hj] at hq;cases hq
  |some f=>
   rw[hj,aL] at hq h;cases hk:E7 (We c).Kind with
   |none=>rw[hk] at hq;cases hq
   |some i=>
    rw[hk,aL] at hq h;cases hx:AQ (lw (g0,0) f i) ([],0) with
    |none=>rw[hx] at hq;cases hq
    |some j=>
     rw[hx,aL] at hq;rw[show AQ (lw (g0,((0:Nat):Int)) f i) ([],0)=some j from hx,aL] at h;cases hg:nR ({We c with Path:=j}) with
     |none=>rw[hg] at hq;cases hq
     |some o=>grind
theorem T6(m:I1)(i:Ab)(n:Int)(x:Ab):(CW m i n).get x=match m.get x with|some v=>some v|none=>if i=x then some n else none:=by grind [CW,FM.get]
theorem EV{k x:Ab}:∀{l:Bb},bu k (l++[x])=match bu k l with|some n=>some n|none=>if x=k then some l.length else none
 |[]=>by grind [bu]
 |y::r=>by
  rw[List.cons_append,bu,bu];by_cases e:k=y
  .rw[BB e,BB e]
  .rw[BU e,BU e,EV (l:=r)];grind
theorem T7(hn:g.Cards.length<=1000000){d:Int}{c:DQ}(h:mZ g d=(c,true)):hY ⟨g.Cards,m,N⟩ d=some (c,true):=by
 unfold mZ at h;unfold hY;refine T.eq (.bind (T.forA g.Cards.length (λk acc=>∀(j:Nat) (c:DQ),j<k->g.Cards[j]?=some c->c.Device≠d) aa (by grind) (λk acc hk hj=>?_) λacc hj=>?_))
 .obtain⟨x,hx⟩:∃x,g.Cards[k]?=some x:=⟨_,EA hk⟩;unfold ij;dsimp only;rw[eA hk,ax,au,hx,aL];refine .dec (λe=> .some (.some ?_)) λe=> .some ⟨aq aa,λj c' a b=>?_⟩
  .grind [List.find?_eq_some_iff_getElem]
  grind
 grind [GL]
theorem T8(w:GR g)(pg:Oo g m N){id:Ab}{up:Bp}{row:List Bool}(sm:Bg o)(hs:fS o.Sig.S)(a:R0 g o up)(hid:pV o=some id)(hrow:jA g up=some row):
  ∃y:Dd,y.o=o/\y.id=id/\Oo (pL g o id up row) (CW m id N.length) (N++[y])/\jg prog fI 28 [.ref 0 0,.agg (aJ o)] [(0,oG g.Cards N.length 2),(1,oM m),(2,zQ N)] 3 (iG 0) [(0,oG g.Cards (N++[y]).length 3),(1,oM (CW m id N.length)),(3,zQ (N++[y]))] 4:=by
 have nL:=w.nL
 have nI:=w.nI
 have pl:=pg.len
 have hro:=a.room
 have f:=T1 a.check.numbers
 have ul:up.length<=12:=by rw[a.upl];exact pK a.check.long
 obtain⟨s,d,r,t⟩:=yc w (up:=up) aa a.upb
 rw[hrow] at d
 cases d
 obtain⟨E,e,hfr⟩:=a.id
 rw[hid] at e
 cases e
 obtain⟨c,hc,i⟩:=a.card
 obtain⟨K,hr1,hr2⟩:=a.right
 rw[hrow] at hr1
 cases hr1
 obtain⟨v,hv,l⟩:=Xb w (o:=o) r
 rw[hr2] at hv
 cases hv
 have hR:=l rfl
 obtain⟨⟨p,b,F,lev⟩,h1,e1,e2,e3,e4,e5,e8⟩:=ZF w pg a sm
 dsimp only at e1 e2 e3 e4 e5 e8
 have hbeh:∀j:Nat,j<256->(gW (Rf b p) j=true↔Hx g up j):=by grind [RP,Hx]
 obtain⟨⟨last,H⟩,h4,e6,e7⟩:=ZG (A:=Rf b p) w pg f (by grind) hR
 dsimp only at e6 e7
 obtain⟨I,q,ho2⟩:=TU sm
 rw[hid] at ho2
 cases ho2
 have ap:AdV g.Cards m N o id c (pT o.Kind):={
  chk:=RL a.check sm
  sm:=sm
  cl:=RM sm
  id:=q
  fresh:=by rw[pg.get,hfr];rfl
  room:=aa
  card:=T7 (by have:=w.nC;omega) hc
  by_:=(yd hc).2.symm
  sig:=TW (by have:=yY sm;omega) i
  create:=by grind [R0.create]
  nPast:=by have:=sm.nPast;omega
  par:=λx hx=>by obtain⟨k,hk⟩:=GL hx;obtain⟨n,hn,_⟩:=a.par k x hk;have hnl:n<g.IDs.length:=(cr (gb hn).1).1;grind [Oo.get]}
 have h2:ZA p b 4=z4:=by grind [RQ,R0.apart]
 refine⟨⟨o,id,Rf b p,lev⟩,rfl,rfl,⟨?_,?_,?_,?_⟩,(by grind [W7])⟩
 .show(N++[_]).length=(g.L++[o]).length
  simp[pl]
 .intro k y hy
  have inx:=kU w (o:=o) (id:=id) (up:=up) r
  rcases je hy with⟨hk,h⟩|⟨hk,rfl⟩
  .obtain⟨z,B,J,C,D⟩:=pg.nd k y h
   refine⟨Ms z,Ms B,λj hj=>?_,C,D⟩
   grind
  .subst hk
   refine⟨by rw[pl];exact F8,by rw[show N.length=g.IDs.length by omega];exact F8,λj hj=>?_,e4,e5⟩
   have:=inx N.length j
   have hb:=hbeh j hj
   have hrj:row[j]?=some true↔Hx g up j:=by
    rcases Je j g.L.length with h|h
    .exact t j h
    .constructor
     .grind
     .rintro(h2|⟨n,h2,h3⟩)
      .have:=(a.upb _ h2).2;omega
      .have:=w.inlt n j h3;omega
   grind
 .intro x
  rw[T6,pg.get,show(pL g o id up row).IDs=g.IDs++[id] from rfl,EV]
  cases bu x g.IDs<;>grind
 .intro k y u hy hu
  have hUp:(pL g o id up row).Up=g.Up++[up]:=rfl
  have nU:=w.nU
  rw[hUp] at hu
  rcases je hy with⟨hk,h⟩|⟨hk,rfl⟩
  .rw[List.getElem?_append_left aa] at hu
   rw[pg.lv k y u h hu]
   refine(Ada λx hx=>?_).symm
   have:=(w.up k u hu).2 x hx
   omega
  .subst hk
   rw[List.getElem?_append_right aa,show N.length-g.Up.length=0 by omega] at hu
   obtain rfl:=Bo hu
   show lev=_
   rw[e8]
   refine(Ada λx hx=>?_).symm
   have:=a.upb x hx
   omega
theorem OL{b:Ba}(h:Lu b g)(hb:b.L=[])(hi:b.IDs=[])(hs:xf b.Cards):∃(c:Nat->I1) (N:IX),g.Cards=b.Cards/\g.L.length<=200/\Abf g c N/\Oo g (c g.L.length) N:=by
 induction h with
 |base=>refine⟨λ_=>⟨[],0⟩,[],rfl,by rw[hb];exact Nat.zero_le _,⟨hs,by rw[hb];exact Nat.zero_le _,by rw[hb];rfl,rfl,λk o ho=>by rw[hb] at ho;simp at ho⟩,⟨by rw[hb];rfl,λk y hy=>by simp at hy,(λx=>by rw[hi];rfl),(λk y u hy=>by simp at hy)⟩⟩
 | @step g o id up row gr w sm _ d a hid hrow ih=>
  obtain⟨c,N,hc,hl,hrun,pg⟩:=ih;have pl:=pg.len;have hro:=a.room;obtain⟨y,f,i,e,hm⟩:=T8 w pg sm d a hid hrow;have el:(pL g o id up row).L=g.L++[o]:=rfl;have ell:(pL g o id up row).L.length=g.L.length+1:=by rw[el];simp
  have eC:(pL g o id up row).Cards=g.Cards:=rfl;refine⟨λk=>if k<=g.L.length then c k else CW (c g.L.length) id N.length,N++[y],hc,aa,⟨by rw[eC];exact hrun.srt,aa,by rw[ell];simp[pl],by show(if 0<=g.L.length then c 0 else _)=_;rw[BB (Nat.zero_le _)];exact hrun.m0,λk p hp=>?_⟩,?_⟩
  .rw[eC];rcases je (l:=g.L) (x:=o) hp with⟨hk,h⟩|⟨hk,rfl⟩
   .grind [Abf.step]
   grind
  .rw[ell];dsimp only;rw[BU aa];exact e
structure Uq (gg:Az):Prop where
 pos:∀x n,gg.at_.get x=some n->∃(k:Nat) (y:Dd),n=(k:Int)/\gg.nodes[k]?=some y/\k<256
 cl:∀y∈gg.nodes,pG y.o=some y.o
 nc:gg.cards.length<=1000
def MT(gg:Az)(x:Ab):Option Dd:=(gg.at_.get x).bind λn=>aS gg.nodes n
def Agb(gg:Az)(x y:Ab):Bool:=match gg.at_.get x,MT gg y with
 |some n,some b=>gW b.past n.toNat
 |_,_=>false
def RG(gg:Az):Gi:=⟨λx=>(MT gg x).map (·.o),Agb gg,λx=>match MT gg x with|some y=>y.level|none=>0,gg.cards,λd=>gg.cards.find? λc=>decide (c.Device=d)⟩
theorem Ur(h:Uq gg)(e:gg.at_.get x=some n):∃(k:Nat) (y:Dd),n=(k:Int)/\aS gg.nodes n=some y/\MT gg x=some y/\k<256/\y∈gg.nodes:=by
 obtain⟨k,y,rfl,hy,hk⟩:=h.pos x n e;have hz:aS gg.nodes (k:Int)=some y:=by rw[au];exact hy
 refine⟨k,y,rfl,hz,?_,hk,bO hy⟩;unfold MT;rw[e];exact hz
theorem XT(e:gg.at_.get x=none):MT gg x=none:=by unfold MT;rw[e];rfl
def ZL(q:Ab->Bool)(l:Bb)(j:Nat):Nat:=((l.take j).filter q).length
def wK(q:Ab->Bool)(l:Bb)(j:Nat):Bb:=(l.take j).filter q++l.drop (ZL q l j)
theorem Amc{q:Ab->Bool}{l:Bb}{j:Nat}:ZL q l j<=j/\ZL q l j<=l.length:=by grind [ZL]
theorem AcG{q:Ab->Bool}{l:Bb}{j:Nat}:(wK q l j).length=l.length:=by grind [wK,ZL]
theorem Amd{q:Ab->Bool}:(wK q l j)[j]?=l[j]? :=by grind [wK,ZL]
theorem Ame{q:Ab->Bool}(hx:l[j]?=some x)(hq:q x=false):ZL q l (j+1)=ZL q l j/\wK q l (j+1)=wK q l j:=by grind [Jk,ZL,wK]
theorem Aod{q:Ab->Bool}(hx:l[j]?=some x)(hq:q x=true):ZL q l (j+1)=ZL q l j+1/\ji (wK q l j) ((ZL q l j:Nat):Int) x=some (wK q l (j+1)):=by
 have e:(l.take (j+1)).filter q=(l.take j).filter q++[x]:=by grind [Jk]
 have e2:ZL q l (j+1)=ZL q l j+1:=by grind [ZL]
 grind [ji,AcG,wK,List.set_append_right,ZL,List.drop_eq_getElem_cons]
theorem Amf{q:Ab->Bool}{l:Bb}(h:l.findIdx? (λx=> !q x)=some i):i<l.length/\ZL q l (i+1)=i/\wK q l (i+1)=l:=by
 obtain⟨hi,h1,h2⟩:=List.findIdx?_eq_some_iff_getElem.1 h;have e:(l.take i).filter q=l.take i:=by grind [List.filter_eq_self,List.getElem_of_mem]
 have hx:l[i]?=some l[i]:=EA hi;grind [ZL,Ame,wK,Pr]
theorem Amg{q:Ab->Bool}(h:l.any (λx=> !q x)=false):l.filter q=l:=by grind [List.filter_eq_self]
theorem AcH{q:Ab->Bool}{l:Bb}:(wK q l l.length).take (l.filter q).length=l.filter q/\ZL q l l.length=(l.filter q).length:=by grind [wK,ZL]
theorem AhW{s:Bb}{f:Ab->Fl}{p:Ab->Bool}(hn:s.length<2305843009213693952)(hf:∀x∈s,f x=some (p x)):(Y0 s f=some (-1)/\s.any p=false)\/∃j:Nat,Y0 s f=some (j:Int)/\s.findIdx? p=some j:=by
 obtain⟨r,h1,h2⟩:=AjN (s:=s) p hn (step:=JX s f) (λk x hx=>by unfold JX;rw[C7 hx,ax,Bt hx,aL,hf x (bO hx),aL];cases p x<;>simp) (by unfold JX;rw[DZ];rfl)
 unfold Y0;rw[h1];rcases h2 with⟨rfl,h2⟩|⟨j,rfl,h2,h3⟩
 .exact .inl ⟨rfl,h2⟩
 .exact .inr ⟨j,rfl,h3⟩
def dfT(del:Ab->Bool)(s:Nat×Nat×Bb):Option ((Nat×Nat×Bb)⊕(Nat×Bb)):=
 bif s.2.2.length<=1000/\s.2.1<=s.1 then bif (s.1:Int)<ah s.2.2 then(aS s.2.2 (s.1:Int)).bind λx=>bif del x then some (.inl (s.1+1,s.2.1,s.2.2))else(ji s.2.2 (s.2.1:Int) x).bind λW=>some (.inl (s.1+1,s.2.1+1,W))else some (.inr s.2)else none
theorem Amh{del:Ab->Bool}(hl:l.length<=1000)(h:l.findIdx? del=some i):AQ (dfT del) (i+1,i,l)=some ((l.filter λx=> !del x).length,wK (λx=> !del x) l l.length):=by
 have h':l.findIdx? (λx=> !(!del x))=some i:=by simpa using h
 obtain⟨hi,k1,k2⟩:=Amf (q:=λx=> !del x) h';refine T.eq (T.loop (λs=>s.1<=l.length/\s.2.1=ZL (λx=> !del x) l s.1/\s.2.2=wK (λx=> !del x) l s.1) (λs=>l.length-s.1) (by grind) (by show l.length-(i+1)<_;omega) ?_);rintro⟨j,k,W⟩ ⟨hj,hk,a⟩;dsimp only at hj hk a;subst hk;subst a;unfold dfT;dsimp only;have hlen:=AcG (q:=λx=> !del x) (l:=l) (j:=j);rw[C5 (by grind [Amc]),ax];refine .dec (λhh=>?_) λhh=> .some ?_
 .unfold ah at hh;have hlt:j<l.length:=aa;have hx:l[j]?=some l[j]:=EA hlt;refine .bind (.ix aa (x:=l[j]) (by rw[Fu,Amd];exact hx) ?_);refine .ite (λhd=>?_) λhd=>?_
  .obtain⟨a1,a2⟩:=Ame (q:=λx=> !del x) hx (by simpa using hd);exact .some (by constructor<;>grind)
  .obtain⟨a1,a2⟩:=Aod (q:=λx=> !del x) hx (by simpa using hd);rw[a2];exact .some (by constructor<;>grind)
 .unfold ah at hh;obtain rfl:j=l.length:=aa;rw[AcH.2];exact rfl
abbrev zR(W:Bb)(i:Nat):Bn:=(W.flatMap aj).take (0+(i:Int).toNat*3)++(bN zI ((W.length-(i:Int).toNat)*3)).map .lit++(W.flatMap aj).drop (0+(i:Int).toNat*3+(W.length-(i:Int).toNat)*3)
theorem AjZ(W:Bb)(i:Nat):∀g∈zR W i,bB g:=by grind [A3.imm,ac,mN]
theorem AhX(h:i<=W.length):(zR W i).take (i*3)=(W.take i).flatMap aj:=by grind [Fu,Pr,A3.len,ac]
section
variable {gl:CB}
end
abbrev tMI:Bk:=346
abbrev oLi(al:Bc)(v f:Nat):Option Ob:=some ⟨348,[.ptr (Ag al.g) 0,aE aj al.row,.mref v,.mref f],none⟩
abbrev XU(m:FM Ab Bool):Option Ob:=some (M3 tMI ga bG m)
abbrev oBl(b:Nat):Option Ob:=some ⟨254,[.ref b 0],none⟩
abbrev σL(al:Bc):aQ:=[(1,oBl 2),(2,oLi al 3 4),(3,XU al.void),(4,XU al.fork)]
abbrev ρL:DF:=[(0,0),(1,1),(2,2),(3,3),(4,4)]
abbrev kdL:List (Nat×Rk):=[(0,.row),(999999,.clo)]
theorem AcI(m:FM Ab Bool):∀e∈UF ga bG m,bB e.2.1:=by grind [mN]
abbrev mLs(al:Bc):List HP:=[hc (AcI al.void),hc (AcI al.fork)]
theorem Aay{b:Nat}(h1:ag st.σ b=oLi al v f)(h2:ag st.σ v=XU al.void)(h3:ag st.σ f=XU al.fork):ve P st (.ref b 0) (.ptr (BX al) 0):=by
 refine Mb h1 (Dl _) (Nv rfl λp hp=>?_);simp only[BX,List.zip_cons_cons,List.zip_nil_right,EY,LD,or_false] at hp;rcases hp with rfl|rfl|rfl|rfl
 .exact jB (Ah _ _)
 .exact jB (FC _ _)
 .exact Ot h2 λe _=>jB (mN _)
 .exact Ot h3 λe _=>jB (mN _)
theorem Agd{a b:Nat}(h0:ag st.σ a=oBl b)(h1:ag st.σ b=oLi al v f)(h2:ag st.σ v=XU al.void)(h3:ag st.σ f=XU al.fork):ve P st (.ref a 0) (.ptr [.ptr (BX al) 0] 0):=by refine Mb h0 (Dl _) (Nv rfl λp hp=>?_);grind [List.zip_cons_cons,List.zip_nil_right,Aay]
section
variable {gl:CB}
theorem Aj1{al:Bc}{r:Bool}{c:Nat}(a:aK prog fi=true)(hF:ba prog gl fi [.agg (aj x),.ptr [.ptr (BX al) 0] 0] (bG r)):oJ prog gl fi [.agg (aj x),.ref 1 0] (σL al) c (bG r) [] c:=
 PJ a hF (lR _) rfl λst h i y z h1 h2=>by
  match i with
  |0=>cases h1;cases h2;exact jB (aG 20 (.agg (aj x)) aH)
  |1=>cases h1;cases h2;exact Agd (h 1 _ rfl) (h 2 _ rfl) (h 3 _ rfl) (h 4 _ rfl)
  |j+2=>cases h1
theorem Age{f:Ab->Fl}(hv:Ud prog gl fi [] [.ptr [.ptr (BX al) 0] 0] (λx:Ab=>[.agg (aj x)]) (λb:Bool=>bG b) f){l:Bb}{r:Int}(e:Y0 l f=some r):oJ prog gl 136 [.rsl 0 0 l.length,.clo (.func fi) [] [.ref 1 0]] ((0,BA l)::σL al) 5 (iG r) [] 5:=
 PJ aH (gS gl hv e) (lR _) rfl λst h i x y h1 h2=>by
  match i with
  |0=>
   cases h1;cases h2;exact FD (s:=3) (h 0 _ rfl) aH (by show 0+l.length*3<=(l.flatMap aj).length;rw[ac.len];omega) (ac.len l) λj g c a b=>by rw[Nat.zero_add] at a;rw[show(l.flatMap aj)[j]?=some g from a] at b;cases b;exact jB (ac.imm l g (bO a))
  |1=>
   cases h1;cases h2;exact SX rfl rfl (λi g c a b=>by cases a) (λi g c a b=>by
    match i with
    |0=>cases a;cases b;exact Agd (h 1 _ rfl) (h 2 _ rfl) (h 3 _ rfl) (h 4 _ rfl)
    |j+1=>cases a)
  |j+2=>cases h1
theorem Aof{σ:aQ}{i:Nat}(h:i<W.length):rF prog ((0,BA W)::σ) 29 (.rsl 0 (0+(i:Int).toNat*3) (W.length-(i:Int).toNat))=some (0,⟨25,zR W i,none⟩):=by have e1:dp prog 29=some 25:=aH;have e2:jj prog 25=some zI:=aH;have e3:bw prog 25=some 3:=aH;have e4:ag ((0,BA W)::σ) 0=some ⟨25,W.flatMap aj,none⟩:=rfl;have e5:(i:Int).toNat=i:=Fu i;unfold rF;rw[e1];simp only[e2,e3,e4];rw[BB ⟨rfl,aa,Cd,by rw[ac.len];omega,rfl⟩]
theorem AcJ{del:Ab->Bool}(a:aK prog fi=true)(hF:∀x,ba prog gl fi [.agg (aj x),.ptr [.ptr (BX al) 0] 0] (bG (del x)))(hl:l.length<=1000):TG prog gl 160 [.rsl 0 0 l.length,.clo (.func fi) [] [.ref 1 0]] ((0,BA l)::σL al) 5 5 (.rsl 0 0 (l.filter λx=> !del x).length) ((0,BA (l.filter λx=> !del x))::σL al):=by
 have hv:Ud prog gl fi [] [.ptr [.ptr (BX al) 0] 0] (λx:Ab=>[.agg (aj x)]) (λb:Bool=>bG b) (λx=>some (del x)):=⟨a,bf,eB aH,λx r e=>by cases e;exact hF x⟩;refine dFP func160 ?_;rcases AhW (s:=l) (p:=del) aa (λx _=>rfl) with⟨e,h0⟩|⟨i,e,h0⟩
 .have hi:=Age hv e;rw[Amg (by simpa using h0)];exact ZT [hz 10 [0,1,2,3,4] hi] (hc (el l)::hc (ac.imm l)::mLs al) ρL kdL
 .have hi:=Age hv e;have hlt:=(List.findIdx?_eq_some_iff_getElem.1 h0).1;have hkn:(l.filter λx=> !del x).length<l.length:=by have:=Amf (q:=λx=> !del x) (by simpa using h0);have h2:=AcH (q:=λx=> !del x) (l:=l);refine Nat.lt_of_le_of_ne (M7 _ _) λhe=>?_;have h3:=List.length_filter_eq_length_iff.1 he _ (List.getElem_mem hlt);have h4:=(List.findIdx?_eq_some_iff_getElem.1 h0).2.1;simp[h4] at h3
  refine pN (λs:Nat×Nat×Bb=>(s0 42 gl [(0,.rsl 0 0 s.2.2.length),(1,.clo (.func fi) [] [.ref 1 0]),(5,iG (s.2.1:Int)),(6,iG (s.1:Int))] ((0,BA s.2.2)::σL al) 5 5)) 11110122 (Amh hl h0) [hz 10 [0,1,2,3,4] hi,hr 12 (show decide ((i:Int)= -1)=false from Dk aa),hbb 15 (Xl (q:=i) aa)] (hc (el l)::hc (ac.imm l)::mLs al) (λB s w hs k5 h=>?_) [] ρL kdL;obtain⟨j,k,W⟩:=s;unfold dfT at hs;dsimp only at hs;cases b0:decide (W.length<=1000/\k<=j) with
  |false=>rw[b0] at hs;cases hs
  |true=>
  rw[b0,ax] at hs;obtain⟨g1,g2⟩:=DS b0;rcases bC hs with⟨b1,hs⟩|⟨b1,hs⟩
  .have hjl:=DS b1;unfold ah at hjl;obtain⟨x,d,hs⟩:=bS hs;have hcl:=Aj1 (al:=al) (c:=6) a (hF x);have hjb:j<1000000:=aa;cases hd:del x with
   |true=>rw[hd] at hs hcl;obtain rfl:=Bo hs;exact jw [hr 19 b1,AH 24 (ac.ixrZ 0 d),AH 25 (ac.pt0Z aW d),hz 28 [1,2,3,4] hcl,hbb 21 (Xl (q:=j) aa)] (hc (el W)::hc (ac.imm W)::mLs al) (k5 _ rfl) [] ρL kdL
   |false=>rw[hd] at hs hcl;obtain⟨f,e2,hs⟩:=bS hs;obtain rfl:=Bo hs;have hkb:k<1000000:=aa;exact jw [hr 19 b1,AH 24 (ac.ixrZ 0 d),AH 25 (ac.pt0Z aW d),hz 28 [1,2,3,4] hcl,AH 33 (ac.ixsZ 0 e2),hw 33 (f.flatMap aj) (ac.putZ e2),hbb 35 (Xl (q:=k) aa),hbb 21 (Xl (q:=j) aa)] (hc (hZ e2)::hc (ac.imm f)::mLs al) (k5 _ rfl) [] ρL kdL
  .obtain rfl:=Bo hs;have ek:=h _ rfl;simp only[Fq] at ek;obtain⟨ek,g⟩:=ek;have hkW:k<W.length:=by rw[g,AcG,ek];exact hkn
   have e:(zR W k).take (k*3)=(l.filter λx=> !del x).flatMap aj:=by rw[AhX (Nat.le_of_lt hkW),g,ek,AcH.1]
   rw[<-ek];generalize (l.filter λx=> !del x)=F at e⊢;refine pO 1111110 (J:=(s0 42 gl [(0,.rsl 0 0 W.length),(5,iG (k:Int))] ((ob 0 25 (zR W k))::σL al) 5 5)) [hr 19 b1,AH 38 (ac.sufZ 0 (l:=W) (i:=(k:Int)) (y:=W.drop k) (by unfold mc;rw[BB ⟨aa,by rw[Fu];omega⟩,Fu])),Go.Proofs.YtdpdicldkohflaaGreatDoor.hcl 5 (Aof (σ:=σL al) hkW)] (hc (el W)::hc (AjZ W k)::mLs al) ?_ [] ρL kdL;refine dSh 0 (k*3) ?_;show Gp _ _ _ _ _ _ (s0 42 gl [(0,.rsl 0 0 W.length),(5,iG (k:Int))] ((ob 0 25 ((zR W k).take (k*3)))::(ob 0 25 (zR W k))::σL al) 5 5);rw[e];exact ZT [AH 41 (ac.preZ 0 (l:=W) (i:=(k:Int)) (y:=W.take k) (by unfold tq;rw[BB ⟨aa,by rw[Fu];omega⟩,Fu]))] (hc (rfl:k=k)::hc (ac.imm F)::mLs al) ρL kdL
end
def JG(k:Int):Bool:=bif k=3 then true else bif k=13 then true else decide (k=12)
def NP(I:Gi)(R:Ad)(x:Ab):Ad:=VA R (I.o x) x
def aal(I:Gi)(cs:Bb):Ad:=cs.foldl (NP I) (Hd I.cards)
theorem XV{I:Gi}:∀{l:Bb} {R:Ad},Bj R->(∀x∈l,VB (I.o x) x)->Bj (l.foldl (NP I) R)
 |[],R,h,_=>h
 |x::r,R,h,hx=>XV (l:=r) (R2 h (hx x aC)) (by grind)
section
variable {gl:CB} {gg:Az} {I:Gi}
theorem Aej(k:Int):ba prog gl 278 [iG k] (bG (JG k)):=Y1 gl (by unfold WE JG;cases decide (k=3)<;>cases decide (k=13)<;>rfl)
theorem AhZ{al:Bc}(h:Nk gl al.g I)(x:Ab):ba prog gl 277 [.agg (aj x),.ptr [.ptr (BX al) 0] 0] (bG (!JG (I.o x).Kind)):=by have h1:=h.op x;have h2:=Aej (gl:=gl) (I.o x).Kind;refine Gh func277 ?_;exact Ar [hf 12 h1,hf 17 h2] []
theorem Aaz{al:Bc}(x:Ab):ba prog gl 279 [.agg (aj x),.ptr [.ptr (BX al) 0] 0] (bG (A7 (al.void.get x))):=Px gl rfl
abbrev ρr0:DF:=[(0,0),(1,1),(2,2),(3,3),(4,4),(5,5),(6,6),(7,7),(8,8),(9,9),(10,10),(11,11),(12,12),(13,13)]
abbrev ρr2:DF:=[(0,0),(1,1),(2,2),(3,3),(4,4),(5,16),(6,17),(7,18),(8,19),(9,20),(10,21),(11,22),(12,23),(13,24)]
theorem Ah0(h:Nk gl gg I)(hc:Aec I.cards){ids cs:Bb}(c:ba prog gl 106 [.ptr (Ag gg) 0,aE aj ids] (aE aj cs))(hl:∀x∈cs,VB (I.o x) x)(hn:cs.length<=1000):TG prog gl 40 [.ptr (Ag gg) 0,aE aj ids] [] 0 0 (.ref 0 0) (BW f0 (aal I cs)):=by
 have hQ:∀k,Bj ((cs.take k).foldl (NP I) (Hd I.cards)):=λk=>XV (LF hc.r) λx hx=>hl x (List.mem_of_mem_take hx);refine dFP func40 ?_;refine dLl (l:=cs) aa (λk:Nat=>(s0 33 gl [(0,.ptr (Ag gg) 0),(5,.ref 0 0),(15,aE aj cs),(16,iG (ah cs)),(17,iG (k:Int))] (BW f0 ((cs.take k).foldl (NP I) (Hd I.cards))) 14 0)) 1110122 [hf 11 h.cards,hrn 12 0 [aE bv I.cards] (LF hc.r) (AfX gl hc),hf 15 c] (rlB ρr0 (PR 0) (hQ 0)) (λB k x hx hz k5=>?_) (λB=>?_) [] ρr0 N3
 .have hlt:=(cr hx).1;have hq:=hQ k;have a:=hl x (bO hx);rw[Jk,hx,Option.toList_some,No,List.foldl_cons,List.foldl_nil] at k5;generalize (cs.take k).foldl (NP I) (Hd I.cards)=Q at hq k5⊢;unfold NP at k5;have b:=R2 hq a;exact jw [hr 18 (C7 hx),AH 19 (ac.ixZ hz),AH 20 (ac.ptZ aW hz),hf 24 (h.op x),hrw 30 f0 16 [.agg (aJ (I.o x)),.agg (aj x)] hq b (AfW gl hq a),hbb 31 (Xl (q:=k) aa)] (rlB ρr2 (fW f0 16) b) k5 [] ρr2 N3
 .rw[EG];exact ZT [hr 18 (DZ (s:=cs))] (rlB ρr0 f0 (XV (LF hc.r) hl)) ρr0 N3
end
section
variable {g:Ba} {m:I1} {N:IX}
theorem AbD(w:GR g)(p:Oo g m N)(h:bu x g.IDs=some k):∃y,N[k]?=some y/\k<256/\y.id=x:=by have h1:=(gb h).1;have hlt:=(cr h1).1;have n1:=w.nL;have n2:=w.nI;have a:=p.len;have hy:N[k]?=some (N[k]'aa):=EA _;have:=(p.nd k _ hy).2.1;rw[h1] at this;exact⟨_,hy,aa,(Bo this).symm⟩
theorem Sq(w:GR g)(p:Oo g m N)(x:Ab):MT ⟨g.Cards,m,N⟩ x=(bu x g.IDs).bind λk=>N[k]? :=by
 unfold MT;show(m.get x).bind _=_;rw[p.get];cases bu x g.IDs with
 |none=>rfl
 |some k=>exact au
theorem Agf(w:GR g)(p:Oo g m N)(x:Ab):(RG ⟨g.Cards,m,N⟩).op x=(bu x g.IDs).bind λk=>g.L[k]? :=by
 show(MT _ x).map (·.o)=_;rw[Sq w p];cases hk:bu x g.IDs with
 |none=>rfl
 |some k=>obtain⟨y,h1,_,_⟩:=AbD w p hk;show(N[k]?).map _=g.L[k]?;rw[h1,(p.nd k y h1).1];rfl
theorem Agg(w:GR g)(p:Oo g m N)(x y:Ab):(RG ⟨g.Cards,m,N⟩).bef x y=match bu x g.IDs,bu y g.IDs with|some i,some j=>Re g j i|_,_=>false:=by
 show Agb _ x y=_;unfold Agb;show(match m.get x,MT ⟨g.Cards,m,N⟩ y with|some n,some b=>gW b.past n.toNat|_,_=>false)=_;rw[Sq w p,p.get];cases hx:bu x g.IDs with
 |none=>rfl
 |some i=>
  cases hy:bu y g.IDs with
  |none=>rfl
  |some j=>obtain⟨b,h1,_,_⟩:=AbD w p hy;obtain⟨_,_,h2,_⟩:=AbD w p hx;show(match some (i:Int),N[j]? with|some n,some b=>gW b.past n.toNat|_,_=>false)=_;rw[h1];exact(p.nd j b h1).2.2.1 i h2
end
def GD(s:List Aj×Int):Option ((List Aj×Int)⊕(List Aj)):=
 bif 0<s.2 then(aS s.1 s.2).bind λa=>(aS s.1 (wI (s.2-1))).bind λb=>(wz a b).bind λr=>bif r<0 then(ji s.1 s.2 b).bind λc=>(ji c (wI (s.2-1)) a).bind λd=>some (.inl (d,wI (s.2-1)))else some (.inr s.1)else some (.inr s.1)
def Ln(n:Int)(s:List Aj×Int):Option ((List Aj×Int)⊕(List Aj)):=
 bif s.2<n then(AQ GD (s.1,s.2)).bind λl=>some (.inl (l,wI (s.2+1)))else some (.inr s.1)
def So(l:List Aj):Option (List Aj):=AQ (Ln (ah l)) (l,wI (0+1))
structure AnN {K V:Type} (m:FM K V):Prop where
 nd:(m.es.map (·.2.2)).Nodup
 lt:∀e∈m.es,e.2.2<m.clk
structure AnO (m:FM Aj Nat) (srt:List Aj):Prop where
 ok:AnN m
 n:m.es.length<=12
 sr:∀ks:List Aj,ks.Perm (m.es.map (·.1))->So ks=some srt
 len:srt.length=m.es.length
theorem Lt{l:Bp}{k:Nat}{v:Int}(hl:l.length<=3)(hv:v≠0)(hk:l[k]?=some v)(h:∀j,j<k->l[j]?=some 0):iy l=some v:=by
 unfold iy;refine T.eq (.bind ((T.search l (λy=>decide (y≠0)) (λ_ y=>y) aa (λk x hx hk=>?_) ?_).mono ?_))
 .grind [fm,eA,au,aq]
 .unfold fm;rw[eF,Be]
 .rintro r (⟨rfl,h0⟩|⟨k',x,hx,hp,rfl,h0⟩)
  .have:=h0 v (bO hk);simp[hv] at this
  .refine .some ?_;grind
theorem Uj:iy [0,0,0]=some 0:=by
 unfold iy;refine T.eq (.bind ((T.search [0,0,0] (λy=>decide (y≠0)) (λ_ y=>y) Cd (λk x hx hk=>?_) ?_).mono ?_))
 .grind [fm,eA,au,aq]
 .unfold fm;rw[eF,Be]
 .rintro r (⟨rfl,h0⟩|⟨k',x,hx,hp,rfl,h0⟩)
  .exact .some rfl
  grind
theorem EW(a b:Ab):pE a b=some (dt a b):=by
 by_cases hl:dt a b=true
 .rw[hl];exact MW hl
 have hl:dt a b=false:=by simpa using hl
 rw[hl];unfold pE;rw[Ax,Ax,MV];simp only[aL];unfold dt at hl;by_cases h1:a.By=b.By
 .rw[BU (by simp[h1])] at hl;by_cases h2:a.Seq=b.Seq
  .rw[BU (by simp[h2])] at hl;have h3:=Mu hl;by_cases h4:b.Sum<a.Sum
   .rw[Lt (k:=2) (v:=1) aC Cd (by simp[h3,h4]) (by grind)];rfl
   grind [Uj]
  .rw[BB h2] at hl;have h3:=Mu hl;rw[Lt (k:=1) (v:=1) aC Cd (by simp[h3];omega) (by grind)];rfl
 .rw[BB h1] at hl;have h3:=Mu hl;rw[Lt (k:=0) (v:=1) aC Cd (by simp[h3];omega) (by grind)];rfl
theorem EX{a b:Ab}(h1:dt a b=false)(h2:dt b a=false):a=b:=by obtain⟨x,y,z⟩:=a;obtain⟨c,d,e⟩:=b;grind [dt]
def AbE(x y:Int):Int:=bif x<y then-1 else bif y<x then 1 else 0
def Gu(a b:Ab):Int:=bif dt a b then-1 else bif dt b a then 1 else 0
def Ow(I:Gi)(a b:Ab):Int:=bif AbE (I.lev a) (I.lev b)≠0 then AbE (I.lev a) (I.lev b)else Gu a b
theorem Adv(x y:Int):f8 x y=some (AbE x y):=by unfold f8 AbE Fw;have h1:decide (x≠x)=false:=Dk aC;have h2:decide (y≠y)=false:=Dk aC;simp only[h1,h2,aL,Be];cases decide (x<y)<;>cases decide (y<x)<;>rfl
theorem Ah1(u v:Int):iy [u,v]=some (bif u≠0 then u else v):=by
 unfold iy;refine T.eq (.bind (T.forI 2 (λk=>0<k->u=0/\(1<k->v=0)) aa (λh=>absurd h (Nat.lt_irrefl _)) (λk hk a=>?_) λa=>?_))
 .unfold fm;rcases(by omega:k=0\/k=1) with rfl|rfl
  .show T ((bif u≠0 then _ else _)) _;refine .ite (λh=> .some (.some ?_)) λh=> .some ⟨rfl,λ_=>⟨by simpa using h,λh=>absurd h (Nat.lt_irrefl _)⟩⟩;rw[h];rfl
  .obtain⟨hu,_⟩:=a aa;show T ((bif v≠0 then _ else _)) _;refine .ite (λh=> .some (.some ?_)) λh=> .some ⟨rfl,λ_=>⟨hu,λ_=>by simpa using h⟩⟩;subst hu;rfl
 .obtain⟨hu,hv⟩:=a aa;have hv:=hv aa;subst hu;subst hv;exact .some (.some rfl)
theorem Aj2(h:Uq gg)(x:Ab):Fi gg x=some ((RG gg).lev x):=by
 unfold Fi FR;cases e:gg.at_.get x with
 |none=>show _=some (match MT gg x with|some y=>y.level|none=>0);rw[XT e];rfl
 |some n=>obtain⟨k,y,rfl,hz,hn,hk,hm⟩:=Ur h e;show _=some (match MT gg x with|some y=>y.level|none=>0);rw[hn];simp only[Option.isSome_some,ax,Nf,hz,aL]
theorem Ah2(h:Uq gg)(a b:Ab):KZ ⟨gg⟩ a b=some (Ow (RG gg) a b):=by unfold KZ;rw[EW,EW];unfold Ow Gu;cases h1:dt a b<;>cases h2:dt b a<;>(simp only[ax,Be,aL,Aj2 h,Adv,Ah1])
theorem Ah3{gl:CB}(h:Uq gg)(a b:Ab):ba prog gl 127 [.agg (Nr ⟨gg⟩),.agg (aj a),.agg (aj b)] (iG (Ow (RG gg) a b)):=R9 gl (Ah2 h a b)
theorem Ah4{gl:CB}{s:Bb}(hn:s.length<=1000)(v:Ab):ba prog gl 282 [aE aj s,.agg (aj v)] (bG (s.any λy=>decide (v=y))):=Jb gl (SP aa v)
abbrev dR(l:Bb)(i:Nat):Bn:=(l.flatMap aj).take (i*3)++(l.drop (i+1)).flatMap aj++(l.flatMap aj).drop (i*3+(l.length-(i+1))*3)
abbrev zD(L:Bn)(n:Nat):Bn:=L.take (n*3)++(bN zI (1*3)).map .lit++L.drop (n*3+1*3)
theorem AcK(h:i<l.length):(dR l i).length=l.length*3:=by grind [A3.len,ac]
theorem Aj3(l:Bb)(i:Nat):∀g∈dR l i,bB g:=by grind [A3.imm,ac]
theorem Aj4{L:Bn}(h:∀g∈L,bB g)(n:Nat):∀g∈zD L n,bB g:=by grind [mN]
theorem Ah5{l:Bb}{i:Nat}(h:i<l.length):(zD (dR l i) (l.length-1)).take ((l.length-1)*3)=(l.eraseIdx i).flatMap aj:=by
 have hl:=AcK h;have e1:(zD (dR l i) (l.length-1)).take ((l.length-1)*3)=(dR l i).take ((l.length-1)*3):=by grind
 have e2:(l.flatMap aj).take (i*3)=(l.take i).flatMap aj:=by grind [Pr,A3.len,ac,MG]
 grind [A3.len,ac]
theorem cI:dp prog 29=some 25/\bw prog 25=some 3/\jj prog 25=some zI:=⟨aH,aH,aH⟩
def hai(d:Nat){P:Bu}{σ:aQ}{t:Bk}{gx gy:G}{i n:Nat}{ob:Ob}(h:RY P σ t gx gy=some (i,ob,n)):HP:=⟨some (.i d i ob n),RY P (UK σ (fR gx++fR gy)) t gx gy=some (i,ob,n),(Ac8 Hg).symm.trans h⟩
theorem Aj5{l:Bb}{i:Nat}(h:i<l.length):RY prog [(0,BA l)] 29 (.rsr 0 i) (.rsl 0 (0+((i+1:Nat):Int).toNat*3) (l.length-((i+1:Nat):Int).toNat))=some (0,⟨25,dR l i,none⟩,l.length-1):=by
 have e4:ag [(0,BA l)] 0=some ⟨25,l.flatMap aj,none⟩:=rfl;have hlen:=ac.len l;have e5:fO [(0,BA l)] 3 (.rsl 0 ((i+1)*3) (l.length-(i+1)))=some ((l.drop (i+1)).flatMap aj,l.length-(i+1)):=by
  unfold fO;simp only[e4,aL];rw[BB (by rw[hlen];omega)];congr 2;have:(l.flatMap aj).drop ((i+1)*3)=(l.drop (i+1)).flatMap aj:=by
   conv=>lhs;rw[<-Pr (i+1) l,List.flatMap_append]
   grind [List.drop_left',A3.len,ac]
  grind [A3.len,ac]
 rw[Fu,Nat.zero_add];grind [RY,cI]
theorem Aj6{l:Bb}{i:Nat}(h:i<l.length):sJ prog 29 (.rsl 0 0 l.length) (iG (i:Int)) (iG ((i+1:Nat):Int)) (iG (ah l))=some .junk:=by unfold sJ ah;grind [UG,cI]
theorem Aj7{l:Bb}{i:Nat}(h:i<l.length):Ju prog [] 29 (.rsl 0 0 l.length) none (some (i:Int))=some (.rsr 0 i):=by unfold Ju;grind [cI]
theorem Aj8{l:Bb}{i:Nat}(h:i<l.length):Ju prog [ob 0 25 (dR l i)] 29 (.rsr 0 (l.length-1)) (some ((l.length-1:Nat):Int)) (some (ah l))=some (.rsl 0 ((l.length-1)*3) 1):=by have e4:ag [ob 0 25 (dR l i)] 0=some (⟨25,dR l i,none⟩:Ob):=rfl;unfold Ju ah;simp only[cI.1,cI.2.1,e4];rw[BB (by grind [AcK]),Fu,Fu,show l.length-(l.length-1)=1 by omega]
theorem Aj9{l:Bb}{i:Nat}(h:i<l.length):rF prog [ob 0 25 (dR l i),(1,some BC),(0,BA l)] 29 (.rsl 0 ((l.length-1)*3) 1)=some (0,⟨25,zD (dR l i) (l.length-1),none⟩):=by have e4:ag [ob 0 25 (dR l i),(1,some BC),(0,BA l)] 0=some (⟨25,dR l i,none⟩:Ob):=rfl;unfold rF;simp only[cI.1,cI.2.1,cI.2.2,e4];rw[BB ⟨rfl,aa,Cd,by rw[AcK h];omega,rfl⟩]
theorem aao{l:Bb}{i:Nat}(hl:l.length<=1000)(h:i<l.length):jg prog gl 281 [.rsl 0 0 l.length,iG (i:Int),iG ((i+1:Nat):Int)] [(0,BA l)] 1 (.rsl 0 0 (l.length-1)) [(0,BA (l.eraseIdx i))] 1:=by have hz:=Ah5 h;have hi:=Aj4 (Aj3 l i) (l.length-1);refine pP func281 ?_;refine pO 11111110 (J:=(s0 33 gl [(0,.rsl 0 0 (l.length-1))] [ob 0 25 (zD (dR l i) (l.length-1))] 1 1)) [hcv 13 (g:= .junk) (Aj6 h),hr 16 (show decide ((i:Int)=((i+1:Nat):Int))=false from Dk aa),hcv 22 (g:= .rsr 0 i) (Aj7 h),AH 25 (ac.sufZ 0 (l:=l) (i:=((i+1:Nat):Int)) (y:=l.drop (i+1)) (by unfold mc;rw[BB ⟨aa,by rw[Fu];omega⟩,Fu])),hai 26 (Aj5 h),hcv 31 (g:= .rsl 0 ((l.length-1)*3) 1) (Aj8 h),hcl 2 (Aj9 h)] [hc (rfl:l.length-1=l.length-1),hc hi] ?_;refine dSh 0 ((l.length-1)*3) ?_;show Gp _ _ _ _ _ _ (s0 33 gl [(0,.rsl 0 0 (l.length-1))] ((ob 0 25 ((zD (dR l i) (l.length-1)).take ((l.length-1)*3)))::[ob 0 25 (zD (dR l i) (l.length-1))]) 1 1);rw[hz];exact Hf .ret (s0 33 gl [(6,.rsl 0 0 (l.length-1))] [(0,BA (l.eraseIdx i))] 1 1) [.rsl 0 0 (l.length-1)] [] [hc (rfl:l.length-1=l.length-1),hc (ac.imm (l.eraseIdx i))]
theorem Adw{gl:CB}{fid:FuncId}{gs gs':Bn}{σR:aQ}{t:Bk}{m:Nat}{l:Bn}{c:Nat}(hc:aK P fid=true)(hF:iV P gl fid gs' t m l)(hr:∀g∈l,∃v,g= .lit v)(hl:gs'.length=gs.length)(hz:∀st:St,(∀i o,ag σR i=some o->ag st.σ i=some o)->∀(i:Nat) (x y:G),gs[i]?=some x->gs'[i]?=some y->ve P st x y):oJ P gl fid gs σR c (.rsl c 0 m) [(c,some ⟨t,l,none⟩)] (c+1):=λo st y xs ats fst cap ho hd hx hgs hgl b a=>by grind [H4,WG]
abbrev tSe:Bk:=349
abbrev oSe(m:FM Int Int):Option Ob:=some (M3 tSe Jo iG m)
theorem AiK{σ:aQ}(m:FM Int Int)(h:ag σ 4=oSe m)(k v:Int):dZ prog σ tSe (.mref 4) (iG k) (iG v)=some (4,M3 tSe Jo iG (CA m k v)):=Acx (P:=prog) (et:=3) OY Abn aH (k:=k) (gk:=iG k) rfl (m:=m) h v
theorem AiL(k:Ab):Instr.sameBits 10000 (ga k) (ga k)=true:=by(unfold ga Pe;simp[Instr.sameBits])
theorem Aka{σ:aQ}{i:Nat}(m:FM Ab Bool)(h:ag σ i=XU m)(k:Ab):dZ prog σ tMI (.mref i) (.agg (aj k)) (bG true)=some (i,M3 tMI ga bG (CA m k true)):=Acx (P:=prog) (et:=4) jt AiL aH (k:=k) (gk:= .agg (aj k)) rfl (m:=m) h true
def Tk(cs:Mj):FM Int Int:=cs.foldl (λm c=>CA m c.Device 12) ⟨[],0⟩
def UT(m:FM Int Int)(s:Bp):Nat->FM Int Int
 |0=>m
 |k+1=>match s[k]? with
  |some d=>CA (UT m s k) d (k:Int)
  |none=>UT m s k
def O5(cs:Mj)(s:Bp):FM Int Int:=UT (Tk cs) s s.length
abbrev wV(al:Bc)(v:FM Ab Bool):Bc:={al with void:=v}
def vFu(I:Gi)(row a:Bb)(x:Ab)(v:FM Ab Bool)(y:Ab):FM Ab Bool:=bif I9 I x y then CA v y true else bif a.any (λz=>decide (y=z))&&D4 I row x y then CA v y true else v
def vAl(I:Gi)(row a:Bb)(x:Ab)(v:FM Ab Bool):FM Ab Bool:=row.foldl (vFu I row a x) v
def Agh(I:Gi)(al:Bc)(sen:FM Int Int)(s:Bb×FM Ab Bool):Option ((Bb×FM Ab Bool)⊕FM Ab Bool):=
 bif s.1.length<=1000 then
 (λl1:Bb=>bif ah l1=0 then some (.inr s.2)else(AQ (Af9 I al.row l1 sen) (0,-1)).bind λi=>(aS l1 i).bind λx=>
   bif(JN I (wV al s.2)).any (λz=>decide (x=z))then some (.inl (l1.eraseIdx i.toNat,vAl I al.row (l1.eraseIdx i.toNat) x s.2))else some (.inl (l1.eraseIdx i.toNat,CA s.2 x true)))
 (s.1.filter λx=> !A7 (s.2.get x))
 else none
def Agi(I:Gi)(al:Bc)(sen:FM Int Int):Option (FM Ab Bool):=AQ (Agh I al sen) (al.row.filter (λx=> !!JG (I.o x).Kind),al.void)
abbrev σ3(al:Bc):aQ:=[(0,oLi al 1 2),(1,XU al.void),(2,XU al.fork)]
abbrev σ5(al:Bc)(sen:FM Int Int):aQ:=σ3 al++[(3,oBl 0),(4,oSe sen)]
abbrev σ6(al:Bc)(sen:FM Int Int)(l:Bb):aQ:=σ5 al sen++[(5,BA l)]
theorem Akb(m:FM Int Int):∀e∈UF Jo iG m,bB e.2.1:=by grind [mN]
theorem Agj{κ:Nat->Fo}{b b':Nat}(h:κ b=some b'):∀ob,oBl b'=some ob->∃o,oBl b=some o/\MB κ o ob:=λob e=>by cases e;refine⟨_,rfl,rfl,.inl ?_⟩;grind [qg]
theorem AaA{κ:Nat->Fo}{al:Bc}{v v' f f':Nat}(h:κ v=some v')(h2:κ f=some f'):∀ob,oLi al v' f'=some ob->∃o,oLi al v f=some o/\MB κ o ob:=λob e=>by cases e;refine⟨_,rfl,rfl,.inl ?_⟩;grind [qg]
theorem P2{κ:Nat->Fo}{m:FM Ab Bool}:∀ob,XU m=some ob->∃o,XU m=some o/\MB κ o ob:=λob e=>by cases e;exact⟨_,rfl,rfl,rfl,rfl,rfl,.inr ⟨rfl,AcI m⟩⟩
theorem Adx{κ:Nat->Fo}:∀ob,BA l=some ob->∃o,BA l=some o/\MB κ o ob:=λob e=>by cases e;exact⟨_,rfl,rfl,.inr ⟨rfl,ac.imm l⟩⟩
theorem Ami(al:Bc)(l:Bb):InP (vi [5,3,0,1,2]) [5,3,0,1,2] [(5,BA l),(3,oBl 0),(0,oLi al 1 2),(1,XU al.void),(2,XU al.fork)] ((0,BA l)::σL al):=λk o0 h=>by
 match k with
 |0=>obtain⟨o,h1,h2⟩:=Adx (κ:=vi [5,3,0,1,2]) o0 h;exact⟨5,o,rfl,h1,h2⟩
 |1=>obtain⟨o,h1,h2⟩:=Agj (κ:=vi [5,3,0,1,2]) (b:=0) (b':=2) rfl o0 h;exact⟨3,o,rfl,h1,h2⟩
 |2=>obtain⟨o,h1,h2⟩:=AaA (κ:=vi [5,3,0,1,2]) (al:=al) (v:=1) (v':=3) (f:=2) (f':=4) rfl rfl o0 h;exact⟨0,o,rfl,h1,h2⟩
 |3=>obtain⟨o,h1,h2⟩:=P2 (κ:=vi [5,3,0,1,2]) (m:=al.void) o0 h;exact⟨1,o,rfl,h1,h2⟩
 |4=>obtain⟨o,h1,h2⟩:=P2 (κ:=vi [5,3,0,1,2]) (m:=al.fork) o0 h;exact⟨2,o,rfl,h1,h2⟩
 |j+5=>cases h
theorem Akc(al:Bc)(l d:Bb)(c:Nat):Aa9 (kO ((0,BA l)::σL al) [5,3,0,1,2] 5 0 c) ((0,BA d)::σL al) [(5,BA d),(3,oBl 0),(0,oLi al 1 2),(1,XU al.void),(2,XU al.fork)]:=λi o h0=>by
 generalize hκ:kO ((0,BA l)::σL al) [5,3,0,1,2] 5 0 c=κ;have h0':κ 0=some 5:=by rw[<-hκ];rfl
 have h1':κ 1=some 3:=by rw[<-hκ];rfl
 have h2':κ 2=some 0:=by rw[<-hκ];rfl
 have h3':κ 3=some 1:=by rw[<-hκ];rfl
 have h4':κ 4=some 2:=by rw[<-hκ];rfl
 match i with
 |5=>obtain⟨a,h1,h2⟩:=Adx (κ:=κ) o h0;exact⟨0,a,h0',h1,h2⟩
 |3=>obtain⟨a,h1,h2⟩:=Agj (κ:=κ) (b:=2) (b':=0) h2' o h0;exact⟨1,a,h1',h1,h2⟩
 |0=>obtain⟨a,h1,h2⟩:=AaA (κ:=κ) (al:=al) (v:=3) (v':=1) (f:=4) (f':=2) h3' h4' o h0;exact⟨2,a,h2',h1,h2⟩
 |1=>obtain⟨a,h1,h2⟩:=P2 (κ:=κ) (m:=al.void) o h0;exact⟨3,a,h3',h1,h2⟩
 |2=>obtain⟨a,h1,h2⟩:=P2 (κ:=κ) (m:=al.fork) o h0;exact⟨4,a,h4',h1,h2⟩
 |4=>cases h0
 |j+6=>cases h0
theorem Amj:aK prog 160=true:=aH
abbrev hdl(d c:Nat){fi:FuncId}{al:Bc}{del:Ab->Bool}{gl:CB}(a:aK prog fi=true)(hF:∀x,ba prog gl fi [.agg (aj x),.ptr [.ptr (BX al) 0] 0] (bG (del x))){l l':Bb}(hl:l.length<=1000)(e:(l.filter λx=> !del x)=l')(hlt:[5,3,0,1,2].all (λi=>Nat.blt i c)=true:=by kernel_rfl):HP:=
 hfm d [5,3,0,1,2] 5 0 c [(5,BA l),(3,oBl 0),(0,oLi al 1 2),(1,XU al.void),(2,XU al.fork)] [.rsl 5 0 l.length,.clo (.func fi) [] [.ref 3 0]] [(5,BA l'),(3,oBl 0),(0,oLi al 1 2),(1,XU al.void),(2,XU al.fork)] (e▸AcJ a hF hl) (Ami al l) (Akc al l l' c) Amj hlt
section
variable {gl:CB} {P:Bu}
theorem AaB(h:ag st.σ i=BA l):ve prog st (.rsl i 0 l.length) (aE aj l):=FD (s:=3) h aH (by grind [A3.len,ac]) (ac.len l) (by grind [jB,A3.imm,ac])
theorem AbF{al:Bc}{l:Bb}{sen:FM Int Int}{r:Int}{c:Nat}(hF:ba prog gl 280 [.ptr (BX al) 0,aE aj l,FM.g Jo iG sen] (iG r)):oJ prog gl 280 [.ref 0 0,.rsl 5 0 l.length,.mref 4] (σ6 al sen l) c (iG r) [] c:=
 PJ aH hF (lR _) rfl λst h i x y h1 h2=>by
  match i with
  |0=>grind [Aay]
  |1=>cases h1;cases h2;exact AaB (h 5 _ rfl)
  |2=>cases h1;cases h2;exact Ot (h 4 _ rfl) λe _=>jB (mN _)
  |j+3=>cases h1
theorem AaC{al:Bc}{c:Nat}(hF:iV prog gl 177 [.ptr (BX al) 0] 25 (JN I al).length ((JN I al).flatMap aj)):oJ prog gl 177 [.ref 0 0] (σ3 al) c (.rsl c 0 (JN I al).length) [(c,BA (JN I al))] (c+1):=
 Adw aH hF (Zy _) rfl (by grind [Aay])
theorem AaD{l:Bb}{x:Ab}{i c:Nat}(hn:l.length<=1000):oJ prog gl 282 [.rsl i 0 l.length,.agg (aj x)] [(i,BA l)] c (bG (l.any λy=>decide (x=y))) [] c:=
 PJ aH (Ah4 hn x) (lR _) rfl λst h j y z h1 h2=>by
  match j with
  |0=>grind [AaB]
  |1=>cases h1;cases h2;exact jB (aG 20 (.agg (aj x)) aH)
  |j+2=>cases h1
theorem Agk{al:Bc}(h:Nk gl al.g I)(hn:al.row.length<=1000)(x y:Ab){c:Nat}:oJ prog gl 284 [.ref 0 0,.agg (aj x),.agg (aj y)] (σ3 al) c (bG (D4 I al.row x y)) [] c:=
 PJ aH (AbC h hn x y) (lR _) rfl λst h i p q h1 h2=>by
  match i with
  |0=>grind [Aay]
  |1=>cases h1;cases h2;exact jB (aG 20 (.agg (aj x)) aH)
  |2=>cases h1;cases h2;exact jB (aG 20 (.agg (aj y)) aH)
  |j+3=>cases h1
end
abbrev oS(al:Bc)(sen:FM Int Int):List HP:=mLs al++[hc (Akb sen)]
abbrev ρ5:DF:=[(0,0),(1,1),(2,2),(3,3),(4,4)]
abbrev ρ6:DF:=ρ5++[(5,5)]
abbrev ρ7:DF:=ρ6++[(6,6)]
abbrev kd5:List (Nat×Rk):=[(5,.row)]
abbrev stM(al:Bc)(sen:FM Int Int)(s:Bb×FM Ab Bool):St:=(s0 115 fI [(1,.ref 3 0),(2,.mref 4),(7,.rsl 5 0 s.1.length)] (σ6 (wV al s.2) sen s.1) 6 3)
abbrev oMn(al:Bc)(sen:FM Int Int)(s:Bb×FM Ab Bool)(n:Nat)(h:n=s.1.length):List HP:=hc h::oS (wV al s.2) sen++[hc (ac.imm s.1)]
abbrev stV(al:Bc)(sen:FM Int Int)(l:Bb)(x:Ab)(v:FM Ab Bool)(k:Nat):St:=(s0 115 fI [(1,.ref 3 0),(2,.mref 4),(7,.rsl 5 0 l.length),(9,.ref 6 0),(85,aE aj al.row),(86,iG (ah al.row)),(87,iG (k:Int))] (σ6 (wV al v) sen l++[(6,O7 x)]) 7 3)
theorem Aek(h:Aeg fI al I){s:Bp}(hS:ba prog fI 229 [.ptr (Ag al.g) 0,aE aj al.row] (aE cZ s))(hsn:s.length<=1000){v:FM Ab Bool}(hv0:Agi I al (O5 I.cards s)=some v):TG prog fI 176 [.ref 0 0] (σ3 al) 3 3 (.tup []) (σ3 (wV al v)):=by
 have hn:=h.n;have hcn:=h.c.n;have hcl:cU al.row=some al.row:=by unfold cU aT;rw[BB cq];rfl
 unfold Agi at hv0;refine dFP func176 ?_;refine dLl (l:=I.cards) aa (λk:Nat=>(s0 115 fI [(1,.ref 3 0),(2,.mref 4),(17,aE bv I.cards),(18,iG (ah I.cards)),(19,iG (k:Int))] (σ5 al (Tk (I.cards.take k))) 5 3)) 1110122 [hf 17 h.g.cards] (oS al (Tk (I.cards.take 0))) (λB k x hx hz k5=>?_) (λB=>?_) [] ρ5 []
 .have hlt:=(cr hx).1;unfold Tk at k5⊢;rw[Jk,hx,Option.toList_some,No,List.foldl_cons,List.foldl_nil] at k5;generalize (I.cards.take k).foldl (λ(m:FM Int Int) (c:DQ)=>CA m c.Device (12:Int)) ⟨[],0⟩=m at k5⊢;exact jw [hr 20 (C7 hx),AH 21 (bT.ixZ hz),AH 22 (bT.ptZ E2 hz),hmp 6 (AiK (σ:=(ob 5 145 (bv x))::σ5 al m) m rfl x.Device 12),hbb 26 (Xl (q:=k) aa)] (oS al (CA m x.Device 12)) k5 [] ρ5 []
 .rw[EG];refine yl (Bs':=[]) [1,1,0,1] (J:=(s0 115 fI [(1,.ref 3 0),(2,.mref 4)] (σ5 al (Tk I.cards)) 5 3)) [hr 20 (DZ (s:=I.cards))] (oS al (Tk I.cards)) ?_;refine dLl (l:=s) aa (λk:Nat=>(s0 115 fI [(1,.ref 3 0),(2,.mref 4),(35,aE cZ s),(36,iG (ah s)),(37,iG (k:Int))] (σ5 al (UT (Tk I.cards) s k)) 5 3)) 11110122 [hf 35 hS] (oS al (Tk I.cards)) (λt k x hx hz k5=>?_) (λt=>?_) [] ρ5 []
  .have hlt:=(cr hx).1;have e:UT (Tk I.cards) s (k+1)=CA (UT (Tk I.cards) s k) x (k:Int):=by show(match s[k]? with|some d=>_|none=>_)=_;rw[hx]
   rw[e] at k5;generalize UT (Tk I.cards) s k=m at k5⊢;exact jw [hr 38 (C7 hx),AH 40 (rZ.ixZ hz),AH 41 (rZ.p1Z tZ hz),hmp 5 (AiK (σ:=σ5 al m) m rfl x (k:Int)),hbb 45 (Xl (q:=k) aa)] (oS al (CA m x (k:Int))) k5 [] ρ5 []
  .rw[show UT (Tk I.cards) s s.length=O5 I.cards s from rfl];generalize O5 I.cards s=sen at hv0⊢;refine yl (Bs':=[]) [1,1,1,0,1] (J:=(s0 115 fI [(1,.ref 3 0),(2,.mref 4)] (σ5 al sen) 5 3)) [hr 38 (DZ (s:=s))] (oS al sen) ?_;refine pN (stM al sen) [1,1,1,1,1,2,2] hv0 [ho 50 [aE aj al.row] [] (jY fI hcl) (Zy _),hdl 52 6 (al:=al) (fi:=277) (del:=λx=> !JG (I.o x).Kind) aH (λx=>AhZ h.g x) (l:=al.row) hn rfl] (oMn al sen (al.row.filter (λx=> !!JG (I.o x).Kind),al.void) _ rfl) (λA z C hs k5 w=>?_) [] ρ6 kd5;obtain⟨l,vd⟩:=z;unfold Agh at hs;dsimp only at hs;cases b0:decide (l.length<=1000) with
   |false=>rw[b0] at hs;cases hs
   |true=>
   rw[b0,ax] at hs;have hln:=DS b0;have h':Aeg fI (wV al vd) I:=⟨h.g,h.c,h.o,h.n⟩;have hkl:=λx y=>aaj h.g x y;generalize e1:(l.filter λx=> !A7 (vd.get x))=l1 at hs;have hl1:l1.length<=1000:=by rw[<-e1];exact LC (M7 _ _) hln
   rcases bC hs with⟨b1,hs⟩|⟨b1,hs⟩
   .obtain rfl:=Bo hs;obtain rfl:=w _ rfl;exact ZT [hdl 55 6 (gl:=fI) (al:=wV al vd) (fi:=279) (del:=λx=>A7 (vd.get x)) aH (λx=>Aaz x) (l:=l) hln e1,hr 58 b1] (mLs (wV al vd)) [(0,0),(1,1),(2,2)] []
   .obtain⟨i,ei,hs⟩:=bS hs;obtain⟨x,r,hs⟩:=bS hs;obtain⟨k,rfl⟩:∃k:Nat,i=(k:Int):=by
     unfold aS at r;split at r
     .exact⟨i.toNat,aa⟩
     .cases r
    have hkx:l1[k]?=some x:=by rw[<-au];exact r
    have f:=(cr hkx).1;rw[Fu] at hs;have hle:l1.length-1=(l1.eraseIdx k).length:=by rw[List.length_eraseIdx,BB f]
    have hF:=Aga h'.g h'.n hl1 ei;have hg:=Adu h';have hgn:(JN I (wV al vd)).length<=1000:=LC XR.2 (by simpa using hn);cases c2:(JN I (wV al vd)).any (λz=>decide (x=z)) with
    |false=>rw[c2,Be] at hs;obtain rfl:=Bo hs;have j:=AaD (gl:=fI) (l:=JN I (wV al vd)) (x:=x) (i:=7) (c:=8) hgn;rw[c2] at j;exact jw [hdl 55 6 (gl:=fI) (al:=wV al vd) (fi:=279) (del:=λx=>A7 (vd.get x)) aH (λx=>Aaz x) (l:=l) hln e1,hr 58 b1,hz 62 [0,1,2,3,4,5] (AbF (c:=6) hF),AH 65 (ac.ixrZ 5 r),AH 66 (ac.pt0Z aW r),hbb 70 (Xl (q:=k) aa),tN 71 [5] 7 [(5,BA l1)] [.rsl 5 0 l1.length,iG (k:Int),iG ((k+1:Nat):Int)] [(0,BA (l1.eraseIdx k))] (aao fI hl1 f) ⟨⟨rfl,.inr ⟨rfl,ac.imm l1⟩⟩,trivial⟩ ⟨⟨rfl,.inr ⟨rfl,ac.imm _⟩⟩,trivial⟩,hz 73 [0,1,2] (AaC (c:=7) hg),hz 75 [7] j,hmr 8 (Aka (σ:=[(1,XU vd)]) (i:=1) vd rfl x)] (oMn al sen (l1.eraseIdx k,CA vd x true) _ hle) (k5 _ rfl) [] ρ6 kd5
    |true=>
     rw[c2,ax] at hs;obtain rfl:=Bo hs;have k5:=k5 _ rfl;have j:=AaD (gl:=fI) (l:=JN I (wV al vd)) (x:=x) (i:=7) (c:=8) hgn;rw[c2] at j;refine pN (λq:Nat=>stV al sen (l1.eraseIdx k) x ((al.row.take q).foldl (vFu I al.row (l1.eraseIdx k) x) vd) q) [1,1,1,1,1,2,2,2,1,1,1,1,1,1,1,2,2] (XN (n:=al.row.length) aa) [hdl 55 6 (gl:=fI) (al:=wV al vd) (fi:=279) (del:=λx=>A7 (vd.get x)) aH (λx=>Aaz x) (l:=l) hln e1,hr 58 b1,hz 62 [0,1,2,3,4,5] (AbF (c:=6) hF),AH 65 (ac.ixrZ 5 r),AH 66 (ac.pt0Z aW r),hbb 70 (Xl (q:=k) aa),tN 71 [5] 7 [(5,BA l1)] [.rsl 5 0 l1.length,iG (k:Int),iG ((k+1:Nat):Int)] [(0,BA (l1.eraseIdx k))] (aao fI hl1 f) ⟨⟨rfl,.inr ⟨rfl,ac.imm l1⟩⟩,trivial⟩ ⟨⟨rfl,.inr ⟨rfl,ac.imm _⟩⟩,trivial⟩,hz 73 [0,1,2] (AaC (c:=7) hg),hz 75 [7] j] (oMn al sen (l1.eraseIdx k,vd) _ hle) (λD q E hs b F=>?_) [] ρ7 kd5;have hl2:(l1.eraseIdx k).length<=1000:=aa;generalize l1.eraseIdx k=l2 at k5 b hl2⊢;unfold AcA at hs;split at hs
     .rename_i hlt;obtain rfl:=Bo hs;obtain⟨y,hy⟩:∃y,al.row[q]?=some y:=⟨_,EA hlt⟩;have a:=Bt hy;have b:=b _ rfl;rw[Jk,hy,Option.toList_some,No,List.foldl_cons,List.foldl_nil] at b;generalize (al.row.take q).foldl (vFu I al.row l2 x) vd=u at b⊢;have hk:=hkl x y;unfold vFu at b;cases kk:I9 I x y with
      |true=>rw[kk] at hk b;exact jw [hr 88 (C7 hy),AH 89 (ac.ixZ a),AH 90 (ac.ptZ aW a),hf 97 hk,hmr 8 (Aka (σ:=[(1,XU u)]) (i:=1) u rfl y),hbb 114 (Xl (q:=q) aa)] (oMn al sen (l2,CA u y true) _ rfl) b [] ρ7 kd5
      |false=>
       rw[kk,Be] at b;rw[kk] at hk;have p:=AaD (gl:=fI) (l:=l2) (x:=y) (i:=5) (c:=8) hl2;cases cc:l2.any (λz=>decide (y=z)) with
       |false=>rw[cc] at p b;exact jw [hr 88 (C7 hy),AH 89 (ac.ixZ a),AH 90 (ac.ptZ aW a),hf 97 hk,hz 101 [5] p,hbb 114 (Xl (q:=q) aa)] (oMn al sen (l2,u) _ rfl) b [] ρ7 kd5
       |true=>
        have hw:=Agk (al:=wV al u) (c:=8) h.g h.n x y;rw[show(wV al u).row=al.row from rfl] at hw;rw[cc,Bool.true_and] at b;rw[cc] at p;cases ww:D4 I al.row x y with
        |false=>rw[ww] at hw b;exact jw [hr 88 (C7 hy),AH 89 (ac.ixZ a),AH 90 (ac.ptZ aW a),hf 97 hk,hz 101 [5] p,hz 106 [0,1,2] hw,hbb 114 (Xl (q:=q) aa)] (oMn al sen (l2,u) _ rfl) b [] ρ7 kd5
        |true=>rw[ww] at hw b;exact jw [hr 88 (C7 hy),AH 89 (ac.ixZ a),AH 90 (ac.ptZ aW a),hf 97 hk,hz 101 [5] p,hz 106 [0,1,2] hw,hmr 8 (Aka (σ:=[(1,XU u)]) (i:=1) u rfl y),hbb 114 (Xl (q:=q) aa)] (oMn al sen (l2,CA u y true) _ rfl) b [] ρ7 kd5
     .split at hs
      .rename_i he;subst he;unfold vAl at k5;rw[EG];generalize al.row.foldl (vFu I al.row l2 x) vd=u at k5⊢;exact jw [hr 88 (DZ (s:=al.row))] (oMn al sen (l2,u) _ rfl) k5 [] ρ6 kd5
      .cases hs
theorem Ael{K V:Type}:QN (⟨[],0⟩:FM K V):=by grind [QN,FxOk]
def ofV(vs:Bb):FM Ab Bool:=vs.foldl (λm x=>CA m x true) ⟨[],0⟩
theorem Akd{vs:Bb}:QN (ofV vs):=by
 have key:∀(l:Bb) (m:FM Ab Bool),QN m->QN (l.foldl (λm x=>CA m x true) m):=by intro l;induction l<;>grind [It]
 exact key vs _ Ael
def UU(gg:Az)(row vs:Bb):Bc:=⟨gg,row,ofV vs,ofV vs⟩
abbrev hsI(d i c:Nat){m:FM Ab Bool}(k:Ab):HP:=Y6 d [i] c (AjP (P:=prog) (σ:=[(i,XU m)]) (t:=tMI) (t':=tMI) (et:=4) (v0:=false) jt AiL aH aH (k:=k) (gk:= .agg (aj k)) rfl Nw)
abbrev Amk(d i c:Nat){m:FM Ab Bool}(k:Ab)(h:FxOk m):HP:=hms d [i] c (AjQ (σ:=[(i,some (M3 tMI ga bG (CA m k ((m.get k).getD false))))]) (i:=i) (t':=tMI) (kv:=ga) (vg:=bG) (m:=m) (k:=k) (v0:=(m.get k).getD false) h Nw true)
section
variable {gl:CB}
theorem Aml{row vs:Bb}(hO:ba prog gl 57 [.ptr (Ag gg) 0,aE aj ids] (aE aj row))(hV:ba prog gl 276 [.ptr (Ag gg) 0,aE aj ids] (aE aj vs))(hn:vs.length<=1000):TG prog gl 175 [.ptr (Ag gg) 0,aE aj ids] [] 0 0 (.ref 0 0) (σ3 (UU gg row vs)):=by
 refine dFP func175 ?_;refine dLl (l:=vs) aa (λk:Nat=>(s0 40 gl [(5,.ref 0 0),(18,aE aj vs),(19,iG (ah vs)),(20,iG (k:Int))] (σ3 (UU gg row (vs.take k))) 3 0)) 1110122 [hf 11 hO,hf 18 hV] (mLs (UU gg row (vs.take 0))) (λB k x hx hz k5=>?_) (λB=>?_) [] [(0,2),(1,0),(2,1)] []
 .have hlt:=(cr hx).1;have e:UU gg row (vs.take (k+1))=⟨gg,row,CA (ofV (vs.take k)) x true,CA (ofV (vs.take k)) x true⟩:=by unfold UU ofV;rw[Jk,hx,Option.toList_some,No];rfl
  have hm:=Akd (vs:=vs.take k);rw[e] at k5;unfold UU;generalize ofV (vs.take k)=m at k5 hm⊢;exact jw [hr 21 (C7 hx),AH 22 (ac.ixZ hz),AH 23 (ac.ptZ aW hz),hsI 34 1 4 (m:=m) x,Amk 35 1 4 x hm.1,hsI 36 2 4 (m:=m) x,Amk 37 2 4 x hm.1,hbb 38 (Xl (q:=k) aa)] (mLs ⟨gg,row,CA m x true,CA m x true⟩) k5 [] [(0,0),(1,1),(2,2)] []
 .rw[EG];exact ZT [hr 21 (DZ (s:=vs))] (mLs (UU gg row vs)) [(0,0),(1,1),(2,2)] []
end
def Aem(I:Gi)(al:Bc)(s:Bp):Option Bb:=(Agi I al (O5 I.cards s)).map λv=>JN I (wV al v)
theorem Amm{κ:Nat->Fo}{al:Bc}(h0:κ 0=some 0)(h1:κ 1=some 1)(h2:κ 2=some 2):Aa9 κ (σ3 al) (σ3 al):=λk o h=>by
 match k with
 |0=>obtain⟨a,e⟩:=AaA (v:=1) (f:=2) h1 h2 o h;exact⟨0,a,h0,e⟩
 |1=>obtain⟨a,e⟩:=P2 o h;exact⟨1,a,h1,e⟩
 |2=>obtain⟨a,e⟩:=P2 o h;exact⟨2,a,h2,e⟩
 |j+3=>cases h
theorem in3{al:Bc}:InP (vi [0,1,2]) [0,1,2] (σ3 al) (σ3 al):=λk o h=>by
 match k with
 |0=>obtain⟨a,e⟩:=AaA (κ:=vi [0,1,2]) (v:=1) (f:=2) rfl rfl o h;exact⟨0,a,rfl,e⟩
 |1=>obtain⟨a,e⟩:=P2 (κ:=vi [0,1,2]) o h;exact⟨1,a,rfl,e⟩
 |2=>obtain⟨a,e⟩:=P2 (κ:=vi [0,1,2]) o h;exact⟨2,a,rfl,e⟩
 |j+3=>cases h
theorem Aen{I:Gi}{ids row vs:Bb}{s:Bp}{r:Bb}(h:Aeg fI (UU gg row vs) I)(hO:ba prog fI 57 [.ptr (Ag gg) 0,aE aj ids] (aE aj row))(hV:ba prog fI 276 [.ptr (Ag gg) 0,aE aj ids] (aE aj vs))(hn:vs.length<=1000)
  (hS:ba prog fI 229 [.ptr (Ag gg) 0,aE aj row] (aE cZ s)) (hsn:s.length<=1000) (hr:Aem I (UU gg row vs) s=some r):iV prog fI 106 [.ptr (Ag gg) 0,aE aj ids] 25 r.length (r.flatMap aj):=by
 unfold Aem at hr
 cases hd:Agi I (UU gg row vs) (O5 I.cards s) with
 |none=>rw[hd] at hr;cases hr
 |some v=>
  rw[hd] at hr
  obtain rfl:=Bo hr
  have h':Aeg fI (wV (UU gg row vs) v) I:=⟨h.g,h.c,h.o,h.n⟩
  have hg:=Adu h'
  have hof:=Aml hO hV hn
  have a:=Aek h hS hsn hd
  generalize UU gg row vs=al at*
  refine OW func106 ?_
  exact EI [hfm 8 [] 0 3 0 [] [.ptr (Ag gg) 0,aE aj ids] (σ3 al) hof Af6 (Amm rfl rfl rfl),hfm 10 [0,1,2] 3 0 3 (σ3 al) [.ref 0 0] (σ3 (wV al v)) a in3 (Amm rfl rfl rfl),hz 12 [0,1,2] (AaC (al:=wV al v) (c:=3) hg)] (ac.imm (JN I (wV al v)))
def LL(o:Bq):JJ:=bif o.Kind=1 then some o.By else bif o.Kind=2 then some o.Device else bif o.Kind=13 then some o.Device else none
def Tl(I:Gi)(acc:Bp)(x:Ab):Bp:=match LL (I.o x) with
 |none=>acc
 |some d=>bif acc.any (λy=>decide (d=y))then acc else acc++[d]
def NQ(I:Gi)(row:Bb):Bp:=row.foldl (Tl I) []
theorem Agm{I:Gi}{acc:Bp}:(Tl I acc x).length<=acc.length+1:=by grind [Tl]
theorem XW{I:Gi}:∀{l:Bb} {acc:Bp},(l.foldl (Tl I) acc).length<=acc.length+l.length
 |[],acc=>Dl _
 |x::r,acc=>by have h1:=XW (I:=I) (l:=r) (acc:=Tl I acc x);grind [Agm]
section
variable {gl:CB} {gg:Az}
abbrev Agn(gg:Az)(ids:Bb):G:= .clo (.func 188) [] [.ptr [.ptr (Ag gg) 0] 0,.ptr [aE aj ids] 0]
theorem Ady(ids:Bb):ba prog gl 110 [.ptr (Ag gg) 0,aE aj ids] (Agn gg ids):=by refine Gh func110 ?_;refine pO [1,0] (s0 6 gl [(2,.ptr [.ptr (Ag gg) 0] 0),(3,.ptr [aE aj ids] 0)] [] 0 0) [] [hc (eB (gs:=[.ptr (Ag gg) 0]) aH),hc (aY (aG 20 (aE aj ids) aH) bf)] ?_;exact Ar [] []
noncomputable abbrev cSe:Code:=bq 111012 (ai Tryz.f229)
noncomputable abbrev U0(st:LoopState):Option Ob:=some ⟨0,[],some (.loop st none 22 [(5,.ref 0 0)] (Dy cSe) (Dz cSe) (DA cSe))⟩
abbrev Amn(gg:Az)(row:Bb)(k:Nat):Fr:=[(0,.yld 1),(1,.ptr [.ptr (Ag gg) 0] 0),(11,aE aj row),(12,iG (ah row)),(13,iG (k:Int))]
noncomputable abbrev σCa(acc:Bp):aQ:=[(0,bxI (.rsl 2 0 acc.length)),(1,U0 .ready),(2,Ko acc)]
noncomputable abbrev Ake(gl:CB)(gg:Az)(row:Bb)(k:Nat)(acc:Bp):St:=(s0 40 gl (Amn gg row k) (σCa acc) 3 2)
noncomputable abbrev ZM(gl:CB)(gg:Az)(row:Bb)(k:Nat)(acc:Bp)(x:Ab)(d:Int):St:=(s0 40 gl ((5,.ref 3 0)::(8,iG d)::Amn gg row k) (σCa acc++[(3,O7 x)]) 4 2)
abbrev ρC3:DF:=[(0,0),(1,1),(2,2)]
abbrev ρC4:DF:=[(0,0),(1,1),(2,2),(3,3)]
theorem Ago{l:Bp}{d:Int}{i c:Nat}(hn:l.length<=1000000):oJ prog gl 66 [.rsl i 0 l.length,iG d] [(i,Ko l)] c (bG (l.any λy=>decide (d=y))) [] c:=
 PJ aH (DD gl (SP aa d)) (lR _) rfl λst h j y z h1 h2=>by
  match j with
  |0=>cases h1;cases h2;have ho:ag st.σ i=Ko l:=h i _ (by rw[Bf,BB rfl]);exact FD (s:=1) ho aH (by grind [A3.len,rZ]) (rZ.len l) (by grind [jB,A3.imm,rZ])
  |1=>grind [jB,mN]
  |j+2=>cases h1
theorem XX{I:Gi}(h:Nk gl gg I){ids row:Bb}(hO:ba prog gl 57 [.ptr (Ag gg) 0,aE aj ids] (aE aj row))(hn:row.length<=1000):ba prog gl 229 [.ptr (Ag gg) 0,aE aj ids] (aE cZ (NQ I row)):=by
 refine Gh func229 ?_;refine YR [1,1,0,1,2] (s0 22 gl [(5,.ref 0 0),(10,Agn gg ids)] [(0,bxI (.lit (.slice none 0 0)))] 1 0) [hf 10 (Ady (gl:=gl) (gg:=gg) ids)] ?_;refine Xt (fst:=[]) (cap:=[.ptr [.ptr (Ag gg) 0] 0,.ptr [aE aj ids] 0]) Tryz.f188 func188 ?_;refine dLl (l:=row) aa (λk:Nat=>Ake gl gg row k ((row.take k).foldl (Tl I) [])) [1,2,2] [hf 11 hO] [hc (rZ.imm [])] (λB k x hx e k5=>?_) (λB=>?_) (vs:=[3]) (ρ:=ρC3) (kd:=[(2,.row)])
 .have hlt:=(cr hx).1;have hal:=XW (I:=I) (l:=row.take k) (acc:=[]);rw[MG,List.length_nil] at hal;rw[Jk,hx,Option.toList_some,No,List.foldl_cons,List.foldl_nil] at k5;generalize (row.take k).foldl (Tl I) []=acc at k5 hal⊢;have ho:=h.op x;have hb2:k<1000000:=aa;have fin:∀d,B (Ake gl gg row (k+1) (bif acc.any (λy=>decide (d=y))then acc else acc++[d]))->Gp prog Tryz.f188 (sI prog (s0 22 gl [(5,.ref 0 0),(10,Agn gg ids)] [(0,bxI (.lit (.slice none 0 0)))] 1 0) (dz prog (bE [1,1,0,1,2] (ai Tryz.f229) [] []) (tH prog Tryz.f229 (aE cZ (NQ I row))))) [B] false [1,2,2,1,1,0,2,1,1,1,1,0] (ZM gl gg row k acc x d):=λd hB=>by
   have f:=Ago (gl:=gl) (l:=acc) (d:=d) (i:=2) (c:=4) aa;cases cc:acc.any (λy=>decide (d=y)) with
   |true=>
    rw[cc] at hB f;refine Xw (i:=1) (j:=3) (n:=22) (t:=0) (t2:=0) (pe:=none) (fr:=[(5,.ref 0 0)]) (ps:=Dy cSe) (a:=Dz cSe) (b:=DA cSe) (s1:=(s0 40 gl ([(36,iG d),(35,.agg (aj x)),(34,.yld 1)]++(ZM gl gg row k acc x d).fr) ((ZM gl gg row k acc x d).σ) 4 2))
     (s3:=(s0 40 gl ([(38,bG false),(37,bG true),(36,iG d),(35,.agg (aj x)),(34,.yld 1)]++(ZM gl gg row k acc x d).fr) ((1,U0 .ready)::[(0,bxI (.rsl 2 0 acc.length)),(1,U0 .busy),(2,Ko acc)]) 4 2))
     [(0,bxI (.rsl 2 0 acc.length)),(1,U0 .busy),(2,Ko acc)] 4 (.loop .ready none 22 [(5,.ref 0 0)] (Dy cSe) (Dz cSe) (DA cSe)) [] [] ?_ ?_
    .refine C9 .normal ⟨22,gl,[(5,.ref 0 0),(7,iG d)],[(0,bxI (.rsl 2 0 acc.length)),(1,U0 .ready),(2,Ko acc)],4,4,true⟩ [] [hc (rfl:acc.length=acc.length),hc (rZ.imm acc)] (Xv Tryz.f229 ?_ rfl) (ρ:=ρC4);exact C9 .normal ⟨22,gl,[],[(0,bxI (.rsl 2 0 acc.length)),(1,U0 .busy),(2,Ko acc)],4,4,true⟩ [hz 15 [2] f] [hc (rfl:acc.length=acc.length),hc (rZ.imm acc)] (by grind [jy]) (ρ:=ρC4) (kd:=[(2,.row)])
    .exact jw [hbb 39 (Xl (q:=k) aa)] [hc (rfl:acc.length=acc.length),hc (rZ.imm acc)] hB [] ρC3 [(2,.row)]
   |false=>
    rw[cc] at hB f;refine Xw (i:=1) (j:=3) (n:=22) (t:=0) (t2:=0) (pe:=none) (fr:=[(5,.ref 0 0)]) (ps:=Dy cSe) (a:=Dz cSe) (b:=DA cSe) (s1:=(s0 40 gl ([(36,iG d),(35,.agg (aj x)),(34,.yld 1)]++(ZM gl gg row k acc x d).fr) ((ZM gl gg row k acc x d).σ) 4 2))
     (s3:=(s0 40 gl ([(38,bG false),(37,bG true),(36,iG d),(35,.agg (aj x)),(34,.yld 1)]++(ZM gl gg row k acc x d).fr) ((1,U0 .ready)::[(0,bxI (.rsl 4 0 (acc++[d]).length)),(1,U0 .busy),(4,Ko (acc++[d]))]) 5 2))
     [(0,bxI (.rsl 4 0 (acc++[d]).length)),(1,U0 .busy),(4,Ko (acc++[d]))] 5 (.loop .ready none 22 [(5,.ref 0 0)] (Dy cSe) (Dz cSe) (DA cSe)) [] [] ?_ ?_
    .refine C9 .normal ⟨22,gl,[(5,.ref 0 0),(7,iG d)],[(0,bxI (.rsl 2 0 acc.length)),(1,U0 .ready),(2,Ko acc)],4,4,true⟩ [] [hc (rfl:acc.length=acc.length),hc (rZ.imm acc)] (Xv Tryz.f229 ?_ rfl) (ρ:=ρC4);exact C9 .normal ⟨22,gl,[],[(0,bxI (.rsl 4 0 (acc++[d]).length)),(1,U0 .busy),(4,Ko (acc++[d]))],5,4,true⟩ [hz 15 [2] f,Tn 20 rZ 8 acc d aa] [hc (el (acc++[d])),hc (rZ.imm (acc++[d]))] (by grind [jy]) (ρ:=rI 4++[(4,5)]) (kd:=[(4,.row)])
    .exact jw [hbb 39 (Xl (q:=k) aa)] [hc (el (acc++[d])),hc (rZ.imm (acc++[d]))] hB [] [(0,0),(1,1),(2,4)] [(2,.row)]
  unfold Tl at k5;generalize I.o x=o at ho k5;unfold LL at k5;cases b1:decide (o.Kind=1) with
  |true=>rw[b1] at k5;exact pO 1122110211110 (ZM gl gg row k acc x o.By) [hr 14 (C7 hx),AH 15 (ac.ixZ e),AH 16 (ac.ptZ aW e),hf 20 ho,hr 26 b1] [hc (rfl:acc.length=acc.length),hc (rZ.imm acc)] (fin _ k5) [] ρC4 [(2,.row)]
  |false=>
   rw[b1,Be] at k5;cases b2:decide (o.Kind=2) with
   |true=>rw[b2] at k5;exact pO 1122110211110 (ZM gl gg row k acc x o.Device) [hr 14 (C7 hx),AH 15 (ac.ixZ e),AH 16 (ac.ptZ aW e),hf 20 ho,hr 26 b1,hr 30 b2] [hc (rfl:acc.length=acc.length),hc (rZ.imm acc)] (fin _ k5) [] ρC4 [(2,.row)]
   |false=>
    rw[b2,Be] at k5;cases b3:decide (o.Kind=13) with
    |true=>rw[b3] at k5;exact pO 1122110211110 (ZM gl gg row k acc x o.Device) [hr 14 (C7 hx),AH 15 (ac.ixZ e),AH 16 (ac.ptZ aW e),hf 20 ho,hr 26 b1,hr 30 b2,hr 31 b3] [hc (rfl:acc.length=acc.length),hc (rZ.imm acc)] (fin _ k5) [] ρC4 [(2,.row)]
    |false=>rw[b3] at k5;exact jw [hr 14 (C7 hx),AH 15 (ac.ixZ e),AH 16 (ac.ptZ aW e),hf 20 ho,hr 26 b1,hr 30 b2,hr 31 b3,hbb 39 (Xl (q:=k) aa)] [hc (rfl:acc.length=acc.length),hc (rZ.imm acc)] k5 [] ρC3 [(2,.row)]
 .rw[EG];show Gp _ _ _ _ _ _ (Ake gl gg row row.length (NQ I row));generalize NQ I row=acc;refine C9 .normal (s0 40 gl [] [(0,bxI (.rsl 2 0 acc.length)),(1,U0 .ready),(2,Ko acc)] 3 2) [hr 14 (DZ (s:=row))] [hc (rfl:acc.length=acc.length),hc (rZ.imm acc)] (Xu ?_ rfl) (kd:=[(2,.row)]);exact Ar [] [hc (rZ.al acc)]
end
end Go.Proofs.YtdpdicldkohflaaGreatDoor
