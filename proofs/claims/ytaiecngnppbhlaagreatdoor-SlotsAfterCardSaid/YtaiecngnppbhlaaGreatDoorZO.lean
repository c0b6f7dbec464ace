/- Texts. -/
import Derived.Test.YtaiecngnppbhlaaGreatDoorVh
namespace Go.Proofs.YtaiecngnppbhlaaGreatDoor
set_option linter.unusedSectionVars false
set_option linter.unusedVariables false
set_option linter.unusedSimpArgs false
open Go.RowKit Tryz
attribute [local irreducible] Tr dz Gp
variable (gl:List (Nat×List G))
variable {α:Type}{ids l l0 p r row vs:List DIdent}{pv x y:DIdent}{a:List DIdent×FM DIdent Bool}{b:List Bool×List Bool×Int}{j k n:Nat}{gg:DGraphGraph}{d m v:Int}{s:List Int}{o:DOp}{y':D15M}{x':DRollMember}{cs:List DCard}{D V:List Bool}{dl:D16L}{al:DAuthList}{R:DRollRoll}{N:List DGraphNode}{I:Gi}
structure OrN {α:Type} (cmp:α->α->Int) (D:α->Prop):Prop where
 tr:∀x y z,cmp x y<0->cmp y z<0->cmp x z<0
 tt:∀x y,D x->D y->x≠y->cmp x y<0\/cmp y x<0
def Rg{α:Type}(a b:Nat)(l r:List α):Prop:=r.Perm l/\∀q,(q<a\/b<=q)->r[q]?=l[q]?
def R6{α:Type}(cmp:α->α->Int)(a b:Nat)(l:List α):Prop:=∀p q x y,a<=p->p<q->q<b->l[p]?=some x->l[q]?=some y->cmp x y<0
def OrX{α:Type}(cmp:α->α->Int)(a b:Nat)(l:List α):Prop:=∀p q x y,p<q->¬(a<=p/\q<b)->l[p]?=some x->l[q]?=some y->cmp x y<0
theorem Rg.refl{α:Type}{a b:Nat}(l:List α):Rg a b l l:=⟨.refl _,λ_ _=>rfl⟩
theorem Rg.trans{α:Type}{a b:Nat}{l r s:List α}(h:Rg a b l r)(k:Rg a b r s):Rg a b l s:=⟨k.1.trans h.1,λq hq=>(k.2 q hq).trans (h.2 q hq)⟩
theorem Rg.mono{α:Type}{a b a' b':Nat}{l r:List α}(h:Rg a b l r)(ha:a'<=a)(hb:b<=b'):Rg a' b' l r:=⟨h.1,λq hq=>h.2 q aa⟩
theorem Rg.len{α:Type}{a b:Nat}{l r:List α}(h:Rg a b l r):r.length=l.length:=h.1.length_eq
theorem rj{l:List α}(h:l.Nodup){p q:Nat}{x:α}(h1:l[p]?=some x)(h2:l[q]?=some x):p=q:=by grind [List.getElem?_inj]
theorem Rg.src{α:Type}{a b:Nat}{l r:List α}(h:Rg a b l r)(hn:l.Nodup){q:Nat}{y:α}(h1:a<=q)(h2:q<b)(hy:r[q]?=some y):∃c,a<=c/\c<b/\l[c]?=some y:=by
 obtain⟨c,hq⟩:=List.getElem?_of_mem (h.1.mem_iff.1 (bO hy));refine⟨c,?_⟩;rcases(by omega:(c<a\/b<=c)\/(a<=c/\c<b)) with h3|h3
 .have:=rj (h.1.nodup_iff.2 hn) hy ((h.2 c h3).trans hq);omega
 .exact⟨h3.1,h3.2,hq⟩
theorem OrX.rg{α:Type}{cmp:α->α->Int}{a b:Nat}{l r:List α}(h:OrX cmp a b l)(k:Rg a b l r)(hn:l.Nodup):OrX cmp a b r:=by
 have src:∀q y,r[q]?=some y->∃c,l[c]?=some y/\(c=q\/(a<=q/\q<b/\a<=c/\c<b)):=λq y hy=>by
  rcases(by omega:(q<a\/b<=q)\/(a<=q/\q<b)) with h3|h3
  .exact⟨q,(k.2 q h3).symm.trans hy,.inl rfl⟩
  grind [Rg.src]
 intro p q x y e hb hx hy;obtain⟨f,hx',hp⟩:=src p x hx;obtain⟨c,d,hq⟩:=src q y hy;exact h f c x y aa aa hx' d
theorem N8{l:List α}{i j:Nat}(hi:i<l.length)(hj:j<l.length):∃r,PH l i j=some r/\r.Perm l/\∀q,r[q]?=if q=j then l[i]? else if q=i then l[j]? else l[q]? :=by refine⟨(l.set i l[j]).set j l[i],?_,List.set_set_perm hi hj,λq=>?_⟩;all_goals grind [PH]
theorem Fk{a b i j:Nat}{l r:List α}(h:r.Perm l)(hq:∀q,r[q]?=if q=j then l[i]? else if q=i then l[j]? else l[q]?)(h1:a<=i)(h2:i<b)(h3:a<=j)(h4:j<b):Rg a b l r:=by constructor<;>grind
section
variable {α:Type} {cmp:α->α->Int} {D:α->Prop} (hO:OrN cmp D)
include hO
theorem OrN.lt{l:List α}(hn:l.Nodup)(hD:∀z∈l,D z){p q:Nat}{x y:α}(hx:l[p]?=some x)(hy:l[q]?=some y)(a:p≠q)(h:¬cmp y x<0):cmp x y<0:=by grind [OrN,rj]
theorem R6.all{a b:Nat}{l:List α}(h:R6 cmp a b l)(k:OrX cmp a b l):R6 cmp 0 l.length l:=λp q x y _ c _ hx hy=>by
 by_cases hh:a<=p/\q<b
 .exact h p q x y hh.1 c hh.2 hx hy
 .exact k p q x y c hh hx hy
theorem JF{a b:Nat}{l:List α}(hn:l.Nodup)(hD:∀z∈l,D z)(ha:a<=1000)(hb:b<=l.length)(hl:l.length<=1000):T (N7 cmp (a:Int) (b:Int) l) λr=>Rg a b l r/\R6 cmp a b r:=by
 unfold N7;rw[show wI ((a:Int)+1)=wI ((a:Nat)+1) from rfl];rw[aq aa];refine T.loop (λs=>∃i:Nat,s.2=(i:Int)/\a+1<=i/\(i<=b\/i=a+1)/\Rg a b l s.1/\R6 cmp a i s.1) (λs=>b-s.2.toNat) ⟨a+1,rfl,Nat.le_refl _,.inr rfl,.refl l,λp q x y h1 h2 h3=>aa⟩ (by show b-_<_;omega) ?_;rintro⟨l1,A⟩ ⟨i,e,h1,h2,h3,h4⟩;dsimp only at e h3 h4;subst e;have f:=h3.1.nodup_iff.2 hn;have hl1:=h3.len;unfold Ju;dsimp only;refine .dec (λhlt=>?_) λhge=> .some ⟨h3,λp q x y k1 k2 k3=>h4 p q x y k1 k2 aa⟩;have hib:i<b:=aa;refine .bind ((T.loop (λs=>∃j:Nat,s.2=(j:Int)/\a<=j/\j<=i/\Rg a b l1 s.1/\∀p q x y,a<=p->p<q->q<=i->q≠j->s.1[p]?=some x->s.1[q]?=some y->cmp x y<0) (λs=>s.2.toNat) (Q:=λr=>Rg a b l1 r/\R6 cmp a (i+1) r) ⟨i,rfl,aa,Nat.le_refl _,.refl l1,λp q x y k1 k2 k3 d=>h4 p q x y k1 k2 aa⟩ (by show((i:Int)).toNat<_;omega) ?_).mono λr hr=> .some ⟨⟨i+1,aq aa,aa,.inl aa,h3.trans hr.1,hr.2⟩,?_⟩)
 .rintro⟨l2,B⟩ ⟨j,e,k1,k2,k3,d⟩;dsimp only at e k3 d;subst e;have g:=k3.1.nodup_iff.2 f;have hl2:=k3.len;unfold Jt;dsimp only;refine .dec (λh=>?_) λh=> .some ⟨k3,λp q x y m1 m2 m3=>d p q x y m1 m2 aa aa⟩;obtain⟨k,rfl⟩:∃k,j=k+1:=⟨j-1,aa⟩;have ew:wI (((k+1:Nat):Int)-1)=(k:Int):=by grind [bM]
  have gx:l2[k+1]?=some (l2[k+1]'aa):=fy _;have gy:l2[k]?=some (l2[k]'aa):=fy _;generalize l2[k+1]'aa=x at gx;generalize l2[k]'aa=y at gy;rw[ew,au,au,gx,gy,aL,aL];refine .dec (λhc=>?_) λhc=> .some ⟨k3,λp q u v m1 m2 m3 hu hv=>?_⟩
  .obtain⟨r,t,pr,m⟩:=N8 (l:=l2) (i:=k+1) (j:=k) aa aa;obtain⟨C,E,hx',c,n⟩:=mG t;rw[gx] at hx';rw[gy] at c;cases hx';cases c;rw[stZ (x:=y) gx,aL,acT (w:=x) (x:=x) (z:=y) (i:=k+1) gy,aL,<-n];refine .some ⟨⟨k,rfl,aa,aa,k3.trans (Fk pr m aa aa aa aa),λp q u v m1 m2 m3 o hu hv=>?_⟩,by simp_all⟩;rw[m p] at hu;rw[m q] at hv;rw[if_neg o] at hv;by_cases c1:q=k+1
   .subst c1;rw[if_pos rfl,gy] at hv;cases hv;by_cases c2:p=k
    .grind
    .rw[if_neg c2,if_neg aa] at hu;grind
   .rw[if_neg c1] at hv;by_cases c2:p=k
    .grind
    .rw[if_neg c2] at hu;by_cases c3:p=k+1;all_goals grind
  .have hyx:=hO.lt g (λz hz=>hD z (h3.1.mem_iff.1 (k3.1.mem_iff.1 hz))) gy gx aa hc;by_cases c1:q=k+1
   .subst c1;rw[gx] at hv;cases hv;by_cases c2:p=k
    .grind
    .exact hO.tr _ _ _ (d p k u y m1 aa aa aa hu gy) hyx
   grind
 .show b-((wI ((i:Int)+1))).toNat<b-((i:Int)).toNat;rw[aq aa];omega
end
section
variable {cmp:DIdent->DIdent->Int} (hO:OrN cmp λ_=>True)
include hO
structure PI (cmp:DIdent->DIdent->Int) (l0:List DIdent) (a b:Nat) (pv:DIdent) (l:List DIdent) (i j:Nat):Prop where
 rg:Rg a b l0 l
 gp:l[a]?=some pv
 hi:a+1<=i
 hj:j<b
 hij:i<=j+1
 lo:∀q x,a<q->q<i->l[q]?=some x->cmp x pv<0
 up:∀q x,j<q->q<b->l[q]?=some x->¬cmp x pv<0
omit hO in
theorem VX{a b i:Nat}{β:Type}{K:Nat->Nat->Option β}{Q:β->Prop}(h:PI cmp l0 a b pv l i j)(hb:b<=l.length)(hl:l.length<=1000)
  (g:∀e d,PI cmp l0 a b pv l e d->d<=j->(d<e\/(e<d/\(∃x,l[e]?=some x/\¬cmp x pv<0)/\∃y,l[d]?=some y/\cmp y pv<0))->T (K e d) Q):
  T ((bo (scU cmp l a j) i).bind λe=>(bo (scD cmp l a e) j).bind λd=>K e d) Q:=by
 have hj:=h.hj
 refine .bind ((T.loop (λe=>PI cmp l0 a b pv l e j) (λe=>j+1-e) (Q:=λe=>PI cmp l0 a b pv l e j/\(j<e\/∃x,l[e]?=some x/\¬cmp x pv<0)) h aa λe h'=>?_).mono λe hi=>?_)
 .unfold scU
  refine .dec (λhc=>?_) λhc=> .some ⟨h',.inl aa⟩
  have gx:l[e]?=some (l[e]'aa):=fy _
  generalize l[e]'aa=x at gx
  rw[gx,h'.gp,aL,aL]
  refine .dec (λhx=> .some ⟨⟨h'.rg,h'.gp,Nat.le_succ_of_le h'.hi,h'.hj,aa,λq y k1 k2 hy=>?_,h'.up⟩,aa⟩) λhx=> .some ⟨h',.inr ⟨x,gx,hx⟩⟩
  grind [PI.lo]
 .obtain⟨hi,hx⟩:=hi
  refine .bind ((T.loop (λd=>PI cmp l0 a b pv l e d/\d<=j) (λd=>d) (Q:=λd=>(PI cmp l0 a b pv l e d/\d<=j)/\(d<e\/∃y,l[d]?=some y/\cmp y pv<0)) ⟨hi,Nat.le_refl _⟩ aa λd ⟨h',f⟩=>?_).mono λd hj'=>?_)
  .unfold scD
   refine .dec (λhc=>?_) λhc=> .some ⟨⟨h',f⟩,.inl aa⟩
   have:=h'.hi
   have:=h'.hj
   have gx:l[d]?=some (l[d]'aa):=fy _
   generalize l[d]'aa=y at gx
   rw[gx,h'.gp,aL,aL]
   refine .dec (λhy=> .some ⟨⟨h',f⟩,.inr ⟨y,gx,hy⟩⟩) λhy=>?_
   rw[show Nat.blt 0 d=true from Nat.ble_eq_true_of_le aa,aN]
   refine .some ⟨⟨⟨h'.rg,h'.gp,h'.hi,aa,aa,h'.lo,λq x k1 k2 hx=>?_⟩,aa⟩,aa⟩
   by_cases c:q=d
   .grind
   .exact h'.up q x aa k2 hx
  grind
omit hO in
theorem abC{a b i:Nat}(h:PI cmp l0 a b pv l i j)(hb:b<=l.length)(hij:i<j)(gx:l[i]?=some x)(hx:¬cmp x pv<0)(gy:l[j]?=some y)(hy:cmp y pv<0):∃r,PH l i j=some r/\PI cmp l0 a b pv r (i+1) (j-1)/\0<j:=by
 have h1:=h.hi;have h2:=h.hj;obtain⟨r,e,pr,d⟩:=N8 (l:=l) (i:=i) (j:=j) aa aa;refine⟨r,e,⟨h.rg.trans (Fk pr d aa aa aa aa),?_,aa,aa,aa,λq z k1 k2 hz=>?_,λq z k1 k2 hz=>?_⟩,aa⟩
 .grind [PI.gp]
 .grind [PI.lo]
 .rw[d q] at hz;by_cases c:q=j
  .grind
  .rw[if_neg c,if_neg aa] at hz;exact h.up q z aa k2 hz
def Prt(cmp:DIdent->DIdent->Int)(a b m:Nat)(l:List DIdent):Prop:=a<=m/\m<b/\∃c,l[m]?=some c/\(∀q x,a<=q->q<m->l[q]?=some x->cmp x c<0)/\∀q x,m<q->q<b->l[q]?=some x->¬cmp x c<0
omit hO in
theorem V2{a b i:Nat}(h:PI cmp l0 a b pv l i j)(hb:b<=l.length)(hij:j<i):∃r,PH l j a=some r/\Rg a b l0 r/\Prt cmp a b j r:=by
 have h1:=h.hi;have h2:=h.hj;have h3:=h.hij;obtain⟨r,c,pr,d⟩:=N8 (l:=l) (i:=j) (j:=a) aa aa;refine⟨r,c,h.rg.trans (Fk pr d aa aa aa aa),aa,aa,pv,?_,λq x k1 k2 hx=>?_,λq x k1 k2 hx=>?_⟩
 .grind [PI.gp]
 .grind [PI]
 grind [PI.up]
theorem aeT{a b p:Nat}(hl:l.length<=1000)(hb:b<=l.length)(hap:a<=p)(c:p<b):T (paS cmp a b p l) λr=>Rg a b l r.2.2/\Prt cmp a b r.1 r.2.2:=by
 obtain⟨l0,e0,d,q0⟩:=N8 (l:=l) (i:=a) (j:=p) aa aa;have hl0:=d.length_eq;have g:=Fk (a:=a) (b:=b) d q0 (Nat.le_refl _) aa hap c;unfold paS;refine .eqb e0 ?_;have gp:l0[a]?=some (l0[a]'aa):=fy _;generalize l0[a]'aa=pv at gp;have h0:PI cmp l a b pv l0 (a+1) (b-1):=by grind [PI]
 refine VX h0 aa aa λi j h1 _ h2=>?_;refine .dec (λhc=>?_) λhc=>?_
 .grind [V2,T.some]
 .rcases h2 with h2|⟨h2,⟨x,gx,hx⟩,y,gy,hy⟩
  .omega
  obtain⟨l1,e1,k1,k2⟩:=abC h1 aa h2 gx hx gy hy;rw[show Nat.blt 0 j=true from Nat.ble_eq_true_of_le k2,aN];refine .eqb e1 (.bind ((T.loop (λs=>PI cmp l a b pv s.1 s.2.1 s.2.2) (λs=>s.2.2) (Q:=λs=>∃i,PI cmp l a b pv s.1 i s.2/\s.2<i) k1 (by grind) ?_).mono λs hs=>?_))
  .rintro⟨l2,h,e⟩ h3;dsimp only at h3;have hl2:=h3.rg.len;unfold paT;dsimp only;rw[decide_eq_true aa,aN];refine VX h3 aa aa λi j h4 f h5=>?_;refine .dec (λhc=> .some ⟨i,h4,by show j<i;omega⟩) λhc=>?_;rcases h5 with h5|⟨h5,⟨x,gx,hx⟩,y,gy,hy⟩
   .omega
   obtain⟨l3,e3,m1,m2⟩:=abC h4 aa h5 gx hx gy hy;rw[show Nat.blt 0 j=true from Nat.ble_eq_true_of_le m2,aN];refine .eqb e3 (.some ⟨m1,?_⟩);show j-1<e;omega
  .obtain⟨i,h3,h4⟩:=hs;have:=h3.rg.len;grind [V2,T.some]
omit hO in
theorem ac1{x y s:Nat}(hx:x<l.length)(hy:y<l.length):T (Xd cmp l x y s) λr=>((r.1=x/\r.2.1=y)\/(r.1=y/\r.2.1=x))/\r.2.2<=s+1:=by grind [Xd,T.some]
omit hO in
theorem agE{a b:Nat}(hB:Big a b)(hb:b<=l.length):T (chS cmp l a) λr=>a<=r.1/\r.1<b:=by
 have h9:a+9<b:=by rcases hB with⟨rfl,rfl⟩|⟨rfl,rfl⟩|⟨rfl,rfl⟩<;>omega
 unfold chS meS;refine .bind (.bind ((ac1 aa aa).mono λd h1=> .bind ((ac1 aa aa).mono λe h2=> .bind ((ac1 aa aa).mono λc h3=> .some ?_))));dsimp only at*;rw[decide_eq_true (show c.2.2<=3 by omega),aN];exact .some (show a<=c.2.1/\c.2.1<b by omega)
theorem agF{a b:Nat}(hn:l.Nodup)(hb:b<=l.length)(d:a<b)(hl:l.length<=1000):T (piS cmp l a b) λf=>f=true->R6 cmp a b l:=by
 have adj:∀k,(∀q x y,a<=q->q<k->l[q]?=some x->l[q+1]?=some y->cmp x y<0)->R6 cmp a (k+1) l:=λk h=>by
  have key:∀n p x y,a<=p->p+n+1<=k->l[p]?=some x->l[p+n+1]?=some y->cmp x y<0:=by
   intro n;induction n with
   |zero=>grind
   |succ n ih=>intro p x y h1 h2 hx hy;have hlt:=(cr hy).1;have hz:l[p+n+1]?=some (l[p+n+1]'aa):=fy _;exact hO.tr _ _ _ (ih p x _ h1 aa hx hz) (h (p+n+1) _ y aa aa hz hy)
  intro p q x y h1 h2 h3 hx hy;obtain⟨n,rfl⟩:∃n,q=p+n+1:=⟨q-p-1,aa⟩;exact key n p x y h1 aa hx hy
 unfold piS;refine .bind ((T.loop (λk=>a<=k/\k<b/\∀q x y,a<=q->q<k->l[q]?=some x->l[q+1]?=some y->cmp x y<0) (λk=>b-k) (Q:=λk=>k<b/\∀q x y,a<=q->q<k->l[q]?=some x->l[q+1]?=some y->cmp x y<0) (by grind) aa λk hk=>?_).mono λk hk=> .some λhf=>?_)
 .obtain⟨h1,h2,h3⟩:=hk;unfold scS;refine .dec (λhc=>?_) λhc=> .some ⟨h2,h3⟩;have gx:l[k+1]?=some (l[k+1]'aa):=fy _;have gy:l[k]?=some (l[k]'aa):=fy _;generalize l[k+1]'aa=x at gx;generalize l[k]'aa=y at gy;rw[gx,gy,aL,aL];refine .dec (λhx=> .some ⟨h2,h3⟩) λhx=> .some ⟨⟨aa,aa,λq u v k1 k2 hu hv=>?_⟩,aa⟩;by_cases c:q=k
  .subst c;grind [OrN.lt]
  grind
 .have hf:=of_decide_eq_true hf;have:=adj k hk.2;grind
omit hO in
theorem agH(hl:l.length=14):T (bo brT (0,l)) λr=>Rg 1 14 l r:=by
 refine T.loop (λs=>s.1<=3/\Rg 1 14 l s.2) (λs=>3-s.1) ⟨Nat.zero_le _,.refl l⟩ (show 3-0<4611686018427387904 by decide) ?_;rintro⟨j,r⟩ ⟨h1,h2⟩;dsimp only at h1 h2;have hr:=h2.len;unfold brT;rcases(by omega:j=0\/j=1\/j=2\/j=3) with rfl|rfl|rfl|rfl
 .obtain⟨r',e,p,q⟩:=N8 (l:=r) (i:=6) (j:=1) aa aa;exact .eqb e (.some ⟨⟨show 1<=3 by decide,h2.trans (Fk p q dL dL dL dL)⟩,show 3-1<3-0 by decide⟩)
 .obtain⟨r',e,p,q⟩:=N8 (l:=r) (i:=7) (j:=12) aa aa;exact .eqb e (.some ⟨⟨show 2<=3 by decide,h2.trans (Fk p q dL dL dL dL)⟩,show 3-2<3-1 by decide⟩)
 .obtain⟨r',e,p,q⟩:=N8 (l:=r) (i:=8) (j:=6) aa aa;exact .eqb e (.some ⟨⟨show 3<=3 by decide,h2.trans (Fk p q dL dL dL dL)⟩,show 3-3<3-2 by decide⟩)
 .exact .some h2
structure PdI (cmp:DIdent->DIdent->Int) (l0:List DIdent) (s:PdS):Prop where
 pm:s.1.Perm l0
 ab:s.2.1<=s.2.2.1
 bn:s.2.2.1<=l0.length
 ox:OrX cmp s.2.1 s.2.2.1 s.1
 lm:12<s.2.2.1-s.2.1->4<=s.2.2.2.1+(14-(s.2.2.1-s.2.1))
 lh:s.2.2.2.1<=100
 bl:s.2.2.2.2.1=false->s.2.2.1-s.2.1<=12\/(s.2.1=1/\s.2.2.1=14)
theorem aeU(hn:l0.Nodup)(hl:l0.length<=14){s:PdS}(h0:PdI cmp l0 s):T (bo (pdT cmp) s) λr=>r.Perm l0/\R6 cmp 0 r.length r:=by
 refine T.loop (PdI cmp l0) (λs=>s.2.2.1-s.2.1) h0 (by grind [PdI]) ?_;rintro⟨l,a,b,n,A,par⟩ ⟨pm,ab,bn,ox,lm,lh,bl⟩;dsimp only at pm ab bn ox lm lh bl;have hll:=pm.length_eq;have hnl:=pm.nodup_iff.2 hn;unfold pdT;dsimp only;rw[decide_eq_true (by grind),aN];refine .dec (λhc=>?_) λhc=>?_
 .refine .bind ((JF hO hnl (λ_ _=>trivial) aa aa aa).mono λr hr=> .some ⟨hr.1.1.trans pm,?_⟩);grind [R6.all,OrX.rg]
 have hbig:12<b-a:=aa;have lm:=lm hbig;have hB:Big a b:=by
  rcases(by omega:(a=0/\b=13)\/(a=0/\b=14)\/(a=1/\b=14)) with⟨rfl,rfl⟩|⟨rfl,rfl⟩|⟨rfl,rfl⟩
  .exact .inl ⟨rfl,rfl⟩
  .exact .inr (.inl ⟨rfl,rfl⟩)
  .exact .inr (.inr ⟨rfl,rfl⟩)
 have hBb:aat a b=true:=by rcases hB with⟨rfl,rfl⟩|⟨rfl,rfl⟩|⟨rfl,rfl⟩<;>rfl
 rw[hBb,show Nat.blt 0 n=true from Nat.ble_eq_true_of_le aa,show Nat.ble n 100=true from Nat.ble_eq_true_of_le lh];simp only[Bool.and_self,aN];have hbr:T (brG l a b n A) λq=>Rg a b l q.1/\n<=q.2+1/\q.2<=n:=by grind [brG,T.some,Rg.refl,T.bind,T.mono,agH,Rg.len,Nat.beq_refl]
 refine .bind (hbr.mono ?_);rintro⟨l1,e⟩ ⟨i,m1,m2⟩;dsimp only at i m1 m2⊢;have hl1:=i.len;have z:=i.1.nodup_iff.2 hnl;have ox1:=ox.rg i hnl;rw[decide_eq_true (show l1.length<=1000 by omega),aN];refine .bind ((agE hB aa).mono ?_);rintro⟨p,B⟩ ⟨hp1,hp2⟩;dsimp only at hp1 hp2⊢;have hpi:T (bif A&&par&&B then piS cmp l1 a b else some false) λf=>f=true->R6 cmp a b l1:=by grind [agF,T.some]
 refine .bind (hpi.mono λd hd=> .ite (λC=> .some ⟨i.1.trans pm,R6.all hO (hd C) ox1⟩) λ_=>?_);have hag:agG cmp l1 a p=some true:=by
  unfold agG;cases hza:Nat.blt 0 a with
  |false=>rfl
  |true=>have hza:=gX hza;have g1:l1[a-1]?=some (l1[a-1]'aa):=fy _;have g2:l1[p]?=some (l1[p]'aa):=fy _;rw[aN,g1,g2,aL,aL,decide_eq_true (ox1 (a-1) p _ _ aa aa g1 g2)]
 refine .eqb hag ?_;rw[aN];refine .bind ((aeT hO aa aa hp1 hp2).mono ?_);rintro⟨m,f,l2⟩ ⟨j,F,H,w,o,lo,up⟩;dsimp only at j F H o lo up⊢;have hl2:=j.len;have g:=j.1.nodup_iff.2 z;have ox2:=ox1.rg j z;rw[show Nat.beq l1.length l2.length=true by rw[hl2];exact Nat.beq_refl _,aN];unfold pdN;rw[decide_eq_true ⟨F,H⟩,aN];have pvx:∀q x,m<q->q<b->l2[q]?=some x->cmp w x<0:=λq x h1 h2 hx=>hO.lt g (λ_ _=>trivial) o hx aa (up q x h1 h2 hx);refine .dec (λE=>?_) λE=>?_
 .refine .bind ((JF hO g (λ_ _=>trivial) (a:=a) (b:=m) aa aa aa).mono λl3 ⟨c,so3⟩=>?_);have rg3':=c.mono (a':=a) (b':=b) (Nat.le_refl _) aa;have Um:=c.len;rw[show Nat.beq l2.length l3.length=true by rw[Um];exact Nat.beq_refl _,aN];have gp3:l3[m]?=some w:=(c.2 m (.inr (Nat.le_refl _))).trans o;have lo3:∀q x,a<=q->q<m->l3[q]?=some x->cmp x w<0:=λq x h1 h2 hx=>by obtain⟨I,k1,k2,k3⟩:=c.src g h1 h2 hx;exact lo I x k1 k2 k3
  have up3:∀q x,m<q->q<b->l3[q]?=some x->cmp w x<0:=λq x h1 h2 hx=>pvx q x h1 h2 ((c.2 q (.inr aa)).symm.trans hx);have ox3:=ox2.rg rg3' g;refine .some ⟨⟨c.1.trans (j.1.trans (i.1.trans pm)),by show m+1<=b;omega,bn,λu v x y k hh hx hy=>?_,λt=>by show 4<=e+_;have:12<b-(m+1):=t;show 4<=e+(14-(b-(m+1)));omega,by show e<=100;omega,λhbal=>?_⟩,by show b-(m+1)<b-a;omega⟩
  .have hh:¬(m+1<=u/\v<b):=hh;by_cases c0:a<=u/\v<b
   .rcases(by omega:v<m\/v=m\/(u=m/\m<v)\/(u<m/\m<v)) with h|rfl|⟨rfl,h⟩|⟨h1,h2⟩
    .exact so3 u v x y c0.1 k h hx hy
    .grind
    .grind
    .exact hO.tr _ _ _ (lo3 u x c0.1 h1 hx) (up3 v y h2 c0.2 hy)
   .exact ox3 u v x y k c0 hx hy
  .have hbal:decide ((1:Int)<=(m:Int)-(a:Int))=false:=hbal;have:=of_decide_eq_false hbal;show b-(m+1)<=12\/(m+1=1/\b=14);omega
 .refine .bind ((JF hO g (λ_ _=>trivial) (a:=m+1) (b:=b) aa aa aa).mono λl3 ⟨c,so3⟩=>?_);have rg3':=c.mono (a':=a) (b':=b) aa (Nat.le_refl _);have Um:=c.len;rw[show Nat.beq l2.length l3.length=true by rw[Um];exact Nat.beq_refl _,aN];have gp3:l3[m]?=some w:=(c.2 m (.inl aa)).trans o;have lo3:∀q x,a<=q->q<m->l3[q]?=some x->cmp x w<0:=λq x h1 h2 hx=>lo q x h1 h2 ((c.2 q (.inl aa)).symm.trans hx);have up3:∀q x,m<q->q<b->l3[q]?=some x->cmp w x<0:=λq x h1 h2 hx=>by obtain⟨I,k1,k2,k3⟩:=c.src g aa h2 hx;grind
  have ox3:=ox2.rg rg3' g;refine .some ⟨⟨c.1.trans (j.1.trans (i.1.trans pm)),F,by show m<=l0.length;omega,λu v x y k hh hx hy=>?_,λt=>by have:12<m-a:=t;show 4<=e+(14-(m-a));omega,by show e<=100;omega,λhbal=>?_⟩,by show m-a<b-a;omega⟩
  .have hh:¬(a<=u/\v<m):=hh;by_cases c0:a<=u/\v<b
   .rcases(by omega:m+1<=u\/(u=m/\m<v)\/(u<m/\v=m)\/(u<m/\m<v)) with h|⟨rfl,h⟩|⟨h,rfl⟩|⟨h1,h2⟩
    .exact so3 u v x y h k c0.2 hx hy
    .grind
    .grind
    .exact hO.tr _ _ _ (lo3 u x c0.1 h1 hx) (up3 v y h2 c0.2 hy)
   .exact ox3 u v x y k c0 hx hy
  grind
end
def wr(cmp:DIdent->DIdent->Int)(l:List DIdent):Option (List DIdent):=bo (pdT cmp) (l,0,l.length,WZ l.length,true,true)
theorem zF{cmp:DIdent->DIdent->Int}(hO:OrN cmp λ_=>True){l:List DIdent}(hn:l.Nodup)(hl:l.length<=14):T (wr cmp l) λr=>r.Perm l/\r.Pairwise λx y=>cmp x y<0:=by
 refine(aeU hO hn hl (s:=(l,0,l.length,WZ l.length,true,true)) ⟨.refl _,Nat.zero_le _,Nat.le_refl _,λp q x y h1 h2 hx hy=>?_,λh=>?_,?_,λh=>by cases h⟩).mono λr hr=>⟨hr.1,?_⟩
 .grind
 .have h:12<l.length-0:=h;show 4<=WZ l.length+(14-(l.length-0));rcases(by omega:l.length=13\/l.length=14) with e|e<;>rw[e]<;>decide
 .show WZ l.length<=100;generalize l.length=n at hl;rcases(by omega:n=0\/n=1\/n=2\/n=3\/n=4\/n=5\/n=6\/n=7\/n=8\/n=9\/n=10\/n=11\/n=12\/n=13\/n=14) with rfl|rfl|rfl|rfl|rfl|rfl|rfl|rfl|rfl|rfl|rfl|rfl|rfl|rfl|rfl<;>decide
 .rw[List.pairwise_iff_getElem];intro p q hp hq a;exact hr.2 p q _ _ (Nat.zero_le _) a hq (fy hp) (fy hq)
section
variable {gl:List (Nat×List G)} {fi:FuncId} {fa fc:List G} {cmp:DIdent->DIdent->Int}
theorem LQ(hv:CmV gl fi fa fc cmp)(a:RnF fa)(b:RnF fc)(hl:l.length<=14)(h:wr cmp l=some r):jg prog gl 203 [.rsl 0 0 l.length,zz fi fa fc] [(0,dm l)] 1 (.tup []) [(0,dm r)] 1:=by
 have e:wU (ah l)=l.length:=by unfold ah;rw[gP];omega
 have hb:ba prog gl 138 [uG (wU (ah l):Int)] (iG (WZ l.length:Int)):=by grind [RC]
 have hp:=ac0 hv a b h rfl;dsimp only at hp;refine pP func203 ?_;exact mt .normal (s0 14 gl [] [(0,dm r)] 1 1) [] [bR 10 (C8 (ah l)),hf 11 hb,hI hv a b 13 [iG ((0:Nat):Int),iG (l.length:Int),iG (WZ l.length:Int)] hp rfl] [hc (ac.imm r)] (ρ:=[(0,0)]) (kd:=[(0,.row)])
theorem LR(h:GgOk gg):CmV gl 247 [.agg (sB ⟨gg⟩)] [] (wc (q8 gg)):=⟨aH,aY (aG 20 (.agg (sB ⟨gg⟩)) aH) bf,bf,(by grind [aae])⟩
theorem Wg(h:GgOk gg)(hn:ids.length<=14)(hr:wr (wc (q8 gg)) ids=some row)(hle:row.length=ids.length):iV prog gl 161 [.ptr (av gg) 0,aE aj ids] 36 row.length (row.flatMap aj):=by
 have hcl:cU ids=some ids:=by grind [cU,aT]
 rw[hle];refine OW func161 ?_;exact EI [ho 7 [aE aj ids] [] (jY gl hcl) (Zy _),hI (gl:=gl) (LR h) (λκ=>rfl) (λκ=>rfl) 12 [] (LQ (gl:=gl) (LR h) (λκ=>rfl) (λκ=>rfl) hn hr) rfl] (ac.imm row)
theorem Fl(h:GgOk gg)(hn:ids.length<=14)(hr:wr (wc (q8 gg)) ids=some row)(hle:row.length=ids.length):ba prog gl 161 [.ptr (av gg) 0,aE aj ids] (aE aj row):=(Wg h hn hr hle).fn ac.sz (ac.len _) (ac.imm _)
theorem Bk(a b:DIdent):ba prog gl 205 [.agg (aj a),.agg (aj b)] (bG (dt a b)):=sF gl (EW a b)
theorem aaF(a b:DIdent):ba prog gl 349 [.agg (aj a),.agg (aj b)] (iG (jE a b)):=by
 have h1:=Bk (gl:=gl) a b;have h2:=Bk (gl:=gl) b a;unfold jE;refine Gh func349 ?_;cases c1:dt a b with
 |true=>rw[c1] at h1;exact Ar [hf 7 h1] []
 |false=>
  rw[c1] at h1;cases c2:dt b a with
  |true=>rw[c2] at h2;exact Ar [hf 7 h1,hf 10 h2] []
  |false=>rw[c2] at h2;exact Ar [hf 7 h1,hf 10 h2] []
abbrev hso(d c:Nat){l r:List DIdent}{fi:FuncId}{cmp:DIdent->DIdent->Int}(hv:CmV gl fi [] [] cmp)(hl:l.length<=14)(h:wr cmp l=some r)(hlt:[0].all (λk=>Nat.blt k c)=true:=by kernel_rfl):HP:=tN d [0] c [(0,dm l)] [.rsl 0 0 l.length,.clo (.func fi) [] []] [(0,dm r)] (LQ hv (λκ=>rfl) (λκ=>rfl) hl h) ⟨⟨rfl,.inr ⟨rfl,ac.imm l⟩⟩,trivial⟩ ⟨⟨rfl,.inr ⟨rfl,ac.imm r⟩⟩,trivial⟩ hlt
theorem ac2:CmV gl 349 [] [] jE:=⟨aH,bf,bf,(by grind [aaF])⟩
theorem RY(hl:l.length<=14)(h:wr jE l=some r):jg prog gl 301 [.rsl 0 0 l.length] [(0,dm l)] 1 (.rsl 0 0 l.length) [(0,dm r)] 1:=by refine pP func301 ?_;exact mt .ret (s0 6 gl [(2,.rsl 0 0 l.length)] [(0,dm r)] 1 1) [.rsl 0 0 l.length] [hso (gl:=gl) 4 1 ac2 hl h] [hc (el l),hc (ac.imm r)]
def GL(d a b:Int)(x:DIdent):Bool:=bif decide (x.By=d) then(bif decide (a<=x.Seq) then decide (x.Seq<=b) else false) else false
abbrev hsm(d c:Nat){l r:List DIdent}(hl:l.length<=14)(h:wr jE l=some r)(hlt:[0].all (λk=>Nat.blt k c)=true:=by kernel_rfl):HP:=tN d [0] c [(0,dm l)] [.rsl 0 0 l.length] [(0,dm r)] (RY (gl:=gl) hl h) ⟨⟨rfl,.inr ⟨rfl,ac.imm l⟩⟩,trivial⟩ ⟨⟨rfl,.inr ⟨rfl,ac.imm r⟩⟩,trivial⟩ hlt
theorem ac3{a b:Int}(hn:ids.length<=14)(h:wr jE (ids.filter (GL d a b))=some r)(hle:r.length=(ids.filter (GL d a b)).length):iV prog gl 300 [aE aj ids,iG d,iG a,iG b] 36 r.length (r.flatMap aj):=by
 rw[hle];refine OW func300 ?_;refine pN (λk:Nat=>(s0 41 gl [(1,iG d),(2,iG a),(3,iG b),(9,.rsl 0 0 ((ids.take k).filter (GL d a b)).length),(12,aE aj ids),(13,iG (ah ids)),(14,iG (k:Int))] [(0,dm ((ids.take k).filter (GL d a b)))] 1 0)) 1110122 (iw (n:=ids.length) aa) [] [hc (ac.imm [])] (λB k w hs k5 f=>?_) [36] [(0,0)] [(0,.row)];unfold qZ at hs;split at hs
 .rename_i hlt;obtain rfl:=cP hs;obtain⟨x,hx⟩:∃x,ids[k]?=some x:=⟨_,fy hlt⟩;have c:=cQ hx;have k5:=k5 _ rfl;have hl:=List.length_filter_le (GL d a b) (ids.take k);rw[List.length_take] at hl;have e:(ids.take (k+1)).filter (GL d a b)=(ids.take k).filter (GL d a b)++(bif GL d a b x then[x] else[]):=by grind [List.take_add_one]
  rw[e] at k5;generalize (ids.take k).filter (GL d a b)=l at k5 hl⊢;unfold GL at k5;cases b1:decide (x.By=d) with
  |false=>rw[b1,cG,cG,List.append_nil] at k5;exact jw [hr 15 (fp hx),bR 16 (ac.ixZ c),bR 17 (ac.ptZ aW c),hr 21 b1,hbb 38 (Xl (q:=k) aa)] [hc (el l),hc (ac.imm l)] k5 [] [(0,0)] [(0,.row)]
  |true=>
   rw[b1,aN] at k5;cases b2:decide (a<=x.Seq) with
   |false=>rw[b2,cG,cG,List.append_nil] at k5;exact jw [hr 15 (fp hx),bR 16 (ac.ixZ c),bR 17 (ac.ptZ aW c),hr 21 b1,hr 26 b2,hbb 38 (Xl (q:=k) aa)] [hc (el l),hc (ac.imm l)] k5 [] [(0,0)] [(0,.row)]
   |true=>
    rw[b2,aN] at k5;cases b3:decide (x.Seq<=b) with
    |false=>rw[b3,cG,List.append_nil] at k5;exact jw [hr 15 (fp hx),bR 16 (ac.ixZ c),bR 17 (ac.ptZ aW c),hr 21 b1,hr 26 b2,hr 32 b3,hbb 38 (Xl (q:=k) aa)] [hc (el l),hc (ac.imm l)] k5 [] [(0,0)] [(0,.row)]
    |true=>rw[b3,aN] at k5;exact jw [hr 15 (fp hx),bR 16 (ac.ixZ c),bR 17 (ac.ptZ aW c),hr 21 b1,hr 26 b2,hr 32 b3,Tn 37 ac 24 l x aa,hbb 38 (Xl (q:=k) aa)] [hc (el (l++[x])),hc (ac.imm (l++[x]))] k5 [] [(0,3)] [(0,.row)]
 .split at hs
  .rename_i he;subst he;rw[List.take_length];have hl:=List.length_filter_le (GL d a b) ids;exact EI [hr 15 (gz (s:=ids)),hsm (gl:=gl) 40 1 aa h] (ac.imm r)
  .cases hs
theorem ac4{a b:Int}(hn:ids.length<=14)(h:wr jE (ids.filter (GL d a b))=some r)(hle:r.length=(ids.filter (GL d a b)).length):ba prog gl 300 [aE aj ids,iG d,iG a,iG b] (aE aj r):=(ac3 hn h hle).fn ac.sz (ac.len _) (ac.imm _)
end
def og(x:DForkFork):List Value:=[.int .i64 x.Device,.int .i64 x.Seq]
theorem JG(d:Nat)(i j:DForkFork):bt prog (Op.equalIn (d+3) 68 (.agg (og i).toArray) (.agg (og j).toArray))=some (decide (i=j)):=by obtain⟨a0,a1⟩:=i;obtain⟨b0,b1⟩:=j;unfold og;rw[xV (fs:= #[⟨ "Device",3,0,false, "", "",0⟩,⟨ "Seq",3,1,false, "", "",8⟩]) aH aH];simp only[Array.toList];rw[uJ (k:= .i64) (k':= .i64) (a:=a0) (b:=b0) dL aH aH aH];rw[uJ (k:= .i64) (k':= .i64) (a:=a1) (b:=b1) dL aH aH aH];grind [DForkFork.mk.injEq,Op.eqFields,bz]
def f7(x:DForkFork):Value:= .agg (og x).toArray
theorem ud:KeyTy prog 68 f7:=Qw (d:= .struct #[⟨ "Device",3,0,false, "", "",0⟩,⟨ "Seq",3,1,false, "", "",8⟩]) aH (λb k=>by cases b<;>(show _=_;kernel_rfl)) (λa b=>rfl) (λa b=>JG 9997 a b)
theorem aeV(k:DForkFork):Instr.sameBits 10000 (f7 k) (f7 k)=true:=by(unfold f7 og;simp[Instr.sameBits])
abbrev tMk:TypeId:=118
abbrev oMk(m:FM DForkFork Int):Option Ob:=some (sn tMk f7 iG m)
abbrev tMy:TypeId:=119
abbrev oMy(m:FM Int Int):Option Ob:=some (sn tMy mJ iG m)
abbrev Hm(l:List DForkFork):Option Ob:=some ⟨68,l.flatMap da,none⟩
def Dq(a b:DForkFork):Int:=LL a.Device b.Device
section
variable {gl:List (Nat×List G)}
theorem aaV(a b:DForkFork):ba prog gl 68 [.agg (da a),.agg (da b)] (iG (Dq a b)):=DT gl (by unfold BU;rw[PC];rfl)
abbrev LS:G:= .clo (.func 68) [] []
abbrev hcF(d:Nat)(x y:DForkFork):HP:=hf d (aaV (gl:=gl) x y)
theorem aeW{l c d:List DForkFork}{i j:Int}{a b:DForkFork}(h1:ji l i b=some c)(h2:ji c j a=some d):fh prog 66 (.rsl 0 0 l.length) j=some (.ref 0 (0+j.toNat*2)):=by rw[hZ h1];exact bW.ixsZ 0 h2
theorem aaW{a b:Int}{l r:List DForkFork}(h:N7 Dq a b l=some r):jg prog gl 222 [.rsl 0 0 l.length,iG a,iG b,LS] [(0,Hm l)] 1 (.tup []) [(0,Hm r)] 1:=by
 unfold N7 at h;refine pP func222 ?_;refine pN (λs:List DForkFork×Int=>(s0 53 gl [(0,.rsl 0 0 s.1.length),(1,iG a),(2,iG b),(3,LS),(8,iG s.2)] [(0,Hm s.1)] 1 1)) 1122 h [] [hc (el l),hc (aG 20 LS aH),hc (bW.imm l)] (λB s w hs k5 g=>?_) [] [(0,0)] [(0,.row)];obtain⟨l1,i⟩:=s;unfold Ju at hs;dsimp only at hs;rcases bC hs with⟨b1,hs⟩|⟨b1,hs⟩
 .obtain⟨l2,e2,hs⟩:=bS hs;obtain rfl:=cP hs;refine Ix 11221021 (s0 53 gl [(0,.rsl 0 0 l2.length),(1,iG a),(2,iG b),(3,LS),(8,iG i)] [(0,Hm l2)] 1 1) ?_ λkk=>?_
  .exact jw [] [hc (el l2),hc (aG 20 LS aH),hc (bW.imm l2)] (k5 _ rfl) [] [(0,0)] [(0,.row)]
  refine pN (λs:List DForkFork×Int=>(s0 53 gl [(0,.rsl 0 0 s.1.length),(1,iG a),(2,iG b),(3,LS),(8,iG i),(9,iG s.2)] [(0,Hm s.1)] 1 1)) 1122102122 e2 [hr 14 b1] [hc (el l1),hc (aG 20 LS aH),hc (bW.imm l1)] (λn z v hz k e=>?_) [] [(0,0)] [(0,.row)];obtain⟨l3,j⟩:=z;unfold Jt at hz;dsimp only at hz;rcases bC hz with⟨b2,hz⟩|⟨b2,hz⟩
  .obtain⟨x,c,hz⟩:=bS hz;obtain⟨y,d,hz⟩:=bS hz;rcases bC hz with⟨b3,hz⟩|⟨b3,hz⟩
   .obtain⟨m,e1,hz⟩:=bS hz;obtain⟨f,e3,hz⟩:=bS hz;obtain rfl:=cP hz;exact jw [hr 20 b2,bR 25 (bW.ixrZ 0 c),bR 26 (bW.pt0Z ko c),bR 30 (bW.ixrZ 0 d),bR 31 (bW.pt0Z ko d),hcF (gl:=gl) 32 x y,hr 33 b3,bR 45 (bW.ixrZ 0 d),bR 46 (bW.pt0Z ko d),bR 49 (bW.ixrZ 0 c),bR 50 (bW.pt0Z ko c),bR 51 (bW.ixsZ 0 e1),hw 51 (m.flatMap da) (bW.putZ e1),bR 52 (aeW e1 e3),hw 52 (f.flatMap da) (bW.putZ e3)] [hc ((hZ e1).trans (hZ e3)),hc (aG 20 LS aH),hc (bW.imm f)] (k _ rfl) [] [(0,0)] [(0,.row)]
   .obtain rfl:=cP hz;obtain rfl:=e _ rfl;exact yl 11221021 [hr 20 b2,bR 25 (bW.ixrZ 0 c),bR 26 (bW.pt0Z ko c),bR 30 (bW.ixrZ 0 d),bR 31 (bW.pt0Z ko d),hcF (gl:=gl) 32 x y,hr 33 b3] [hc (el l3),hc (aG 20 LS aH),hc (bW.imm l3)] kk [] [(0,0)] [(0,.row)]
  .obtain rfl:=cP hz;obtain rfl:=e _ rfl;exact yl 11221021 [hr 20 b2] [hc (el l3),hc (aG 20 LS aH),hc (bW.imm l3)] kk [] [(0,0)] [(0,.row)]
 .obtain rfl:=cP hs;obtain rfl:=g _ rfl;exact mt .normal (s0 53 gl [] [(0,Hm l1)] 1 1) [] [hr 14 b1] [hc (bW.imm l1)] (ρ:=[(0,0)]) (kd:=[(0,.row)])
theorem aaX{l r:List DForkFork}(hl:l.length<=12)(h:N7 Dq ((0:Nat):Int) (l.length:Int) l=some r)(k:Int):jg prog gl 137 [.rsl 0 0 l.length,iG 0,iG (l.length:Int),iG k,LS] [(0,Hm l)] 1 (.tup []) [(0,Hm r)] 1:=by have hs:=sb (a:=(l.length:Int)) (b:=((0:Nat):Int)) (z:=(l.length:Int)-((0:Nat):Int)) rfl aa;have hd:decide ((l.length:Int)-((0:Nat):Int)<=12)=true:=decide_eq_true aa;refine pP func137 ?_;refine pN (λ_:Unit=>(s0 148 gl [(0,.rsl 0 0 l.length),(1,iG ((0:Nat):Int)),(2,iG (l.length:Int)),(3,iG k),(4,LS)] [(0,Hm l)] 1 1)) 11122 Lg [] [hc (el l),hc (aG 20 LS aH),hc (bW.imm l)] (λc z v hz2 d e=>?_) [] [(0,0)] [(0,.row)];exact mt .ret (s0 148 gl [] [(0,Hm r)] 1 1) [] [hbb 23 hs,hr 25 hd,tN 30 [0] 1 [(0,Hm l)] [.rsl 0 0 l.length,iG ((0:Nat):Int),iG (l.length:Int),LS] [(0,Hm r)] (aaW (gl:=gl) h) ⟨⟨rfl,.inr ⟨rfl,bW.imm l⟩⟩,trivial⟩ ⟨⟨rfl,.inr ⟨rfl,bW.imm r⟩⟩,trivial⟩] [hc (bW.imm r)] (ρ:=[(0,0)]) (kd:=[(0,.row)])
theorem Wq{l r:List DForkFork}(hl:l.length<=12)(h:N7 Dq ((0:Nat):Int) (l.length:Int) l=some r):jg prog gl 67 [.rsl 0 0 l.length,LS] [(0,Hm l)] 1 (.tup []) [(0,Hm r)] 1:=by
 have e:wU (ah l)=l.length:=by unfold ah;rw[gP];omega
 have hb:ba prog gl 138 [uG (wU (ah l):Int)] (iG (WZ l.length:Int)):=by grind [RC]
 refine pP func67 ?_;exact mt .normal (s0 14 gl [] [(0,Hm r)] 1 1) [] [bR 10 (C8 (ah l)),hf 11 hb,tN 13 [0] 1 [(0,Hm l)] [.rsl 0 0 l.length,iG 0,iG (l.length:Int),iG (WZ l.length:Int),LS] [(0,Hm r)] (aaX (gl:=gl) hl h (WZ l.length:Int)) ⟨⟨rfl,.inr ⟨rfl,bW.imm l⟩⟩,trivial⟩ ⟨⟨rfl,.inr ⟨rfl,bW.imm r⟩⟩,trivial⟩] [hc (bW.imm r)] (ρ:=[(0,0)]) (kd:=[(0,.row)])
end
def RZ(s:FM DForkFork Int×FM Int Int)(x:DIdent):FM DForkFork Int×FM Int Int:=
 (ee s.1 ⟨x.By,x.Seq⟩ (wI ((s.1.get ⟨x.By,x.Seq⟩).getD 0+1)),bif decide (wI ((s.1.get ⟨x.By,x.Seq⟩).getD 0+1)<2) then s.2 else bif(s.2.get x.By).isSome then(bif decide (x.Seq<(s.2.get x.By).getD 0) then ee s.2 x.By x.Seq else s.2) else ee s.2 x.By x.Seq)
def BB(ids:List DIdent):FM DForkFork Int×FM Int Int:=ids.foldl RZ (⟨[],0⟩,⟨[],0⟩)
theorem ac6{s:FM DForkFork Int×FM Int Int}(h:FxK s.1/\FxK s.2):FxK (RZ s x).1/\FxK (RZ s x).2:=by grind [RZ,tC]
theorem Fm(ids:List DIdent):FxK (BB ids).1/\FxK (BB ids).2:=by
 have key:∀(l:List DIdent) (s:FM DForkFork Int×FM Int Int),FxK s.1/\FxK s.2->FxK (l.foldl RZ s).1/\FxK (l.foldl RZ s).2:=by intro l;induction l<;>grind [ac6]
 exact key ids _ ⟨acP,acP⟩
theorem LT(hx:ids[k]?=some x):BB (ids.take (k+1))=RZ (BB (ids.take k)) x:=by grind [BB,List.take_add_one]
theorem lkF(m:FM DForkFork Int)(k:DForkFork)(h:(m.get k).getD 0=v):bL prog [(0,oMk m)] tMk false (.mref 0) (.agg (da k))=some (iG v):=h▸(Bc (et:=3) ud aH (k:=k) rfl yJ).trans (FM.look1 (et:=3) (v0:=0) ud aH aH m k rfl _)
theorem lkY(m:FM Int Int)(k:Int){b:Bool}(h:(m.get k).getD 0=v)(hb:(m.get k).isSome=b):bL prog [(1,oMy m)] tMy true (.mref 1) (iG k)=some (.tup [iG v,bG b]):=h▸hb▸(Bc (et:=3) vO aH (k:=k) rfl yJ).trans (FM.look (et:=3) (v0:=0) vO aH aH m k rfl _)
def hnl(d:Nat){P:Program}{σ:aQ}{t:TypeId}{ok:Bool}{i:Nat}{gk g:G}(ck:aQ->Bool)(h:bL P [(i,ag σ i)] t ok (.mref i) gk=some g/\∀W,ck W=true->bL P [(i,ag (W++σ) i)] t ok (.mref i) gk=some g):HP:=⟨some (.n d g ck),bL P [(i,ag σ i)] t ok (.mref i) gk=some g/\∀W,ck W=true->bL P [(i,ag (W++σ) i)] t ok (.mref i) gk=some g,h⟩
def hnk(ck:aQ->Bool)(U:aQ)(h:ck U=true):HP:=⟨some (.v 999999996 (.lit undef)),ck U=true,h⟩
noncomputable def ckE(V:aQ):aQ->Bool:=λW=> @decide (W=V) (Classical.propDecidable _)
theorem Wv{V W:aQ}:ckE V W=true↔W=V:= @decide_eq_true_iff _ (Classical.propDecidable _)
theorem mkI(m:FM DForkFork Int):∀e∈JR f7 iG m,bB e.2.1:=xD λv=>mN _
theorem Ww(m:FM Int Int):∀e∈JR mJ iG m,bB e.2.1:=xD λv=>mN _
abbrev aeX(clock:Nat)(seen:List Nat):Option Ob:=some ⟨tMy,[],some (.iter (some 0) clock seen clock)⟩
abbrev LU(e:Int×Int×Nat):DForkFork:=⟨e.1,e.2.1⟩
section
variable {gl:List (Nat×List G)}
abbrev stF(gl:List (Nat×List G))(l:FM Int Int)(seen:List Nat)(a:List DForkFork):St:=(s0 75 gl [(12,.rsl 2 0 a.length),(60,.ref 1 0)] [(0,oMy l),(1,aeX l.clk seen),(2,Hm a)] 3 0)
abbrev fr4(ids:List DIdent)(k:Nat):Fr:=[(5,.mref 0),(6,.mref 1),(17,aE aj ids),(18,iG (ah ids)),(19,iG (k:Int))]
theorem LV{gg:DGraphGraph}{ids:List DIdent}{r:List DForkFork}{n:Nat}(hn:ids.length<=1000)(h12:(BB ids).2.es.length<=12)(he:(BB ids).2.es.length=n)(hs:∀l:List DForkFork,l.Perm ((BB ids).2.es.map LU)->N7 Dq ((0:Nat):Int) (l.length:Int) l=some r):iV prog gl 24 [.ptr (av gg) 0,aE aj ids] 68 n (r.flatMap da):=by
 refine OW func24 ?_;refine pN (λk:Nat=>(s0 75 gl (fr4 ids k) [(0,oMk (BB (ids.take k)).1),(1,oMy (BB (ids.take k)).2)] 2 0)) 11110122 (iw (n:=ids.length) aa) [] [hc (mkI (BB (ids.take 0)).1),hc (Ww (BB (ids.take 0)).2)] (λB k w hs k5 j=>?_) [] [(0,0),(1,1)] [];unfold qZ at hs;split at hs
 .rename_i hlt;obtain rfl:=cP hs;obtain⟨x,hx⟩:∃x,ids[k]?=some x:=⟨_,fy hlt⟩;have hz:=cQ hx;have k5:=k5 _ rfl;obtain⟨h1,h2⟩:=Fm (ids.take k);rw[LT hx] at k5;generalize BB (ids.take k)=s at k5 h1 h2⊢;obtain⟨m,l⟩:=s;unfold RZ at k5;dsimp only at k5 h1 h2⊢;generalize hv1:(m.get ⟨x.By,x.Seq⟩).getD 0=v at k5;have h36:((ee m ⟨x.By,x.Seq⟩ (wI (v+1))).get ⟨x.By,x.Seq⟩).getD 0=wI (v+1):=by rw[dD,if_pos rfl];rfl
  refine pO 111101221102110 (s0 75 gl ([(8,.ref 2 0),(9,.ref 3 0)]++fr4 ids k) [(0,oMk m),(1,oMy l),ob 2 36 (aj x),ob 3 68 (da ⟨x.By,x.Seq⟩)] 4 0) [hr 20 (fp hx),bR 21 (ac.ixZ hz),bR 22 (ac.ptZ aW hz)] [hc (mkI m),hc (Ww l)] ?_ [] [(0,0),(1,1),(2,2),(3,3)] [];refine pO 11110122110211100 (s0 75 gl ([(8,.ref 2 0),(9,.ref 3 0)]++fr4 ids k) [(0,oMk (ee m ⟨x.By,x.Seq⟩ (wI (v+1)))),(1,oMy l),ob 2 36 (aj x),ob 3 68 (da ⟨x.By,x.Seq⟩)] 4 0) [hnl 30 (σ:=[(0,oMk m),(1,oMy l),ob 2 36 (aj x),ob 3 68 (da ⟨x.By,x.Seq⟩)]) (ckE [(0,some (sn tMk f7 iG (ee m ⟨x.By,x.Seq⟩ ((m.get ⟨x.By,x.Seq⟩).getD 0))))]) ⟨lkF m ⟨x.By,x.Seq⟩ hv1,λW o=>by rw[Wv.1 o];exact lkF (ee m ⟨x.By,x.Seq⟩ ((m.get ⟨x.By,x.Seq⟩).getD 0)) ⟨x.By,x.Seq⟩ (by rw[dD,if_pos rfl];exact hv1)⟩,hnk (ckE [(0,some (sn tMk f7 iG (ee m ⟨x.By,x.Seq⟩ ((m.get ⟨x.By,x.Seq⟩).getD 0))))]) [(0,some (sn tMk f7 iG (ee m ⟨x.By,x.Seq⟩ ((m.get ⟨x.By,x.Seq⟩).getD 0))))] (Wv.2 rfl),JO 32 [0] 4 (acq (P:=prog) (σ:=[(0,oMk m)]) (t:=tMk) (t':=tMk) (et:=3) (v0:=0) ud aeV aH aH (k:=⟨x.By,x.Seq⟩) (gk:= .agg (da ⟨x.By,x.Seq⟩)) rfl yJ),hms 33 [0] 4 (acr (σ:=[(0,some (sn tMk f7 iG (ee m ⟨x.By,x.Seq⟩ ((m.get ⟨x.By,x.Seq⟩).getD 0))))]) (i:=0) (t':=tMk) (kv:=f7) (vg:=iG) (m:=m) (k:=⟨x.By,x.Seq⟩) (v0:=(m.get ⟨x.By,x.Seq⟩).getD 0) h1.1 yJ (wI (v+1)))] [hc (mkI (ee m ⟨x.By,x.Seq⟩ (wI (v+1)))),hc (Ww l)] ?_ [] [(0,0),(1,1),(2,2),(3,3)] [];generalize ee m ⟨x.By,x.Seq⟩ (wI (v+1))=m' at k5 h36⊢;generalize wI (v+1)=v' at k5 h36⊢;skip;clear hv1 h1;cases c1:decide (v'<2) with
  |true=>rw[c1,aN] at k5;exact jw [hlk 36 (lkF m' ⟨x.By,x.Seq⟩ h36),hr 37 c1,hbb 58 (Xl (q:=k) aa)] [hc (mkI m'),hc (Ww l)] k5 [] [(0,0),(1,1)] []
  |false=>
   rw[c1,cG] at k5;have hput:=Uz (P:=prog) (σ:=[(0,oMk m'),(1,oMy l),ob 2 36 (aj x),ob 3 68 (da ⟨x.By,x.Seq⟩)]) (i:=1) (t:=tMy) (t':=tMy) (et:=3) (vg:=iG) vO Pl aH (k:=x.By) (gk:=iG x.By) rfl (m:=l) rfl x.Seq;cases c2:(l.get x.By).isSome with
   |false=>rw[c2,cG] at k5;exact jw [hlk 36 (lkF m' ⟨x.By,x.Seq⟩ h36),hr 37 c1,hlk 42 (lkY l x.By rfl c2),hmp 4 hput,hbb 58 (Xl (q:=k) aa)] [hc (mkI m'),hc (Ww (ee l x.By x.Seq))] k5 [] [(0,0),(1,1)] []
   |true=>
    rw[c2,aN] at k5;generalize hw:(l.get x.By).getD 0=w at k5;cases c3:decide (x.Seq<w) with
    |true=>rw[c3,aN] at k5;exact jw [hlk 36 (lkF m' ⟨x.By,x.Seq⟩ h36),hr 37 c1,hlk 42 (lkY l x.By hw c2),hr 51 c3,hmp 4 hput,hbb 58 (Xl (q:=k) aa)] [hc (mkI m'),hc (Ww (ee l x.By x.Seq))] k5 [] [(0,0),(1,1)] []
    |false=>rw[c3,cG] at k5;exact jw [hlk 36 (lkF m' ⟨x.By,x.Seq⟩ h36),hr 37 c1,hlk 42 (lkY l x.By hw c2),hr 51 c3,hbb 58 (Xl (q:=k) aa)] [hc (mkI m'),hc (Ww l)] k5 [] [(0,0),(1,1)] []
 .split at hs
  .rename_i d;subst d;clear j k5 hs;rw[List.take_length];obtain⟨h1,h2⟩:=Fm ids;generalize BB ids=s at h1 h2 h12 he hs⊢;obtain⟨m,l⟩:=s;dsimp only at h1 h2 h12 he hs⊢;refine yl (Bs':=[]) [1,1,1,0,1] (J:=(s0 75 gl [(6,.mref 0)] [(0,oMy l)] 1 0)) [hr 20 (gz (s:=ids))] [hc (Ww l)] ?_;refine pO 11111100 (s0 75 gl [(6,.mref 0),(12,Iy)] [(0,oMy l)] 1 0) [] [hc (Ww l)] ?_ [] [(0,0)] [];refine yl (Bs':=[]) [1,1,1,1,1,0,0] (J:=stF gl l [] []) [] [hc (Ww l),hc (bW.imm [])] ?_;refine dNx 11111101 ?_;refine dMw 60 61 62 2 (iti:=1) (mi:=0) (clock:=l.clk) (since:=l.clk) (T:=tMy) (ty:=tMy) (es:=JR mJ iG l) (λseen=>stF gl l seen ((eQ l seen).map LU)) (UA l) I6 (λe he=>by obtain⟨x,hx,rfl⟩:=List.mem_map.1 he;exact h2.lt x hx) rfl (Le.refl _) (λseen=>rfl) (λseen=>rfl) (by grind) (λB seen k g nn hI JO hns c=>?_) (λseen hI f=>?_)
   .obtain⟨e,b,h⟩:=List.mem_map.1 JO;simp only[Prod.mk.injEq] at h;obtain⟨rfl,rfl,rfl⟩:=h;have c:=c (I9 hI b hns);rw[UO h2.1 b,List.map_append] at c;have hal:((eQ l seen).map LU).length<=12:=by rw[List.length_map];have:=Pt hI;have h3:(eQ l seen).length<=seen.length:=List.length_filterMap_le _ _;have h4:=xF hI.1 hI.2;rw[List.length_map] at h4;omega
    generalize (eQ l seen).map LU=a at c hal⊢;have hge:jr ((1,aeX l.clk (seen++[e.2.2]))::(stF gl l seen a).σ) (.ref 1 0)=some (.tup [db (mJ e.1),iG e.2.1]):=yo (iti:=1) (mi:=0) (since:=l.clk) (clock:=l.clk) (T:=tMy) (ty:=tMy) (seen:=seen) rfl rfl (by rw[List.map_map];exact h2.nd) JO;exact jw [YT 63 hge,Tn 71 bW 16 a (LU e) aa] [hc (el (a++[LU e])),hc (Ww l),hc (bW.imm (a++[LU e]))] c [] [(0,0),(1,1),(2,4)] [(2,.row)]
   .have hp:=(Pw h2.1 hI λe he=>f _ (List.mem_map.2 ⟨e,he,rfl⟩)).map LU;have hi:=hs _ hp;have hla:((eQ l seen).map LU).length=n:=by rw[hp.length_eq,List.length_map,he]
    generalize (eQ l seen).map LU=a at hi hla⊢;subst hla;exact EI [tN 73 [2] 3 [(2,Hm a)] [.rsl 2 0 a.length,LS] [(0,Hm r)] (Wq (gl:=gl) aa hi) ⟨⟨rfl,.inr ⟨rfl,bW.imm a⟩⟩,trivial⟩ ⟨⟨rfl,.inr ⟨rfl,bW.imm r⟩⟩,trivial⟩] (bW.imm r)
  .cases hs
end
theorem xX{a b:DIdent}:jE a b<0↔dt a b=true:=by grind [jE]
theorem wy:OrN jE λ_=>True:=by grind [OrN,xX,dt,EX]
theorem LW{x y:Int}:LL x y<0↔x<y:=by grind [LL]
theorem DL{cmp:α->α->Int}(tr:∀x y z,cmp x y<0->cmp y z<0->cmp x z<0)(a:∀x,¬cmp x x<0){l r:List α}(hp:l.Perm r)(h1:l.Pairwise λx y=>cmp x y<0)(h2:r.Pairwise λx y=>cmp x y<0):l=r:=
 by grind [List.Perm.eq_of_pairwise]
def uw(ids:List DIdent)(f:DForkFork):Nat:=(ids.filter λx=>decide (x.By=f.Device)&&decide (x.Seq=f.Seq)).length
theorem Bn(p:List DIdent)(x:DIdent)(f:DForkFork):uw (p++[x]) f=uw p f+if(⟨x.By,x.Seq⟩:DForkFork)=f then 1 else 0:=by unfold uw;rw[List.filter_append,List.length_append];obtain⟨d,s⟩:=f;grind
theorem Wx(p:List DIdent)(f:DForkFork):uw p f<=p.length:=List.length_filter_le _ _
structure FkI (p:List DIdent) (s:FM DForkFork Int×FM Int Int):Prop where
 n:∀f,(s.1.get f).getD 0=(uw p f:Int)
 a:∀d v,s.2.get d=some v->2<=uw p ⟨d,v⟩
 b:∀d v,2<=uw p ⟨d,v⟩->∃w,s.2.get d=some w/\w<=v
theorem aeY{s:FM DForkFork Int×FM Int Int}(h:FkI p s)(hp:p.length<=1000):FkI (p++[x]) (RZ s x):=by
 have hle:=Wx p ⟨x.By,x.Seq⟩;have hw:wI ((s.1.get ⟨x.By,x.Seq⟩).getD 0+1)=((uw p ⟨x.By,x.Seq⟩+1:Nat):Int):=by grind [FkI.n,bM]
 have hset:∀(l:FM Int Int),l=ee s.2 x.By x.Seq->1<=uw p ⟨x.By,x.Seq⟩->(∀w,s.2.get x.By=some w->x.Seq<=w)->(∀d v,l.get d=some v->2<=uw (p++[x]) ⟨d,v⟩)/\(∀d v,2<=uw (p++[x]) ⟨d,v⟩->∃w,l.get d=some w/\w<=v):=by grind [dD,Bn,FkI.a,FkI.b]
 have hold:∀(l:FM Int Int),l=s.2->(1<=uw p ⟨x.By,x.Seq⟩->∃w,s.2.get x.By=some w/\w<=x.Seq)->(∀d v,l.get d=some v->2<=uw (p++[x]) ⟨d,v⟩)/\(∀d v,2<=uw (p++[x]) ⟨d,v⟩->∃w,l.get d=some w/\w<=v):=by grind [Bn,FkI.a,FkI.b]
 have key:(∀d v,(RZ s x).2.get d=some v->2<=uw (p++[x]) ⟨d,v⟩)/\(∀d v,2<=uw (p++[x]) ⟨d,v⟩->∃w,(RZ s x).2.get d=some w/\w<=v):=by
  unfold RZ;dsimp only;rw[hw];cases c1:decide (((uw p ⟨x.By,x.Seq⟩+1:Nat):Int)<2) with
  |true=>grind
  |false=>
   have h1:=of_decide_eq_false c1;rw[cG];cases c2:s.2.get x.By with
   |none=>grind
   |some w=>rw[Option.isSome_some,aN,Option.getD_some];cases c3:decide (x.Seq<w)<;>grind
 refine⟨λf=>?_,key.1,key.2⟩;grind [RZ,dD,Bn,FkI.n]
theorem Wy(ids:List DIdent)(hn:ids.length<=1000):FkI ids (BB ids):=by
 have key:∀k,k<=ids.length->FkI (ids.take k) (BB (ids.take k)):=by
  intro k;induction k with
  |zero=>exact λ_=>⟨λf=>rfl,λd v h=>(by cases h),λd v h=>absurd h (by show¬2<=0;omega)⟩
  |succ k ih=>intro hk;have hx:ids[k]?=some (ids[k]'aa):=fy _;rw[LT hx,List.take_add_one,hx,Option.toList_some];grind [aeY]
 grind [List.take_length]
theorem PK{α:Type}(p:α->Bool):∀l:List α,l.length=(l.filter p).length+(l.filter λx=> !p x).length
 |[]=>rfl
 |a::r=>by have:=PK p r;grind
theorem LX:∀{ds:List Int} {ids:List DIdent},ds.Nodup->(∀d∈ds,2<=(ids.filter λx=>decide (x.By=d)).length)->2*ds.length<=ids.length
 |[],ids,_,_=>aC
 |d::r,ids,hd,h=>by
  rw[List.nodup_cons] at hd;have ih:=LX (ids:=ids.filter λx=> !decide (x.By=d)) hd.2 λe he=>by have:=h e (by simp[he]);rw[List.filter_filter];grind
  have h1:=h d aC;grind [PK]
theorem JH{ids:List DIdent}(hn:ids.length<=1000):2*(BB ids).2.es.length<=ids.length:=by have hk:=(Fm ids).2;have hI:=Wy ids hn;rw[<-List.length_map (f:=λe:Int×Int×Nat=>e.1)];refine LX hk.kd λd hd=>?_;obtain⟨e,he,rfl⟩:=List.mem_map.1 hd;have hg:=mF hk (k:=e.1) (v:=e.2.1) (n:=e.2.2) he;have h2:=hI.a _ _ hg;refine Nat.le_trans h2 ?_;unfold uw;rw[<-List.filter_filter];exact(List.Sublist.filter _ List.filter_sublist).length_le
theorem Bo{ids:List DIdent}{f:DForkFork}:f∈(BB ids).2.es.map LU↔(BB ids).2.get f.Device=some f.Seq:=by grind [Fm,mF,kJ]
theorem abD(ids:List DIdent):OrN Dq λf=>f∈(BB ids).2.es.map LU:=by grind [OrN,Dq,LW,Bo]
theorem Wz{ids:List DIdent}:((BB ids).2.es.map LU).Nodup:=List.Pairwise.of_map (S:=λa b:Int=>a≠b) (λf:DForkFork=>f.Device) (by grind) (by rw[List.map_map];exact(Fm ids).2.kd)
theorem abE{ids:List DIdent}(hn:ids.length<=14):∃r:List DForkFork,r.Perm ((BB ids).2.es.map LU)/\∀l:List DForkFork,l.Perm ((BB ids).2.es.map LU)->N7 Dq ((0:Nat):Int) (l.length:Int) l=some r:=by
 have hl:=JH (ids:=ids) aa;have go:∀l:List DForkFork,l.Perm ((BB ids).2.es.map LU)->∃r,N7 Dq ((0:Nat):Int) (l.length:Int) l=some r/\r.Perm ((BB ids).2.es.map LU)/\r.Pairwise λx y=>Dq x y<0:=λl hp=>by obtain⟨r,e,h1,h2⟩:=JF (abD ids) (a:=0) (b:=l.length) (hp.nodup_iff.2 Wz) (λz hz=>hp.mem_iff.1 hz) aa (Nat.le_refl _) (by rw[hp.length_eq,List.length_map];omega);refine⟨r,e,h1.1.trans hp,?_⟩;rw[List.pairwise_iff_getElem];intro p q hp' c d;exact h2 p q _ _ (Nat.zero_le _) d (by rw[<-h1.len];exact c) (fy hp') (fy c)
 obtain⟨r,_,h2,h3⟩:=go _ (.refl _);refine⟨r,h2,λl hp=>?_⟩;obtain⟨r',e,k2,k3⟩:=go l hp;rw[e,DL (cmp:=Dq) (abD ids).tr (by grind [Dq,LW]) (k2.trans h2.symm) k3 h3]
def JS(ids:List DIdent)(x:DIdent):Bool:=ids.any λy=>decide (y.By=x.By/\y.Seq<=x.Seq/\2<=uw ids ⟨y.By,y.Seq⟩)
section
variable {gl:List (Nat×List G)}
theorem aaZ{fs:List DForkFork}{R:DForkFork->List DIdent}(hF:ba prog gl 24 [.ptr (av gg) 0,aE aj ids] (aE da fs))(hfl:fs.length<=1000)(hR:∀f∈fs,ba prog gl 300 [aE aj ids,iG f.Device,iG f.Seq,iG 4611686018427387904] (aE aj (R f)))(hl:(fs.flatMap R).length<=14)(h:wr jE (fs.flatMap R)=some r)(hle:r.length=(fs.flatMap R).length):iV prog gl 232 [.ptr (av gg) 0,aE aj ids] 36 r.length (r.flatMap aj):=by
 rw[hle];refine OW func232 ?_;refine pN (λk:Nat=>(s0 27 gl [(1,aE aj ids),(5,.rsl 0 0 ((fs.take k).flatMap R).length),(10,aE da fs),(11,iG (ah fs)),(12,iG (k:Int))] [(0,dm ((fs.take k).flatMap R))] 1 0)) 1110122 (iw (n:=fs.length) aa) [hf 10 hF] [hc (ac.imm [])] (λB k w hs k5 a=>?_) [36] [(0,0)] [(0,.row)];unfold qZ at hs;split at hs
 .rename_i hlt;obtain rfl:=cP hs;obtain⟨x,hx⟩:∃x,fs[k]?=some x:=⟨_,fy hlt⟩;have hz:=cQ hx;have k5:=k5 _ rfl;have e:(fs.take (k+1)).flatMap R=(fs.take k).flatMap R++R x:=by grind [List.take_add_one]
  have hll:((fs.take k).flatMap R++R x).length<=14:=by grind [List.take_append_drop]
  rw[e] at k5;generalize (fs.take k).flatMap R=l at k5 hll⊢;rw[List.length_append] at hll;exact jw [hr 13 (fp hx),bR 14 (bW.ixZ hz),bR 15 (bW.ptZ ko hz),hf 22 (hR x (bO hx)),afN 23 ac 24 l (R x) aa,hbb 24 (Xl (q:=k) aa)] [hc (el (l++R x)),hc (ac.imm (l++R x))] k5 [] [(0,2)] [(0,.row)]
 .split at hs
  .rename_i he;subst he;rw[List.take_length];exact EI [hr 13 (gz (s:=fs)),hsm (gl:=gl) 26 1 hl h] (ac.imm r)
  .cases hs
end
theorem Fo{α β:Type}{f:α->List β}:∀{l:List α},l.Nodup->(∀x∈l,(f x).Nodup)->(∀x∈l,∀y∈l,x≠y->∀z∈f x,z∉f y)->(l.flatMap f).Nodup
 |[],_,_,_=> .nil
 |a::r,hn,h1,h2=>by rw[List.nodup_cons] at hn;rw[List.flatMap_cons,List.nodup_append];refine⟨h1 a aC,Fo hn.2 (by grind) (by grind),λz hz w hw e=>?_⟩;grind
theorem aa0{gl:List (Nat×List G)}{gg:DGraphGraph}(hn:ids.length<=14)(hd:ids.Nodup)(hs:∀x∈ids,x.Seq<=4611686018427387904):∃r,ba prog gl 232 [.ptr (av gg) 0,aE aj ids] (aE aj r)/\r.Perm (ids.filter (JS ids))/\r.Pairwise λx y=>jE x y<0:=by
 obtain⟨fs,hp,hi⟩:=abE hn;have hl:=JH (ids:=ids) aa;have hI:=Wy ids aa;have hF:=(LV (gl:=gl) (gg:=gg) (ids:=ids) (r:=fs) (n:=fs.length) aa aa (by rw[hp.length_eq,List.length_map]) hi).fn bW.sz (bW.len _) (bW.imm _);have hof:∀f:DForkFork,∃r,wr jE (ids.filter (GL f.Device f.Seq 4611686018427387904))=some r/\r.Perm (ids.filter (GL f.Device f.Seq 4611686018427387904)):=λf=>by have h1:=List.length_filter_le (GL f.Device f.Seq 4611686018427387904) ids;obtain⟨r,e,h2,h3⟩:=zF wy (l:=ids.filter (GL f.Device f.Seq 4611686018427387904)) (hd.sublist List.filter_sublist) aa;exact⟨r,e,h2⟩
 let R:DForkFork->List DIdent:=λf=>(wr jE (ids.filter (GL f.Device f.Seq 4611686018427387904))).getD [];have hRp:∀f,wr jE (ids.filter (GL f.Device f.Seq 4611686018427387904))=some (R f)/\(R f).Perm (ids.filter (GL f.Device f.Seq 4611686018427387904)):=λf=>by obtain⟨r,e,h2⟩:=hof f;grind
 have hRm:∀f x,x∈R f↔x∈ids/\x.By=f.Device/\f.Seq<=x.Seq:=λf x=>by rw[(hRp f).2.mem_iff,List.mem_filter];grind [GL]
 clear_value R;have hfd:∀x∈fs,∀y∈fs,x≠y->x.Device≠y.Device:=by grind [Bo]
 have hfn:(fs.flatMap R).Nodup:=Fo (hp.nodup_iff.2 Wz) (by grind) (by grind);have hperm:(fs.flatMap R).Perm (ids.filter (JS ids)):=by
  refine(List.perm_ext_iff_of_nodup hfn (hd.sublist List.filter_sublist)).2 λx=>?_;rw[List.mem_flatMap,List.mem_filter];unfold JS;rw[List.any_eq_true];refine⟨λ⟨f,hf,hx⟩=>?_,λ⟨hx,y,hy,hv⟩=>?_⟩
  .obtain⟨h1,h2,h3⟩:=(hRm f x).1 hx;have h4:=Bo.1 (hp.mem_iff.1 hf);have h5:=hI.a _ _ h4;refine⟨h1,?_⟩;have h6:0<(ids.filter λx=>decide (x.By=f.Device)&&decide (x.Seq=f.Seq)).length:=Nat.lt_of_lt_of_le Nat.zero_lt_two h5;obtain⟨y,hy⟩:=List.exists_mem_of_length_pos h6;grind
  .obtain⟨h1,h2,h3⟩:=of_decide_eq_true hv;obtain⟨w,hw,hle⟩:=hI.b _ _ h3;refine⟨⟨y.By,w⟩,hp.mem_iff.2 (Bo.2 hw),(by grind)⟩
 have hlen:(fs.flatMap R).length<=14:=by grind [List.Perm.length_eq,List.length_filter_le]
 obtain⟨r,e,h2,h3⟩:=zF wy hfn hlen;refine⟨r,(aaZ (gl:=gl) hF (by rw[hp.length_eq,List.length_map];omega) (by grind [ac4,List.Perm.length_eq]) hlen e h2.length_eq).fn ac.sz (ac.len _) (ac.imm _),h2.trans hperm,h3⟩
theorem Rb{l:List α}{x:α}(hx:l[k]?=some x):l.take (k+1)=l.take k++[x]:=by rw[List.take_add_one,hx];rfl
section
variable {g:D12G} {m:FM DIdent Int} {N:List DGraphNode}
abbrev fA(g:D12G)(m:FM DIdent Int)(N:List DGraphNode):Gi:=q8 ⟨g.Cards,m,N⟩
theorem uD(w:WfG g){i:Nat}(h:g.IDs[i]?=some x):bu x g.IDs=some i:=by
 cases hk:bu x g.IDs with
 |none=>exact absurd (bO h) (Bb hk)
 |some j=>rw[rj w.nd (gb hk).1 h]
abbrev lM(g:D12G)(l:List Int):List DIdent:=l.map λp=>(g.IDs[p.toNat]?).getD ⟨0,0,0⟩
theorem uF(w:WfG g){l:List Int}(h:EF g l){z:Int}(hz:l[j]?=some z):∃(n:Nat) (y:DIdent),z=(n:Int)/\n<g.L.length/\g.IDs[n]?=some y/\(lM g l)[j]?=some y:=by obtain⟨n,rfl,hn⟩:=h.nat (bO hz);have nI:=w.nI;obtain⟨y,hy,_⟩:=dk (l:=g.IDs) (k:=n) aa;refine⟨n,y,rfl,hn,hy,?_⟩;rw[List.getElem?_map,hz,Option.map_some,Int.toNat_natCast,hy];rfl
end
def Fp(cs:List DCard)(d:Int):Int:=match cs.find? λc=>decide (c.Device=d) with
 |some c=>c.Member
 |none=>0
structure Mr (x:DRollMember) (y:D15M):Prop where
 role:y.Role=x.role
 no:x.guard=none->y.Is=false
 gd:∀g,x.guard=some g->y.Is=true/\y.ID=g.id/\y.Guards=g.guards/\y.Need=g.need/\y.Wait=g.wait/\y.Objected=g.objected/\y.Last=g.last
def Xh(V:List D15V)(i:DIdent)(b d a:Int):Prop:=∃v∈V,v.Of=i/\v.By=b/\v.Device=d/\v.At=a
structure Rr (R:DRollRoll) (D:D15R):Prop where
 card:∀d,eL R d=Fp D.Cards d
 nd:(D.In++D.Gone).Nodup
 in_:∀d,R.in_.get d=if d∈D.In then some true else none
 was:∀d,R.was.get d=if d∈D.In\/d∈D.Gone then some true else none
 w0:R.was.es.length=D.In.length+D.Gone.length
 ln:(D.L.map (·.N)).Nodup
 no:∀m,R.members.get m=none->∀y∈D.L,y.N≠m
 mem:∀m x,R.members.get m=some x->∃y∈D.L,y.N=m/\Mr x y
 vou:∀m x g,R.members.get m=some x->x.guard=some g->∀b d a,g.vouches.get ⟨b,d⟩=some a↔Xh D.V g.id b d a
 vof:∀v∈D.V,∃m x g,R.members.get m=some x/\x.guard=some g/\v.Of=g.id
 vnd:(D.V.map λv=>(v.Of,v.By,v.Device)).Nodup
 back:R.back=D.Back
structure Sz (D:D15R):Prop where
 c:D.Cards.length<=1000
 dev:D.In.length+D.Gone.length<=100000
 l:D.L.length<=100000
 v:D.V.length<=100000
theorem re{l:List Int}{n:Int}:QF l n=decide (n∈l):=by
 unfold QF;rw[Bool.eq_iff_iff,List.any_eq_true,decide_eq_true_iff];constructor
 .rintro⟨x,hx,e⟩;have:=of_decide_eq_true e;exact this▸hx
 .exact λh=>⟨n,h,decide_eq_true rfl⟩
section
variable {R:DRollRoll} {D:D15R}
theorem Sz.i(z:Sz D):D.In.length<=1000000:=by have:=z.dev;omega
theorem Sz.g(z:Sz D):D.Gone.length<=1000000:=by have:=z.dev;omega
theorem JI(z:Sz D)(d:Int):gE D d=some (Fp D.Cards d):=by
 have:=z.c;unfold gE;refine T.eq (.bind ((T.search D.Cards (λx=>decide (x.Device=d)) (λk x=>x.Member) aa (λk x hx hk=>?_) ?_).mono ?_))
 .unfold AR;rw[eA hk,aN,au,hx,aq aa,aL];cases decide (x.Device=d)<;>rfl
 .unfold AR;rw[eF,cG]
 .rintro r (⟨rfl,h⟩|⟨k,x,hx,hp,rfl,h⟩)
  .refine .some ?_;unfold Fp;rw[List.find?_eq_none.2 λc hc=>by rw[h c hc];simp]
  .refine .some ?_;unfold Fp;have:D.Cards.find? (λc=>decide (c.Device=d))=some x:=by rw[List.find?_eq_some_iff_getElem];obtain⟨hk,e⟩:=cr hx;exact⟨hp,k,hk,e,λj hj=>by have:=h j _ hj (fy aa);simpa using this⟩
   rw[this]
theorem afn(z:Sz D)(n:Int):T (dS D n) λv=>(v= -1/\∀y∈D.L,y.N≠n)\/∃(k:Nat) (y:D15M),v=(k:Int)/\D.L[k]?=some y/\y.N=n:=by
 have:=z.l;unfold dS;refine .bind ((T.search D.L (λx=>decide (x.N=n)) (λk _=>(k:Int)) aa (λk x hx hk=>?_) ?_).mono ?_)
 .unfold o5;rw[eA hk,aN,au,hx,aq aa,aL];cases decide (x.N=n)<;>rfl
 .unfold o5;rw[eF,cG]
 .rintro r (⟨rfl,h⟩|⟨k,x,hx,hp,rfl,h⟩)
  .exact .some (.inl ⟨rfl,λy hy=>of_decide_eq_false (h y hy)⟩)
  .exact .some (.inr ⟨k,x,rfl,hx,of_decide_eq_true hp⟩)
theorem Rr.at_(h:Rr R D){m:Int}{x:DRollMember}(hx:R.members.get m=some x){y:D15M}(hy:y∈D.L)(hn:y.N=m):Mr x y:=by obtain⟨c,a,b,hm⟩:=h.mem m x hx;rw[tb h.ln hy a (hn.trans b.symm)];exact hm
theorem Rr.of(h:Rr R D){y:D15M}(hy:y∈D.L):∃x,R.members.get y.N=some x/\Mr x y:=by
 cases hx:R.members.get y.N with
 |none=>exact absurd rfl (h.no _ hx y hy)
 |some x=>exact⟨x,rfl,h.at_ hx hy rfl⟩
theorem Fw(z:Sz D)(h:Rr R D)(n:Int):T (dS D n) λv=>match R.members.get n with
  |none=>v= -1
  |some x=>∃(k:Nat) (y:D15M),v=(k:Int)/\D.L[k]?=some y/\y.N=n/\Mr x y:=by
 refine(afn z n).mono λv hv=>?_
 rcases hv with⟨rfl,hn⟩|⟨k,y,rfl,hy,hn⟩
 .cases hx:R.members.get n with
  |none=>rfl
  |some x=>obtain⟨y,hy,e,_⟩:=h.mem n x hx;exact absurd e (hn y hy)
 .obtain⟨x,hx,hm⟩:=h.of (bO hy)
  rw[hn] at hx
  rw[hx]
  exact⟨k,y,rfl,hy,hn,hm⟩
theorem aa1(z:Sz D)(h:Rr R D)(n:Int):se D n=some (rf R n):=by
 unfold se;refine T.eq (.bind ((Fw z h n).mono λv hv=>?_));unfold rf;cases hx:R.members.get n with
 |none=>rw[hx] at hv;subst hv;exact .some rfl
 |some x=>rw[hx] at hv;obtain⟨k,y,rfl,hy,_,hm⟩:=hv;rw[show decide ((k:Int)<0)=false from decide_eq_false aa,cG,au,hy,aL];exact .some hm.role
theorem Rr.ins(h:Rr R D)(d:Int):xy R d=decide (d∈D.In):=by unfold xy;rw[h.in_];by_cases c:d∈D.In<;>simp[c,kN]
theorem inE(z:Sz D)(h:Rr R D)(d:Int):fb D.In d=some (xy R d):=by rw[cX z.i,re,h.ins]
theorem afo(z:Sz D)(h:Rr R D)(d:Int):Fd D d=some (kN (R.was.get d)):=by unfold Fd;rw[cX z.i,cX z.g,re,re,h.was,aL,aL];by_cases c1:d∈D.In<;>by_cases c2:d∈D.Gone<;>simp[c1,c2,kN]
theorem Ho(z:Sz D)(h:Rr R D)(d:Int):nW D d=some (f6 R d):=by unfold nW f6;rw[afo z h,aL,JI z,aL,h.card];cases decide (0<Fp D.Cards d)<;>rfl
theorem adw(z:Sz D)(i:DIdent):T (jN D i) λv=>(v= -1/\∀y∈D.L,¬(y.Is=true/\y.ID=i))\/∃(k:Nat) (y:D15M),v=(k:Int)/\D.L[k]?=some y/\y.Is=true/\y.ID=i:=by
 have:=z.l;unfold jN;refine .bind ((T.search D.L (λx=>x.Is&&decide (x.ID=i)) (λk _=>(k:Int)) aa (λk x hx hk=>?_) ?_).mono ?_)
 .unfold qQ;rw[eA hk,aN,au,hx,aq aa,aL];simp only[aL];cases x.Is<;>cases decide (x.ID=i)<;>rfl
 .unfold qQ;rw[eF,cG]
 .rintro r (⟨rfl,hn⟩|⟨k,y,hy,hp,rfl,hn⟩)
  .exact .some (.inl ⟨rfl,λy hy hc=>by have:=hn y hy;rw[hc.1,decide_eq_true hc.2] at this;cases this⟩)
  .have hp2:y.Is=true/\y.ID=i:=by simpa using hp
   exact .some (.inr ⟨k,y,rfl,hy,hp2⟩)
theorem adx(z:Sz D)(h:Rr R D)(hR:RlOk R)(i:DIdent):T (jN D i) λv=>match R.members.es.find? λe=>nw e.2.1 i with
  |none=>v= -1
  |some e=>∃(k:Nat) (y:D15M) (g:DRollGuard),v=(k:Int)/\D.L[k]?=some y/\y.N=e.1/\Mr e.2.1 y/\e.2.1.guard=some g/\g.id=i/\R.members.get e.1=some e.2.1:=by
 refine(adw z i).mono ?_
 rintro v (⟨rfl,hn⟩|⟨k,y,rfl,hy,hp2⟩)
 .cases hf:R.members.es.find? λe=>nw e.2.1 i with
  |none=>rfl
  |some e=>
   obtain⟨hx,_⟩:=hR.mem (List.mem_of_find?_eq_some hf);obtain⟨y,hy,_,hm⟩:=h.mem _ _ hx;have hg:nw e.2.1 i=true:=by have:=List.find?_some hf;exact this
   unfold nw at hg;cases hgd:e.2.1.guard with
   |none=>rw[hgd] at hg;cases hg
   |some g=>rw[hgd] at hg;have hg:decide (g.id=i)=true:=hg;have h1:=hm.gd g hgd;exact absurd ⟨h1.1,h1.2.1.trans (of_decide_eq_true hg)⟩ (hn y hy)
 .have b:=bO hy
  obtain⟨x,hx,hm⟩:=h.of b
  cases hgd:x.guard with
  |none=>rw[hm.no hgd] at hp2;cases hp2.1
  |some g=>
   have h1:=hm.gd g hgd
   have hid:g.id=i:=by rw[<-h1.2.1];exact hp2.2
   have hgx:nw x i=true:=by unfold nw;rw[hgd];exact decide_eq_true hid
   cases hf:R.members.es.find? λe=>nw e.2.1 i with
   |none=>
    obtain⟨n,hmm⟩:=kJ hx
    have:=List.find?_eq_none.1 hf _ hmm
    exact absurd hgx this
   |some e=>
    obtain⟨a,_⟩:=hR.mem (List.mem_of_find?_eq_some hf)
    have hge:nw e.2.1 i=true:=by have:=List.find?_some hf;exact this
    have hk:=hR.uni hx a hgx hge
    rw[<-hk,hx] at a
    have:=cP a
    exact⟨k,y,g,rfl,hy,hk,this▸hm,this▸hgd,hid,by rw[<-hk,hx,this]⟩
theorem Hp(z:Sz D)(h:Rr R D)(hR:RlOk R)(o:DOp):T (nY D o) λv=>v.2=(eI R o).2/\((eI R o).2=0->∃(k:Nat) (y:D15M) (x:DRollMember) (g:DRollGuard),v.1=(k:Int)/\D.L[k]?=some y/\y.N=(eI R o).1/\R.members.get (eI R o).1=some x/\Mr x y/\x.guard=some g/\g.id=o.Of):=by
 unfold nY;refine .bind ((adx z h hR o.Of).mono λv hv=>?_);cases hf:R.members.es.find? λe=>nw e.2.1 o.Of with
 |none=>
  have eS:eI R o=(0,25):=by unfold eI;rw[hf]
  rw[hf] at hv;subst hv;rw[eS];exact .some ⟨rfl,λc=>by cases c⟩
 |some e=>
  rw[hf] at hv;obtain⟨k,y,g,rfl,hy,a,hm,hgd,hid,hx⟩:=hv;have eS:eI R o=bif g.guards.any λy=>decide (o.By=y) then(e.1,0) else(0,14):=by unfold eI;rw[hf];dsimp only;rw[hgd]
  have h1:=hm.gd g hgd;have hlen:=hR.gn _ _ g hx hgd;rw[show decide ((k:Int)<0)=false from decide_eq_false aa,cG,au,hy,aL,h1.2.2.1,cX aa,aL,eS];have hb:QF g.guards o.By=g.guards.any λy=>decide (o.By=y):=by
   rw[re,Bool.eq_iff_iff,List.any_eq_true,decide_eq_true_iff];constructor
   .exact λhh=>⟨_,hh,decide_eq_true rfl⟩
   .rintro⟨q,hq,e⟩;rw[of_decide_eq_true e];exact hq
  rw[hb];cases hc:g.guards.any λy=>decide (o.By=y) with
  |false=>exact .some ⟨rfl,λc=>by cases c⟩
  |true=>exact .some ⟨rfl,λ_=>⟨k,y,e.2.1,g,rfl,hy,a,hx,hm,hgd,hid⟩⟩
end
theorem abG{l:List Int}{x:Int}(hp:vY l)(h1:∀i y,i<j->l[i]?=some y->y<=x)(h2:∀y,l[j]?=some y->x<=y):vY (l.take j++[x]++l.drop j):=by
 have hpj:(l.take j++l.drop j).Pairwise λa b=>a<=b:=by rw[List.take_append_drop];exact hp
 rw[List.pairwise_append] at hpj;have hlt:∀a∈l.take j,a<=x:=by grind [List.getElem?_of_mem]
 have hgt:∀b∈l.drop j,x<=b:=λb hb=>by cases hc:l[j]? <;>grind [List.drop_eq_nil_of_le,List.drop_eq_getElem_cons,List.pairwise_cons]
 grind [vY]
theorem R8{l:List Int}(hl:l.length<=1000000):T (lg l) λr=>r.Perm l/\vY r:=by
 unfold lg;refine .bind (T.mono (Q:=λr:List Int=>r.Perm l/\vY r) (T.forA l.length (λk acc=>acc.Perm (l.take k)/\vY acc) aa ⟨aC,.nil⟩ (λk acc hk hj=>?_) λacc hj=>?_) λx hx=> .some hx)
 .obtain⟨y,hy,hm⟩:=dk hk;have hal:acc.length=k:=by rw[hj.1.length_eq,List.length_take];omega
  unfold pb;simp only[eA hk,aN,au,hy,aL];refine .bind (T.mono (Q:=λn:Int=>∃j:Nat,n=(j:Int)/\j<=acc.length/\(∀i z,i<j->acc[i]?=some z->z<=y)/\∀z,acc[j]?=some z->y<=z) (T.forI acc.length (λj=>∀i z,i<j->acc[i]?=some z->z<=y) aa (λi z h=>aa) (λj hjl hq=>?_) λhq=>?_) λn hn=>?_)
  .obtain⟨z,hz,a⟩:=dk hjl;unfold pa;simp only[eA hjl,aN,au,hz,hy,aL];refine .dec (λhc=> .some ⟨aq aa,λi b hi hz'=>?_⟩) λhc=> .some ⟨j,rfl,aa,hq,λb hz'=>?_⟩;all_goals grind
  .unfold pa;dsimp only;rw[eF,cG,aL,cG];refine .some ⟨acc.length,rfl,Nat.le_refl _,hq,λz hz=>?_⟩;grind
  .obtain⟨j,rfl,hjl,q1,c⟩:=hn;refine .bind (.pre aa aa (.bind (.app cq (.bind (.app cq (.bind (.suf aa aa (.bind (.app cq (.some ⟨aq aa,?_⟩))))))))));rw[List.nil_append,Int.toNat_natCast];constructor<;>grind [abG,Rb,Cy]
 .unfold pb;dsimp only;rw[eF,cG];rw[List.take_length] at hj;exact .some hj
theorem JU{a b:List Int}(hp:a.Perm b)(h1:vY a)(h2:vY b):a=b:=List.Perm.eq_of_pairwise (le:=λa b=>a<=b) (by grind) h1 h2 hp
theorem Hq{α β γ:Type}{f:α->β}{g:α->γ}:∀{l:List α},(l.map g).Nodup->(∀x∈l,∀y∈l,f x=f y->g x=g y)->(l.map f).Nodup
 |[],_,_=> .nil
 |a::r,hd,h=>by rw[List.map_cons,List.nodup_cons] at hd⊢;refine⟨λhm=>?_,Hq hd.2 (by grind)⟩;grind
section
variable {R:DRollRoll} {D:D15R}
abbrev atV(V:List D15V)(i:DIdent)(d:Int):List Int:=(V.filter λv=>decide (v.Of=i)&&decide (v.Device=d)).map (·.At)
theorem ady(h:Rr R D)(hR:RlOk R){x:DRollMember}{g:DRollGuard}(hx:R.members.get m=some x)(hg:x.guard=some g)(d:Int):(atV D.V g.id d).Perm (Nw d g.vouches.es):=by
 have hv:=hR.cv _ _ g hx hg;have hp:((D.V.filter λv=>decide (v.Of=g.id)&&decide (v.Device=d)).map λv=>(v.By,v.At)).Perm ((g.vouches.es.filter λe=>decide (e.1.device=d)).map λe=>(e.1.by_,e.2.1)):=by
  refine(List.perm_ext_iff_of_nodup ?_ ?_).2 λ⟨b,a⟩=>?_
  .refine Hq (g:=λv:D15V=>(v.Of,v.By,v.Device)) (h.vnd.sublist (List.filter_sublist.map _)) λp hp q hq e=>?_;grind
  .refine Hq (g:=λe:DRollVouched×Int×Nat=>e.1) (hv.kd.sublist (List.filter_sublist.map _)) λp hp q hq e=>?_;rw[List.mem_filter] at hp hq;have h1:=of_decide_eq_true hp.2;have h2:=of_decide_eq_true hq.2;simp only[Prod.mk.injEq] at e;cases hp1:p.1;cases i:q.1;grind
  .have hb:=h.vou m x g hx hg b d a;constructor
   .intro hm;obtain⟨v,hv1,hv2⟩:=List.mem_map.1 hm;rw[List.mem_filter] at hv1;have h1:v.Of=g.id/\v.Device=d:=by simpa using hv1.2
    simp only[Prod.mk.injEq] at hv2;obtain⟨n,hn⟩:=kJ (hb.2 ⟨v,hv1.1,h1.1,hv2.1,h1.2,hv2.2⟩);exact List.mem_map.2 ⟨_,List.mem_filter.2 ⟨hn,decide_eq_true rfl⟩,rfl⟩
   .intro hm;obtain⟨e,c,f⟩:=List.mem_map.1 hm;rw[List.mem_filter] at c;have h1:=of_decide_eq_true c.2;simp only[Prod.mk.injEq] at f;have hge:=mF hv (k:=e.1) (v:=e.2.1) (n:=e.2.2) c.1;have hk:e.1=⟨b,d⟩:=by cases hq:e.1;grind
    rw[hk,f.2] at hge;obtain⟨v,k1,k2,k3,j,k5⟩:=hb.1 hge;grind
 have:=hp.map Prod.snd;rw[List.map_map,List.map_map] at this;exact this
theorem atT(z:Sz D)(d:Int)(y:D15M):bo (w7 D d y) ([],0)=some (atV D.V y.ID d):=by
 have:=z.v;refine T.eq (T.forA D.V.length (λk acc=>acc=atV (D.V.take k) y.ID d) aa (by simp[atV]) (λk acc hk hj=>?_) λacc hj=>?_)
 .obtain⟨v,hv,_⟩:=dk hk;have hal:acc.length<=k:=by grind
  have e:atV (D.V.take (k+1)) y.ID d=acc++(if v.Of=y.ID/\v.Device=d then[v.At] else[]):=by unfold atV;rw[Rb hv,List.filter_append,List.map_append];grind
  unfold w7;simp only[eA hk,aN,au,hv,aL];by_cases c1:v.Of=y.ID
  .by_cases c2:v.Device=d
   .simp only[c1,c2,decide_true,aN,aL];rw[if_pos ⟨c1,c2⟩] at e;exact .bind (.app cq (.some ⟨aq aa,e.symm⟩))
   .simp only[c1,c2,decide_true,decide_false,aN,cG,aL];rw[if_neg λc=>c2 c.2,List.append_nil] at e;exact .some ⟨aq aa,e.symm⟩
  .simp only[c1,decide_false,cG,aL];rw[if_neg λc=>c1 c.1,List.append_nil] at e;exact .some ⟨aq aa,e.symm⟩
 .unfold w7;dsimp only;rw[eF,cG];refine .some (show acc=_ from ?_);rw[hj,List.take_length]
theorem afp(z:Sz D)(h:Rr R D)(hR:RlOk R)(m d:Int):Ff D m d=some (GI R m d):=by
 unfold Ff;refine T.eq (.bind ((Fw z h m).mono λv hv=>?_));unfold GI;cases hx:R.members.get m with
 |none=>grind [T.some]
 |some x=>
  rw[hx] at hv;obtain⟨k,y,rfl,hy,_,hm⟩:=hv;rw[show decide ((k:Int)<0)=false from decide_eq_false aa,cG,au,hy,aL];dsimp only;cases hg:x.guard with
  |none=>grind [Mr.no,T.some]
  |some g=>
   have h1:=hm.gd g hg;have hv:=hR.cv _ _ g hx hg;have hb:=hR.vb _ _ g hx hg;have hn:=hR.gN _ _ g hx hg;have h6:=Ja hv.kd hb (List.Pairwise.of_map (λx=>x.1) (by grind) hv.kd) (λe he=>he) d;obtain⟨srt,e1,a,s1⟩:=Pp (l:=Nw d g.vouches.es) aa;have hda:Ny g d=srt:=by unfold Ny;rw[e1];rfl
   have hp:=ady h hR hx hg d;rw[h1.1,atT z d y,aL];simp only[Bool.not_true,cG];rw[hda,h1.2.1];refine .bind ((R8 (by rw[hp.length_eq];omega)).mono λv hv=>?_);obtain rfl:v=srt:=JU (hv.1.trans (hp.trans a.symm)) hv.2 s1;rw[h1.2.2.2.1,h1.2.2.2.2.1,h1.2.2.2.2.2.1,h1.2.2.2.2.2.2];refine .dec (by grind [T.some]) λhc=>?_;rw[decide_eq_false hc,cG];have hc2:g.need<=(v.length:Int):=by unfold ah at hc;omega
   have hz0:aS v 0=some (v.getD 0 0):=by grind [au]
   have hz1:aS v (wI (g.need-1))=some (v.getD (g.need.toNat-1) 0):=by grind [bM,au]
   grind [T.some]
theorem R9(z:Sz D)(h:Rr R D)(o:DOp)(m:Int):o9 D o m (decide (rf R m=3))=some (Q9 R o m):=by
 unfold o9 Q9 lU;rw[inE z h,JI z,h.card,aL,aL];cases decide (o.Device≠0) with
 |true=>grind
 |false=>refine T.eq (.bind ((Fw z h o.Member).mono λv hv=>?_));grind [T.some]
end
section
variable {R:DRollRoll} {D:D15R}
theorem afq(z:Sz D)(h:Rr R D)(hR:RlOk R)(hk:o.Kind=11):mB D o=some (Re R o):=by
 unfold mB Re;refine T.eq (.bind ((Hp z h hR o).mono λv hv=>?_));rw[hv.1];cases c0:decide ((eI R o).2≠0) with
 |true=>exact .some rfl
 |false=>
  have c1:(eI R o).2=0:=by simpa using c0
  obtain⟨k,y,x,g,hv1,hy,a,hx,hm,hgd,hid⟩:=hv.2 c1;rw[cG,hv1,au,hy,aL,JI z,Ho z h,h.card,a,hk];grind [T.some]
theorem afr(z:Sz D)(h:Rr R D)(hR:RlOk R)(hk:o.Kind=13):mB D o=some (Rf R o):=by
 unfold mB Rf acw;refine T.eq (.bind ((Hp z h hR o).mono λv hv=>?_));rw[hv.1];cases c0:decide ((eI R o).2≠0) with
 |true=>exact .some rfl
 |false=>
  have c1:(eI R o).2=0:=by simpa using c0
  obtain⟨k,y,x,g,hv1,hy,a,hx,hm,hgd,hid⟩:=hv.2 c1;rw[cG,hv1,au,hy,aL,JI z,JI z,Ho z h,inE z h,h.card,h.card,a,hk,afp z h hR];simp only[Int.reduceEq,decide_true,decide_false,aN,cG,aL];generalize GI R (eI R o).1 o.Device=q;cases xy R o.Old with
  |false=>exact .some rfl
  |true=>simp only[Bool.not_true,cG,aN];cases decide (Fp D.Cards o.Old≠(eI R o).1)<;>grind [T.some]
theorem adz(z:Sz D)(h:Rr R D)(hR:RlOk R)(hgl:o.Guards.length<=1000000)(i:DIdent):AX D o i=some (Bw R o):=by
 have e:=z.dev;unfold AX;rw[JI z,aL,<-h.card];unfold Bw;by_cases k1:o.Kind=1
 .grind [Rr.w0,ah]
 rw[if_neg k1,decide_eq_false k1,cG,inE z h,aL];cases xy R o.By with
 |false=>rfl
 |true=>
 rw[Bool.not_true,cG,aN,aa1 z h,aL];unfold Nz;by_cases k2:o.Kind=2
 .grind [Ho,JI,UI,lU,Rr.card]
 rw[if_neg k2,decide_eq_false k2,cG];by_cases k3:o.Kind=3
 .grind [R9]
 rw[if_neg k3,decide_eq_false k3,cG];by_cases k5:o.Kind=5
 .rw[if_pos k5,decide_eq_true k5,aN];unfold UJ lU;cases decide (rf R (eL R o.By)=3) with
  |false=>rfl
  |true=>simp only[Bool.not_true,cG,aN];refine T.eq (.bind ((Fw z h o.Member).mono λv hv=>?_));grind [T.some]
 rw[if_neg k5,decide_eq_false k5,cG];by_cases k6:o.Kind=6
 .grind [UK]
 rw[if_neg k6,decide_eq_false k6,cG];by_cases k8:o.Kind=8
 .grind [JI,UM,lU,Rr.card]
 rw[if_neg k8,decide_eq_false k8,cG];by_cases k9:o.Kind=9
 .rw[if_pos k9,decide_eq_true k9,aN];unfold UQ;refine T.eq (.bind ((T.search o.Guards (λx=> !xy R x) (λk _=>(17:Int)) aa (λk x hx hk=>?_) ?_).mono ?_))
  .grind [Bp,eA,au,inE,aq]
  .unfold Bp;rw[eF,cG]
  .rintro r (⟨rfl,hn⟩|⟨k,x,hx,hp,rfl,hn⟩)
   .refine .some ?_;grind
   .refine .some ?_;grind
 rw[if_neg k9,decide_eq_false k9,cG];have hO:T ((dS D (eL R o.By)).bind λa=>bif decide (a<0) then(some 25) else(((aS D.L a).bind λb=>bif(!b.Is) then(some true) else((aS D.L a).bind λc=>some (!decide (c.ID=o.Of)))).bind λd=>bif d then(some 25) else(some 0))) λw=>w=LD R o (eL R o.By):=by
  refine .bind ((Fw z h (eL R o.By)).mono λv hv=>?_);unfold LD;cases hx:R.members.get (eL R o.By) with
  |none=>grind [T.some]
  |some x=>rw[hx] at hv;grind [au,Mr.no,T.some,Mr.gd]
 grind [T.eq,afq,afr]
end
theorem afs{K V:Type}[DecidableEq K]{m:FM K V}{k:K}{p:V}:(ee m k p).es.length=if(m.get k).isSome then m.es.length else m.es.length+1:=by
 unfold ee;cases hk:bu k (m.es.map (·.1)) with
 |none=>rw[Be hk];simp
 |some j=>obtain⟨e,_,_,h⟩:=rh hk;rw[h];simp
structure Sy (D:D15R):Prop where
 c:D.Cards.length<=1000
 dev:D.In.length+D.Gone.length<=2000
 l:D.L.length<=2000
 v:D.V.length<=2000
structure Gw (D D':D15R):Prop where
 c:D'.Cards=D.Cards
 dev:D'.In.length+D'.Gone.length<=D.In.length+D.Gone.length+1
 l:D'.L.length<=D.L.length+1
 v:D'.V=D.V
theorem Gw.rfl'{D:D15R}:Gw D D:=by grind [Gw]
theorem Sy.z{D:D15R}(h:Sy D):Sz D:=by grind [Sy,Sz]
section
variable {R:DRollRoll} {D:D15R}
theorem adA(h:Rr R D)(h1:d∉D.In)(h2:d∉D.Gone):Rr {R with in_:=ee R.in_ d true,was:=ee R.was d true} {D with In:=D.In++[d]} where
 card:=h.card
 nd:=by show(D.In++[d]++D.Gone).Nodup;rw[List.append_assoc,List.singleton_append,List.perm_middle.nodup_iff,List.nodup_cons];grind [Rr.nd]
 in_ e:=by grind [dD,Rr.in_]
 was e:=by grind [dD,Rr.was]
 w0:=by grind [Rr.was,afs,Rr.w0]
 ln:=h.ln
 no:=h.no
 mem:=h.mem
 vou:=h.vou
 vof:=h.vof
 vnd:=h.vnd
 back:=h.back
theorem abH(h:Rr R D){m role:Int}(hm:R.members.get m=none):Rr {R with members:=ee R.members m ⟨role,none⟩} {D with L:=D.L++[⟨m,role,false,⟨0,0,0⟩,[],0,0,false,0⟩]} where
 card:=h.card
 nd:=h.nd
 in_:=h.in_
 was:=h.was
 w0:=h.w0
 ln:=by show((D.L++[(⟨m,role,false,⟨0,0,0⟩,[],0,0,false,0⟩:D15M)]).map (·.N)).Nodup;rw[List.map_append,List.map_cons,List.map_nil,List.perm_append_comm.nodup_iff,List.singleton_append,List.nodup_cons];grind [Rr.ln,Rr.no]
 no k hk y hy:=by grind [dD,Rr.no]
 mem k x hk:=by
  have hk:(ee R.members m ⟨role,none⟩).get k=some x:=hk;rw[dD] at hk;split at hk
  .rename_i e;cases hk;exact⟨_,List.mem_append.2 (.inr (List.mem_singleton.2 rfl)),e.symm,rfl,λ_=>rfl,λg hg=>by cases hg⟩
  grind [Rr.mem]
 vou k x g hk hg:=by grind [dD,Rr.vou]
 vof v hv:=by obtain⟨k,x,g,hk,hg,e⟩:=h.vof v hv;refine⟨k,x,g,?_,hg,e⟩;grind [dD]
 vnd:=h.vnd
 back:=h.back
theorem MH(z:Sy D)(h:Rr R D)(hR:RlOk R)(d role:Int):T (nX D d role) λD'=>Rr (lT R d role) D'/\Gw D D':=by
 have a:=z.dev;have b:=z.l;unfold nX lT;rw[Ho z.z h,aL];cases hf:f6 R d with
 |false=>exact .some ⟨h,.rfl'⟩
 |true=>
  rw[Bool.not_true,cG,aN];have hw:R.was.get d=none:=by grind [Rr.was,f6,kN]
  have hnd:d∉D.In/\d∉D.Gone:=by grind [Rr.was]
  refine .bind (.app cq (.bind (.app cq ?_)));rw[List.nil_append];have h':=adA h hnd.1 hnd.2;rw[show gE {D with In:=D.In++[d]} d=gE D d from rfl,JI z.z,aL,<-h.card];rw[show dS {D with In:=D.In++[d]} (eL R d)=dS D (eL R d) from rfl];refine .bind ((Fw z.z h (eL R d)).mono λv hv=>?_);cases hx:R.members.get (eL R d) with
  |none=>rw[hx] at hv;subst hv;rw[show decide ((-1:Int)<0)=true from rfl,aN];refine .bind (.bind (.app cq (.bind (.app cq (.some ?_)))));rw[List.nil_append];exact .some ⟨abH (role:=role) h' hx,rfl,by simp;omega,aC,rfl⟩
  |some x=>rw[hx] at hv;obtain⟨k,y,rfl,_⟩:=hv;rw[show decide ((k:Int)<0)=false from decide_eq_false aa,cG];exact .some ⟨h',rfl,by simp;omega,aC,rfl⟩
theorem Sb(h:Rr R D){y:D15M}(hy:D.L[k]?=some y)(hn:y.N=m)(a:y'.N=m):((D.L.set k y').map (·.N)).Nodup:=by grind [List.map_set,Rr.ln]
theorem Sc(h:Rr R D)(a:y'.N=m)(q:Int)(hq:(ee R.members m x').get q=none)(z:D15M)(hz:z∈D.L.set k y'):z.N≠q:=by grind [dD,Rr.no]
theorem Hr(h:Rr R D){y:D15M}(hy:D.L[k]?=some y)(hn:y.N=m)(a:y'.N=m)(hM:Mr x' y')(q:Int)(z:DRollMember)(hq:(ee R.members m x').get q=some z):∃y∈D.L.set k y',y.N=q/\Mr z y:=by
 rw[dD] at hq;split at hq
 .rename_i e;cases hq;exact⟨y',bO (i:=k) (by grind),a.trans e.symm,hM⟩
 .rename_i hne;obtain⟨w,hw,b,c⟩:=h.mem q z hq;obtain⟨j,hj⟩:=List.getElem?_of_mem hw;have hkj:¬k=j:=by grind
  exact⟨w,bO (i:=j) (by grind),b,c⟩
theorem Sd(h:Rr R D){x:DRollMember}{y:D15M}(hx:R.members.get m=some x)(hy:D.L[k]?=some y)(hn:y.N=m)(b:y'.N=m)(hM:Mr x' y')(h1:∀a,x'.guard=some a->∃g,x.guard=some g/\a.id=g.id/\a.vouches=g.vouches)(h2:∀g,x.guard=some g->∃a,x'.guard=some a/\a.id=g.id):Rr (ld R m x') {D with L:=D.L.set k y'} where
 card:=h.card
 nd:=h.nd
 in_:=h.in_
 was:=h.was
 w0:=h.w0
 ln:=Sb h hy hn b
 no q hq z hz:=Sc h b q hq z hz
 mem q z hq:=Hr h hy hn b hM q z hq
 vou q z a hq hg':=by grind [dD,Rr.vou]
 vof v hv:=by
  obtain⟨q,z,g,hq,hg,e⟩:=h.vof v hv;by_cases c:q=m
  .subst c;rw[hx] at hq;cases hq;obtain⟨a,e1,e2⟩:=h2 g hg;exact⟨q,x',a,by grind [dD],e1,e.trans e2.symm⟩
  .exact⟨q,z,g,by grind [dD],hg,e⟩
 vnd:=h.vnd
 back:=h.back
theorem adB(z:Sy D)(h:Rr R D)(o:DOp):T ((dS D o.Member).bind λa=>bif decide (0<=a) then((aS D.L a).bind λb=>(o6 D.L a ({b with Role:=o.Role})).bind λc=>some ({D with L:=c})) else(some D)) (Rr (CD R o)):=by
 have d:=z.l;refine .bind ((Fw z.z h o.Member).mono λv hv=>?_);unfold CD;cases hx:R.members.get o.Member with
 |none=>grind [T.some]
 |some x=>rw[hx] at hv;obtain⟨k,y,rfl,hy,hn,hM⟩:=hv;have hk:=(cr hy).1;rw[show decide ((0:Int)<=(k:Int))=true from decide_eq_true aa,aN,au,hy,aL];unfold o6;refine .bind (.bind (.app cq (.bind (.set aa cq (.some (.some ?_))))));rw[List.nil_append,Int.toNat_natCast];grind [Sd,Mr]
end
section
variable {R:DRollRoll} {D:D15R}
abbrev Oa(l:List Int)(d:Int):List Int:=l.filter λx=>decide (x≠d)
abbrev lF(l:List D15M)(m:Int):List D15M:=l.filter λy=>decide (y.N≠m)
def Hs(l:List D15M)(i:DIdent):Bool:=l.any λy=>y.Is&&decide (y.ID=i)
theorem uL{l:List D15M}{i:DIdent}:Hs l i=true↔∃y∈l,y.Is=true/\y.ID=i:=by grind [Hs]
theorem adC(z:Sz D)(i:DIdent):T (jN D i) λv=>decide (0<=v)=Hs D.L i:=by grind [T.mono,adw,uL]
theorem Ht:∀{l:List Int} {d:Int},l.Nodup->d∈l->(Oa l d).length+1=l.length
 |[],d,_,h=>by cases h
 |x::r,d,hn,h=>by
  rw[List.nodup_cons] at hn;by_cases e:x=d
  .grind [List.filter_eq_self]
  .have:=Ht hn.2 ((List.mem_cons.1 h).resolve_left λc=>e c.symm);grind
theorem abI(h:Rr R D)(hR:RlOk R)(hd:d∈D.In):Rr (lJ R d) {D with In:=Oa D.In d,Gone:=D.Gone++[d]} where
 card:=h.card
 nd:=by show(Oa D.In d++(D.Gone++[d])).Nodup;have h1:=List.nodup_append.1 h.nd;grind
 in_ e:=by grind [td,RlOk.ci,Rr.in_]
 was e:=by grind [Rr.was]
 w0:=by grind [Ht,Rr.nd,Rr.w0]
 ln:=h.ln
 no:=h.no
 mem:=h.mem
 vou:=h.vou
 vof:=h.vof
 vnd:=h.vnd
 back:=h.back
theorem abJ(h:Rr R D)(hR:RlOk R)(m:Int):Rr (zg R m) {D with L:=lF D.L m,V:=D.V.filter λv=>Hs (lF D.L m) v.Of}:=by
 have hg:∀k,(zg R m).members.get k=if k=m then none else R.members.get k:=λk=>td hR.cm k
 have hmem:∀y,y∈lF D.L m↔y∈D.L/\y.N≠m:=by grind
 constructor<;>try grind [Rr.nd,Rr.in_,Rr.was,Rr.w0,Rr.ln,Rr.of,Rr.vnd,Rr.back]
 .exact h.card
 .exact(by grind [Rr.mem])
 .exact λk x g hk hgd b d a=>by
   rw[hg] at hk;split at hk
   .cases hk
   .rename_i hne;rw[h.vou k x g hk hgd b d a];obtain⟨y,hy,hn,hm⟩:=h.mem k x hk;have h1:=hm.gd g hgd;have hown:Hs (lF D.L m) g.id=true:=by grind [uL]
    constructor
    .rintro⟨v,hv,e1,e2⟩;exact⟨v,(by grind),e1,e2⟩
    .rintro⟨v,hv,e⟩;exact⟨v,(List.mem_filter.1 hv).1,e⟩
 .exact λv hv=>by obtain⟨y,hy,h1,h2⟩:=uL.1 (List.mem_filter.1 hv).2;have c:=(hmem y).1 hy;obtain⟨x,hx,hm⟩:=h.of c.1;cases hgd:x.guard<;>grind [Mr.no,Mr.gd]
theorem adD(z:Sy D)(d f:Int):T (bo (uj D d f) ([],false,0)) λx=>x=(Oa D.In d,(Oa D.In d).any λx=>decide (Fp D.Cards x=f)):=by
 have hd:=z.dev;refine T.loop (λs=>∃k:Nat,k<=D.In.length/\s.2.2=(k:Int)/\s.1=Oa (D.In.take k) d/\s.2.1=(Oa (D.In.take k) d).any λx=>decide (Fp D.Cards x=f)) (λs=>D.In.length-s.2.2.toNat) (by grind) cq ?_;rintro⟨a,b,i⟩ ⟨k,hk,rfl,ha,hb⟩;dsimp only at ha hb;subst ha;unfold uj;dsimp only;rcases Nat.lt_or_ge k D.In.length with hlt|hge
 .obtain⟨x,hx,_⟩:=dk hlt;have hla:(Oa (D.In.take k) d).length<=k:=by grind
  simp only[eA hlt,aN,au,hx,aL,JI z.z];have ew:=aq (show k<2305843009213693952 by omega);have e:Oa (D.In.take (k+1)) d=Oa (D.In.take k) d++(if x≠d then[x] else[]):=by unfold Oa;rw[Rb hx,List.filter_append];by_cases c:x=d<;>simp[c]
  refine .dec (λhc=>?_) λhc=>?_
  .rw[if_pos hc] at e;refine .bind (.app cq (.bind (x:=bif b then some true else some (decide (Fp D.Cards x=f))) (T.mono (Q:=λq=>q=(b||decide (Fp D.Cards x=f))) (by cases b<;>exact .some rfl) λq hq=> .some ⟨⟨k+1,aa,ew,e.symm,?_⟩,?_⟩)));all_goals grind
  .rw[if_neg hc,List.append_nil] at e;refine .some ⟨(by grind),?_⟩;rw[ew];simp;omega
 .obtain rfl:k=D.In.length:=aa;rw[eF,cG];refine .some (show(_,_)=_ from ?_);rw[hb,List.take_length]
theorem adE(z:Sy D)(m:Int):T (bo (ui D m) ([],[],0)) λx=>x=(lF D.L m,[]):=by
 have hd:=z.l;refine T.loop (λs=>∃k:Nat,k<=D.L.length/\s.2.2=(k:Int)/\s.1=lF (D.L.take k) m/\s.2.1=[]) (λs=>D.L.length-s.2.2.toNat) (by grind) cq ?_;rintro⟨a,b,i⟩ ⟨k,hk,rfl,ha,hb⟩;dsimp only at ha hb;subst ha;subst hb;unfold ui;dsimp only;rcases Nat.lt_or_ge k D.L.length with hlt|hge
 .obtain⟨x,hx,_⟩:=dk hlt;have hla:(lF (D.L.take k) m).length<=k:=by grind
  simp only[eA hlt,aN,au,hx,aL];have ew:=aq (show k<2305843009213693952 by omega);have e:lF (D.L.take (k+1)) m=lF (D.L.take k) m++(if x.N≠m then[x] else[]):=by unfold lF;rw[Rb hx,List.filter_append];grind
  refine .dec (λhc=>?_) λhc=>?_
  .rw[if_pos hc] at e;refine .bind (.app cq (.some ⟨(by grind),?_⟩));rw[ew];simp;omega
  .rw[if_neg hc,List.append_nil] at e;refine .some ⟨(by grind),?_⟩;rw[ew];simp;omega
 .obtain rfl:k=D.L.length:=aa;rw[eF,cG];refine .some (show(_,_)=_ from ?_);rw[List.take_length]
theorem adF{step:List D15V×Int->Option ((List D15V×Int)⊕List D15V)}{V:List D15V}{p:D15V->Bool}(hn:V.length<=2000)(hs:∀(k:Nat) (v:D15V) (acc:List D15V),V[k]?=some v->acc.length<=2000->T (step (acc,(k:Int))) λq=>q= .inl (if p v then acc++[v] else acc,wI ((k:Int)+1)))(he:∀acc,step (acc,(V.length:Int))=some (.inr acc)):T (bo step ([],0)) λx=>x=V.filter p:=by
 refine T.forA V.length (λk acc=>acc=(V.take k).filter p) aa aC (λk acc hk hj=>?_) λacc hj=>?_
 .obtain⟨v,hv,_⟩:=dk hk;have hal:acc.length<=k:=by grind
  refine(hs k v acc hv aa).mono λq hq=>?_;subst hq;refine⟨aq aa,?_⟩;dsimp only;rw[Rb hv,List.filter_append,<-hj];cases hp:p v<;>simp[hp]
 .rw[he];refine .some (show acc=_ from ?_);rw[hj,List.take_length]
theorem aa2(z:Sy D)(h:Rr R D)(hR:RlOk R)(d:Int):T (sh D d) λD'=>Rr (jh R d) D'/\Sy D':=by
 have f:=z.dev;have b:=z.l;have a:=z.v;have z4:=z.c;unfold sh jh;rw[inE z.z h,aL];cases hi:xy R d with
 |false=>exact .some ⟨h,z⟩
 |true=>
  have hd:d∈D.In:=by grind [Rr.ins]
  rw[Bool.not_true,cG,aN,JI z.z,aL,<-h.card];refine .bind ((adD z d (eL R d)).mono λx hx=>?_);subst hx;have ho:=abI h hR hd;have hlen:=Ht (List.nodup_append.1 h.nd).1 hd;have hst:qY (lJ R d) (eL R d)=(Oa D.In d).any λx=>decide (Fp D.Cards x=eL R d):=by
   unfold qY;rw[Bool.eq_iff_iff,List.any_eq_true,List.any_eq_true];constructor
   .rintro⟨e,he,hc⟩;have hg:=mF (DG hR.ci) (k:=e.1) (v:=e.2.1) (n:=e.2.2) he;have hge:=ho.in_ e.1;grind [Rr]
   .rintro⟨x,hx,hc⟩;have hge:=ho.in_ x;rw[if_pos hx] at hge;obtain⟨n,hn⟩:=kJ hge;grind [Rr]
  refine .bind (.app cq (.bind (.app cq ?_)));rw[List.nil_append];dsimp only;rw[hst];cases hb:(Oa D.In d).any λx=>decide (Fp D.Cards x=eL R d) with
  |true=>grind [Sy,T.some]
  |false=>
   rw[cG,cG];refine .bind ((adE z (eL R d)).mono λx hx=>?_);subst hx;have hlf:(lF D.L (eL R d)).length<=2000:=Nat.le_trans (List.length_filter_le _ _) b;have hif:(Oa D.In d).length<=D.In.length:=List.length_filter_le _ _;refine .bind ((adF (p:=λv=>Hs (lF D.L (eL R d)) v.Of) a (λk v acc hv hal=>?_) λacc=>?_).mono λx hx=>?_)
   .have hk:=(cr hv).1;unfold uh;simp only[eA hk,aN,au,hv,aL];grind [T.bind,T.mono,adC,Sz,T.app,T.some]
   .grind [uh,eF]
   .subst hx;exact .some ⟨abJ ho (IH hR d) (eL R d),z4,by simp;omega,hlf,Nat.le_trans (List.length_filter_le _ _) a⟩
end
structure Rq (Q Q':DRollRoll):Prop where
 c:∀d,eL Q' d=eL Q d
 i:∀d,Q'.in_.get d=Q.in_.get d
 w:∀d,Q'.was.get d=Q.was.get d
 n:Q'.was.es.length=Q.was.es.length
 m:∀k,Q'.members.get k=Q.members.get k
 b:Q'.back=Q.back
theorem Rq.rr{Q Q':DRollRoll}{D:D15R}(q:Rq Q Q')(h:Rr Q D):Rr Q' D where
 card d:=(q.c d).trans (h.card d)
 nd:=h.nd
 in_ d:=(q.i d).trans (h.in_ d)
 was d:=(q.w d).trans (h.was d)
 w0:=q.n.trans h.w0
 ln:=h.ln
 no m hm:=h.no m ((q.m m).symm.trans hm)
 mem m x hm:=h.mem m x ((q.m m).symm.trans hm)
 vou m x g hm hg:=by grind [Rr,m]
 vof v hv:=by grind [Rr.vof,m]
 vnd:=h.vnd
 back:=q.b.trans h.back
structure Go (R Q:DRollRoll) (m:Int) (p:List Int):Prop where
 c:∀d,eL Q d=eL R d
 w:Q.was=R.was
 b:Q.back=R.back
 i:∀e,Q.in_.get e=if e∈p then none else R.in_.get e
 m1:p=[]\/(∃e v,Q.in_.get e=some v/\eL R e=m)->∀k,Q.members.get k=R.members.get k
 m2:p≠[]->(∀e v,Q.in_.get e=some v->eL R e≠m)->∀k,Q.members.get k=if k=m then none else R.members.get k
theorem Go.step{R Q:DRollRoll}{m:Int}{p:List Int}{d:Int}(h:Go R Q m p)(hQ:RlOk Q)(hp:d∉p)(hi:R.in_.get d=some true)(hm:eL R d=m):Go R (jh Q d) m (p++[d]):=by
 have hq:Q.in_.get d=some true:=by rw[h.i,if_neg hp,hi]
 have hin:xy Q d=true:=by unfold xy;rw[hq];rfl
 have ho:∀e,(lJ Q d).in_.get e=if e∈p++[d] then none else R.in_.get e:=by grind [td,RlOk.ci,i]
 have hst:qY (lJ Q d) (eL Q d)=true↔∃e v,(lJ Q d).in_.get e=some v/\eL R e=m:=by
  unfold qY;rw[List.any_eq_true,h.c,hm];constructor
  .rintro⟨e,he,hc⟩;exact⟨e.1,e.2.1,(by grind [mF,DG,RlOk.ci]),(h.c e.1).symm.trans (of_decide_eq_true hc)⟩
  .rintro⟨e,v,hg,hc⟩;obtain⟨n,hn⟩:=kJ hg;exact⟨_,hn,decide_eq_true ((h.c e).trans hc)⟩
 have a:=h.m1 (.inr ⟨d,true,hq,hm⟩);unfold jh;rw[hin,aN];cases hs:qY (lJ Q d) (eL Q d) with
 |true=>have hx:=hst.1 hs;exact⟨h.c,h.w,h.b,ho,λ_=>a,(by grind)⟩
 |false=>
  have hx:¬∃e v,(lJ Q d).in_.get e=some v/\eL R e=m:=by grind
  refine⟨h.c,h.w,h.b,ho,λc=>?_,λ_ _ k=>?_⟩;all_goals grind [td,RlOk.cm,c]
theorem Go.fold{R:DRollRoll}{m:Int}:∀{l p:List Int} {Q:DRollRoll},Go R Q m p->RlOk Q->(p++l).Nodup->(∀d∈l,R.in_.get d=some true/\eL R d=m)->Go R (l.foldl jh Q) m (p++l)
 |[],p,Q,h,_,_,_=>by rw[List.append_nil];exact h
 |d::r,p,Q,h,hQ,hn,hl=>by
  have hp:d∉p:=by grind
  have h1:=h.step hQ hp (hl d aC).1 (hl d aC).2;have:=Go.fold (l:=r) h1 (oc hQ d) (by rw[List.append_assoc];exact hn) (by grind);rw[List.append_assoc] at this;exact this
theorem Bq{R:DRollRoll}{m:Int}:∀{l:List Int} {Q:DRollRoll},(∀d,eL Q d=eL R d)->l.foldl (Bf m) Q=(l.filter λd=>decide (eL R d=m)).foldl jh Q
 |[],Q,_=>rfl
 |d::r,Q,h=>by
  have hc:∀e,eL (jh Q d) e=eL R e:=by grind [jh,eL]
  have e:Bf m Q d=bif decide (eL R d=m) then jh Q d else Q:=by unfold Bf;rw[h d]
  rw[List.foldl_cons,e];by_cases c:eL R d=m
  .rw[decide_eq_true c,aN,List.filter_cons_of_pos (p:=λd=>decide (eL R d=m)) (decide_eq_true c),List.foldl_cons];exact Bq hc
  .rw[decide_eq_false c,cG,List.filter_cons_of_neg (p:=λd=>decide (eL R d=m)) (by simpa using c)];exact Bq h
section
variable {R:DRollRoll} {D:D15R}
theorem aa5(l:List Int)(hl:l.length<=2000)(z:Sy D)(h:Rr R D)(hR:RlOk R):T (bo (AT l) (D,0)) λD'=>Rr (l.foldl jh R) D'/\Sy D':=by
 refine(T.forA l.length (λk D'=>Rr ((l.take k).foldl jh R) D'/\RlOk ((l.take k).foldl jh R)/\Sy D') aa ⟨h,hR,z⟩ (λk D' hk hj=>?_) λD' hj=>?_)
 .obtain⟨x,hx,_⟩:=dk hk;unfold AT;simp only[eA hk,aN,au,hx,aL];refine .bind ((aa2 hj.2.2 hj.1 hj.2.1 x).mono λa h2=> .some ⟨aq aa,?_⟩);rw[Rb hx,List.foldl_append];grind [oc]
 .unfold AT;dsimp only;rw[eF,cG];rw[List.take_length] at hj;exact .some ⟨hj.1,hj.2.2⟩
theorem afu(z:Sy D)(o:DOp){st:List Int×Int->Option ((List Int×Int)⊕List Int)}(hst:st=Pj D o):bo st ([],0)=some (D.In.filter λx=>decide (Fp D.Cards x=o.Member)):=by
 have a:=z.dev;subst hst;refine T.eq (T.forA D.In.length (λk acc=>acc=(D.In.take k).filter λx=>decide (Fp D.Cards x=o.Member)) aa aC (λk acc hk hj=>?_) λacc hj=>?_)
 .obtain⟨x,hx,_⟩:=dk hk;have hal:acc.length<=k:=by grind
  unfold Pj;simp only[eA hk,aN,au,hx,aL,JI z.z];have e:(D.In.take (k+1)).filter (λx=>decide (Fp D.Cards x=o.Member))=acc++(if Fp D.Cards x=o.Member then[x] else[]):=by rw[Rb hx,List.filter_append,<-hj];grind
  refine .dec (λhc=>?_) λhc=>?_
  .rw[if_pos hc] at e;exact .bind (.app cq (.some ⟨aq aa,e.symm⟩))
  .rw[if_neg hc,List.append_nil] at e;exact .some ⟨aq aa,e.symm⟩
 .unfold Pj;dsimp only;rw[eF,cG];refine .some (show acc=_ from ?_);rw[hj,List.take_length]
theorem afv(z:Sy D)(h:Rr R D)(hR:RlOk R)(o:DOp):T (bo (AT (D.In.filter λx=>decide (Fp D.Cards x=o.Member))) (D,0)) (Rr (UF R o)):=by
 have j:=z.dev;have hn:=(List.nodup_append.1 h.nd).1;refine(aa5 _ (by grind) z h hR).mono λD' hD=>?_;unfold UF;rw[Bq λd=>rfl];obtain⟨m,f,_⟩:=wa hR;generalize hA:(D.In.filter λx=>decide (Fp D.Cards x=o.Member))=A at hD;generalize hB:((mI R).filter λd=>decide (eL R d=o.Member))=B;have hAB:∀e,e∈A↔e∈B:=λe=>by
  rw[<-hA,<-hB,List.mem_filter,List.mem_filter,f.mem_iff,h.card];refine and_congr ?_ Iff.rfl;have hi:=h.in_ e;constructor
  .grind [kJ]
  .intro he;obtain⟨q,hq,rfl⟩:=List.mem_map.1 he;have hg:=mF hR.ci (k:=q.1) (v:=q.2.1) (n:=q.2.2) hq;grind
 have hin:∀d∈A,R.in_.get d=some true/\eL R d=o.Member:=by grind [Rr.in_]
 have h0:Go R R o.Member []:=by constructor<;>grind
 have gA:=Go.fold (l:=A) h0 hR (by rw[List.nil_append,<-hA];exact hn.sublist List.filter_sublist) hin;have gB:=Go.fold (l:=B) h0 hR (by rw[List.nil_append,<-hB];exact((f.nodup_iff.2 hR.ci.kd).sublist List.filter_sublist)) λd hd=>hin d ((hAB d).2 hd);rw[List.nil_append] at gA gB;have hfin:∀{Q:DRollRoll} {p:List Int},(∀e,e∈p↔e∈A)->Go R Q o.Member p->∀k,Q.members.get k=if A=[] then R.members.get k else if k=o.Member then none else R.members.get k:=λ{Q p} hp g k=>by
  by_cases c:A=[]
  .have hp0:p=[]:=by
    cases p with
    |nil=>rfl
    |cons a r=>have:=(hp a).1 aC;rw[c] at this;cases this
   grind [Go.m1]
  .rw[if_neg c];have hp0:p≠[]:=λe=>by
    cases hA':A with
    |nil=>exact c hA'
    |cons a r=>have:=(hp a).2 (by rw[hA'];simp);rw[e] at this;cases this
   refine g.m2 hp0 (λe v he hc=>?_) k;grind [Go.i,Rr.in_,Rr.card]
 have q:Rq (A.foldl jh R) (B.foldl jh R):=⟨(by grind [Go]),λd=>by rw[gA.i,gB.i];simp only[hAB],λd=>by rw[gA.w,gB.w],by rw[gA.w,gB.w],(by grind),by rw[gA.b,gB.b]⟩;exact q.rr hD.1
end
section
variable {R:DRollRoll} {D:D15R}
def NoG(R:DRollRoll)(i:DIdent):Prop:=∀q z g,R.members.get q=some z->z.guard=some g->g.id≠i
theorem abK{l:List D15M}{z:D15M}(hz:z∈l.set k y'):z=y'\/∃j,j≠k/\l[j]?=some z:=by grind [List.getElem?_of_mem]
theorem abL(h:Rr R D){x:DRollMember}{y:D15M}{g:DRollGuard}{i:DIdent}(hx:R.members.get m=some x)(hy:D.L[k]?=some y)(hn:y.N=m)(f:y'.N=m)(hM:Mr x' y')(hg:x'.guard=some g)(hi:g.id=i)(he:∀q,g.vouches.get q=none)(hf:NoG R i):Rr (ld R m x') {D with L:=D.L.set k y',V:=D.V.filter λv=>Hs (D.L.set k y') v.Of} where
 card:=h.card
 nd:=h.nd
 in_:=h.in_
 was:=h.was
 w0:=h.w0
 ln:=Sb h hy hn f
 no q hq z hz:=Sc h f q hq z hz
 mem q z hq:=Hr h hy hn f hM q z hq
 vou q z g' hq hg':=by
  have hz:∃w∈D.L.set k y',w.N=q/\Mr z w:=Hr h hy hn f hM q z hq;have hq:(ee R.members m x').get q=some z:=hq;intro b d a;rw[dD] at hq;split at hq
  .cases hq;rw[hg] at hg';cases hg';rw[he];constructor
   .intro c;cases c
   .rintro⟨v,hv,e1,_⟩;obtain⟨l,n,g2,k1,k2,k3⟩:=h.vof v (List.mem_filter.1 hv).1;exact absurd (k3.symm.trans (e1.trans hi)) (hf l n g2 k1 k2)
  .rw[h.vou q z g' hq hg'];obtain⟨w,hw,_,hm⟩:=hz;have h1:=hm.gd g' hg';have hown:Hs (D.L.set k y') g'.id=true:=by grind [uL]
   constructor
   .rintro⟨v,hv,e1,e2⟩;exact⟨v,(by grind),e1,e2⟩
   .rintro⟨v,hv,e⟩;exact⟨v,(List.mem_filter.1 hv).1,e⟩
 vof v hv:=by
  obtain⟨w,hw,h1,h2⟩:=uL.1 (List.mem_filter.1 hv).2;obtain⟨l,n,g2,k1,k2,k3⟩:=h.vof v (List.mem_filter.1 hv).1;rcases abK hw with rfl|⟨j,hj,o⟩
  .have:=(hM.gd g hg).2.1;exact absurd (by grind) (hf l n g2 k1 k2)
  .obtain⟨z,hz,hm⟩:=h.of (bO o);have hne:w.N≠m:=λc=>by
    have e1:(D.L.map (·.N))[j]?=some m:=by grind
    have e2:(D.L.map (·.N))[k]?=some m:=by grind
    exact hj (rj h.ln e1 e2)
   cases hgd:z.guard with
   |none=>rw[hm.no hgd] at h1;cases h1
   |some p=>exact⟨w.N,z,p,by grind [dD],hgd,by grind [Mr.gd]⟩
 vnd:=h.vnd.sublist (List.filter_sublist.map _)
 back:=h.back
theorem afx(z:Sy D)(h:Rr R D){i:DIdent}(hf:NoG R i):T (o7 D o i) (Rr (Gq R o i)):=by
 have b:=z.l;have a:=z.v;have z4:=z.c;have d:=z.dev;unfold o7 Gq;rw[JI z.z,aL,<-h.card];refine .bind ((Fw z.z h (eL R o.By)).mono λv hv=>?_);cases hx:R.members.get (eL R o.By) with
 |none=>grind [T.some]
 |some x=>
  rw[hx] at hv;obtain⟨k,y,rfl,hy,hn,hM⟩:=hv;have hk:=(cr hy).1;rw[show decide ((k:Int)<0)=false from decide_eq_false aa,cG,au,hy,aL,aL];unfold o6;refine .bind (.bind (.app cq (.bind (.set aa cq (.some ?_)))));rw[List.nil_append,Int.toNat_natCast];refine .bind ((adF (p:=λv=>Hs (D.L.set k ⟨y.N,y.Role,true,i,o.Guards,o.Need,o.Wait,false,0⟩) v.Of) a (λj v acc hv hal=>?_) λacc=>?_).mono λq hq=>?_)
  .have hj:=(cr hv).1;unfold ni;simp only[eA hj,aN,au,hv,aL];grind [T.bind,T.mono,adC,Sz,T.app,T.some]
  .grind [ni,eF]
  .subst hq;refine .some (abL h hx hy hn hn ⟨hM.role,λc=>(by cases c),λg hg=>?_⟩ rfl rfl (λq=>rfl) hf);cases hg;exact⟨rfl,rfl,rfl,rfl,rfl,rfl,rfl⟩
def mu(o:DOp)(v:D15V):Bool:=decide (v.Of=o.Of)&&(decide (v.By=o.By)&&decide (v.Device=o.Device))
theorem Se{v:D15V}:mu o v=true↔v.Of=o.Of/\v.By=o.By/\v.Device=o.Device:=by grind [mu]
theorem afy(z:Sy D)(h:Rr R D)(o:DOp):T (bo (nj D o) (o.At,[],0)) λx=>x.2=D.V.filter (λv=> !mu o v)/\((x.1=o.At/\∀v∈D.V,mu o v=false)\/∃v∈D.V,mu o v=true/\x.1=iI o.At v.At):=by
 have a:=z.v;refine T.loop (λs=>∃k:Nat,k<=D.V.length/\s.2.2=(k:Int)/\s.2.1=(D.V.take k).filter (λv=> !mu o v)/\((s.1=o.At/\∀v∈D.V.take k,mu o v=false)\/∃(j:Nat) (v:D15V),j<k/\D.V[j]?=some v/\mu o v=true/\s.1=iI o.At v.At)) (λs=>D.V.length-s.2.2.toNat) (by grind) cq ?_;rintro⟨b,acc,i⟩ ⟨k,hk,rfl,ha,hm⟩;dsimp only at ha hm;subst ha;unfold nj;dsimp only;rcases Nat.lt_or_ge k D.V.length with hlt|hge
 .obtain⟨v,hv,_⟩:=dk hlt;have hla:((D.V.take k).filter (λv=> !mu o v)).length<=k:=by grind
  have ew:=aq (show k<2305843009213693952 by omega);have e:(D.V.take (k+1)).filter (λv=> !mu o v)=(D.V.take k).filter (λv=> !mu o v)++(if mu o v=true then[] else[v]):=by rw[Rb hv,List.filter_append];cases c:mu o v<;>simp[c]
  simp only[eA hlt,aN,au,hv,aL];refine .bind (T.mono (Q:=λq=>q=mu o v) (by grind [mu,T.some]) λq hq=>?_)
  subst hq;cases c:mu o v with
  |true=>
   rw[c,if_pos rfl,List.append_nil] at e;rw[aN];refine .some ⟨⟨k+1,aa,ew,e.symm,.inr ⟨k,v,aa,hv,c,?_⟩⟩,by rw[ew];simp;omega⟩;rcases hm with⟨rfl,_⟩|⟨j,w,hj,hw,hc,_⟩
   .rfl
   .have kc:∀u:D15V,mu o u=true->(u.Of,u.By,u.Device)=(o.Of,o.By,o.Device):=by grind [mu]
    have e1:(D.V.map λv=>(v.Of,v.By,v.Device))[j]?=some (o.Of,o.By,o.Device):=by grind
    have e2:(D.V.map λv=>(v.Of,v.By,v.Device))[k]?=some (o.Of,o.By,o.Device):=by grind
    have:=rj h.vnd e1 e2;omega
  |false=>rw[c,if_neg aC] at e;rw[cG];refine .bind (.app cq (.some ⟨⟨k+1,aa,ew,e.symm,?_⟩,by rw[ew];simp;omega⟩));grind [Rb]
 .obtain rfl:k=D.V.length:=aa;rw[eF,cG];rw[List.take_length] at hm⊢;refine .some ⟨rfl,?_⟩;grind
theorem Sf(h:Rr R D)(hR:RlOk R){x:DRollMember}{g g2:DRollGuard}{a:Int}{M:FM Int DRollMember}(hx:R.members.get m=some x)(hg:x.guard=some g)(hid:g.id=o.Of)(e2:∀y,Mr x y->Mr ⟨x.role,some g2⟩ y)(ei:g2.id=g.id)(hM:∀q,M.get q=if q=m then some ⟨x.role,some g2⟩ else R.members.get q)(hv:∀q,g2.vouches.get q=if q=EP o then some a else g.vouches.get q):Rr {R with members:=M} {D with V:=D.V.filter (λv=> !mu o v)++[⟨o.Of,o.By,o.Device,a⟩]} where
 card:=h.card
 nd:=h.nd
 in_:=h.in_
 was:=h.was
 w0:=h.w0
 ln:=h.ln
 no q hq y hy:=by grind [Rr.no]
 mem q z hq:=by grind [Rr.mem]
 vou q z g' hq hg':=by
  have hq:M.get q=some z:=hq;intro b d c;have hkb:∀v:D15V,(!mu o v)=true↔¬(v.Of=o.Of/\v.By=o.By/\v.Device=o.Device):=by grind [Se]
  have hV:∀i,Xh (D.V.filter (λv=> !mu o v)++[⟨o.Of,o.By,o.Device,a⟩]) i b d c↔(i=o.Of/\b=o.By/\d=o.Device/\c=a)\/(¬(i=o.Of/\b=o.By/\d=o.Device)/\Xh D.V i b d c):=λi=>by
   constructor
   .rintro⟨v,hv,e1,e2,e3,e4⟩;rcases List.mem_append.1 hv with hv|hv
    .rw[List.mem_filter,hkb,e1,e2,e3] at hv;exact .inr ⟨hv.2,v,hv.1,e1,e2,e3,e4⟩
    grind
   .rintro(⟨rfl,rfl,rfl,rfl⟩|⟨hne,v,hv,e1,e2,e3,e4⟩)
    .exact⟨_,List.mem_append.2 (.inr (List.mem_singleton.2 rfl)),rfl,rfl,rfl,rfl⟩
    .exact⟨v,(by grind),e1,e2,e3,e4⟩
  show _↔Xh (D.V.filter (λv=> !mu o v)++[⟨o.Of,o.By,o.Device,a⟩]) g'.id b d c;rw[hV];rw[hM] at hq;split at hq
  .grind [Rr.vou]
  .rename_i hne;rw[h.vou q z g' hq hg'];have hd:g'.id≠o.Of:=by grind [RlOk]
   grind
 vof v e:=by grind [Rr.vof]
 vnd:=by show((D.V.filter (λv=> !mu o v)++[(⟨o.Of,o.By,o.Device,a⟩:D15V)]).map λv=>(v.Of,v.By,v.Device)).Nodup;rw[List.map_append,List.map_cons,List.map_nil,List.perm_append_comm.nodup_iff,List.singleton_append,List.nodup_cons];refine⟨λhh=>?_,h.vnd.sublist (List.filter_sublist.map _)⟩;grind [mu]
 back:=h.back
theorem afz(z:Sy D)(h:Rr R D)(hR:RlOk R)(o:DOp):T (o8 D o) (Rr (Gf R o)):=by
 have c:=z.v;unfold o8;refine .bind ((Hp z.z h hR o).mono λv hv=>?_);rw[hv.1];cases hf:R.members.es.find? λe=>nw e.2.1 o.Of with
 |none=>grind [eI,Gf,T.some]
 |some e=>
  obtain⟨hx,_⟩:=hR.mem (List.mem_of_find?_eq_some hf);have hge:nw e.2.1 o.Of=true:=by have:=List.find?_some hf;exact this
  obtain⟨q,⟨role,gd⟩,n⟩:=e;dsimp only at hx hge;cases gd with
  |none=>cases hge
  |some g=>
  have hid:g.id=o.Of:=of_decide_eq_true hge;have e1:eI R o=bif g.guards.any (λy=>decide (o.By=y)) then(q,0) else(0,14):=by unfold eI;rw[hf]
  have e2:Gf R o=bif(g.guards.any λy=>decide (o.By=y))&&I1 g o then ld R q ⟨role,some (Nl g o)⟩ else R:=by unfold Gf;rw[hf]
  rw[e1,e2];cases hb:g.guards.any λy=>decide (o.By=y) with
  |false=>exact .some h
  |true=>
  rw[aN,Bool.true_and];refine .bind ((afy z h o).mono λx hx2=>?_);obtain⟨b,V'⟩:=x;obtain⟨h1,h2⟩:=hx2;dsimp only at h1 h2;subst h1;have hfl:(D.V.filter λv=> !mu o v).length<=D.V.length:=List.length_filter_le _ _;refine .bind (.app cq (.some ?_));have key:∀a,g.vouches.get (EP o)=some a↔∃v∈D.V,mu o v=true/\v.At=a:=λa=>by
   rw[show EP o=⟨o.By,o.Device⟩ from rfl,h.vou q _ g hx rfl];constructor
   .rintro⟨v,hv,k1,k2,k3,d⟩;grind [mu]
   .rintro⟨v,hv,k1,k2⟩;unfold mu at k1;simp only[bA,decide_eq_true_eq] at k1;exact⟨v,hv,k1.1.trans hid.symm,k1.2.1,k1.2.2,k2⟩
  have keep:g.vouches.get (EP o)=some b->Rr R {D with V:=D.V.filter (λv=> !mu o v)++[⟨o.Of,o.By,o.Device,b⟩]}:=λhk=>Sf (M:=R.members) (g2:=g) (a:=b) h hR hx rfl hid (λy hy=>hy) rfl (by grind) (by grind);have new:b=o.At->Rr (ld R q ⟨role,some (Nl g o)⟩) {D with V:=D.V.filter (λv=> !mu o v)++[⟨o.Of,o.By,o.Device,b⟩]}:=λhk=>Sf (M:=ee R.members q ⟨role,some (Nl g o)⟩) (g2:=Nl g o) (a:=b) h hR hx rfl hid (by grind [Mr]) rfl (λp=>by rw[dD]) (by grind [dD]);cases hg:g.vouches.get (EP o) with
  |none=>
   have hN:I1 g o=true:=by unfold I1;rw[hg]
   rw[hN];rcases h2 with⟨h2,_⟩|⟨v,hv,h3,h4⟩
   .exact new h2
   .have:=(key v.At).2 ⟨v,hv,h3,rfl⟩;rw[hg] at this;cases this
  |some a=>
   have hN:I1 g o=decide (o.At<a):=by unfold I1;rw[hg]
   obtain⟨w,hw,k1,k2⟩:=(key a).1 hg;have hmn:b=iI o.At a:=by
    rcases h2 with⟨_,h2⟩|⟨v,hv,h3,h4⟩
    .rw[h2 w hw] at k1;cases k1
    .have:=(key v.At).2 ⟨v,hv,h3,rfl⟩;grind
   grind [iI]
end
section
variable {R:DRollRoll} {D:D15R}
theorem afA(z:Sy D)(h:Rr R D)(hR:RlOk R)(o:DOp):T ((bif decide (0<ah D.In) then(some true) else(bif decide (0<ah D.Gone) then(some true) else((gE D o.By).bind λa=>some (decide (a=0))))).bind λb=>bif b then(some D) else((nX D o.By 3).bind λc=>some ({c with Back:=o.Need}))) (Rr (Ly R o)):=by
 have hw:=h.w0;unfold Ly;rw[JI z.z,<-h.card,aL];unfold ah;rcases Nat.eq_zero_or_pos D.In.length with c1|c1
 .rcases Nat.eq_zero_or_pos D.Gone.length with c2|c2
  .have hi:D.In=[]:=List.eq_nil_of_length_eq_zero c1;have hg:D.Gone=[]:=List.eq_nil_of_length_eq_zero c2;have hf:f6 R o.By=decide (0<eL R o.By):=by grind [Rr.was,f6,kN]
   rw[c1,c2,hw,c1,c2,hf];have h0:=(hR.c3 o.By).1;have h0:0<=eL R o.By:=h0;rw[show decide ((0:Int)<((0:Nat):Int))=false from rfl,cG,cG,aL,show decide ((((0+0:Nat)):Int)=0)=true from rfl,Bool.true_and];by_cases c3:eL R o.By=0
   .rw[decide_eq_true c3,c3];exact .some h
   .rw[decide_eq_false c3,show decide (0<eL R o.By)=true from decide_eq_true aa,cG,aN];refine .bind ((MH z h hR o.By 3).mono λD' hD=> .some ?_);have h1:=hD.1;exact⟨h1.card,h1.nd,h1.in_,h1.was,h1.w0,h1.ln,h1.no,h1.mem,h1.vou,h1.vof,h1.vnd,rfl⟩
  grind [T.some]
 grind [T.some]
theorem afB(z:Sy D)(h:Rr R D)(o:DOp){a:Int}(hv:match R.members.get (eL R o.By) with
  |none=>a= -1
  |some x=>∃(k:Nat) (y:D15M),a=(k:Int)/\D.L[k]?=some y/\y.N=eL R o.By/\Mr x y):T ((bif decide (0<=a) then((aS D.L (hE a 0)).bind λc=>bif c.Is then((aS D.L (hE a 0)).bind λd=>some (decide (d.ID=o.Of))) else(some false)) else(some false)).bind λf=>bif f then((aS D.L a).bind λb=>(o6 D.L a ({b with Objected:=true,Last:=hE b.Last o.At})).bind λi=>some ({D with L:=i})) else(some D)) (Rr (EO R o)):=by
 have j:=z.l
 cases hx:R.members.get (eL R o.By) with
 |none=>
  grind [EO,T.some]
 |some x=>
  rw[hx] at hv
  obtain⟨k,y,rfl,hy,hn,hM⟩:=hv
  have hk:=(cr hy).1
  have hmx:hE (k:Int) 0=(k:Int):=by unfold hE;rw[if_neg aa]
  rw[show decide ((0:Int)<=(k:Int))=true from decide_eq_true aa,aN,hmx,au,hy,aL,aL]
  obtain⟨role,gd⟩:=x
  cases gd with
  |none=>
   grind [EO,Mr.no,T.some]
  |some g=>
   have h1:=hM.gd g rfl
   have e:EO R o=bif decide (g.id=o.Of) then ld R (eL R o.By) ⟨role,some {g with objected:=true,last:=hE g.last o.At}⟩ else R:=by unfold EO;rw[hx]
   rw[e,h1.1,h1.2.1,aN,aL]
   cases decide (g.id=o.Of) with
   |false=>exact .some h
   |true=>
    rw[aN,aN,aL]
    unfold o6
    refine .bind (.bind (.app cq (.bind (.set aa cq (.some (.some ?_))))))
    rw[List.nil_append,Int.toNat_natCast]
    refine Sd h hx hy hn hn (by grind [Mr]) (λm hg'=>?_) (by grind)
    all_goals grind
theorem afC(z:Sy D)(hb:D.In.length+D.Gone.length<=1999/\D.L.length<=1999)(h:Rr R D)(hR:RlOk R)(o:DOp):T ((jN D o.Of).bind λb=>(bif decide (0<=b) then((fb D.In o.Old).bind λj=>bif j then((gE D o.Old).bind λm=>(aS D.L (hE b 0)).bind λn=>bif decide (m=n.N) then((gE D o.Device).bind λp=>(aS D.L (hE b 0)).bind λq=>some (decide (p=q.N))) else(some false)) else(some false)) else(some false)).bind λr=>bif r then((gE D o.Device).bind λd=>(se D d).bind λf=>(nX D o.Device f).bind λi=>(sh i o.Old).bind λa=>some a) else(some D)) (Rr (I3 R o)):=by
 refine .bind ((adx z.z h hR o.Of).mono λv hv=>?_);have fin:T (bif Nn R o then((gE D o.Device).bind λd=>(se D d).bind λf=>(nX D o.Device f).bind λi=>(sh i o.Old).bind λa=>some a) else(some D)) (Rr (I3 R o)):=by
  unfold I3;cases Nn R o with
  |false=>exact .some h
  |true=>rw[aN,aN,JI z.z,aL,<-h.card,aa1 z.z h,aL];refine .bind ((MH z h hR _ _).mono λD' hD=>?_);have g1:=hD.2.dev;have g2:=hD.2.l;refine .bind (by grind [T.mono,aa2,Sy,Gw.c,Gw.v,lI,T.some])
 cases hf:R.members.es.find? λe=>nw e.2.1 o.Of with
 |none=>grind [Nn,kI]
 |some e=>
  rw[hf] at hv;obtain⟨k,y,g,rfl,hy,hn,_,_,_,hx⟩:=hv;have hw:kI R o.Of=e.1:=by unfold kI;rw[hf]
  have h3:=hR.m3 e (List.mem_of_find?_eq_some hf);have hB:Nn R o=bif xy R o.Old then(bif decide (eL R o.Old=e.1) then decide (eL R o.Device=e.1) else false) else false:=by grind [Nn]
  have hmx:hE (k:Int) 0=(k:Int):=by unfold hE;rw[if_neg aa]
  rw[show decide ((0:Int)<=(k:Int))=true from decide_eq_true aa,aN,inE z.z h,aL,hmx,au,hy];grind [JI,Sy.z,Rr.card]
theorem doE(z:Sy D)(hb:D.In.length+D.Gone.length<=1999/\D.L.length<=1999)(h:Rr R D)(hR:RlOk R){o:DOp}{i:DIdent}(hf:o.Kind=9->NoG R i):T (DM D o i) (Rr (Dd R o i)):=by
 unfold DM;refine .eqb (JI z.z o.By) ?_;rw[<-h.card];refine .bind ((Fw z.z h (eL R o.By)).mono λa hv=>?_);unfold Dd;refine .dec (λk1=>?_) λk1=>?_
 .grind [afA]
 rw[if_neg k1];refine .dec (λk2=>?_) λk2=>?_
 .rw[if_pos k2];exact .bind (by grind [T.mono,MH,T.some])
 rw[if_neg k2];refine .dec (λk3=>?_) λk3=>?_
 .rw[if_pos k3];by_cases c:o.Device=0
  .rw[if_pos c,decide_eq_true c,aN,afu z o rfl,aL,aL];exact .bind ((afv z h hR o).mono λD' hD=> .some hD)
  .rw[if_neg c,decide_eq_false c,cG,aL];exact .bind (by grind [T.mono,aa5,T.some])
 rw[if_neg k3];refine .dec (λk5=>?_) λk5=>?_
 .rw[if_pos k5];exact adB z h o
 rw[if_neg k5];refine .dec (λk9=>?_) λk9=>?_
 .grind [afx]
 grind [afz,T.some,afB,afC]
theorem adG(hc:∀d,eL (jR cs) d=Fp cs d):T (AV cs) (Rr (jR cs)):=by
 refine .some ⟨hc,.nil,λd=>?_,λd=>?_,rfl,.nil,(by grind),λm x hm=>(by cases hm),λm x g hm=>(by cases hm),λv hv=>(by cases hv),.nil,rfl⟩
 .rw[if_neg aC];rfl
 .rw[if_neg aC];rfl
end
theorem T.and{α:Type}{x:Option α}{P Q:α->Prop}(h1:T x P)(h2:T x Q):T x λv=>P v/\Q v:=by obtain⟨v,e,p⟩:=h1;obtain⟨w,e2,q⟩:=h2;rw[e] at e2;cases e2;exact⟨v,e,p,q⟩
def Gs(R:DRollRoll)(S:List DIdent):Prop:=∀q z g,R.members.get q=some z->z.guard=some g->g.id∈S
section
variable {R:DRollRoll} {S:List DIdent}
theorem Gs.up(h:Gs R S)(i:DIdent):Gs R (S++[i]):=λq z g h1 h2=>by simp[h q z g h1 h2]
theorem DP(h:Gs R S){M:FM Int DRollMember}{k:Int}{x:DRollMember}(hM:∀q,M.get q=if q=k then some x else R.members.get q)(hx:∀g,x.guard=some g->g.id∈S){Q:DRollRoll}(hQ:Q.members=M):Gs Q S:=λq z g h1 h2=>by
 rw[hQ,hM] at h1;split at h1
 .cases h1;exact hx g h2
 .exact h q z g h1 h2
theorem DQ(h:Gs R S)(d role:Int):Gs (lT R d role) S:=by
 unfold lT;cases f6 R d with
 |false=>exact h
 |true=>
  cases hm:(R.members.get (eL R d)).isSome with
  |true=>exact λq z g h1 h2=>h q z g (by grind) h2
  |false=>exact DP h (M:=ee R.members (eL R d) ⟨role,none⟩) (λq=>dD _ q) (λg hg=>by cases hg) (by rw[aN];simp[hm])
theorem Hv(h:Gs R S)(hR:RlOk R)(d:Int):Gs (jh R d) S:=by
 unfold jh;cases xy R d with
 |false=>exact h
 |true=>
  cases qY (lJ R d) (eL R d) with
  |true=>exact h
  |false=>
   intro q z g h1 h2;have h1:(zv R.members (eL R d)).get q=some z:=h1;rw[td hR.cm] at h1;split at h1
   .cases h1
   .exact h q z g h1 h2
theorem abM(h:Gs R S)(hR:RlOk R)(m:Int):∀l:List Int,Gs (l.foldl (Bf m) R) S:=λl=>by induction l generalizing R<;>grind [Pu,Bf,Hv]
theorem aa8(h:Gs R S)(hR:RlOk R)(o:DOp)(i:DIdent):Gs (Dd R o i) (S++[i]):=by
 unfold Dd;split
 .unfold Ly;cases decide ((R.was.es.length:Int)=0)&&f6 R o.By with
  |false=>exact h.up i
  |true=>exact(DQ h o.By 3).up i
 split
 .exact(DQ h _ _).up i
 split
 .split
  .exact(abM h hR _ _).up i
  .exact(Hv h hR _).up i
 split
 .refine Gs.up ?_ i;unfold CD;split
  .exact h
  .rename_i x hx;exact DP h (x:=⟨o.Role,x.guard⟩) (λq=>dD _ q) (λg hg=>h _ x g hx hg) rfl
 split
 .unfold Gq;split
  .exact h.up i
  .exact DP (h.up i) (λq=>dD _ q) (by grind) rfl
 split
 .refine Gs.up ?_ i;unfold Gf;split
  .rename_i k role g n hf;have hx:=(hR.mem (List.mem_of_find?_eq_some hf)).1;cases(g.guards.any λy=>decide (o.By=y))&&I1 g o with
   |false=>exact h
   |true=>exact DP h (λq=>dD _ q) (λa hg=>by cases hg;exact h _ _ g hx rfl) rfl
  .exact h
 split
 .refine Gs.up ?_ i;unfold EO;split
  .rename_i role g hx;cases decide (g.id=o.Of) with
   |false=>exact h
   |true=>exact DP h (λq=>dD _ q) (λa hg=>by cases hg;exact h _ _ g hx rfl) rfl
  .exact h
 grind [Gs.up,I3,Hv,DQ,lI]
end
structure Pg (g:D12G) (m:FM DIdent Int) (N:List DGraphNode):Prop where
 w:WfG g
 p:PgOk g m N
 od:∀(i:Nat) (o:DOp) (x:DIdent),g.L[i]?=some o->g.IDs[i]?=some x->OpD o x
 dv:∀(i:Nat) (o:DOp) (x:DIdent),g.L[i]?=some o->g.IDs[i]?=some x->∃c∈g.Cards,c.Device=o.By
 cd:CdOk g.Cards
 cn:(g.Cards.map (·.Device)).Nodup
section
variable {g:D12G} {m:FM DIdent Int} {N:List DGraphNode} (P:Pg g m N)
include P
theorem Pg.op{i:Nat}{o:DOp}{x:DIdent}(ho:g.L[i]?=some o)(hx:g.IDs[i]?=some x):(fA g m N).op x=some o/\(fA g m N).o x=o:=by
 have e:(fA g m N).op x=some o:=by rw[abu P.w P.p,uD P.w hx];exact ho
 grind [Gi.o]
theorem Pg.bef{i k:Nat}{x y:DIdent}(hx:g.IDs[i]?=some x)(hy:g.IDs[k]?=some y):(fA g m N).bef x y=yH g k i:=by rw[acD P.w P.p,uD P.w hx,uD P.w hy]
theorem Pg.new(d:Int):eL (jR g.Cards) d=Fp g.Cards d:=by
 have key:∀(l:List DCard) (M:FM Int DCard),(l.map (·.Device)).Nodup->(∀c∈l,M.get c.Device=none)->(l.foldl (λm c=>ee m c.Device c) M).get d=match l.find? λc=>decide (c.Device=d) with|some c=>some c|none=>M.get d:=by
  intro l;induction l with
  |nil=>exact λM _ _=>rfl
  |cons c r ih=>grind [dD]
 unfold eL Fp jR act;rw[key g.Cards ⟨[],0⟩ P.cn λc _=>rfl];cases g.Cards.find? λc=>decide (c.Device=d)<;>rfl
theorem JV{D:D15R}(h:RkS g n D)(hn:n<=1000):Sy D:=by grind [Pg,RkS,Sy,WfG.nC]
theorem afE{l:List Int}(hi:EF g l)(hl:l.length<=1000)(hnd:(lM g l).Nodup){id:DIdent}(hk:g.IDs[k]?=some id):T (Fg g l (k:Int)) λD=>Rr (E0 (fA g m N) (lM g l) id) D/\RlOk (E0 (fA g m N) (lM g l) id)/\RkS g 1000 D:=by
 have w:=P.w;have nL:=w.nL;have nI:=w.nI;have hkl:k<g.L.length:=by grind
 obtain⟨d,e0,f⟩:=adG (P.new);unfold Fg;rw[e0,aL];have hD0:d=⟨g.Cards,[],[],[],0,[]⟩:=(cP e0).symm;subst hD0;refine .bind (T.mono (Q:=λD=>Rr (E0 (fA g m N) (lM g l) id) D/\RlOk (E0 (fA g m N) (lM g l) id)/\RkS g 1000 D) (T.forA l.length (λj D=>(Rr (((lM g l).take j).foldl (Bh (fA g m N) id) (jR g.Cards)) D/\RlOk (((lM g l).take j).foldl (Bh (fA g m N) id) (jR g.Cards))/\Gs (((lM g l).take j).foldl (Bh (fA g m N) id) (jR g.Cards)) ((lM g l).take j))/\RkS g j D) aa ⟨⟨f,pn P.cd.r,λq z g h=>by cases h⟩,Mv g⟩ (λj D hj hr=>?_) λD hr=>?_) λD hr=> .some hr)
 .obtain⟨y,hy,hm⟩:=dk hj;obtain⟨i,x,rfl,hil,hx,a⟩:=uF w hi hy;obtain⟨o,ho,so,t⟩:=w.op hil;obtain⟨row,b,hrow,hb⟩:=w.cell hkl hil;obtain⟨⟨h1,h2,h3⟩,h4⟩:=hr;have hod:=P.od i o x ho hx;have c:=(P.op ho hx).2;have hbf:(fA g m N).bef x id=b:=by rw[P.bef hx hk];grind [yH]
  have et:((lM g l).take (j+1)).foldl (Bh (fA g m N) id) (jR g.Cards)=bif b then Dd (((lM g l).take j).foldl (Bh (fA g m N) id) (jR g.Cards)) o x else((lM g l).take j).foldl (Bh (fA g m N) id) (jR g.Cards):=by rw[Rb a,List.foldl_append,List.foldl_cons,List.foldl_nil];unfold Bh;rw[hbf,c]
  have hxS:x∉(lM g l).take j:=by grind [List.getElem?_of_mem,rj]
  rw[et,Rb a];generalize ((lM g l).take j).foldl (Bh (fA g m N) id) (jR g.Cards)=R at h1 h2 h3⊢;unfold xx;simp only[eA hj,aN,au,hy,ho,hx,hrow,hb,aL];have z:=JV P h4 aa;have p:=h4.dev;have s:=h4.nL;cases b with
  |true=>exact .bind ((T.and (doE z ⟨aa,aa⟩ h1 h2 λ_ q z n k1 k2 e=>by have:=h3 q z n k1 k2;rw[e] at this;exact hxS this) (Gc w aa h4 so x)).mono λv hv=> .some (by constructor<;>grind [aq,yK,aa8]))
  |false=>exact .some (by constructor<;>grind [aq,Gs.up,RkS.up])
 .unfold xx;dsimp only;rw[eF,cG];have hl2:(lM g l).length=l.length:=List.length_map ..;rw[<-hl2,List.take_length] at hr;exact .some ⟨hr.1.1,hr.1.2.1,hr.2.up aa⟩
end
structure Lr (g:D12G) (dl:D16L) (al:DAuthList):Prop where
 row:EF g dl.Row
 nm:lM g dl.Row=al.row
 nd:al.row.Nodup
 nr:dl.Row.length<=1000
 nv:dl.Void.length=g.L.length
 nc:dl.Decided.length=g.L.length
 vd:∀(p:Nat) (x:DIdent),g.IDs[p]?=some x->dl.Void[p]?=some (bU (al.void.get x))
section
variable {g:D12G} {m:FM DIdent Int} {N:List DGraphNode} (P:Pg g m N)
include P
theorem aa9(h:Lr g dl al):T (zK g dl) λr=>EF g r/\r.length<=1000/\lM g r=mR (fA g m N) al/\(lM g r).Sublist al.row:=by
 have w:=P.w;have nL:=w.nL;have hr:=h.nr;unfold zK mR;refine .bind (T.mono (Q:=λr=>EF g r/\r.length<=1000/\lM g r=al.row.foldl (pi (fA g m N) al.void) []/\(lM g r).Sublist al.row) (T.forA dl.Row.length (λj r=>EF g r/\r.length<=j/\lM g r=(al.row.take j).foldl (pi (fA g m N) al.void) []/\(lM g r).Sublist (al.row.take j)) aa ⟨.nil,aC,by simp[lM],by simp[lM]⟩ (λk acc hk hj=>?_) λr a=>?_) λr a=> .some a)
 .obtain⟨y,hy,hm⟩:=dk hk;obtain⟨i,x,rfl,hil,hx,b⟩:=uF w h.row hy;rw[h.nm] at b;obtain⟨o,ho,so,q⟩:=w.op hil;obtain⟨l,p,n,d⟩:=hj;have f:=(P.op ho hx).2;have hod:=P.od i o x ho hx;have hv:=h.vd i x hx;have hnd:(lM g acc).Nodup:=(h.nd.sublist (List.take_sublist k _)).sublist d;rw[Rb b,List.foldl_append,List.foldl_cons,List.foldl_nil,<-n];unfold um;simp only[eA hk,aN,au,hy,ho,hx,hv,aL];have keep:(lM g acc).Sublist (al.row.take k++[x]):=d.trans (List.sublist_append_left _ _);unfold pi;rw[f];cases hc:bU (al.void.get x) with
  |true=>exact .some (by constructor<;>grind [aq])
  |false=>
   rw[cG,cG];refine .bind ((afE P l aa hnd hx).mono λD hD=>?_);rw[adz (JV P hD.2.2 aa).z hD.1 hD.2.1 hod.g x,aL];refine .dec (λc=>?_) λc=>?_
   .rw[decide_eq_true c,aN];have e:lM g (acc++[(i:Int)])=lM g acc++[x]:=by simp[lM,hx]
    exact .bind (.app cq (.some ⟨aq aa,l.snoc hil,by simp;omega,e,e▸d.append (.refl _)⟩))
   .rw[decide_eq_false c,cG];exact .some (by constructor<;>grind [aq])
 .unfold um;dsimp only;rw[eF,cG];have hl2:al.row.length=dl.Row.length:=by rw[<-h.nm,List.length_map]
  rw[<-hl2,List.take_length] at a;exact .some ⟨a.1,aa,a.2.2.1,a.2.2.2⟩
theorem Xi(d:Int):nT g d=some (match(fA g m N).card d with|some c=>c.Member|none=>0):=by have nC:=P.w.nC;unfold nT;rw[Cw aa,aL];unfold mZ;show _=some (match g.Cards.find? (λc=>decide (c.Device=d)) with|some c=>c.Member|none=>0);grind
theorem Pg.same{i k:Nat}{x y:DIdent}(hx:g.IDs[i]?=some x)(hy:g.IDs[k]?=some y):x=y↔(i:Int)=(k:Int):=by grind [Pg,rj,WfG.nd]
theorem Sg{i:Nat}(hi:i<g.L.length)(hk:k<g.L.length)(hx:g.IDs[i]?=some x)(hy:g.IDs[k]?=some y):n9 g (i:Int) (k:Int)=some (mf (fA g m N) x y):=by
 have w:=P.w;obtain⟨a,ha,j,f⟩:=w.op hi;obtain⟨b,hb,h,l⟩:=w.op hk;obtain⟨row,u,hrow,hu⟩:=w.cell hi hk;obtain⟨e,v,c,hv⟩:=w.cell hk hi;have ea:=P.op ha hx;have eb:=P.op hb hy;have e1:(fA g m N).bef y x=u:=by rw[P.bef hy hx];grind [yH]
 have e2:(fA g m N).bef x y=v:=by rw[P.bef hx hy];grind [yH]
 have d:=P.same hx hy;unfold n9 mf;simp only[au,ha,hb,hrow,hu,c,hv,aL,ea.1,eb.1,ea.2,eb.2,e1,e2,Option.isSome_some,Bool.true_and];have hd:decide (x=y)=decide ((i:Int)=(k:Int)):=decide_eq_decide.2 d;rw[hd];cases decide ((i:Int)=(k:Int)) with
 |true=>rfl
 |false=>
 cases u with
 |true=>cases v<;>rfl
 |false=>
 cases v with
 |true=>rfl
 |false=>
 simp only[cG,aL,Bool.not_false,Bool.true_and];unfold acx LE;rw[Xi P];by_cases k3:a.Kind=3
 .rw[k3];simp only[Int.reduceEq,decide_true,decide_false,aN,cG];by_cases hD:a.Device=0
  .have hm:=T1 f.numbers|>.k3 k3;grind [decide_eq_false]
  grind
 grind
theorem Sh(h:Lr g dl al){i:Nat}(hi:i<g.L.length)(hk:k<g.L.length)(hx:g.IDs[i]?=some x)(hy:g.IDs[k]?=some y):qW g dl (i:Int) (k:Int)=some (fT (fA g m N) al.row x y):=by
 have w:=P.w;have hr:=h.nr;have b:=P.same hx hy;unfold qW fT;rw[show decide (x=y)=decide ((i:Int)=(k:Int)) from decide_eq_decide.2 b];cases decide ((i:Int)=(k:Int)) with
 |true=>rfl
 |false=>
 rw[cG,Bool.not_false,Bool.true_and];refine T.eq (.bind ((T.search dl.Row (λz=>E5 (fA g m N) x y ((g.IDs[z.toNat]?).getD ⟨0,0,0⟩)) (λk _=>true) aa (λj z hz hj=>?_) ?_).mono ?_))
 .obtain⟨q,v,rfl,a,hv,_⟩:=uF w h.row hz;obtain⟨row,u,hrow,hu⟩:=w.cell hi a;have e1:(fA g m N).bef v x=u:=by rw[P.bef hv hx];grind [yH]
  have hvx:decide (v=x)=decide ((q:Int)=(i:Int)):=decide_eq_decide.2 (P.same hv hx);unfold qV E5;rw[eA hj,aN,au,hz,aL,Int.toNat_natCast,hv,Option.getD_some,aq aa,e1,hvx,Sg P hk a hy hv];grind [au]
 .unfold qV;rw[eF,cG]
 .have hmap:∀z∈dl.Row,((g.IDs[z.toNat]?).getD ⟨0,0,0⟩)∈al.row:=by grind [Lr.nm]
  rintro r (⟨rfl,hn⟩|⟨j,z,hz,hp,rfl,hn⟩)
  .refine .some ?_;grind [Lr.nm]
  .refine .some ?_;grind
end
theorem JW(c:CheckOk o)(h:LP o=some d):1<=d/\d<=12:=by have f:=T1 c.numbers;grind [NumF,LP]
theorem Si(o:DOp):LJ o=some ((LP o).getD 0):=by grind [LJ,LP]
theorem afF{l:List Int}(hd:l.Nodup)(h:∀x∈l,1<=x/\x<=12):l.length<=12:=by
 have hs:∀x∈l.map Int.toNat,x∈List.range' 1 12:=by grind
 have hn:(l.map Int.toNat).Nodup:=Hq (g:=id) (by rw[List.map_id];exact hd) (by grind);have:=xF hn hs;rwa [List.length_map,List.length_range'] at this
theorem Om{I:Gi}:∀{l:List DIdent} {acc:List Int},acc.Nodup->(l.foldl (Bj I) acc).Nodup
 |[],acc,h=>h
 |x::r,acc,h=>by refine Om (l:=r) ?_;grind [Bj]
theorem JX{I:Gi}{Q:Int->Prop}:∀{l:List DIdent} {acc:List Int},(∀x∈l,∀d,LP (I.o x)=some d->Q d)->(∀d∈acc,Q d)->∀d∈l.foldl (Bj I) acc,Q d
 |[],acc,_,h=>h
 |x::r,acc,hx,h=>by refine JX (l:=r) (by grind) ?_;grind [Bj]
theorem On{m:FM Int Int}{s:List Int}(hn:s.Nodup){d:Int}:∀k,k<=s.length->(∀j:Nat,j<k->s[j]?=some d->(Dk m s k).get d=some (j:Int))/\((∀j:Nat,j<k->s[j]?≠some d)->(Dk m s k).get d=m.get d)
 |0,_=>⟨λj h=>aa,λ_=>rfl⟩
 |k+1,hk=>by
  have ih:=On (m:=m) hn (d:=d) k aa;obtain⟨x,hx,_⟩:=dk (l:=s) (k:=k) aa;have e:Dk m s (k+1)=ee (Dk m s k) x (k:Int):=by show(match s[k]? with|some d=>_|none=>_)=_;rw[hx]
  rw[e,dD];refine⟨λj hj hd=>?_,λhne=>?_⟩
  .grind [rj]
  grind
theorem Oo{d:Int}:∀{cs:List DCard} {m:FM Int Int},(∃c∈cs,c.Device=d)\/m.get d=some 12->(cs.foldl (λm c=>ee m c.Device 12) m).get d=some 12
 |[],m,h=>by grind
 |c::r,m,h=>by refine Oo (cs:=r) ?_;grind [dD]
def R0(s:List Int)(d:Int):Int:=match bu d s with
 |some j=>(j:Int)
 |none=>(s.length:Int)
theorem Hw(hn:s.length<=1000)(d:Int):oa s d=some (R0 s d):=by
 unfold oa;refine T.eq (.bind ((T.search s (λx=>decide (x=d)) (λk _=>(k:Int)) aa (λk x hx hk=>?_) ?_).mono ?_))
 .grind [ph,eA,au,aq]
 .unfold ph;rw[eF,cG]
 .rintro r (⟨rfl,h⟩|⟨k,x,hx,hp,rfl,h⟩)
  .have:bu d s=none:=by grind [jv]
   refine .some ?_;unfold R0;rw[this];rfl
  .have hp:=of_decide_eq_true hp;subst hp;have:bu x s=some k:=by grind [y0]
   refine .some ?_;unfold R0;rw[this]
theorem abN(hn:s.Nodup)(hl:s.length<=12){e:Int}(hd:∃c∈cs,c.Device=d)(he:∃c∈cs,c.Device=e):decide (zG (uz cs s) d<zG (uz cs s) e)=decide (R0 s d<R0 s e):=by
 have at_:∀d,(∃c∈cs,c.Device=d)->(∃j:Nat,j<s.length/\zG (uz cs s) d=(j:Int)/\R0 s d=(j:Int))\/(zG (uz cs s) d=12/\R0 s d=(s.length:Int)):=λd hd=>by have h:=On (m:=Bi cs) hn (d:=d) s.length (Nat.le_refl _);unfold zG uz R0;grind [gb,jv,Bi,Oo]
 grind
section
variable {g:D12G} {m:FM DIdent Int} {N:List DGraphNode} (P:Pg g m N)
include P
theorem Ke{ids row:List DIdent}(ho:n8 g ids=some row)(hn:row.length<=1000)(hm:∀x∈row,x∈g.IDs):jn g ids=some (tP (fA g m N) row):=by
 have w:=P.w;have nL:=w.nL;have nI:=w.nI;unfold jn;rw[ho,aL];refine T.eq (.bind (T.mono (Q:=λr=>r=tP (fA g m N) row) (T.forA row.length (λk acc=>acc=(row.take k).foldl (Bj (fA g m N)) []) aa rfl (λk acc hk hj=>?_) λacc hj=>?_) λr hr=> .some hr))
 .obtain⟨x,hx,hmx⟩:=dk hk;obtain⟨i,hi⟩:=List.getElem?_of_mem (hm x hmx);have hil:i<g.L.length:=by grind
  obtain⟨o,a,so,c⟩:=w.op hil;have hpz:gO g x=(i:Int):=by unfold gO;rw[uD w hi]
  have b:=(P.op a hi).2;have hal:=Fi (I:=fA g m N) (l:=row.take k) (acc:=[]);rw[List.length_take,List.length_nil,<-hj] at hal;rw[Rb hx,List.foldl_append,List.foldl_cons,List.foldl_nil,<-hj];unfold Bj;rw[b];unfold nk;simp only[eA hk,aN,au,hx,aL,qR,dC (show g.IDs.length<=1000000 by omega),hpz,a,Si];cases hc:LP o with
  |none=>exact .some ⟨aq aa,rfl⟩
  |some d=>
   have hd:=JW c hc;rw[Option.getD_some,show decide (0<d)=true from decide_eq_true aa,aN,cX aa,aL];have hb:QF acc d=acc.any (λy=>decide (d=y)):=by grind [re]
   rw[hb,aL];dsimp only;cases acc.any (λy=>decide (d=y)) with
   |true=>exact .some ⟨aq aa,rfl⟩
   |false=>exact .bind (.app cq (.some ⟨aq aa,rfl⟩))
 .unfold nk;dsimp only;rw[eF,cG];refine .some (show acc=_ from ?_);rw[hj,List.take_length];rfl
end
def FF(lt:DIdent->DIdent->Bool)(b:Option DIdent)(x:DIdent):Option DIdent:=match b with
 |none=>some x
 |some y=>bif lt x y then some x else some y
theorem afG{I:Gi}{row l:List DIdent}{sen:FM Int Int}(hl:l.length<=1000):T (bo (U2 I row l sen) (0,-1)) λr=>(∃(i:Nat) (x:DIdent),r=(i:Int)/\l[i]?=some x/\(l.find? (λx=> !l.any (fT I row x))=some x\/(l.find? (λx=> !l.any (fT I row x))=none/\l.foldl (FF λx y=>decide (zG sen x.By<zG sen y.By)) none=some x)))\/(l=[]/\r= -1):=by
 refine T.loop (λs=>s.1<=l.length/\(∀y∈l.take s.1,(!l.any (fT I row y))=false)/\((s.1=0/\s.2= -1)\/∃(i:Nat) (x:DIdent),s.2=(i:Int)/\l[i]?=some x/\(l.take s.1).foldl (FF λx y=>decide (zG sen x.By<zG sen y.By)) none=some x)) (λs=>l.length-s.1) (by grind) (by show l.length-0<_;omega) ?_;rintro⟨k,b⟩ ⟨hk,hw,hb⟩;dsimp only at hk hw hb;unfold U2;dsimp only;cases hx:l[k]? with
 |none=>
  have hge:l.length<=k:=List.getElem?_eq_none_iff.1 hx;obtain rfl:k=l.length:=aa;rw[List.take_length] at hw hb;dsimp only;rw[Nat.beq_refl,aN];refine .some ?_;rcases hb with⟨h1,h2⟩|⟨i,x,h1,h2,h3⟩
  .exact .inr ⟨List.length_eq_zero_iff.1 h1,h2⟩
  .exact .inl (by grind)
 |some x=>
  have hlt:=(cr hx).1;dsimp only;refine .ite (λha=>?_) λha=> .some (.inl ⟨k,x,rfl,hx,.inl ?_⟩)
  .have hw':∀y∈l.take (k+1),(!l.any (fT I row y))=false:=λy hy=>by rw[Rb hx] at hy;grind
   have ef:(l.take (k+1)).foldl (FF λx y=>decide (zG sen x.By<zG sen y.By)) none=FF (λx y=>decide (zG sen x.By<zG sen y.By)) ((l.take k).foldl (FF λx y=>decide (zG sen x.By<zG sen y.By)) none) x:=by rw[Rb hx,List.foldl_append];rfl
   unfold upB;rcases hb with⟨rfl,rfl⟩|⟨i,y,rfl,hi,hf⟩
   .refine .some ⟨⟨aa,hw',.inr ⟨0,x,rfl,hx,?_⟩⟩,by show l.length-1<l.length-0;omega⟩;rw[ef];rfl
   .rw[hf] at ef;rw[show decide ((i:Int)<0)=false from decide_eq_false aa,cG,au,hi,aL];cases hc:decide (zG sen x.By<zG sen y.By) with
    |true=>exact .some ⟨⟨by show k+1<=_;omega,hw',.inr ⟨k,x,rfl,hx,by rw[ef];show(bif decide (zG sen x.By<zG sen y.By) then some x else some y)=_;rw[hc];rfl⟩⟩,by grind⟩
    |false=>exact .some ⟨⟨by show k+1<=_;omega,hw',.inr ⟨i,y,rfl,hi,by rw[ef];show(bif decide (zG sen x.By<zG sen y.By) then some x else some y)=_;rw[hc];rfl⟩⟩,by grind⟩
  .rw[List.find?_eq_some_iff_getElem];obtain⟨h1,h2⟩:=cr hx;refine⟨by rw[ha];rfl,k,h1,h2,λj hj=>?_⟩;have hj':l[j]?=some (l[j]'aa):=fy _;have:=hw _ (bO (i:=j) (by rw[List.getElem?_take,if_pos hj];exact hj'));rw[this];simp
abbrev NxQ(g:D12G)(m:FM DIdent Int)(N:List DGraphNode)(al:DAuthList)(l:List DIdent)(lt:DIdent->DIdent->Bool)(nx:Int):Prop:=(∃(p:Nat) (x:DIdent),nx=(p:Int)/\g.IDs[p]?=some x/\x∈l/\(l.find? (λx=> !l.any (fT (fA g m N) al.row x))=some x\/(l.find? (λx=> !l.any (fT (fA g m N) al.row x))=none/\l.foldl (FF lt) none=some x)))\/(l=[]/\nx= -1)
section
variable {g:D12G} {m:FM DIdent Int} {N:List DGraphNode} (P:Pg g m N)
include P
theorem adH(h:Lr g dl al){lt:DIdent->DIdent->Bool}(hs:s.length<=1000)(hlf:l=al.row.filter λx=>decide (x∈l))(j:∀(p:Nat) (x:DIdent),g.IDs[p]?=some x->x∈al.row->tx g dl (p:Int)=some (decide (x∈l)))(hlt:∀x∈al.row,∀y∈al.row,lt x y=decide (R0 s ((fA g m N).o x).By<R0 s ((fA g m N).o y).By)):T (vL g dl s) λnx=>NxQ g m N al l lt nx:=by
 have w:=P.w;have hr:=h.nr;have inner:∀{i:Nat} {x:DIdent},i<g.L.length->g.IDs[i]?=some x->bo (ut g dl (i:Int)) (true,0)=some (!l.any (fT (fA g m N) al.row x)):=λ{i x} hi hx=>by
  refine T.eq (T.forA dl.Row.length (λk b=>b= !((al.row.take k).any λy=>decide (y∈l)&&fT (fA g m N) al.row x y)) aa rfl (λk b hk hb=>?_) λb hb=>?_)
  .obtain⟨z,hz,_⟩:=dk hk;obtain⟨q,v,rfl,d,hv,a⟩:=uF w h.row hz;rw[h.nm] at a;unfold ut;simp only[eA hk,aN,au,hz,aL,j q v hv (bO a),Sh P h hi d hx hv];have e:((al.row.take (k+1)).any λy=>decide (y∈l)&&fT (fA g m N) al.row x y)=(((al.row.take k).any λy=>decide (y∈l)&&fT (fA g m N) al.row x y)||(decide (v∈l)&&fT (fA g m N) al.row x v)):=by rw[Rb a,List.any_append];simp
   rw[e];cases decide (v∈l) with
   |false=>exact .some ⟨aq aa,by simpa using hb⟩
   |true=>
    cases fT (fA g m N) al.row x v with
    |false=>exact .some ⟨aq aa,by simpa using hb⟩
    |true=>exact .some ⟨aq aa,aC⟩
  .unfold ut;dsimp only;rw[eF,cG];refine .some (show b=_ from ?_);grind [Lr.nm,List.length_map]
 unfold vL;refine .bind ((T.forA (Q:=λr:Int⊕Int=>(∃(p:Nat) (x:DIdent),r= .inr (p:Int)/\g.IDs[p]?=some x/\x∈l/\l.find? (λx=> !l.any (fT (fA g m N) al.row x))=some x)\/(∃(p:Nat) (x:DIdent),r= .inl (p:Int)/\g.IDs[p]?=some x/\x∈l/\l.find? (λx=> !l.any (fT (fA g m N) al.row x))=none/\l.foldl (FF lt) none=some x)\/(l=[]/\r= .inl (-1))) dl.Row.length (λk b=>(∀y∈al.row.take k,y∈l->(!l.any (fT (fA g m N) al.row y))=false)/\((b= -1/\((al.row.take k).filter λx=>decide (x∈l))=[])\/∃(p:Nat) (x:DIdent),b=(p:Int)/\p<g.L.length/\g.IDs[p]?=some x/\x∈l/\((al.row.take k).filter λx=>decide (x∈l)).foldl (FF lt) none=some x)) aa ⟨λy hy=>(by cases hy),.inl ⟨rfl,rfl⟩⟩ (λk b hk hb=>?_) λb hb=>?_).mono ?_)
 .obtain⟨z,hz,_⟩:=dk hk;obtain⟨q,v,rfl,d,hv,a⟩:=uF w h.row hz;rw[h.nm] at a;have n:=bO a;obtain⟨hb1,hb2⟩:=hb;have ef:(al.row.take (k+1)).filter (λx=>decide (x∈l))=(al.row.take k).filter (λx=>decide (x∈l))++(if v∈l then[v] else[]):=by rw[Rb a,List.filter_append];grind
  unfold uu;simp only[eA hk,aN,au,hz,aL,j q v hv n];by_cases c:v∈l
  .rw[if_pos c] at ef;rw[decide_eq_true c,Bool.not_true,cG,inner d hv,aL];cases hany:l.any (fT (fA g m N) al.row v) with
   |false=>
    refine .some (.inl ⟨q,v,rfl,hv,c,?_⟩);have hkl:(al.row.take k).filter (λx=>decide (x∈l))++[v]++(al.row.drop (k+1)).filter (λx=>decide (x∈l))=l:=by grind [List.take_append_drop]
    have:l.find? (λx=> !l.any (fT (fA g m N) al.row x))=((al.row.take k).filter (λx=>decide (x∈l))++[v]++(al.row.drop (k+1)).filter (λx=>decide (x∈l))).find? (λx=> !l.any (fT (fA g m N) al.row x)):=by rw[hkl]
    rw[this,List.append_assoc,List.find?_append,List.find?_eq_none.2 λy hy=>by rw[List.mem_filter] at hy;rw[hb1 y hy.1 (of_decide_eq_true hy.2)];simp]
    rw[List.singleton_append,List.find?_cons,hany];rfl
   |true=>
    rw[Bool.not_true,cG];have hb1':∀y∈al.row.take (k+1),y∈l->(!l.any (fT (fA g m N) al.row y))=false:=λy hy f=>by
     rw[Rb a] at hy;rcases List.mem_append.1 hy with hy|hy
     .exact hb1 y hy f
     .simp at hy;subst hy;rw[hany];rfl
    obtain⟨o,ho,so,u⟩:=w.op d;rcases hb2 with⟨rfl,he⟩|⟨p,y,rfl,hpl,hp,f,hf⟩
    .rw[show decide ((-1:Int)<0)=true from rfl,aN,aL,aN];refine .some ⟨aq aa,hb1',.inr ⟨q,v,rfl,d,hv,c,?_⟩⟩;rw[ef,he];rfl
    .obtain⟨t,PJ,_⟩:=w.op hpl;have hmx:hE (p:Int) 0=(p:Int):=by unfold hE;rw[if_neg aa]
     have hyr:y∈al.row:=by grind
     rw[show decide ((p:Int)<0)=false from decide_eq_false aa,cG,hmx];simp only[au,ho,PJ,aL,Hw hs];have hl1:=hlt v n y hyr;rw[(P.op ho hv).2,(P.op PJ hp).2] at hl1;rw[<-hl1];have ef2:((al.row.take (k+1)).filter λx=>decide (x∈l)).foldl (FF lt) none=FF lt (some y) v:=by rw[ef,List.foldl_append,hf];rfl
     cases hc:lt v y with
     |true=>exact .some ⟨aq aa,hb1',.inr ⟨q,v,rfl,d,hv,c,by rw[ef2];show(bif lt v y then some v else some y)=_;rw[hc];rfl⟩⟩
     |false=>exact .some ⟨aq aa,hb1',.inr ⟨p,y,rfl,hpl,hp,f,by rw[ef2];show(bif lt v y then some v else some y)=_;rw[hc];rfl⟩⟩
  .rw[if_neg c,List.append_nil] at ef;rw[decide_eq_false c,Bool.not_false,aN];refine .some ⟨aq aa,λy hy f=>?_,by rw[ef];exact hb2⟩;rw[Rb a] at hy;grind
 .unfold uu;dsimp only;rw[eF,cG];have hl2:al.row.length=dl.Row.length:=by rw[<-h.nm,List.length_map]
  rw[<-hl2,List.take_length,<-hlf] at hb;refine .some ?_;obtain⟨hb1,hb2⟩:=hb;rcases hb2 with⟨rfl,he⟩|⟨p,x,rfl,_,hp,hx,hf⟩
  .exact .inr (.inr ⟨he,rfl⟩)
  .refine .inr (.inl ⟨p,x,rfl,hp,hx,List.find?_eq_none.2 λy hy=>?_,hf⟩);have hyr:y∈al.row:=by rw[hlf] at hy;exact(List.mem_filter.1 hy).1
   rw[hb1 y hyr hy];simp
 .rintro r (⟨p,x,rfl,hp,hx,h1⟩|⟨p,x,rfl,hp,hx,h1⟩|⟨h1,rfl⟩)
  .exact .some (.inl ⟨p,x,rfl,hp,hx,.inl h1⟩)
  .exact .some (.inl ⟨p,x,rfl,hp,hx,.inr h1⟩)
  .exact .some (.inr ⟨h1,rfl⟩)
end
theorem MI{α:Type}[DecidableEq α]:∀{l row:List α},l.Sublist row->row.Nodup->l=row.filter λx=>decide (x∈l)
 |_,_,.slnil,_=>rfl
 |l,_,.cons (l₂:=r) a h,hn=>by rw[List.nodup_cons] at hn;rw[List.filter_cons_of_neg (by grind)];exact MI h hn.2
 |_,_,.cons_cons (l₁:=l) (l₂:=r) a h,hn=>by rw[List.nodup_cons] at hn;rw[List.filter_cons_of_pos aC];have e:=MI h hn.2;grind [List.filter_congr]
theorem Xj:bU ((Xc vs).get x)=decide (x∈vs):=by
 have key:∀(l:List DIdent) (M:FM DIdent Bool),bU ((l.foldl (λm x=>ee m x true) M).get x)=(bU (M.get x)||decide (x∈l)):=by intro l;induction l<;>grind [dD,bU]
 unfold Xc;rw[key];rfl
theorem Ot{I:Gi}{row left:List DIdent}{x y:DIdent}:∀{l:List DIdent} {v:FM DIdent Bool},bU ((l.foldl (vFu I row left x) v).get y)=(bU (v.get y)||(decide (y∈l)&&(mf I x y||(left.any (λz=>decide (y=z))&&fT I row x y))))
 |[],v=>aC
 |a::r,v=>by
  rw[List.foldl_cons,Ot (l:=r)];have e:bU ((vFu I row left x v a).get y)=(bU (v.get y)||(decide (y=a)&&(mf I x y||(left.any (λz=>decide (y=z))&&fT I row x y)))):=by unfold vFu;grind [dD,bU]
  grind
section
variable {g:D12G} {m:FM DIdent Int} {N:List DGraphNode} (P:Pg g m N)
include P
theorem adI(hi:IdsOk g ids)(ho:n8 g ids=some row)(hrn:row.Nodup)(hr:row.length<=1000)(hrm:∀x∈row,x∈g.IDs)(hv:vJ ids=some vs)(d:vs.length<=1000)(hvm:∀x∈vs,x∈g.IDs):T (Aa g ids) λc=>Lr g c (Ft ⟨g.Cards,m,N⟩ row vs)/\c.Decided=List.replicate g.L.length false:=by
 have w:=P.w;have nL:=w.nL;have nI:=w.nI;unfold Aa;rw[ho,aL];have hmk:rP 1 (false:Bool) (ah g.L)=some (List.replicate g.L.length false):=T.eq (.make (by unfold ah;omega) (by unfold ah;omega) (by unfold ah;omega) (by unfold ah;rw[Int.toNat_natCast]));rw[hmk,aL,aL,aL];have pz:∀x∈g.IDs,∃i:Nat,g.IDs[i]?=some x/\i<g.L.length/\fC g x=some (i:Int):=λx hx=>by obtain⟨i,hi⟩:=List.getElem?_of_mem hx;have:=(cr hi).1;exact⟨i,hi,aa,by rw[dC aa];unfold gO;rw[uD w hi]⟩
 refine .bind ((T.forA row.length (λk acc=>EF g acc/\acc.length=k/\lM g acc=row.take k) aa ⟨.nil,rfl,rfl⟩ (λk acc hk hj=>?_) λacc hj=>?_).mono (Q:=λacc=>EF g acc/\acc.length=row.length/\lM g acc=row) λb h10=>?_)
 .obtain⟨x,hx,hmx⟩:=dk hk;obtain⟨i,hi,hil,hp⟩:=pz x (hrm x hmx);unfold uq;simp only[eA hk,aN,au,hx,aL,hp];refine .bind (.app cq (.some ⟨aq aa,hj.1.snoc hil,by simp;omega,?_⟩));grind [Rb]
 .unfold uq;dsimp only;rw[eF,cG];rw[List.take_length] at hj;exact .some hj
 .rw[hv,aL];refine .bind ((T.loop (Q:=λr:List Bool×List Bool=>r.1.length=g.L.length/\∀(p:Nat) (x:DIdent),g.IDs[p]?=some x->r.1[p]?=some (decide (x∈vs))) (λs=>∃k:Nat,k<=vs.length/\s.2.2=(k:Int)/\s.1.length=g.L.length/\s.2.1.length=g.L.length/\∀(p:Nat) (x:DIdent),g.IDs[p]?=some x->s.1[p]?=some (decide (x∈vs.take k))) (λs=>vs.length-s.2.2.toNat) ⟨0,aa,rfl,aC,aC,λp x hp=>?_⟩ cq ?_).mono λr a=>?_)
  .have:=(cr hp).1;show(List.replicate g.L.length false)[p]?=_;rw[List.getElem?_replicate,if_pos aa];simp
  .rintro⟨V,F,i⟩ ⟨k,hk,rfl,h1,h2,h3⟩;dsimp only at h1 h2 h3;unfold uo;dsimp only;rcases Nat.lt_or_ge k vs.length with hlt|hge
   .obtain⟨x,hx,hmx⟩:=dk hlt;obtain⟨q,hq,e,hp⟩:=pz x (hvm x hmx);rw[eA hlt,aN,au,hx,aL,hp,aL];have ew:=aq (show k<2305843009213693952 by omega);refine .bind (.set aa aa (.bind (.set aa aa (.some ⟨⟨k+1,aa,ew,by simp;omega,by simp;omega,λp y hy=>?_⟩,by rw[ew];simp;omega⟩))));dsimp only;rw[Int.toNat_natCast,List.getElem?_set,Rb hx];grind [rj,WfG.nd]
   .obtain rfl:k=vs.length:=aa;rw[eF,cG];rw[List.take_length] at h3;exact .some ⟨h1,h3⟩
  .refine .some ⟨⟨h10.1,h10.2.2,hrn,by show b.length<=1000;omega,a.1,aC,λp x hp=>?_⟩,rfl⟩;show r.1[p]?=some (bU ((Xc vs).get x));rw[Xj];exact a.2 p x hp
structure RDb (g:D12G) (I:Gi) (dl:D16L) (al:DAuthList) (a:List DIdent×FM DIdent Bool) (V D:List Bool):Prop where
 lr:Lr g {dl with Void:=V,Decided:=D} (wV al a.2)
 sub:a.1.Sublist al.row
 kil:∀x∈a.1,lK (I.o x).Kind=true
 dec:∀(p:Nat) (x:DIdent),g.IDs[p]?=some x->x∈al.row->lK (I.o x).Kind=true->bU (a.2.get x)=false->D[p]?=some (!decide (x∈a.1))
structure RDc (g:D12G) (I:Gi) (dl:D16L) (al:DAuthList) (s:List Int) (a:List DIdent×FM DIdent Bool) (b:List Bool×List Bool×Int):Prop extends RDb g I dl al a b.1 b.2.1 where
 nx:vL g {dl with Void:=b.1,Decided:=b.2.1} s=some b.2.2
theorem aba(h:RDb g (fA g m N) dl al a V D){p:Nat}(hp:g.IDs[p]?=some x)(hx:x∈al.row):tx g {dl with Void:=V,Decided:=D} (p:Int)=some (decide (x∈a.1.filter λx=> !bU (a.2.get x))):=by
 have w:=P.w;have nI:=w.nI;have hpl:p<g.L.length:=by grind
 obtain⟨o,ho,so,c⟩:=w.op hpl;have b:=(P.op ho hp).2;have hv:=h.lr.vd p x hp;have hv:V[p]?=some (bU (a.2.get x)):=hv;have hdl:=h.lr.nc;grind [tx,au,lK,RDb.kil,RDb.dec,cP]
end
theorem afH{js:List Int}(hj:js.length<=1000)(hi:∀z∈js,∃q:Nat,z=(q:Int)/\q<V.length):T (bo (ng js) (V,0)) λW=>W.length=V.length/\∀(q:Nat) (b:Bool),V[q]?=some b->W[q]?=some (b||decide ((q:Int)∈js)):=by
 refine T.forA js.length (λk W=>W.length=V.length/\∀(q:Nat) (b:Bool),V[q]?=some b->W[q]?=some (b||decide ((q:Int)∈js.take k))) aa (by grind) (λk W hk a=>?_) λW a=>?_
 .obtain⟨z,hz,c⟩:=dk hk;obtain⟨p,rfl,hp⟩:=hi z c;unfold ng;simp only[eA hk,aN,au,hz,aL];refine .bind (.set aa (by rw[a.1];omega) (.some ⟨aq aa,by rw[List.length_set];exact a.1,λq b h=>?_⟩));rw[Int.toNat_natCast,List.getElem?_set,Rb hz];grind
 .unfold ng;dsimp only;rw[eF,cG];rw[List.take_length] at a;exact .some a
theorem Ko{σ1 σ2 ρ1 ρ2:Type}{s1:σ1->Option (σ1⊕ρ1)}{s2:σ2->Option (σ2⊕ρ2)}(R:σ1->σ2->Prop)(Q:ρ1->ρ2->Prop)(μ:σ1->Nat)(h:∀a b,R a b->∃u v,s1 a=some u/\s2 b=some v/\Sim (λa' b'=>R a' b'/\μ a'<μ a) Q u v):∀(n:Nat) (a:σ1) (b:σ2),μ a<n->R a b->∃q r,KN s1 n a=some q/\KN s2 n b=some r/\Q q r
 |0,a,b,hm,_=>absurd hm (Nat.not_lt_zero _)
 |n+1,a,b,hm,hR=>by
  obtain⟨u,v,e1,e2,hs⟩:=h a b hR;unfold KN;rw[e1,e2];cases u with
  |inl a'=>
   cases v with
   |inl b'=>exact Ko R Q μ h n a' b' (by have:=hs.2;omega) hs.1
   |inr b'=>exact hs.elim
  |inr a'=>
   cases v with
   |inl b'=>exact hs.elim
   |inr b'=>exact⟨_,_,rfl,rfl,hs⟩
section
variable {g:D12G} {m:FM DIdent Int} {N:List DGraphNode} (P:Pg g m N)
include P
theorem Sm{l:List Int}(hi:EF g l){p:Nat}(hp:g.IDs[p]?=some x):(p:Int)∈l↔x∈lM g l:=by grind [List.getElem?_of_mem,uF,Pg.w,rj,WfG.nd]
theorem adJ(h:RDc g (fA g m N) dl al s a b){p:Nat}{x:DIdent}(hp:g.IDs[p]?=some x)(hb:b.2.2=(p:Int)):bo (nh g dl b) ([],0)=some (dl.Row.filter λz=>(λy=>mf (fA g m N) x y||(decide (y∈a.1.filter λx=> !bU (a.2.get x))&&fT (fA g m N) al.row x y)) ((g.IDs[z.toNat]?).getD ⟨0,0,0⟩)):=by
 have w:=P.w;have nI:=w.nI;have hr:dl.Row.length<=1000:=h.lr.nr;have hpl:p<g.L.length:=by grind
 generalize hf:(λy=>mf (fA g m N) x y||(decide (y∈a.1.filter λx=> !bU (a.2.get x))&&fT (fA g m N) al.row x y))=f;refine T.eq (T.forA dl.Row.length (λk acc=>acc=(dl.Row.take k).filter λz=>f ((g.IDs[z.toNat]?).getD ⟨0,0,0⟩)) aa aC (λk acc hk hj=>?_) λacc hj=>?_)
 .obtain⟨z,hz,_⟩:=dk hk;have hrow:EF g dl.Row:=h.lr.row;obtain⟨q,y,rfl,d,hq,i⟩:=uF w hrow hz;have hnm:lM g dl.Row=al.row:=h.lr.nm;rw[hnm] at i;have hyr:=bO i;have hal:acc.length<=k:=by grind
  have e:(dl.Row.take (k+1)).filter (λz=>f ((g.IDs[z.toNat]?).getD ⟨0,0,0⟩))=acc++(if f y=true then[(q:Int)] else[]):=by rw[Rb hz,List.filter_append,<-hj];cases hfy:f y<;>simp[hq,hfy]
  have hw:=Sh P h.lr hpl d hp hq;unfold nh;simp only[eA hk,aN,au,hz,aL,hb,Sg P hpl d hp hq,aba P h.toRDb hq hyr];refine .bind (T.mono (Q:=λc=>c=f y) ?_ λc hc=>?_)
  .rw[<-hf];dsimp only;cases mf (fA g m N) x y<;>grind [T.some]
  .subst hc;cases hfy:f y with
   |true=>rw[hfy,if_pos rfl] at e;exact .bind (.app cq (.some ⟨aq aa,e.symm⟩))
   |false=>rw[hfy,if_neg aC,List.append_nil] at e;exact .some ⟨aq aa,e.symm⟩
 .unfold nh;dsimp only;rw[eF,cG];refine .some (show acc=_ from ?_);rw[hj,List.take_length]
theorem ltE(hsn:s.Nodup)(hsl:s.length<=12)(h:Lr g dl al):∀x∈al.row,∀y∈al.row,decide (zG (uz g.Cards s) x.By<zG (uz g.Cards s) y.By)=decide (R0 s ((fA g m N).o x).By<R0 s ((fA g m N).o y).By):=by
 have w:=P.w;have pos:∀x∈al.row,∃q:Nat,q<g.L.length/\g.IDs[q]?=some x:=λx hx=>by rw[<-h.nm] at hx;obtain⟨z,hz,e⟩:=List.mem_map.1 hx;obtain⟨j,hj⟩:=List.getElem?_of_mem hz;obtain⟨n,y,rfl,hn,hy,_⟩:=uF w h.row hj;grind
 intro x hx y hy;obtain⟨p,hp,a⟩:=pos x hx;obtain⟨q,hq,b⟩:=pos y hy;obtain⟨o,ho,_⟩:=w.op hp;obtain⟨c,PJ,_⟩:=w.op hq;rw[(P.op ho a).2,(P.op PJ b).2,<-(P.od p o x ho a).i,<-(P.od q c y PJ b).i];refine abN hsn hsl ?_ ?_
 .rw[(P.od p o x ho a).i];exact P.dv p o x ho a
 .rw[(P.od q c y PJ b).i];exact P.dv q c y PJ b
theorem nxE(hsn:s.Nodup)(hsl:s.length<=12)(h:RDb g (fA g m N) dl al a V D):T (vL g {dl with Void:=V,Decided:=D} s) λnx=>NxQ g m N (wV al a.2) (a.1.filter λx=> !bU (a.2.get x)) (λx y=>decide (zG (uz g.Cards s) x.By<zG (uz g.Cards s) y.By)) nx:=adH P h.lr (show s.length<=1000 by omega) (MI (List.filter_sublist.trans h.sub) h.lr.nd) (λ_ _ hp hx=>aba P h hp hx) (ltE P hsn hsl h.lr)
theorem adK(hsn:s.Nodup)(hsl:s.length<=12)(h:RDc g (fA g m N) dl al s a b):∃u v,Vp (fA g m N) al (uz g.Cards s) a=some u/\tw g dl s b=some v/\Sim (λa' b'=>RDc g (fA g m N) dl al s a' b'/\a'.1.length<a.1.length) (λ(v:FM DIdent Bool) (r:List Bool×List Bool)=>Lr g {dl with Void:=r.1,Decided:=r.2} (wV al v)) u v:=by
 have w:=P.w;have nL:=w.nL;have nI:=w.nI;have hrow:EF g dl.Row:=h.lr.row;have hnm:lM g dl.Row=al.row:=h.lr.nm;have hnd:al.row.Nodup:=h.lr.nd;have hnr:dl.Row.length<=1000:=h.lr.nr;have hrl:al.row.length=dl.Row.length:=by rw[<-hnm,List.length_map]
 obtain⟨nx,e1,t⟩:=nxE P hsn hsl h.toRDb;obtain⟨v0,hv⟩:∃v0,tw g dl s b=v0:=⟨_,rfl⟩;rw[hv];have D:=List.length_filter_le (λx=> !bU (a.2.get x)) a.1;have hkl:=λp x hp hb=>adJ P h (p:=p) (x:=x) hp hb;have hl1s:(a.1.filter λx=> !bU (a.2.get x)).Sublist al.row:=List.filter_sublist.trans h.sub;have hlen:a.1.length<=1000:=by have:=h.sub.length_le;omega
 have hmem:∀y,y∈(a.1.filter λx=> !bU (a.2.get x))↔y∈a.1/\bU (a.2.get y)=false:=by grind
 unfold Vp;rw[decide_eq_true hlen,aN];dsimp only;generalize (a.1.filter λx=> !bU (a.2.get x))=l1 at*;have hl1n:l1.Nodup:=hnd.sublist hl1s;have hl1l:l1.length<=1000:=by have:=hl1s.length_le;omega
 rw[h.nx] at e1;obtain rfl:=cP e1;obtain⟨r,e2,hr⟩:=afG (I:=fA g m N) (row:=al.row) (sen:=uz g.Cards s) hl1l;rw[e2];rcases t with⟨p,x,f,hp,hxl,hx⟩|⟨h0,hb⟩
 .obtain⟨i,J,rfl,hi,hx'⟩:=hr.resolve_right (by grind);obtain rfl:x=J:=by grind
  have hil:=(cr hi).1;have F:=hl1s.subset hxl;have hpl:p<g.L.length:=by grind
  rw[show decide (ah l1=0)=false from decide_eq_false (by unfold ah;omega),cG,aL,au,hi,aL,Int.toNat_natCast];obtain⟨gd,e3,g1,g2,H,M⟩:=aa9 P h.lr;have hgood:QF gd (p:Int)=(mR (fA g m N) (wV al a.2)).any (λz=>decide (x=z)):=by rw[re,Bool.eq_iff_iff,List.any_eq_true,decide_eq_true_iff,Sm P g1 hp,H];constructor<;>grind
  have hlp:∀y,y∈l1.eraseIdx i↔y∈l1/\y≠x:=λy=>by
   have hsp:l1=l1.take i++x::l1.drop (i+1):=by grind [List.drop_eq_getElem_cons,List.take_append_drop]
   have A:=hl1n;rw[hsp,List.perm_middle.nodup_iff,List.nodup_cons] at A;rw[List.eraseIdx_eq_take_drop_succ];constructor
   .intro hy;constructor<;>grind [List.mem_of_mem_drop]
   .rintro⟨hy,hne⟩;rw[hsp] at hy;rcases List.mem_append.1 hy with hy|hy
    .exact List.mem_append.2 (.inl hy)
    grind
  have hvl:b.1.length=g.L.length:=h.lr.nv;have hdl:b.2.1.length=g.L.length:=h.lr.nc;have key:∀(o:List Int) (d:FM DIdent Bool),o.length<=1000->(∀z∈o,∃q:Nat,z=(q:Int)/\q<b.1.length)->(∀(q:Nat) (y:DIdent),g.IDs[q]?=some y->bU (d.get y)=(bU (a.2.get y)||decide ((q:Int)∈o)))->T ((ji b.2.1 b.2.2 true).bind λj=>(bo (ng o) (b.1,0)).bind λk=>(vL g ({dl with Void:=k,Decided:=j}) s).bind λB=>some (.inl (k,j,B))) λ(v:(List Bool×List Bool×Int)⊕(List Bool×List Bool))=>Sim (λa' b'=>RDc g (fA g m N) dl al s a' b'/\a'.1.length<a.1.length) (λ(v:FM DIdent Bool) (r:List Bool×List Bool)=>Lr g {dl with Void:=r.1,Decided:=r.2} (wV al v)) (.inl (l1.eraseIdx i,d)) v:=λo d hjl C l=>by
   rw[f];refine .bind (.set aa aa (.bind ((afH hjl C).mono λW E=>?_)));rw[Int.toNat_natCast];have hL:Lr g {dl with Void:=W,Decided:=b.2.1.set p true} (wV al d):=⟨hrow,hnm,hnd,hnr,E.1.trans hvl,by grind,λq y hq=>by show W[q]?=some (bU (d.get y));rw[l q y hq];exact E.2 q _ (h.lr.vd q y hq)⟩
   have hb:RDb g (fA g m N) dl al (l1.eraseIdx i,d) W (b.2.1.set p true):=by
    refine⟨hL,(List.eraseIdx_sublist l1 i).trans hl1s,(by grind [RDb.kil,h.toRDb]),λq y hq hy hk n=>?_⟩;dsimp only at n⊢;rw[l q y hq] at n;have hvy1:bU (a.2.get y)=false:=by grind
    rw[List.getElem?_set];by_cases c:p=q
    .grind
    .have hne:y≠x:=λe=>c (by rw[e] at hq;exact rj w.nd hp hq);rw[if_neg c,h.dec q y hq hy hk hvy1];grind
   obtain⟨K,e4,_⟩:=nxE P hsn hsl hb;rw[e4,aL];exact .some ⟨⟨hb,e4⟩,by show(l1.eraseIdx i).length<_;rw[List.length_eraseIdx_of_lt hil];omega⟩
  unfold tw at hv;rw[f,show decide ((0:Int)<=(p:Int))=true from decide_eq_true aa,aN,e3,aL,cX aa,aL,hkl p x hp f,aL,hgood] at hv;rw[<-f] at hv;cases hg:(mR (fA g m N) (wV al a.2)).any (λz=>decide (x=z)) with
  |true=>
   rw[hg,Bool.not_true,cG,aL] at hv;rw[aN];obtain⟨v',ev,hs⟩:=key (dl.Row.filter λz=>(λy=>mf (fA g m N) x y||(decide (y∈l1)&&fT (fA g m N) al.row x y)) ((g.IDs[z.toNat]?).getD ⟨0,0,0⟩)) (vAl (fA g m N) al.row (l1.eraseIdx i) x a.2) (Nat.le_trans (List.length_filter_le _ _) hnr) (λz hz=>by
    obtain⟨q,e,hq⟩:=hrow.nat (List.mem_filter.1 hz).1;exact⟨q,e,aa⟩) λq y hq=>by
    unfold vAl;rw[Ot];congr 1;have h1:decide ((q:Int)∈dl.Row.filter λz=>(λy=>mf (fA g m N) x y||(decide (y∈l1)&&fT (fA g m N) al.row x y)) ((g.IDs[z.toNat]?).getD ⟨0,0,0⟩))=(decide (y∈al.row)&&(mf (fA g m N) x y||(decide (y∈l1)&&fT (fA g m N) al.row x y))):=by rw[Bool.eq_iff_iff,decide_eq_true_iff,List.mem_filter,bA,decide_eq_true_iff,Sm P hrow hq,hnm,Int.toNat_natCast,hq,Option.getD_some]
    rw[h1];congr 2;have h2:(l1.eraseIdx i).any (λz=>decide (y=z))=decide (y∈l1/\y≠x):=by rw[Bool.eq_iff_iff,List.any_eq_true,decide_eq_true_iff,<-hlp];constructor<;>grind
    rw[h2];by_cases c:y=x
    .subst c;unfold fT;simp
    .simp[c]
   exact⟨_,v',rfl,by rw[<-hv,ev],hs⟩
  |false=>
   rw[hg,Bool.not_false,aN,aL] at hv;rw[cG];obtain⟨v',ev,hs⟩:=key [b.2.2] (ee a.2 x true) aC (by grind) λq y hq=>by
    rw[dD,f];by_cases c:y=x
    .subst c;have:q=p:=rj w.nd hq hp;rw[if_pos rfl,this];simp[bU]
    .have:¬((q:Int)=(p:Int)):=λe=>c (by have:q=p:=aa;grind)
     rw[if_neg c];simp[this]
   exact⟨_,v',rfl,by rw[<-hv,ev],hs⟩
 .rw[h0,show decide (ah ([]:List DIdent)=0)=true from rfl,aN];unfold tw at hv;rw[hb,show decide ((0:Int)≤-1)=false from rfl,cG] at hv;exact⟨_,_,rfl,hv.symm,h.lr⟩
end
section
variable {g:D12G} {m:FM DIdent Int} {N:List DGraphNode} (P:Pg g m N)
include P
theorem abb(hrm:∀x∈row,x∈g.IDs):(tP (fA g m N) row).Nodup/\(tP (fA g m N) row).length<=12:=by
 have h1:(tP (fA g m N) row).Nodup:=Om .nil;refine⟨h1,afF h1 ?_⟩;refine JX (Q:=λd=>1<=d/\d<=12) (λx hx d hd=>?_) λd hd=>by cases hd
 obtain⟨i,hi⟩:=List.getElem?_of_mem (hrm x hx);have:=(cr hi).1;obtain⟨o,ho,so,a⟩:=P.w.op (i:=i) (by have:=P.w.nI;omega);rw[(P.op ho hi).2] at hd;exact JW a hd
theorem Sp(hi:IdsOk g ids)(ho:n8 g ids=some row)(hrn:row.Nodup)(hr:row.length<=1000)(hrm:∀x∈row,x∈g.IDs)(hv:vJ ids=some vs)(d:vs.length<=1000)(hvm:∀x∈vs,x∈g.IDs):T (oR g ids) λe=>∃v,Vq (fA g m N) (Ft ⟨g.Cards,m,N⟩ row vs) (uz g.Cards (tP (fA g m N) row))=some v/\Lr g e (wV (Ft ⟨g.Cards,m,N⟩ row vs) v):=by
 unfold oR;refine .bind ((adI P hi ho hrn hr hrm hv d hvm).mono λc ⟨hL,hD⟩=>?_);rw[Ke P ho hr hrm,aL];obtain⟨s1,s2⟩:=abb P hrm;have hR:RDb g (fA g m N) c (Ft ⟨g.Cards,m,N⟩ row vs) (row.filter (λx=> !!lK ((fA g m N).o x).Kind),(Ft ⟨g.Cards,m,N⟩ row vs).void) c.Void c.Decided:=⟨hL,List.filter_sublist,λx hx=>by have:=(List.mem_filter.1 hx).2;simpa using this,λp x hp hx hk _=>by have hpl:=(cr hp).1;have hm:x∈row.filter (λx=> !!lK ((fA g m N).o x).Kind):=List.mem_filter.2 ⟨hx,by rw[hk];rfl⟩;rw[hD,List.getElem?_replicate,if_pos (by have:=P.w.nI;omega),decide_eq_true hm];rfl⟩
 obtain⟨nx,e3,_⟩:=nxE P s1 s2 hR;rw[show vL g c (tP (fA g m N) row)=some nx from e3,aL];obtain⟨v,r,h1,h2,h3⟩:=Ko (s1:=Vp (fA g m N) (Ft ⟨g.Cards,m,N⟩ row vs) (uz g.Cards (tP (fA g m N) row))) (s2:=tw g c (tP (fA g m N) row)) (RDc g (fA g m N) c (Ft ⟨g.Cards,m,N⟩ row vs) (tP (fA g m N) row)) (λ(v:FM DIdent Bool) (r:List Bool×List Bool)=>Lr g {c with Void:=r.1,Decided:=r.2} (wV (Ft ⟨g.Cards,m,N⟩ row vs) v)) (λa=>a.1.length) (λa b h=>adK P s1 s2 h) FU _ (c.Void,c.Decided,nx) (by have:=List.length_filter_le (λx=> !!lK ((fA g m N).o x).Kind) row;unfold FU;show(row.filter _).length<_;omega) ⟨hR,e3⟩;rw[show bo (tw g c (tP (fA g m N) row)) (c.Void,c.Decided,nx)=some r from h2,aL];exact .some ⟨v,h1,h3⟩
theorem adL{l:List Int}(hi:EF g l)(hl:l.length<=1000)(hnd:(lM g l).Nodup):T (bo (tQ g l) (⟨g.Cards,[],[],[],0,[]⟩,0)) λD=>Rr (Hk (fA g m N) (lM g l)) D/\RlOk (Hk (fA g m N) (lM g l))/\RkS g 1000 D:=by
 have w:=P.w;have nI:=w.nI;obtain⟨c,e0,d⟩:=adG (P.new);have hD0:c=⟨g.Cards,[],[],[],0,[]⟩:=(cP e0).symm;subst hD0;refine T.forA l.length (λj D=>(Rr (((lM g l).take j).foldl (tf (fA g m N)) (jR g.Cards)) D/\RlOk (((lM g l).take j).foldl (tf (fA g m N)) (jR g.Cards))/\Gs (((lM g l).take j).foldl (tf (fA g m N)) (jR g.Cards)) ((lM g l).take j))/\RkS g j D) aa ⟨⟨d,pn P.cd.r,λq z g h=>by cases h⟩,Mv g⟩ (λj D hj hr=>?_) λD hr=>?_
 .obtain⟨y,hy,hm⟩:=dk hj;obtain⟨i,x,rfl,hil,hx,a⟩:=uF w hi hy;obtain⟨o,ho,so,p⟩:=w.op hil;obtain⟨⟨h1,h2,h3⟩,h4⟩:=hr;have hod:=P.od i o x ho hx;have b:=(P.op ho hx).2;have et:((lM g l).take (j+1)).foldl (tf (fA g m N)) (jR g.Cards)=Dd (((lM g l).take j).foldl (tf (fA g m N)) (jR g.Cards)) o x:=by rw[Rb a,List.foldl_append,List.foldl_cons,List.foldl_nil];unfold tf;rw[b]
  have hxS:x∉(lM g l).take j:=λh=>by
   obtain⟨q,hq⟩:=List.getElem?_of_mem h;rw[List.getElem?_take] at hq;split at hq
   .have:=rj hnd hq a;omega
   .cases hq
  rw[et,Rb a];generalize ((lM g l).take j).foldl (tf (fA g m N)) (jR g.Cards)=R at h1 h2 h3⊢;unfold tQ;simp only[eA hj,aN,au,hy,ho,hx,aL];have z:=JV P h4 aa;have k:=h4.dev;have n:=h4.nL;exact .bind ((T.and (doE z ⟨aa,aa⟩ h1 h2 λ_ q z f k1 k2 e=>by have:=h3 q z f k1 k2;rw[e] at this;exact hxS this) (Gc w aa h4 so x)).mono λv hv=> .some ⟨aq aa,⟨hv.1,yK h2 hod,aa8 h3 h2 o x⟩,hv.2.1⟩)
 .unfold tQ;dsimp only;rw[eF,cG];have hl2:(lM g l).length=l.length:=List.length_map ..;rw[<-hl2,List.take_length] at hr;exact .some ⟨hr.1.1,hr.1.2.1,hr.2.up aa⟩
theorem afJ{ids row vs:List DIdent}(hi:IdsOk g ids)(ho:n8 g ids=some row)(hrn:row.Nodup)(hr:row.length<=1000)(hrm:∀x∈row,x∈g.IDs)(hv:vJ ids=some vs)(a:vs.length<=1000)(hvm:∀x∈vs,x∈g.IDs):T (zY g ids) λD=>∃cs,Vx (fA g m N) (Ft ⟨g.Cards,m,N⟩ row vs) (tP (fA g m N) row)=some cs/\cs.Sublist row/\Rr (Hk (fA g m N) cs) D/\RlOk (Hk (fA g m N) cs)/\RkS g 1000 D:=by
 unfold zY AV;rw[aL];refine .bind ((Sp P hi ho hrn hr hrm hv a hvm).mono λe hdl=>?_);obtain⟨v,h1,h2⟩:=hdl;refine .bind ((aa9 P h2).mono λr b=>?_);obtain⟨g1,g2,d,c⟩:=b;have hcs:Vx (fA g m N) (Ft ⟨g.Cards,m,N⟩ row vs) (tP (fA g m N) row)=some (lM g r):=by unfold Vx;rw[show(fA g m N).cards=g.Cards from rfl,h1,d];rfl
 refine .bind ((adL P g1 g2 (hrn.sublist c)).mono λD hD=> .some ⟨lM g r,hcs,c,hD⟩)
end
theorem adM{D:D15R}(z:Sz D)(h:Rr R D)(hR:RlOk R):lu D=some (mI R):=by
 obtain⟨a,b,_⟩:=wa hR;unfold lu;refine T.eq (.bind ((R8 z.i).mono λv hv=> .some ?_));refine JU (hv.1.trans (List.Perm.trans ?_ b.symm)) hv.2 a;refine(List.perm_ext_iff_of_nodup (List.nodup_append.1 h.nd).1 hR.ci.kd).2 λe=>?_;have hi:=h.in_ e;constructor
 .intro he;rw[if_pos he] at hi;obtain⟨n,hm⟩:=kJ hi;exact List.mem_map.2 ⟨_,hm,rfl⟩
 .intro he;obtain⟨q,hq,rfl⟩:=List.mem_map.1 he;have hg:=mF hR.ci (k:=q.1) (v:=q.2.1) (n:=q.2.2) hq;rw[hg] at hi;split at hi
  .assumption
  .cases hi
theorem CA:fg prog 200=some true:=aH
theorem sH{s:List DForkFork}{f:DForkFork->Option Bool}{fi_f:FuncId}{fa_f fc_f:List G}(a:FnV prog gl fi_f fa_f fc_f (λx:DForkFork=>[.agg (da x)]) (λx:Bool=>bG x) f):eP prog gl (yj s f) 66 [aE da s,.clo (.func fi_f) fa_f fc_f] iG:=
 cy func66 λK=>uy 1101 (λg=>sg [] []) (λs1=>sf [] [(7,iG (ah s)),(8,iG s1)]) [hc (a.im)] K (λg=>rv K) λs1 k5 h k6=>aF 9 (dV 14 bW.ixZ 15 (bW.ptZ ko) λd=>ak λi e=>kV (λb=>aw [hz 16 [] (cS (a.cs (c:=0) e (aY (aG 20 (.agg (da d)) aH) (bf))) b)]<|aP c3 k6 []) λb=>aw [hz 16 [] (cS (a.cs (c:=0) e (aY (aG 20 (.agg (da d)) aH) (bf))) b)]<|cj k5 [hc (a.im)])<|aA c2 h []
theorem qX{s:List DForkFork}{f:DForkFork->Option Bool}{fi_f:FuncId}{fa_f fc_f:List G}(a:FnV prog gl fi_f fa_f fc_f (λx:DForkFork=>[.agg (da x)]) (λx:Bool=>bG x) f):eP prog gl (Az s f) 23 [aE da s,.clo (.func fi_f) fa_f fc_f] bG:=
 cy func23 λK=>ak λb e2=>aw [hz 7 [] (jf (c:=0) aH (sH gl (a) e2) (aY (aG 20 (aE da s) aH) (aY (a.im) (bf))))]<|rv K
def mw(f:DForkFork)(a1:DOp):Option Bool:=
 (bif decide (f.Device=a1.By) then(some (decide (f.Seq<=a1.Seq))) else(some false)).bind λa=>some a
theorem C3{f a1}:eP prog gl (mw f a1) 25 [.agg (da f),.ptr (aJ a1) 0] bG:=
 cy func25 λK=>cN [1,0] (so [0] [(2,.ref 0 0)] [ob 0 68 (da f)] 1) []<|cC [1,0] (λa=>sk [] [(3,bG a)] [] 0) (λa=>rv K) λa k3=>aF 8 (rx k3)<|rx k3
def HE(a:DRollRoll)(device:Int):Option Bool:=
 some (kN (a.in_.get device))
theorem C4{r_ device}:eP prog gl (HE r_ device) 32 [.ptr (dY r_) 0,iG device] bG:=
 cy func32 λK=>aw [hm 10 (Ad r_.in_ device)]<|rv K
def A7(d:Int)(a1:List Int):Option Bool:=
 (Su a1 d).bind λa=>some (!a)
theorem C5{d a1}:eP prog gl (A7 d a1) 34 [iG d,.ptr [aE cZ a1] 0] bG:=
 cy func34 λK=>dI 6 (fG gl) λa=>rv K
section
variable {gl:List (Nat×List G)}
abbrev InV(gl:List (Nat×List G))(fi:FuncId)(fa fc:List G)(p:Int->Bool):Prop:=FnV prog gl fi fa fc (λx:Int=>[iG x]) (λx:Bool=>bG x) (λk=>some (p k))
theorem OY{p:Int->Bool}{fi:FuncId}{fa fc:List G}(hv:InV gl fi fa fc p){l:List Int}(hn:l.length<=1000000):iV prog gl 30 [aE cZ l,.clo (.func fi) fa fc] 3 (l.filter p).length ((l.filter p).flatMap cZ):=by
 refine OW func30 ?_;refine pN (λk:Nat=>(s0 23 gl [(1,.clo (.func fi) fa fc),(5,.rsl 0 0 ((l.take k).filter p).length),(8,aE cZ l),(9,iG (ah l)),(10,iG (k:Int))] [(0,oe ((l.take k).filter p))] 1 0)) 1110122 (iw (n:=l.length) aa) [] [hc hv.im,hc (rZ.imm [])] (λB k w hs k5 a=>?_) [3] [(0,0)] [(0,.row)];unfold qZ at hs;split at hs
 .rename_i hlt;obtain rfl:=cP hs;obtain⟨x,hx⟩:∃x,l[k]?=some x:=⟨_,fy hlt⟩;have hz:=cQ hx;have k5:=k5 _ rfl;have hl:((l.take k).filter p).length<=k:=Nat.le_trans (List.length_filter_le _ _) (by rw[List.length_take];omega);rw[List.take_add_one,hx,Option.toList_some,List.filter_append] at k5;generalize (l.take k).filter p=q at k5 hl⊢;have hcs:=hv.cs (c:=1) (x:=x) rfl (aY (aG 20 (iG x) aH) bf);cases hp:p x with
  |true=>rw[hp] at hcs;rw[List.filter_cons_of_pos hp,List.filter_nil] at k5;exact jw [hr 11 (fp hx),bR 12 (rZ.ixZ hz),bR 13 (rZ.p1Z tZ hz),Go.Proofs.YtaiecngnppbhlaaGreatDoor.hz 16 [] hcs,Tn 20 rZ 8 q x aa,hbb 21 (Xl (q:=k) aa)] [hc hv.im,hc (el (q++[x])),hc (rZ.imm (q++[x]))] k5 [] [(0,2)] [(0,.row)]
  |false=>rw[hp] at hcs;rw[List.filter_cons_of_neg (by simp[hp]),List.filter_nil,List.append_nil] at k5;exact jw [hr 11 (fp hx),bR 12 (rZ.ixZ hz),bR 13 (rZ.p1Z tZ hz),Go.Proofs.YtaiecngnppbhlaaGreatDoor.hz 16 [] hcs,hbb 21 (Xl (q:=k) aa)] [hc hv.im,hc (el q),hc (rZ.imm q)] k5 [] [(0,0)] [(0,.row)]
 .split at hs
  .rename_i he;subst he;rw[List.take_length];exact EI [hr 11 (gz (s:=l))] (rZ.imm (l.filter p))
  .cases hs
end
def G9(p:Nat->Bool)(N:List DGraphNode):List DIdent:=(N.zipIdx.filter λq=>p q.2).map (·.1.id)
theorem SJ{p:Nat->Bool}{x:DGraphNode}(h:N[k]?=some x):G9 p (N.take (k+1))=G9 p (N.take k)++bif p k then[x.id] else[]:=by have hk:=(cr h).1;unfold G9;rw[List.take_add_one,h,List.zipIdx_append,List.filter_append,List.map_append];cases hp:p k<;>simp[hp,show min k N.length=k by omega]
theorem O0{p:Nat->Bool}:(G9 p N).length<=N.length:=by unfold G9;rw[List.length_map];exact Nat.le_trans (List.length_filter_le _ _) (by rw[List.length_zipIdx];exact Nat.le_refl _)
section
variable {gl:List (Nat×List G)}
theorem XS(a b:DIdent):ba prog gl 204 [.agg (aj a),.agg (aj b)] (iG (jE a b)):=by
 have h1:=Bk (gl:=gl) a b;have h2:=Bk (gl:=gl) b a;unfold jE;refine Gh func204 ?_;cases c1:dt a b with
 |true=>rw[c1] at h1;exact Ar [hf 8 h1] []
 |false=>
  rw[c1] at h1;cases c2:dt b a with
  |true=>rw[c2] at h2;exact Ar [hf 8 h1,hf 12 h2] []
  |false=>rw[c2] at h2;exact Ar [hf 8 h1,hf 12 h2] []
theorem ab6:CmV gl 204 [] [] jE:=⟨aH,bf,bf,λp r e=>by cases e;exact XS p.1 p.2⟩
abbrev NmV(gl:List (Nat×List G))(fi:FuncId)(fa fc:List G)(p:Nat->Bool):Prop:=FnV prog gl fi fa fc (λx:Nat=>[iG (x:Int)]) (λx:Bool=>bG x) (λk=>bif decide (k<200) then some (p k) else none)
theorem KY(hn:gg.nodes.length<=14){p:Nat->Bool}{fi:FuncId}{fa fc:List G}(hv:NmV gl fi fa fc p)(h:wr jE (G9 p gg.nodes)=some r)(hle:r.length=(G9 p gg.nodes).length):iV prog gl 118 [.ptr (av gg) 0,.clo (.func fi) fa fc] 36 r.length (r.flatMap aj):=by
 rw[hle];refine OW func118 ?_;refine pN (λk:Nat=>(s0 30 gl [(1,.clo (.func fi) fa fc),(5,.rsl 0 0 (G9 p (gg.nodes.take k)).length),(11,aE d7 gg.nodes),(12,iG (ah gg.nodes)),(13,iG (k:Int))] [(0,dm (G9 p (gg.nodes.take k)))] 1 0)) 1110122 (iw (n:=gg.nodes.length) aa) [] [hc hv.im,hc (ac.imm [])] (λB k w hs k5 a=>?_) [36] [(0,0)] [(0,.row)];unfold qZ at hs;split at hs
 .rename_i hlt;obtain rfl:=cP hs;obtain⟨x,hx⟩:∃x,gg.nodes[k]?=some x:=⟨_,fy hlt⟩;have hz:=cQ hx;have k5:=k5 _ rfl;have hl:(G9 p (gg.nodes.take k)).length<=k:=Nat.le_trans O0 (by rw[List.length_take];omega);rw[SJ hx] at k5;generalize G9 p (gg.nodes.take k)=l at k5 hl⊢;have hcs:=hv.cs (c:=2) (x:=k) (by rw[decide_eq_true (show k<200 by omega)];rfl) (aY (aG 20 (iG (k:Int)) aH) bf);cases hp:p k with
  |true=>rw[hp] at k5 hcs;exact jw [hr 14 (fp hx),bR 16 (az.ixZ hz),bR 17 (az.ptZ CA hz),Go.Proofs.YtaiecngnppbhlaaGreatDoor.hz 20 [] hcs,Tn 25 ac 24 l x.id aa,hbb 26 (Xl (q:=k) aa)] [hc hv.im,hc (el (l++[x.id])),hc (ac.imm (l++[x.id]))] k5 [] [(0,3)] [(0,.row)]
  |false=>rw[hp] at k5 hcs;rw[cG,List.append_nil] at k5;exact jw [hr 14 (fp hx),bR 16 (az.ixZ hz),bR 17 (az.ptZ CA hz),Go.Proofs.YtaiecngnppbhlaaGreatDoor.hz 20 [] hcs,hbb 26 (Xl (q:=k) aa)] [hc hv.im,hc (el l),hc (ac.imm l)] k5 [] [(0,0)] [(0,.row)]
 .split at hs
  .rename_i he;subst he;rw[List.take_length];exact EI [hr 14 (gz (s:=gg.nodes)),hso (gl:=gl) 28 1 ab6 (Nat.le_trans O0 hn) h] (ac.imm r)
  .cases hs
theorem XT(k:Nat):ba prog gl 119 [iG (k:Int)] (bG true):=by refine Gh func119 ?_;exact Ar [] []
theorem XU{gg:DGraphGraph}(hn:gg.nodes.length<=14)(h:wr jE (G9 (λ_=>true) gg.nodes)=some r)(hle:r.length=(G9 (λ_=>true) gg.nodes).length):ba prog gl 50 [.ptr (av gg) 0] (aE aj r):=by have hN:=(KY (gl:=gl) hn (fi:=119) (fa:=[]) (fc:=[]) ⟨aH,bf,bf,λk r e=>by cases hk:decide (k<200)<;>rw[hk] at e<;>cases e;exact XT k⟩ h hle).fn ac.sz (ac.len _) (ac.imm _);refine Gh func50 ?_;exact Ar [hf 4 hN] []
def yS(gg:DGraphGraph)(l:List DIdent):A4W:=l.foldl (λs x=>match r5 gg x with|some y=>yv s y.past|none=>s) z4
theorem SK(hg:GgOk gg)(hn:ids.length<=1000000):ba prog gl 135 [.ptr (av gg) 0,aE aj ids] (.agg (FSq (yS gg ids))):=by
 refine Gh func135 ?_;refine pN (λk:Nat=>(s0 37 gl [(0,.ptr (av gg) 0),(4,.ref 0 0),(5,.ref 1 0),(10,aE aj ids),(11,iG (ah ids)),(12,iG (k:Int))] [(0,oA z4),(1,oA (yS gg (ids.take k)))] 2 0)) 1110122 (iw (n:=ids.length) aa) [] [] (λB k w hs k5 a=>?_) [] [(0,0),(1,1)] [];unfold qZ at hs;split at hs
 .rename_i hlt;obtain rfl:=cP hs;obtain⟨x,hx⟩:∃x,ids[k]?=some x:=⟨_,fy hlt⟩;have hz:=cQ hx;have k5:=k5 _ rfl;have e:yS gg (ids.take (k+1))=match r5 gg x with|some y=>yv (yS gg (ids.take k)) y.past|none=>yS gg (ids.take k):=by unfold yS;rw[List.take_add_one,hx,Option.toList_some,List.foldl_append];rfl
  rw[e] at k5;generalize yS gg (ids.take k)=s at k5⊢;have hk:=H7 gg.at_ x;cases em:gg.at_.get x with
  |none=>rw[em] at hk;rw[E7 em] at k5;exact jw [hr 13 (fp hx),bR 14 (ac.ixZ hz),bR 15 (ac.ptZ aW hz),hm 22 hk,hbb 35 (Xl (q:=k) aa)] [] k5 [] [(0,0),(1,1)] []
  |some n=>rw[em] at hk;obtain⟨j,y,rfl,hy,e2,_⟩:=Bx hg em;rw[e2] at k5;exact jw [hr 13 (fp hx),bR 14 (ac.ixZ hz),bR 15 (ac.ptZ aW hz),hm 22 hk,bR 31 (az.ixZ hy),bR 33 (az.fsZ aap aaq 30 dL hy),tN 34 [1] 3 [(1,oA s)] [.ref 1 0,.agg (FSq y.past)] [(0,oA (yv s y.past))] (TX gl s y.past) ⟨⟨rfl,.inl rfl⟩,trivial⟩ ⟨⟨rfl,.inl rfl⟩,trivial⟩,hbb 35 (Xl (q:=k) aa)] [] k5 [] [(0,0),(1,1)] []
 .split at hs
  .rename_i he;subst he;rw[List.take_length];exact Ar [hr 13 (gz (s:=ids))] []
  .cases hs
end
section
variable {gl:List (Nat×List G)}
theorem XV(s:A4W)(hn:n<256):ba prog gl 132 [.ptr (FSq s) 0,iG (n:Int)] (bG (gW s n)):=by
 have h:=Xa (s:=s) hn;generalize gW s n=r at h⊢;have hm:u9 (n:Int) 64=some ((n%64:Nat):Int):=by unfold u9;rw[if_neg dL,Int.tmod_eq_emod_of_nonneg aa];rfl
 have hcn:wJ ((n%64:Nat):Int)=some (n%64):=by unfold wJ;rw[if_neg aa];rfl
 have hq:∀q:Nat,n/64=q->Gg (n:Int) 64=some (q:Int):=λq e=>by unfold Gg;rw[if_neg dL,Int.tdiv_eq_ediv_of_nonneg aa,Mx aa];subst e;rfl
 have hd:wI (Int.tdiv (n:Int) 64)=((n/64:Nat):Int):=by rw[Int.tdiv_eq_ediv_of_nonneg aa,bM aa aa];rfl
 have ht:Int.tmod (n:Int) 64=((n%64:Nat):Int):=by rw[Int.tmod_eq_emod_of_nonneg aa];rfl
 unfold iX at h;rw[hd,ht,hcn] at h;refine Gh func132 ?_;have h4:n/64=0\/n/64=1\/n/64=2\/n/64=3:=aa;rcases h4 with e|e|e|e
 .rw[e] at h;obtain rfl:=cP h;exact Ar [hbb 7 (Tt (hq 0 e)),hbb 12 (KO hm),hV 13 (Am (P:=prog) (t:=34) s.a0 hcn),hV 14 (ju (P:=prog) (t:=34) (fv s.a0 (n%64)) 1)] []
 .rw[e] at h;obtain rfl:=cP h;exact Ar [hbb 7 (Tt (hq 1 e)),hbb 12 (KO hm),hV 13 (Am (P:=prog) (t:=34) s.a1 hcn),hV 14 (ju (P:=prog) (t:=34) (fv s.a1 (n%64)) 1)] []
 .rw[e] at h;obtain rfl:=cP h;exact Ar [hbb 7 (Tt (hq 2 e)),hbb 12 (KO hm),hV 13 (Am (P:=prog) (t:=34) s.a2 hcn),hV 14 (ju (P:=prog) (t:=34) (fv s.a2 (n%64)) 1)] []
 .rw[e] at h;obtain rfl:=cP h;exact Ar [hbb 7 (Tt (hq 3 e)),hbb 12 (KO hm),hV 13 (Am (P:=prog) (t:=34) s.a3 hcn),hV 14 (ju (P:=prog) (t:=34) (fv s.a3 (n%64)) 1)] []
theorem XW(s:A4W):NmV gl 132 [.ptr (FSq s) 0] [] (gW s):=⟨aH,aY (aG 20 _ aH) bf,bf,λk r e=>by cases hk:decide (k<200)<;>rw[hk] at e<;>cases e;exact XV s (by have:=of_decide_eq_true hk;omega)⟩
theorem XX(hg:GgOk gg)(hn:gg.nodes.length<=14){ids r:List DIdent}(hi:ids.length<=1000000)(h:wr jE (G9 (gW (yS gg ids)) gg.nodes)=some r)(hle:r.length=(G9 (gW (yS gg ids)) gg.nodes).length):iV prog gl 63 [.ptr (av gg) 0,aE aj ids] 36 r.length (r.flatMap aj):=by refine OW func63 ?_;exact EI [hf 8 (SK (gl:=gl) hg hi),ho 11 [.ptr (av gg) 0,.clo (.func 132) [.ptr (FSq (yS gg ids)) 0] []] [] (KY (gl:=gl) hn (XW _) h hle) (kF r)] (ac.imm r)
theorem SM{l:List DIdent}{x:DIdent}{i c:Nat}(hn:l.length<=100000):oJ prog gl 65 [.rsl i 0 l.length,.agg (aj x)] [(i,dm l)] c (bG (l.any λy=>decide (x=y))) [] c:=
 vT aH (mj gl (Hh aa x)) (lR _) rfl λst h j y z h1 h2=>by
  match j with
  |0=>cases h1;cases h2;exact Jn (h i _ (by rw[bj,if_pos rfl]))
  |1=>cases h1;cases h2;exact jB (aG 20 (.agg (aj x)) aH)
  |j+2=>cases h1
def pf(I:Gi)(p l:List DIdent):List DIdent:=l.foldl (λr x=>bif decide (0<I.lev x) then bif r.any λy=>decide (x=y) then r else r++[x] else r) p
theorem KZ{I:Gi}:∀{l p:List DIdent},(pf I p l).length<=p.length+l.length
 |[],p=>Nat.le_refl _
 |x::l,p=>by have a:pf I p (x::l)=pf I (bif decide (0<I.lev x) then bif p.any λy=>decide (x=y) then p else p++[x] else p) l:=rfl;rw[a];refine Nat.le_trans KZ ?_;cases decide (0<I.lev x)<;>cases(p.any λy=>decide (x=y))<;>simp<;>omega
theorem SN(h:GiOk gl gg I)(hp:iV prog gl 63 [.ptr (av gg) 0,aE aj o.Past] 36 p.length (p.flatMap aj))(hn:p.length+o.Past.length<=100000):iV prog gl 22 [.ptr (av gg) 0,.agg (aJ o)] 36 (pf I p o.Past).length ((pf I p o.Past).flatMap aj):=by
 refine OW func22 ?_;refine pN (λk:Nat=>(s0 35 gl [(0,.ptr (av gg) 0),(5,.rsl 0 0 (pf I p (o.Past.take k)).length),(13,aE aj o.Past),(14,iG (ah o.Past)),(15,iG (k:Int))] [(0,dm (pf I p (o.Past.take k)))] 1 0)) 1110122 (iw (n:=o.Past.length) aa) [ho 11 [.ptr (av gg) 0,aE aj o.Past] [] hp (kF p)] [hc (el p),hc (ac.imm p)] (λB k w hs k5 d=>?_) [] [(0,1)] [(0,.row)];unfold qZ at hs;split at hs
 .rename_i hlt;obtain rfl:=cP hs;obtain⟨x,hx⟩:∃x,o.Past[k]?=some x:=⟨_,fy hlt⟩;have hz:=cQ hx;have k5:=k5 _ rfl;have hl:(pf I p (o.Past.take k)).length<=100000:=by have:=KZ (I:=I) (p:=p) (l:=o.Past.take k);rw[List.length_take] at this;omega
  have e:pf I p (o.Past.take (k+1))=bif decide (0<I.lev x) then bif(pf I p (o.Past.take k)).any λy=>decide (x=y) then pf I p (o.Past.take k) else pf I p (o.Past.take k)++[x] else pf I p (o.Past.take k):=by unfold pf;rw[List.take_add_one,hx,Option.toList_some,List.foldl_append];rfl
  rw[e] at k5;generalize pf I p (o.Past.take k)=l at k5 hl⊢;have b:=h.lev x;cases c1:decide (0<I.lev x) with
  |false=>rw[c1] at k5;exact jw [hr 16 (fp hx),bR 17 (ac.ixZ hz),bR 18 (ac.ptZ aW hz),hf 21 b,hr 22 c1,hbb 33 (Xl (q:=k) aa)] [hc (el l),hc (ac.imm l)] k5 [] [(0,0)] [(0,.row)]
  |true=>
   rw[c1] at k5;have a:=SM (gl:=gl) (l:=l) (x:=x) (i:=0) (c:=2) hl;cases c2:(l.any λy=>decide (x=y)) with
   |true=>rw[c2] at k5 a;exact jw [hr 16 (fp hx),bR 17 (ac.ixZ hz),bR 18 (ac.ptZ aW hz),hf 21 b,hr 22 c1,Go.Proofs.YtaiecngnppbhlaaGreatDoor.hz 26 [0] a,hbb 33 (Xl (q:=k) aa)] [hc (el l),hc (ac.imm l)] k5 [] [(0,0)] [(0,.row)]
   |false=>rw[c2] at k5 a;exact jw [hr 16 (fp hx),bR 17 (ac.ixZ hz),bR 18 (ac.ptZ aW hz),hf 21 b,hr 22 c1,Go.Proofs.YtaiecngnppbhlaaGreatDoor.hz 26 [0] a,Tn 32 ac 24 l x aa,hbb 33 (Xl (q:=k) aa)] [hc (el (l++[x])),hc (ac.imm (l++[x]))] k5 [] [(0,3)] [(0,.row)]
 .split at hs
  .rename_i he;subst he;rw[List.take_length];exact EI [hr 16 (gz (s:=o.Past))] (ac.imm (pf I p o.Past))
  .cases hs
end
abbrev JK(R:DRollRoll)(sen:List Int):List Int:=sen.filter (xy R)
abbrev K0(l:List Int)(d:Int):Bool:= !(l.any λy=>decide (d=y))
def SO(fk:Bool)(R:DRollRoll)(o:DOp)(i:DIdent)(sen:List Int):List Int:=bif fk then[] else bif decide (Bw R o≠0) then[] else JK (Dd R o i) sen++(mI (Dd R o i)).filter (K0 (JK (Dd R o i) sen))
theorem X3(gl:List (Nat×List G))(R:DRollRoll):InV gl 32 [.ptr (dY R) 0] [] (xy R):=⟨aH,aY (aG 20 (.ptr (dY R) 0) aH) bf,bf,λk r e=>by cases e;exact C4 gl rfl⟩
theorem X5(gl:List (Nat×List G)){l:List Int}(hl:l.length<=1000000):InV gl 34 [] [.ptr [aE cZ l] 0] (K0 l):=⟨aH,bf,aY (aG 20 (.ptr [aE cZ l] 0) aH) bf,λk r e=>by cases e;exact C5 gl (by unfold A7;rw[Hh aa k];rfl)⟩
theorem M2{gl:List (Nat×List G)}(hR:RlOk R){l:List Int}(hl:l.length<=1000000){f:Nat->Nat}{c:Nat}(hnd:(Fq f).Nodup):oJ prog gl 30 [aE cZ l,.clo (.func 32) [.ref (f 0) 0] []] (dT f R) c (.rsl c 0 (JK R l).length) [(c,some ⟨3,(JK R l).flatMap cZ,none⟩)] (c+1):=
 PD aH (OY (X3 gl R) hl) (lZ _) rfl λst h i x y h1 h2=>by
  have hs:Rls f R st.σ:=λk ob ho=>h _ _ (by rw[kD,pA (λa ha b hb e=>Nj hnd (List.mem_range.1 ha) (List.mem_range.1 hb) e) (List.mem_range.2 (fL ho))];exact ho)
  match i with
  |0=>cases h1;cases h2;exact jB (aG 20 (aE cZ l) aH)
  |1=>
   cases h1;cases h2;refine SX rfl rfl (λj g d a b=>?_) λj g d a b=>by cases a
   match j with
   |0=>cases a;cases b;exact TG hR hs
   |j+1=>cases a
  |i+2=>cases h1
section
variable {gg:DGraphGraph} {I:Gi} (h:GiOk fI gg I) {o:DOp} {i:DIdent} {s:List DIdent} (hS:iV prog fI 22 [.ptr (av gg) 0,.agg (aJ o)] 36 s.length (s.flatMap aj)) {fr:List DForkFork} (hF:ba prog fI 24 [.ptr (av gg) 0,aE aj s] (aE da fr)) {fk:Bool} (hK:Az fr (λf=>mw f o)=some fk) {R:DRollRoll} (hR:RlOk R) (hRl:CO prog fI 26 [.ptr (av gg) 0,aE aj s] [] 0 0 (.ref 0 0) (dT f0 R)) (hi:ba prog fI 27 [.agg (aJ o)] (.agg (aj i))) (hg:o.Guards.length<=1000000) (hp:Bw R o=0->OpD o i) {sen:List Int} (hN:ba prog fI 31 [.ptr (av gg) 0,aE aj s] (aE cZ sen)) (hn:sen.length<=1000)
include hS hF hK hR hRl hi hg hp hN hn
theorem SP:iV prog fI 7 [.ptr (av gg) 0,.agg (aJ o)] 3 (SO fk R o i sen).length ((SO fk R o i sen).flatMap cZ):=by
 have a:=hS.fn ac.sz (ac.len _) (ac.imm _);have b:=qX fI (fi_f:=25) (fa_f:=[]) (fc_f:=[.ptr (aJ o) 0]) ⟨aH,bf,aY (aG 20 (.ptr (aJ o) 0) aH) bf,λf r e=>C3 fI e⟩ hK;refine OW func7 ?_;unfold SO;cases fk with
 |true=>exact EI [hf 11 a,hf 14 hF,hq 16 [aE da fr,.clo (.func 25) [] [.ptr (aJ o) 0]] [] b] (rZ.imm [])
 |false=>
 rw[cG];have hM:=UR hR (o:=o) (i:=i) hg;generalize Bw R o=mm at hM hp⊢;cases cm:decide (mm≠0) with
 |true=>exact EI [hf 11 a,hf 14 hF,hq 16 [aE da fr,.clo (.func 25) [] [.ptr (aJ o) 0]] [] b,hrn 19 2 [.ptr (av gg) 0,aE aj s] hR hRl,hf 21 hi,hrr 25 (xG 2) 16 [.agg (aJ o),.agg (aj i)] hR hM,hr 26 cm] (rZ.imm [])
 |false=>
  rw[cG];have hp:=hp (Decidable.of_not_not (of_decide_eq_false cm));have hD:=UG fI hR hp;have hQ:=yK hR hp;generalize Dd R o i=Q at hD hQ⊢;have hdl:(mI Q).length<=1000:=by rw[(wa hQ).2.1.length_eq,List.length_map];have:=hQ.len;omega
  have hv:=EY fI hQ;have hl:(JK Q sen).length<=1000:=Nat.le_trans (List.length_filter_le _ _) hn;have d:=OY (X5 fI (l:=JK Q sen) aa) (l:=mI Q) aa;have hap:aT 8 (JK Q sen) ((mI Q).filter (K0 (JK Q sen)))=some (JK Q sen++(mI Q).filter (K0 (JK Q sen))):=if_pos (by have:=List.length_filter_le (K0 (JK Q sen)) (mI Q);omega);have g:=M2 (gl:=fI) hQ (l:=sen) aa (f:=f0) (c:=14) dL;refine pO 1111110 (s0 43 fI [(0,.ptr (av gg) 0),(3,.ptr (aJ o) 0),(5,aE aj s),(6,.ref 0 0),(7,.ref 14 0)] (dT f0 R++[(14,Fs i)]) 15 0) [hf 11 a,hf 14 hF,hq 16 [aE da fr,.clo (.func 25) [] [.ptr (aJ o) 0]] [] b,hrn 19 2 [.ptr (av gg) 0,aE aj s] hR hRl,hf 21 hi,hrr 25 (xG 2) 16 [.agg (aJ o),.agg (aj i)] hR hM,hr 26 cm] (hc (eB (gs:=aJ o) aH)::JP (iA (xG 2)++[(14,1)]) (xG 2) hR) ?_ (ρ:=iA (xG 2)++[(14,1)]) (kd:=tp);refine pO 11111110 (s0 43 fI [(0,.ptr (av gg) 0),(5,aE aj s),(6,.ref 0 0)] (dT f0 Q) 14 0) [It 30 f0 15 [.agg (aJ o),.agg (aj i)] hR hQ hD] (JP (iA (fW f0 15)) (fW f0 15) hQ) ?_ (ρ:=iA (fW f0 15)) (kd:=tp);refine pO 111111110 (s0 43 fI [(6,.ref 0 0),(8,.ref 14 0)] (dT f0 Q++[ob 14 22 [.rsl 15 0 (JK Q sen).length],(15,oe (JK Q sen))]) 16 0) [hf 33 hN,hz 36 (Fq f0) g] (JP (iA f0++[(14,15),(15,14)]) f0 hQ++[hc (el (JK Q sen)),hc (rZ.imm (JK Q sen))]) ?_ (ρ:=iA f0++[(14,15),(15,14)]) (kd:=tp++[(15,.row)]);exact EI [hrr 39 f0 17 [] hQ hv,ho 41 [aE cZ (mI Q),.clo (.func 34) [] [.ptr [aE cZ (JK Q sen)] 0]] [hc (rZ.al (JK Q sen))] d (lZ _),dg 42 rZ hap] (rZ.imm _)
end
section
section
variable {P:Program}
section
variable {ops:Array Oper} {K:St->Prop} {ty:TypeId} {pos:String} {af:Array Edge} {rest:List Oper} {n:Nat} {gl:List (Nat×List G)} {fr:Fr} {σ:aQ} {c p d j:Nat} {bars:List Nat} {rr:Bool}
end
section
variable {ops:Array Oper} {K:St->Prop} {ty:TypeId} {pos:String} {af:Array Edge} {rest:List Oper} {n:Nat} {gl:List (Nat×List G)} {fr:Fr} {σ:aQ} {c p d j:Nat} {bars:List Nat} {rr:Bool}
theorem adW{op:Op}{gq:Option (Nat×Bool)}(hw:ce ⟨n,gl,fr,σ,c,p,rr⟩ ops ⟨some d,op,ty,pos,af,gq⟩=some false)(hd:d<n)(h:D8 P ops K rest ⟨n,gl,(d,.lit undef)::fr,σ,c,p,rr⟩):D8 P ops K (⟨some d,op,ty,pos,af,gq⟩::rest) ⟨n,gl,fr,σ,c,p,rr⟩:=by unfold D8;exact .inr ⟨hw,(by grind),h⟩
end
end
section
variable {P:Program} {ops:Array Oper} {K:St->Prop} {op:Op} {ty:TypeId} {pos:String} {af:Array Edge} {rest:List Oper} {n:Nat} {gl:List (Nat×List G)} {fr:Fr} {σ:aQ} {c p d j:Nat} {bars:List Nat} {rr:Bool} {gq:Option (Nat×Bool)}
theorem zn(h:D8 P ops K rest ⟨n,gl,(d,.lit undef)::fr,σ,c,p,rr⟩)(hw:ce ⟨n,gl,fr,σ,c,p,rr⟩ ops ⟨some d,op,ty,pos,af,gq⟩=some false:=by kernel_rfl)(hd:d<n:=by decide):D8 P ops K (⟨some d,op,ty,pos,af,gq⟩::rest) ⟨n,gl,fr,σ,c,p,rr⟩:=adW hw hd h
end
end
theorem af4:bw prog 44=some 27:=aH
theorem ab7(l:List DCard):∀g∈l.flatMap bv,∃v,g= .lit v:=by grind [bv]
section
def lH(g:DGraphGraph)(a:DIdent):Option (DOp×Bool):=
 bif(!((g.at_.get a).isSome)) then(some (⟨0,0,0,0,[],0,0,0,0,[],⟨0,0,0⟩,0,[],[],⟨0,0,0⟩,[],0,0,[],0,[],⟨0,0⟩⟩,false)) else((aS g.nodes (FR (g.at_.get a))).bind λb=>(pG b.o).bind λe=>some (e,true))
theorem sK{g id_}:eP prog gl (lH g id_) 73 [.ptr (av g) 0,.agg (aj id_)] (λr=> .tup [.agg (aJ r.1),bG r.2]):=
 cy func73 λK=>aw [hm 14 (H7 g.at_ id_)]<|aF 18 (rv K)<|dV 25 az.ixZ 27 (az.fsZ GN af4 0 dL) λa=>dI 28 (Ds gl) λb=>rv K
def nq(g:DGraphGraph):Option (List DCard):=
 (gK g.cards).bind λa=>some a
theorem yw{g}:rX prog gl (nq g) 71 [.ptr (av g) 0] 106 bv:=
 gc func71 λK=>ak λa e2=>aw [ho 7 [aE bv g.cards] [] (tn gl e2) (ab7 a)]<|mr c0 K (bT.imm _)
end
theorem sP(a:DIdent):dt a a=false:=by grind [ye]
theorem Qh{a b:DIdent}(h1:dt a b=false)(h2:dt b a=false):a=b:=by
 have n1:¬dt a b=true:=by rw[h1];simp
 have n2:¬dt b a=true:=by rw[h2];simp
 rw[ye] at n1 n2;obtain⟨a1,a2,a3⟩:=a;obtain⟨b1,b2,b3⟩:=b;grind
section
theorem SW(hn:gg.cards.length<=1000)(d:Int):hY gg d=some (((gg.cards.find? λc=>decide (c.Device=d)).getD EZ),(gg.cards.find? λc=>decide (c.Device=d)).isSome):=by
 unfold hY;refine T.eq (.bind (T.forA gg.cards.length (λk acc=>∀(j:Nat) (c:DCard),j<k->gg.cards[j]?=some c->c.Device≠d) aa (by grind) (λk acc hk hj=>?_) λacc hj=>?_))
 .obtain⟨x,hx⟩:∃x,gg.cards[k]?=some x:=⟨_,fy hk⟩;unfold ij;dsimp only;rw[eA hk,aN,au,hx,aL];refine .dec (λe=> .some (.some ?_)) λe=> .some ⟨aq aa,λj c' a b=>?_⟩
  .grind [List.find?_eq_some_iff_getElem]
  grind
 .unfold ij;dsimp only;rw[eF,cG];have hf:gg.cards.find? (λc=>decide (c.Device=d))=none:=by grind [List.getElem?_of_mem]
  rw[hf];exact .some (.some rfl)
theorem X7{i:Int}{x:DGraphNode}(hx:aS N i=some x)(hn:n<256){r:Bool}(h:iX x.past (n:Int)=some r):ba prog fI 132 [.ptr (N.flatMap d7) (i.toNat*35+30),iG (n:Int)] (bG r):=by
 have hm:u9 (n:Int) 64=some ((n%64:Nat):Int):=by grind [u9]
 have hcn:wJ ((n%64:Nat):Int)=some (n%64):=by grind [wJ]
 have hq:∀q:Nat,n/64=q->Gg (n:Int) 64=some (q:Int):=by grind [Gg,Mx]
 have hd:wI (Int.tdiv (n:Int) 64)=((n/64:Nat):Int):=by grind [bM]
 have ht:Int.tmod (n:Int) 64=((n%64:Nat):Int):=by rw[Int.tmod_eq_emod_of_nonneg aa];rfl
 unfold iX at h;rw[hd,ht,hcn] at h;refine Gh func132 ?_;have h4:n/64=0\/n/64=1\/n/64=2\/n/64=3:=aa;rcases h4 with e|e|e|e
 .rw[e] at h;obtain rfl:=cP h;exact Ar [hbb 7 (Tt (hq 0 e)),bR 10 (az.fdZ tW 30 hx),hbb 12 (KO hm),hV 13 (Am (P:=prog) (t:=34) x.past.a0 hcn),hV 14 (ju (P:=prog) (t:=34) (fv x.past.a0 (n%64)) 1)] []
 .rw[e] at h;obtain rfl:=cP h;exact Ar [hbb 7 (Tt (hq 1 e)),bR 10 (az.fdZ tW 31 hx),hbb 12 (KO hm),hV 13 (Am (P:=prog) (t:=34) x.past.a1 hcn),hV 14 (ju (P:=prog) (t:=34) (fv x.past.a1 (n%64)) 1)] []
 .rw[e] at h;obtain rfl:=cP h;exact Ar [hbb 7 (Tt (hq 2 e)),bR 10 (az.fdZ tW 32 hx),hbb 12 (KO hm),hV 13 (Am (P:=prog) (t:=34) x.past.a2 hcn),hV 14 (ju (P:=prog) (t:=34) (fv x.past.a2 (n%64)) 1)] []
 .rw[e] at h;obtain rfl:=cP h;exact Ar [hbb 7 (Tt (hq 3 e)),bR 10 (az.fdZ tW 33 hx),hbb 12 (KO hm),hV 13 (Am (P:=prog) (t:=34) x.past.a3 hcn),hV 14 (ju (P:=prog) (t:=34) (fv x.past.a3 (n%64)) 1)] []
theorem abg(h:GgOk gg):GiOk fI gg (q8 gg) where
 op x:=by
  cases e:gg.at_.get x with
  |none=>
   have hr:lH gg x=some ((q8 gg).o x,((q8 gg).op x).isSome):=by grind [lH,Gi.o,q8,E7]
   exact sK fI hr
  |some n=>
   obtain⟨k,y,rfl,hz,hn,hk,hm⟩:=Bx h e;have hr:lH gg x=some ((q8 gg).o x,((q8 gg).op x).isSome):=by grind [lH,Gi.o,q8,FR,Option.isSome_some,GgOk.cl]
   exact sK fI hr
 bef x y:=by
  refine Gh func198 ?_;refine pO [1,0] (s0 44 fI [(0,.ptr (av gg) 0),(4,.ref 0 0),(5,.ref 1 0)] [(0,Fs x),(1,Fs y)] 2 0) [] [] ?_ [] [(0,0),(1,1)];show Gp _ _ (tH _ _ (bG (Vc gg x y))) _ _ _ _;unfold Vc;have h1:=H7 gg.at_ x;have h2:=H7 gg.at_ y;unfold FR at h1 h2;cases e1:gg.at_.get x with
  |none=>rw[e1] at h1;exact Ar [hm 17 h1,hm 26 h2] []
  |some n=>
   rw[e1] at h1;cases e2:gg.at_.get y with
   |none=>rw[e2] at h2;rw[E7 e2];exact Ar [hm 17 h1,hm 26 h2] []
   |some q=>rw[e2] at h2;obtain⟨k,b,rfl,hz,hn,hk,hmm⟩:=Bx h e2;obtain⟨j,a,rfl,_,_,hj,_⟩:=Bx h e1;rw[hn];exact Ar [hm 17 h1,hm 26 h2,bR 39 (az.ixZ hz),hf 42 (X7 hz hj (Xa hj))] []
 lev x:=by
  refine kR fI ?_;unfold gG FR;cases e:gg.at_.get x with
  |none=>show _=some (match r5 gg x with|some y=>y.level|none=>0);rw[E7 e];rfl
  |some n=>obtain⟨k,y,rfl,hz,hn,hk,hm⟩:=Bx h e;show _=some (match r5 gg x with|some y=>y.level|none=>0);grind
 cards:=by
  have hr:nq gg=some gg.cards:=by grind [nq,gK,aT,GgOk.nc]
  exact(yw fI hr).fn aH (bT.len _) (bT.imm _)
 card d:=uN fI (SW h.nc d)
end
section
section
variable {g:D12G} {m:FM DIdent Int} {N:List DGraphNode}
theorem abh(w:WfG g)(p:PgOk g m N):GgOk ⟨g.Cards,m,N⟩ where
 pos x n e:=by have e:m.get x=some n:=e;rw[p.get] at e;cases hk:bu x g.IDs<;>grind [LK]
 cl y hy:=by grind [PgOk,List.getElem?_of_mem,RM,WfG.ops]
 nc:=w.nC
end
end
section
theorem Qi(a:DIdent):¬jE a a<0:=by grind [xX,sP]
theorem D3{a b:DIdent}:wc I a b<0↔I.lev a<I.lev b\/(I.lev a=I.lev b/\dt a b=true):=by grind [wc,xX,LL]
theorem K3(a:DIdent):¬wc I a a<0:=by grind [D3,sP]
theorem Ha(I:Gi):OrN (wc I) λ_=>True:=by grind [OrN,D3,dt,EX]
section
variable {gl:List (Nat×List G)}
end
end
theorem M3(hl:ids.length<=1000000)(d s:Int):z9 ids d s=some (uw ids ⟨d,s⟩:Int):=by
 refine T.eq ?_;unfold z9;refine .bind ((T.forA ids.length (λk n=>n=(uw (ids.take k) ⟨d,s⟩:Int)) aa rfl (λk n hk hn=>?_) λn hn=>?_).mono (Q:=λn:Int=>n=(uw ids ⟨d,s⟩:Int)) λn hn=> .some hn)
 .obtain⟨y,hy,_⟩:=dk hk;unfold uf;simp only[eA hk,aN,au,hy,aL];have h1:=Bn (ids.take k) y ⟨d,s⟩;have h2:=Wx (ids.take k) ⟨d,s⟩;rw[List.length_take] at h2;rw[<-Rb hy] at h1;simp only[DForkFork.mk.injEq] at h1;have yes:y.By=d->y.Seq=s->wI (n+1)=(uw (ids.take (k+1)) ⟨d,s⟩:Int):=by grind [bM]
  have no:¬(y.By=d/\y.Seq=s)->n=(uw (ids.take (k+1)) ⟨d,s⟩:Int):=by grind
  by_cases c1:y.By=d
  .by_cases c2:y.Seq=s
   .simp only[c1,c2,decide_true,aN,aL];exact .some ⟨aq aa,yes c1 c2⟩
   .simp only[c1,c2,decide_true,decide_false,aN,cG,aL];exact .some ⟨aq aa,no λc=>c2 c.2⟩
  .simp only[c1,decide_false,cG,aL];exact .some ⟨aq aa,no λc=>c1 c.1⟩
 .unfold uf;dsimp only;rw[eF,cG];refine .some (show n=_ from ?_);rw[hn,List.take_length]
def FsI(ids p:List DIdent)(d v:Int):Prop:=(v=0/\∀y∈p,y.By=d->¬2<=uw ids ⟨d,y.Seq⟩)\/(∃y∈p,y.By=d/\y.Seq=v/\2<=uw ids ⟨d,v⟩/\∀z∈p,z.By=d->2<=uw ids ⟨d,z.Seq⟩->v<=z.Seq)
theorem CB{ids:List DIdent}(hl:ids.length<=1000000)(hs:∀x∈ids,1<=x.Seq)(d:Int):T (qN ids d) (FsI ids ids d):=by
 unfold qN;refine .bind ((T.forA ids.length (λk v=>FsI ids (ids.take k) d v) aa (.inl ⟨rfl,λy hy=>by cases hy⟩) (λk v hk hv=>?_) λv hv=>?_).mono (Q:=FsI ids ids d) λv hv=> .some hv)
 .obtain⟨y,hy,hm⟩:=dk hk;unfold qM;simp only[eA hk,aN,au,hy,aL,M3 hl];have a:=hs y hm;have keep:(y.By=d->2<=uw ids ⟨d,y.Seq⟩->v≠0/\v<=y.Seq)->FsI ids (ids.take (k+1)) d v:=λh=>by
   rw[Rb hy];rcases hv with⟨h1,h2⟩|⟨z,h1,h2,h3,h4,h5⟩
   .refine .inl ⟨h1,λz hz hb hc=>?_⟩;rcases List.mem_append.1 hz with hz|hz
    .exact h2 z hz hb hc
    .simp at hz;subst hz;exact(h hb hc).1 h1
   .refine .inr ⟨z,by simp[h1],h2,h3,h4,λw hw hb hc=>?_⟩;rcases List.mem_append.1 hw with hw|hw
    .exact h5 w hw hb hc
    .simp at hw;subst hw;exact(h hb hc).2
  have new:y.By=d->2<=uw ids ⟨d,y.Seq⟩->(v=0\/y.Seq<v)->FsI ids (ids.take (k+1)) d y.Seq:=λhb hc h=>by
   rw[Rb hy];refine .inr ⟨y,aC,hb,rfl,hc,λw hw hb' b=>?_⟩;rcases List.mem_append.1 hw with hw|hw
   .rcases hv with⟨h1,h2⟩|⟨z,h1,h2,h3,h4,h5⟩
    all_goals grind
   grind
  by_cases c1:y.By=d
  .by_cases c2:2<=uw ids ⟨d,y.Seq⟩
   .have c2':(1:Int)<(uw ids ⟨d,y.Seq⟩:Int):=aa;by_cases c3:v=0
    .simp only[c1,c2',c3,decide_true,aN,aL];exact .some ⟨aq aa,new c1 c2 (.inl c3)⟩
    .by_cases c4:y.Seq<v
     .simp only[c1,c2',c3,c4,decide_true,decide_false,aN,cG,aL];exact .some ⟨aq aa,new c1 c2 (.inr c4)⟩
     .simp only[c1,c2',c3,c4,decide_true,decide_false,aN,cG,aL];exact .some ⟨aq aa,keep λ_ _=>⟨c3,aa⟩⟩
   .have c2':¬(1:Int)<(uw ids ⟨d,y.Seq⟩:Int):=aa;simp only[c1,c2',decide_true,decide_false,aN,cG,aL];exact .some ⟨aq aa,keep λ_ h=>absurd h c2⟩
  .simp only[c1,decide_false,cG,aL];exact .some ⟨aq aa,keep λh=>absurd h c1⟩
 .unfold qM;dsimp only;rw[eF,cG];rw[List.take_length] at hv;exact .some hv
theorem Qn(hs:∀x∈ids,1<=x.Seq)(h:FsI ids ids y.By v):JS ids y=(decide (0<v)&&decide (v<=y.Seq)):=by
 rw[Bool.eq_iff_iff];unfold JS;rw[List.any_eq_true];simp only[bA,decide_eq_true_eq];refine⟨λ⟨z,hz,h1,h2,h3⟩=>?_,λ⟨h1,h2⟩=>?_⟩
 .rcases h with⟨_,h5⟩|⟨w,k1,k2,k3,a,k5⟩
  all_goals grind
 .rcases h with⟨h5,_⟩|⟨w,k1,k2,k3,a,k5⟩
  all_goals grind
theorem M4{ids:List DIdent}(hl:ids.length<=100000)(hd:ids.Nodup)(hs:∀x∈ids,1<=x.Seq):T (vJ ids) λr=>r.Perm (ids.filter (JS ids))/\r.Pairwise λx y=>jE x y<0:=by
 unfold vJ;refine .bind ((T.forA ids.length (λk acc=>acc=(ids.take k).filter (JS ids)) aa aC (λk acc hk hj=>?_) λacc hj=>?_).mono (Q:=λacc=>acc=ids.filter (JS ids)) λx hx=> .bind ((kg ?_).mono λv hv=> .some ?_))
 .obtain⟨y,hy,hm⟩:=dk hk;unfold un;simp only[eA hk,aN,au,hy,aL];have hla:acc.length<=k:=by grind
  have e:(ids.take (k+1)).filter (JS ids)=acc++(if JS ids y then[y] else[]):=by rw[Rb hy,List.filter_append,<-hj];cases hp:JS ids y<;>simp[hp]
  refine .bind ((CB aa hs y.By).mono λv hv=>?_);have hq:=Qn hs hv;by_cases c1:0<v
  .by_cases c2:v<=y.Seq
   .simp only[c1,c2,decide_true,aN,aL];rw[hq,decide_eq_true c1,decide_eq_true c2] at e;exact .bind (.app cq (.some ⟨aq aa,by rw[e];rfl⟩))
   .simp only[c1,c2,decide_true,decide_false,aN,cG,aL];rw[hq,decide_eq_true c1,decide_eq_false c2] at e;exact .some ⟨aq aa,by rw[e];simp⟩
  .simp only[c1,decide_false,cG,aL];rw[hq,decide_eq_false c1] at e;exact .some ⟨aq aa,by rw[e];simp⟩
 .unfold un;dsimp only;rw[eF,cG];refine .some (show acc=_ from ?_);rw[hj,List.take_length]
 .grind
 .refine⟨hx▸hv.1,?_⟩;have hn:v.Nodup:=by grind
  refine(hv.2.and hn).imp λ{a b} h=>xX.2 ?_;cases h1:dt a b with
  |true=>rfl
  |false=>exact absurd (Qh h1 h.1) h.2
section
section
variable {g:D12G} {m:FM DIdent Int} {N:List DGraphNode}
theorem M5(w:WfG g)(p:PgOk g m N){i:Nat}(h:g.IDs[i]?=some x):∃y,N[i]?=some y/\(fA g m N).lev x=y.level/\0<=y.level/\y.level<=(i:Int)+1:=by obtain⟨y,h1,h2,h3⟩:=LK w p (uD w h);refine⟨y,h1,?_,(p.nd i y h1).2.2.2⟩;show(match r5 ⟨g.Cards,m,N⟩ x with|some y=>y.level|none=>0)=_;rw[Bz w p,uD w h];grind
theorem Qs(w:WfG g)(p:PgOk g m N):nZ g=some (N.map (·.level)):=by
 have nL:=w.nL;have nU:=w.nU;have pl:=p.len;refine T.eq ?_;unfold nZ;refine .bind (T.mono (Q:=λr=>r=N.map (·.level)) (T.forA g.L.length (λk acc=>acc=(N.take k).map (·.level)) aa aC (λk acc hk hj=>?_) λacc hj=>?_) λx hx=> .some hx)
 .obtain⟨u,hu,_⟩:=dk (l:=g.Up) (k:=k) aa;obtain⟨y,hy,_⟩:=dk (l:=N) (k:=k) aa;obtain⟨u1,e⟩:=w.up k u hu;have b:=p.lv k y u hy hu;unfold pd;dsimp only;rw[eA hk,aN];have hla:acc.length=k:=by grind
  have hin:bo (iP g (acc,(k:Int))) (1,0)=some y.level:=by
   refine T.eq ?_;refine T.loop (λs=>∃j:Nat,j<=u.length/\s.2=(j:Int)/\s.1=WE N (u.take j)) (λs=>u.length-s.2.toNat) ⟨0,aa,rfl,rfl⟩ cq ?_;rintro⟨a,i⟩ ⟨j,f,rfl,rfl⟩;unfold iP;simp only[au,hu,aL];rcases Nat.lt_or_ge j u.length with hlt|hge
   .obtain⟨z,hz,hm⟩:=dk hlt;obtain⟨h,o⟩:=e z hm;obtain⟨n,rfl⟩:∃n:Nat,z=(n:Int):=⟨z.toNat,aa⟩;obtain⟨v,hv,_⟩:=dk (l:=N) (k:=n) aa;have hb:=(p.nd n v hv).2.2.2;have ha:acc[n]?=some v.level:=by grind
    rw[eA hlt,aN,hz,aL,au,ha,aL,bM aa aa];refine .some ⟨⟨j+1,aa,aq aa,?_⟩,?_⟩
    .rw[Rb hz,KX];grind [WA]
    grind [aq]
   .obtain rfl:j=u.length:=aa;rw[eF,cG,List.take_length];exact .some b.symm
  rw[hin,aL];refine .bind (.app cq (.some ⟨aq aa,?_⟩));rw[Rb hy,List.map_append,hj];rfl
 .unfold pd;dsimp only;rw[eF,cG];refine .some (show acc=_ from ?_);rw[hj,<-pl,List.take_length]
theorem Sa(w:WfG g)(p:PgOk g m N){i:Nat}(hx:g.IDs[i]?=some x)(hy:g.IDs[k]?=some y):vI g (N.map (·.level)) (i:Int) (k:Int)=some (decide (wc (fA g m N) x y<0)):=by
 obtain⟨a,h1,h2,_⟩:=M5 w p hx;obtain⟨b,h3,h4,_⟩:=M5 w p hy;have e1:(N.map (·.level))[i]?=some a.level:=by rw[List.getElem?_map,h1];rfl
 have e2:(N.map (·.level))[k]?=some b.level:=by rw[List.getElem?_map,h3];rfl
 grind [vI,au,pJ,D3]
theorem ab9{cmp:α->α->Int}(hO:OrN cmp λ_=>True){l:List α}{x:α}(hp:l.Pairwise λa b=>cmp a b<0)(h1:∀i y,i<j->l[i]?=some y->cmp y x<0)(h2:∀y,l[j]?=some y->¬cmp y x<0)(hx:x∉l):(l.take j++[x]++l.drop j).Pairwise λa b=>cmp a b<0:=by
 have hpj:(l.take j++l.drop j).Pairwise λa b=>cmp a b<0:=by rw[List.take_append_drop];exact hp
 rw[List.pairwise_append] at hpj;have hlt:∀a∈l.take j,cmp a x<0:=by grind [List.getElem?_of_mem]
 have hgt:∀b∈l.drop j,cmp x b<0:=by grind [OrN,List.drop_eq_nil_of_le,List.drop_eq_getElem_cons,List.pairwise_cons]
 grind
theorem K4(w:WfG g)(p:PgOk g m N)(hl:ids.length<=1000)(hd:ids.Nodup)(hm:∀x∈ids,x∈g.IDs):T (n8 g ids) λr=>r.Perm ids/\r.Pairwise λx y=>wc (fA g m N) x y<0:=by
 have nL:=w.nL;have nI:=w.nI;unfold n8;rw[Qs w p,aL];refine .bind (T.mono (Q:=λx:List Int=>EF g x/\(lM g x).Perm ids/\(lM g x).Pairwise λx y=>wc (fA g m N) x y<0) (T.forA ids.length (λk acc=>EF g acc/\(lM g acc).Perm (ids.take k)/\(lM g acc).Pairwise λx y=>wc (fA g m N) x y<0) aa ⟨.nil,by simp[lM],.nil⟩ (λk acc hk hj=>?_) λacc hj=>?_) λf h4=>?_)
 .obtain⟨y,hy,l⟩:=dk hk;obtain⟨b,u,o⟩:=hj;obtain⟨i,hi⟩:=List.getElem?_of_mem (hm y l);have hil:i<g.IDs.length:=(cr hi).1;have hpz:gO g y=(i:Int):=by unfold gO;rw[uD w hi]
  have hal:acc.length<=k:=by grind [List.Perm.length_eq,List.length_map,List.length_take]
  have hny:y∉lM g acc:=by grind [List.getElem?_of_mem,rj]
  unfold qU;simp only[eA hk,aN,au,hy,aL,qR,dC (show g.IDs.length<=1000000 by omega),hpz];rw[show decide ((i:Int)<0)=false from decide_eq_false aa,cG];refine .bind (T.mono (Q:=λn:Int=>∃j:Nat,n=(j:Int)/\j<=acc.length/\(∀q z,q<j->(lM g acc)[q]?=some z->wc (fA g m N) z y<0)/\∀z,(lM g acc)[j]?=some z->¬wc (fA g m N) z y<0) (T.forI acc.length (λj=>∀q z,q<j->(lM g acc)[q]?=some z->wc (fA g m N) z y<0) aa (λq z h=>aa) (λj hjl hq=>?_) λhq=>?_) λn hn=>?_)
  .obtain⟨z,hz,s⟩:=dk hjl;obtain⟨B,zn,rfl,t,a,hzz⟩:=uF w b hz;unfold qT;simp only[eA hjl,aN,au,hz,aL,Sa w p a hi];refine .dec (λhc=> .some ⟨aq aa,λq C v hz'=>?_⟩) λhc=> .some ⟨j,rfl,aa,hq,λC hz'=>?_⟩;all_goals grind
  .unfold qT;dsimp only;rw[eF,cG,aL,cG];refine .some ⟨acc.length,rfl,Nat.le_refl _,hq,λz hz=>?_⟩;grind
  .obtain⟨j,rfl,hjl,q1,A⟩:=hn;refine .bind (.pre aa aa (.bind (.app cq (.bind (.app cq (.bind (.suf aa aa (.bind (.app cq (.some ⟨aq aa,?_,?_⟩))))))))))
   .intro x hx;have:x∈acc++[(i:Int)]:=by grind
    exact b.snoc aa x this
   .have e:lM g ([]++acc.take (j:Int).toNat++[(i:Int)]++acc.drop (j:Int).toNat)=(lM g acc).take j++[y]++(lM g acc).drop j:=by grind [Int.toNat_natCast,List.map_take,List.map_drop]
    rw[e];refine⟨?_,ab9 (Ha _) o q1 A hny⟩;grind [Rb,Cy]
 .unfold qU;dsimp only;rw[eF,cG];rw[List.take_length] at hj;exact .some hj
 .obtain⟨h1,h2,h3⟩:=h4;refine .bind (T.mono (Q:=λr:List DIdent=>r=lM g f) (T.forA f.length (λk acc=>acc=(lM g f).take k) (by grind [List.Perm.length_eq,List.length_map]) aC (λk acc hk hj=>?_) λacc hj=>?_) (by grind [T.some]))
  .obtain⟨z,hz,s⟩:=dk hk;obtain⟨B,zn,rfl,t,a,hzz⟩:=uF w h1 hz;have hxl:f.length<=1000:=by grind [List.Perm.length_eq]
   have hal:acc.length<=k:=by rw[hj,List.length_take];omega
   unfold qS;simp only[eA hk,aN,au,hz,a,aL];refine .bind (.app cq (.some ⟨aq aa,?_⟩));rw[Rb hzz,hj]
  .unfold qS;dsimp only;rw[eF,cG];refine .some (show acc=_ from ?_);grind [List.length_map]
end
end
section
theorem X8{u:List Int}:1<=WE N u:=by
 have key:∀(l:List Int) (a:Int),1<=a->1<=l.foldl (λa j=>hE a (WA N j+1)) a:=by intro l;induction l<;>grind [hE]
 exact key u 1 (Int.le_refl _)
theorem Ll{a b:List DIdent}(h:a.Perm b)(f:DForkFork):uw a f=uw b f:=(h.filter _).length_eq
theorem S7{a b:List DIdent}(h:a.Perm b)(x:DIdent):JS a x=JS b x:=by grind [JS,Ll]
section
variable {g:D12G} {m:FM DIdent Int} {N:List DGraphNode} (P:Pg g m N)
include P
end
end
theorem O4{gg:DGraphGraph}{j:Nat}:∀(l:List DIdent) (s:A4W),gW (l.foldl (λs x=>match r5 gg x with|some y=>yv s y.past|none=>s) s) j=(gW s j||l.any λx=>match r5 gg x with|some y=>gW y.past j|none=>false)
 |[],s=>aC
 |x::l,s=>by rw[List.foldl_cons,O4 l,List.any_cons];grind [RP]
theorem X9{p:Nat->Bool}{N:List DGraphNode}:x∈G9 p N↔∃(k:Nat) (y:DGraphNode),N[k]?=some y/\p k=true/\y.id=x:=by unfold G9;simp only[List.mem_map,List.mem_filter,List.mem_zipIdx_iff_getElem?,Prod.exists];grind
theorem Ya{p:Nat->Bool}{N:List DGraphNode}:(G9 p N).Sublist (N.map (·.id)):=by
 have h:(N.zipIdx.map (·.1.id))=N.map (·.id):=by rw[show(λq:DGraphNode×Nat=>q.1.id)=(λy:DGraphNode=>y.id)∘Prod.fst from rfl,<-List.map_map,List.zipIdx_map_fst]
 rw[<-h];exact List.filter_sublist.map _
theorem O5{I:Gi}{x:DIdent}:∀{l p:List DIdent},x∈pf I p l↔x∈p\/x∈l/\0<I.lev x
 |[],p=>by simp[pf]
 |y::l,p=>by have a:pf I p (y::l)=pf I (bif decide (0<I.lev y) then bif p.any λz=>decide (y=z) then p else p++[y] else p) l:=rfl;rw[a,O5];grind
theorem S8{I:Gi}:∀{l p:List DIdent},p.Nodup->(pf I p l).Nodup
 |[],p,h=>h
 |y::l,p,h=>by have a:pf I p (y::l)=pf I (bif decide (0<I.lev y) then bif p.any λz=>decide (y=z) then p else p++[y] else p) l:=rfl;rw[a];refine S8 ?_;grind
section
variable {g:D12G} {m:FM DIdent Int} {N:List DGraphNode} (P:Pg g m N)
include P
theorem aca:N.map (·.id)=g.IDs:=by
 refine List.ext_getElem? λk=>?_;have pl:=P.p.len;have nI:=P.w.nI;rw[List.getElem?_map];cases hy:N[k]? with
 |none=>grind
 |some y=>rw[(P.p.nd k y hy).2.1];rfl
theorem O6(hj:j<256):gW (yS ⟨g.Cards,m,N⟩ l) j=true↔uX g l j:=by
 have z:gW z4 j=false:=by unfold gW z4;split<;>simp
 rw[show gW (yS ⟨g.Cards,m,N⟩ l) j=_ from O4 l z4,z,Bool.false_or,List.any_eq_true];unfold uX;refine⟨λ⟨x,hx,h⟩=>⟨x,hx,?_⟩,λ⟨x,hx,n,h1,h2⟩=>⟨x,hx,?_⟩⟩
 .rw[Bz P.w P.p] at h;cases hk:bu x g.IDs with
  |none=>rw[hk] at h;simp at h
  |some n=>
   rw[hk,aL] at h;cases hy:N[n]? with
   |none=>rw[hy] at h;simp at h
   |some y=>rw[hy] at h;exact⟨n,rfl,((P.p.nd n y hy).2.2.1 j hj).symm.trans h⟩
 .have hn:=(cr (gb h1).1).1;have pl:=P.p.len;have nI:=P.w.nI;obtain⟨y,hy⟩:∃y,N[n]?=some y:=⟨_,fy aa⟩;rw[Bz P.w P.p,h1,aL,hy];exact((P.p.nd n y hy).2.2.1 j hj).trans h2
theorem Yb:0<(fA g m N).lev x↔x∈g.IDs:=by
 have pl:=P.p.len;have nI:=P.w.nI;cases hk:bu x g.IDs with
 |none=>
  have:(fA g m N).lev x=0:=by show(match r5 ⟨g.Cards,m,N⟩ x with|some y=>y.level|none=>0)=_;rw[Bz P.w P.p,hk];rfl
  grind [jv]
 |some k=>have hid:=(gb hk).1;obtain⟨y,a,c,_⟩:=M5 P.w P.p hid;have hkl:=(cr hid).1;obtain⟨u,hu,_⟩:=dk (l:=g.Up) (k:=k) (by have:=P.w.nU;omega);have b:=P.p.lv k y u a hu;grind [X8]
theorem adX(c:g.L.length<=14)(hl:l.length<=1000):∃v p,tv g l=some v/\IdsOk g v/\v.Nodup/\wr jE (G9 (gW (yS ⟨g.Cards,m,N⟩ l)) N)=some p/\p.length=(G9 (gW (yS ⟨g.Cards,m,N⟩ l)) N).length/\p.length<=14/\(pf (fA g m N) p l).Perm v:=by
 have pl:=P.p.len;have nI:=P.w.nI;obtain⟨v,e,d,b,f,h⟩:=yf P.w (ids:=l) aa;have hs:=Ya (p:=gW (yS ⟨g.Cards,m,N⟩ l)) (N:=N);rw[aca P] at hs;have hle:=hs.length_le;obtain⟨p,e2,a,i⟩:=zF wy (P.w.nd.sublist hs) aa;have hpl:=a.length_eq;refine⟨v,p,e,d,b,e2,hpl,aa,(List.perm_ext_iff_of_nodup (S8 (a.nodup_iff.2 (P.w.nd.sublist hs))) b).2 λx=>?_⟩;rw[O5,f,a.mem_iff,X9,Yb P];refine or_congr_left ⟨λ⟨k,y,h1,h2,h3⟩=>?_,λ⟨k,h1,h2⟩=>?_⟩
 .have hk:=(cr h1).1;exact⟨k,h3▸(P.p.nd k y h1).2.1,(O6 P aa).1 h2⟩
 .have hk:=(cr h1).1;obtain⟨y,hy⟩:∃y,N[k]?=some y:=⟨_,fy aa⟩;have:=(P.p.nd k y hy).2.1;grind [O6]
end
theorem acb{gl:List (Nat×List G)}{gg:DGraphGraph}{o:DOp}{s v:List DIdent}(hn:s.length<=14)(hp:s.Perm v)(hs:∀x∈v,1<=x.Seq):∃fr k w,ba prog gl 24 [.ptr (av gg) 0,aE aj s] (aE da fr)/\Az fr (λf=>mw f o)=some k/\qN v o.By=some w/\k=(decide (0<w)&&decide (w<=o.Seq)):=by
 obtain⟨fs,hq,hi⟩:=abE hn;have hl:=JH (ids:=s) aa;have hI:=Wy s aa;have hfl:fs.length=(BB s).2.es.length:=by rw[hq.length_eq,List.length_map]
 have hF:=(LV (gl:=gl) (gg:=gg) (ids:=s) (r:=fs) (n:=fs.length) aa aa hfl.symm hi).fn bW.sz (bW.len _) (bW.imm _);obtain⟨w,e,hw⟩:=CB (ids:=v) (by have:=hp.length_eq;omega) hs o.By;refine⟨fs,_,w,hF,?_,e,rfl⟩;rw[show(λf=>mw f o)=λf=>some (decide (f.Device=o.By)&&decide (f.Seq<=o.Seq)) from funext λf=>by unfold mw;cases decide (f.Device=o.By)<;>rfl,Uw (p:=λf:DForkFork=>decide (f.Device=o.By)&&decide (f.Seq<=o.Seq)) aa λ_ _=>rfl];congr 1;rw[Bool.eq_iff_iff,List.any_eq_true];simp only[bA,decide_eq_true_eq];have hm:∀f:DForkFork,f∈fs↔(BB s).2.get f.Device=some f.Seq:=λf=>by rw[hq.mem_iff,Bo]
 have hc:∀f,uw v f=uw s f:=λf=>(Ll hp f).symm;have hex:∀{d q:Int},2<=uw s ⟨d,q⟩->∃y∈v,y.By=d/\y.Seq=q:=λ{d q} h=>by unfold uw at h;obtain⟨y,hy⟩:=List.exists_mem_of_length_pos (l:=s.filter λx=>decide (x.By=d)&&decide (x.Seq=q)) (Nat.lt_of_lt_of_le dL h);rw[List.mem_filter] at hy;have:=hy.2;simp only[bA,decide_eq_true_eq] at this;exact⟨y,hp.mem_iff.1 hy.1,this.1,this.2⟩
 unfold FsI at hw;simp only[hc] at hw;refine⟨λ⟨f,hf,h1,h2⟩=>?_,λ⟨h1,h2⟩=>?_⟩
 .rw[hm] at hf;have h3:=hI.a _ _ hf;obtain⟨y,g,c,i⟩:=hex h3;rw[h1] at h3 c;rcases hw with⟨_,h5⟩|⟨z,k1,k2,k3,j,k5⟩
  .exact absurd (i▸h3) (h5 y g c)
  .have a:=k5 y g c (i▸h3);have b:=hs z k1;omega
 .rcases hw with⟨h5,_⟩|⟨z,k1,k2,k3,j,k5⟩
  .omega
  .obtain⟨q,q1,m⟩:=hI.b _ _ j;exact⟨⟨o.By,q⟩,(hm _).2 q1,rfl,by show q<=o.Seq;omega⟩
end Go.Proofs.YtaiecngnppbhlaaGreatDoor
