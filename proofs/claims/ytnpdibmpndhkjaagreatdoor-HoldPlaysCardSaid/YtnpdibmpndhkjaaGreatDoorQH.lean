/- Texts. -/
import Derived.LaidHandle
import Derived.LaidMore
import Derived.OpenShut
import Derived.ProofKit
import Derived.Test.YtnpdibmpndhkjaaGreatDoorRows
import Derived.Test.YtnpdibmpndhkjaaGreatDoorVe
namespace Go.Proofs.YtnpdibmpndhkjaaGreatDoor
set_option linter.unusedSectionVars false
set_option linter.unusedVariables false
set_option linter.unusedSimpArgs false
open Go.RowKit Go.Proofs.Tryz Go.ChangeShapes Go.WideShapes Go.ChangeAt
attribute [local irreducible] Tr dz Gp
variable {α:Type}{o:DOp}{g:D12G}{x:DIdent}{ids:List DIdent}{a most n:Int}{m:FM DIdent Int}{al l:List Int}{base i k y:Nat}{N:List DGraphNode}{r:G}{P:Program}{W w:World}{t:TypeId}{v:Value}
structure IdsOk (g:D12G) (r:List DIdent):Prop where
 sub:∀x∈r,x∈g.IDs
 len:r.length<=1000
theorem ky(z:Int):c8 (wI z):=by unfold c8 wI;rw[IntKind.wrap_i64];omega
theorem nD(h:gU o=true):(1<=o.By/\o.By<=12)/\(1<=o.Seq/\o.Seq<=2147483647)/\0<=o.At/\o.At<=2147483647:=by
 have e:=jF o;rw[h] at e;unfold ed at e;simp only[gT,aL] at e;by_cases h1:1<=o.By/\o.By<=12
 .by_cases h2:1<=o.Seq/\o.Seq<=2147483647
  .by_cases h3:0<=o.At/\o.At<=2147483647
   .exact⟨h1,h2,h3⟩
   .rw[decide_eq_true h1,decide_eq_true h2,decide_eq_false h3] at e;simp at e
  .rw[decide_eq_true h1,decide_eq_false h2] at e;simp at e
 .rw[decide_eq_false h1] at e;simp at e
theorem l8(h:gU o=true)(hk:o.Kind=9):1<=o.Need/\o.Need<=(o.Guards.length:Int):=by
 obtain⟨h1,h2,h3⟩:=nD h;have e:=jF o;rw[h] at e;unfold ed at e;simp only[gT,aL,hk,decide_eq_true h1,decide_eq_true h2,decide_eq_true h3] at e;by_cases h4:1<=o.Need/\o.Need<=ah o.Guards
 .exact h4
 .rw[decide_eq_false h4] at e;simp at e
theorem WfG.name{g:D12G}(w:WfG g){x:DIdent}(h:x∈g.IDs):∃i o,g.IDs[i]?=some x/\g.L[i]?=some o/\bu x g.IDs=some i/\i<g.L.length/\SmId x/\x.By=o.By/\x.Seq=o.Seq/\SmOp o/\CheckOk o:=by have nI:=w.nI;obtain⟨i,hi⟩:=List.getElem?_of_mem h;have hlt:=(cr hi).1;obtain⟨o,ho,so,a⟩:=w.op (i:=i) aa;obtain⟨y,e,h1,h2,_,h4⟩:=wN so;have:=w.ids i o x ho hi;rw[this] at e;cases e;refine⟨i,o,hi,ho,y0 hi λj hj hx=>?_,aa,h4,h1,h2,so,a⟩;have:=(List.getElem?_inj (show j<g.IDs.length by omega) w.nd).1 (hx.trans hi.symm);omega
theorem WfG.place{g:D12G}(w:WfG g){x:DIdent}(h:0<=gO g x):∃i o,gO g x=(i:Nat)/\g.IDs[i]?=some x/\g.L[i]?=some o/\x∈g.IDs/\SmOp o/\CheckOk o:=by
 have nI:=w.nI;unfold gO at h⊢;cases hk:bu x g.IDs with
 |none=>rw[hk] at h;simp at h
 |some i=>have hi:=(gb hk).1;have hlt:=(cr hi).1;obtain⟨o,ho,so,a⟩:=w.op (i:=i) aa;exact⟨i,o,rfl,hi,ho,bO hi,so,a⟩
theorem lj:0<=gO g x↔x∈g.IDs:=by
 unfold gO;cases hk:bu x g.IDs with
 |none=>simp[jv.1 hk]
 |some i=>simp[bO (gb hk).1]
theorem EC{α:Type}[DecidableEq α]:∀{l m:List α},l.Nodup->(∀x∈l,x∈m)->l.length<=m.length
 |[],_,_,_=>aC
 |x::r,m,h,hs=>by have hx:=hs x aC;have h2:=List.nodup_cons.1 h;have:=EC (l:=r) (m:=m.erase x) h2.2 λy hy=>(List.mem_erase_of_ne (a:=y) (b:=x) λe=>h2.1 (by rw[<-e];exact hy)).2 (hs y (by simp[hy]));rw[List.length_erase_of_mem hx] at this;have hp:=List.length_pos_of_mem hx;simp;omega
theorem yf(w:WfG g)(hl:ids.length<=1000):T (o3 g ids) λr=>IdsOk g r/\r.Nodup/\(∀x,x∈r↔(∃k,g.IDs[k]?=some x/\uX g ids k)\/x∈ids/\x∈g.IDs)/\r.Pairwise rN:=by
 have nL:=w.nL;have nI:=w.nI;unfold o3;refine .bind ((EB w aa).mono λd h1=>?_);obtain⟨f,i,l,m⟩:=h1;refine .bind (T.forA ids.length (λk c=>c.length<=d.length+k/\c.Nodup/\∀x,x∈c↔x∈d\/∃j,j<k/\ids[j]?=some x/\x∈g.IDs) aa ⟨aa,f,λx=>aC⟩ (λk c hk hj=>?_) λc hj=>?_)
 .obtain⟨y,hy⟩:∃y,ids[k]?=some y:=⟨_,cv hk⟩;unfold t9;dsimp only;rw[eA hk,ax,au,hy];simp only[aL];rw[dC aa,aL,kf aa];simp only[aL];rw[cL,aL];refine .ite (λhb=>?_) λhb=> .some ⟨aq aa,by show c.length<=d.length+(k+1);omega,hj.2.1,λx=>?_⟩
  .by_cases hp:0<=gO g y
   .rw[decide_eq_true hp,ax] at hb;have hny:y∉c:=λhm=>by have:nA c y=true:=List.any_eq_true.2 ⟨y,hm,aC⟩;rw[this] at hb;cases hb
    refine .bind (.app cq (.some ⟨aq aa,by show(c++[y]).length<=_;simp;omega,?_,λx=>?_⟩))
    .show(c++[y]).Nodup;rw[List.nodup_append];exact⟨hj.2.1,aC,λa ha b hb' e=>by simp at hb';subst hb';subst e;exact hny ha⟩
    .show x∈c++[y]↔_;rw[List.mem_append,hj.2.2 x];constructor
     .rintro((h|⟨j,h1,h2⟩)|h)
      .exact .inl h
      .exact .inr ⟨j,aa,h2⟩
      .simp at h;subst h;exact .inr ⟨k,aa,hy,lj.1 hp⟩
     .rintro(h|⟨j,h1,h2,h3⟩)
      .exact .inl (.inl h)
      .rcases Nat.lt_or_ge j k with hlt|hge
       .exact .inl (.inr ⟨j,hlt,h2,h3⟩)
       .obtain rfl:j=k:=aa;rw[hy] at h2;cases h2;exact .inr aC
   .rw[decide_eq_false hp,aM] at hb;cases hb
  .show x∈c↔_;rw[hj.2.2 x];constructor
   .rintro(h|⟨j,h1,h2⟩)
    .exact .inl h
    .exact .inr ⟨j,aa,h2⟩
   .rintro(h|⟨j,h1,h2,h3⟩)
    .exact .inl h
    .rcases Nat.lt_or_ge j k with hlt|hge
     .exact .inr ⟨j,hlt,h2,h3⟩
     .obtain rfl:j=k:=aa;rw[hy] at h2;cases h2;rw[decide_eq_true (lj.2 h3),ax] at hb;have hm:nA c y=true:=by simpa using hb
      obtain⟨z,hz,e⟩:=List.any_eq_true.1 hm;rw[of_decide_eq_true e] at hz;exact(hj.2.2 y).1 hz
 .unfold t9;dsimp only;rw[eF,aM];refine .some (.bind ((kg aa).mono λr hr=>?_));have key:∀x,x∈r↔(∃k,g.IDs[k]?=some x/\uX g ids k)\/x∈ids/\x∈g.IDs:=λx=>by
   rw[hr.1.mem_iff,hj.2.2 x,i x];constructor
   .rintro(h|⟨j,_,h2,h3⟩)
    .exact .inl h
    .exact .inr ⟨bO h2,h3⟩
   .rintro(h|⟨h2,h3⟩)
    .exact .inl h
    .obtain⟨j,hj'⟩:=List.getElem?_of_mem h2;exact .inr ⟨j,(cr hj').1,hj',h3⟩
  have hsub:∀x∈r,x∈g.IDs:=λx hx=>by
   rcases(key x).1 hx with⟨k,h,_⟩|⟨_,h⟩
   .exact bO h
   .exact h
  have hnd:r.Nodup:=hr.1.nodup_iff.2 hj.2.1;exact .some ⟨⟨hsub,by have:=EC hnd hsub;omega⟩,hnd,key,hr.2⟩
theorem KH(w:WfG g)(hl:ids.length<=1000):T (qL g ids) λr=>IdsOk g r/\r.Nodup/\(∀x,x∈r↔x∈ids/\x∈g.IDs/\¬∃k,g.IDs[k]?=some x/\uX g ids k)/\r.Pairwise rN:=by
 have nL:=w.nL;have nI:=w.nI;unfold qL;refine .bind ((EB w aa).mono λd h1=>?_);obtain⟨m,f,n,o⟩:=h1;refine .bind (T.forA ids.length (λk c=>c.length<=k/\c.Nodup/\∀x,x∈c↔∃j,j<k/\ids[j]?=some x/\x∈g.IDs/\x∉d) aa ⟨aC,aC,λx=>aC⟩ (λk c hk hj=>?_) λc hj=>?_)
 .obtain⟨y,hy⟩:∃y,ids[k]?=some y:=⟨_,cv hk⟩;unfold qK;dsimp only;rw[eA hk,ax,au,hy];simp only[aL];rw[dC aa,aL,kf aa,kf aa];simp only[aL];rw[cL,cL,aL];have m1:nA d y=true↔y∈d:=by
   constructor
   .intro h;obtain⟨z,hz,e⟩:=List.any_eq_true.1 h;rw[of_decide_eq_true e] at hz;exact hz
   .intro h;exact List.any_eq_true.2 ⟨y,h,aC⟩
  have m2:nA c y=true↔y∈c:=by
   constructor
   .intro h;obtain⟨z,hz,e⟩:=List.any_eq_true.1 h;rw[of_decide_eq_true e] at hz;exact hz
   .intro h;exact List.any_eq_true.2 ⟨y,h,aC⟩
  have hc:∀b:Bool,(bif decide (0<=gO g y) then bif !nA d y then !nA c y else false else false)=b->(b=true↔y∈g.IDs/\y∉d/\y∉c):=λb hb=>by rw[<-hb,<-lj,<-m1,<-m2];by_cases q1:0<=gO g y<;>cases nA d y<;>cases nA c y<;>simp[q1]
  refine .ite (λhb=>?_) λhb=> .some ⟨aq aa,by show c.length<=k+1;omega,hj.2.1,λx=>?_⟩
  .obtain⟨q1,i,l⟩:=(hc true hb).1 rfl;refine .bind (.app cq (.some ⟨aq aa,by show(c++[y]).length<=_;simp;omega,?_,λx=>?_⟩))
   .show(c++[y]).Nodup;rw[List.nodup_append];exact⟨hj.2.1,aC,λa ha b hb' e=>by simp at hb';subst hb';subst e;exact l ha⟩
   .show x∈c++[y]↔_;rw[List.mem_append,hj.2.2 x];constructor
    .rintro(⟨j,h1,h2⟩|h)
     .exact⟨j,aa,h2⟩
     .simp at h;subst h;exact⟨k,aa,hy,q1,i⟩
    .rintro⟨j,h1,h2,h3⟩;rcases Nat.lt_or_ge j k with hlt|hge
     .exact .inl ⟨j,hlt,h2,h3⟩
     .obtain rfl:j=k:=aa;rw[hy] at h2;cases h2;exact .inr aC
  .have q:=hc false hb;show x∈c↔_;rw[hj.2.2 x];constructor
   .rintro⟨j,h1,h2⟩;exact⟨j,aa,h2⟩
   .rintro⟨j,h1,h2,h3,h4⟩;rcases Nat.lt_or_ge j k with hlt|hge
    .exact⟨j,hlt,h2,h3,h4⟩
    .obtain rfl:j=k:=aa;rw[hy] at h2;cases h2;by_cases hm:y∈c
     .exact(hj.2.2 y).1 hm
     .have:=q.2 ⟨h3,h4,hm⟩;cases this
 .unfold qK;dsimp only;rw[eF,aM];refine .some (.bind ((kg aa).mono λr hr=>?_));have key:∀x,x∈r↔x∈ids/\x∈g.IDs/\¬∃k,g.IDs[k]?=some x/\uX g ids k:=λx=>by
   rw[hr.1.mem_iff,hj.2.2 x,<-f x];constructor
   .rintro⟨j,_,h2,h3⟩;exact⟨bO h2,h3⟩
   .rintro⟨h2,h3⟩;obtain⟨j,hj'⟩:=List.getElem?_of_mem h2;exact⟨j,(cr hj').1,hj',h3⟩
  exact .some ⟨⟨λx hx=>((key x).1 hx).2.1,by rw[hr.1.length_eq];omega⟩,hr.1.nodup_iff.2 hj.2.1,key,hr.2⟩
theorem QH(w:WfG g)(h:IdsOk g ids)(d:Int):T (Fc g ids d) λn=>1<=n/\n<=2147483648:=by
 have hl:=h.len;unfold Fc;refine .bind (T.forA ids.length (λ_ n=>0<=n/\n<=2147483647) aa ⟨a9,a9⟩ (λk n hk hj=>?_) λn hj=>?_)
 .obtain⟨y,hy⟩:∃y,ids[k]?=some y:=⟨_,cv hk⟩;obtain⟨i,o,_,_,_,_,_,_,e,_,a⟩:=w.name (h.sub y (bO hy));have:=(nD a.numbers).2.1;unfold xu;dsimp only;rw[eA hk,ax,au,hy];simp only[aL];refine .dec (λ_=> .some ⟨aq aa,?_⟩) λ_=> .some ⟨aq aa,hj⟩;show 0<=gB n y.Seq/\gB n y.Seq<=_;unfold gB;split<;>omega
 .unfold xu;dsimp only;rw[eF,aM];refine .some (.some ?_);rw[bM aa aa];omega
theorem N0(w:WfG g)(hl:ids.length<=1000):T (z8 g ids) λn=>0<=n/\n<=2147483647:=by
 have nL:=w.nL;have nI:=w.nI;unfold z8;refine .bind (T.forA ids.length (λ_ n=>0<=n/\n<=2147483647) aa ⟨a9,a9⟩ (λk n hk hj=>?_) λn hj=>?_)
 .obtain⟨y,hy⟩:∃y,ids[k]?=some y:=⟨_,cv hk⟩;unfold ue;dsimp only;rw[eA hk,ax,au,hy,aL,dC aa,aL];refine .dec (λhp=>?_) λ_=> .some ⟨aq aa,hj⟩;obtain⟨i,o,e,_,ho,_,_,a⟩:=w.place hp;have:=(nD a.numbers).2.2;rw[e,au,ho,aL];refine .some ⟨aq aa,?_⟩;show 0<=gB n o.At/\gB n o.At<=_;unfold gB;split<;>omega
 .unfold ue;dsimp only;rw[eF,aM];exact .some (.some hj)
theorem eX{n m:Int}(h:c8 n)(hm:0<m):T (iq n m) λv=>0<=v/\v<m:=by
 obtain⟨h1,h2⟩:=h;unfold iq;refine .dec (λhn=> .bind (.rem aa (.some ?_))) λhn=> .bind (.rem aa (.some ?_))
 .have e1:wI (n+1)=n+1:=bM aa aa;have e2:wI (0-(n+1))= -(n+1):=by rw[bM aa aa];omega
  rw[e1,e2];exact⟨Int.tmod_nonneg _ aa,Int.tmod_lt_of_pos _ hm⟩
 .exact⟨Int.tmod_nonneg _ aa,Int.tmod_lt_of_pos _ hm⟩
def zId:DIdent:=⟨0,0,0⟩
def Ys:DOp:=⟨0,0,0,0,[],0,0,0,0,[],⟨0,0,0⟩,0,[],[],⟨0,0,0⟩,[],0,0,[],0,[],⟨0,0⟩⟩
theorem dP:c8 0:=by unfold c8;omega
theorem pM:SmId ⟨0,0,0⟩:=⟨dP,dP,by show(0:Nat)<_;omega⟩
theorem Wd:SmOp Ys:=by constructor<;>first|exact pM|(unfold Ys;simp;done)|(intro z hz;simp[Ys] at hz;subst hz;exact dP)|(show fS 0;unfold fS;omega)
theorem zb(w:WfG g)(h:IdsOk g ids)(kd:Int):T (nS g ids kd) λr=>(r.1=zId/\r.2=Ys)\/(r.1∈ids/\SmOp r.2/\CheckOk r.2/\r.2.Kind=kd):=by
 have nL:=w.nL;have nI:=w.nI;have hl:=h.len;have e0:wI (ah g.L-1)=(g.L.length:Int)-1:=bM (by unfold ah;omega) (by unfold ah;omega);unfold nS;rw[e0];refine .bind (T.loop (λs=>s.1=zId/\s.2.1=Ys∧-1<=s.2.2/\s.2.2<g.L.length) (λs=>(s.2.2+1).toNat) ⟨rfl,rfl,by simp only;omega,by simp only;omega⟩ (by simp only;omega) ?_);rintro⟨a,b,i⟩ ⟨rfl,rfl,c,i1⟩;simp only at c i1;unfold vC;dsimp only;refine .dec (λhi=>?_) λhi=> .some (.some (.inl ⟨rfl,rfl⟩));obtain⟨n,rfl⟩:∃n:Nat,i=(n:Int):=⟨i.toNat,aa⟩;obtain⟨o,ho,so,d⟩:=w.op (i:=n) aa;obtain⟨x,hx⟩:∃x,g.IDs[n]?=some x:=⟨_,cv aa⟩;have ew:wI ((n:Int)-1)=(n:Int)-1:=bM aa aa;rw[au,ho,aL,au,hx];simp only[aL];rw[kf aa];simp only[aL];rw[cL,aL];refine .ite (λhb=> .some (.some (.inr ?_))) λhb=> .some ⟨⟨rfl,rfl,?_,?_⟩,?_⟩
 .by_cases hk:o.Kind=kd
  .rw[decide_eq_true hk,ax] at hb;obtain⟨z,hz,e⟩:=List.any_eq_true.1 hb;rw[of_decide_eq_true e] at hz;exact⟨hz,so,d,hk⟩
  .rw[decide_eq_false hk,aM] at hb;cases hb
 .show-1<=wI ((n:Int)-1);rw[ew];omega
 .show wI ((n:Int)-1)<_;rw[ew];omega
 .show(wI ((n:Int)-1)+1).toNat<_;rw[ew];omega
theorem yg{n:Int}(h1:n<=1000):T (o4 n) λr=>r.length<=1000/\(r.length:Int)=(if n<0 then 0 else n)/\∀x∈r,SmBox x:=by
 unfold o4;refine .bind (T.forA n.toNat (λk a=>a.length=k/\∀x∈a,SmBox x) aa ⟨rfl,aC⟩ (λk a hk hj=>?_) λa hj=>?_)
 .unfold uc;dsimp only;rw[decide_eq_true (show(k:Int)<n by omega),ax];refine .bind (.app cq (.some ⟨aq aa,by simp;exact hj.1,λx hx=>?_⟩));rcases List.mem_append.1 hx with hx|hx
  .exact hj.2 x hx
  .simp at hx;subst hx;exact⟨by show fS 1;unfold fS;omega,by show fS 1;unfold fS;omega,by have:=Mp (k:Int);exact this,by show fS 1;unfold fS;omega⟩
 .unfold uc;dsimp only;rw[decide_eq_false (show¬(n.toNat:Int)<n by omega),aM];refine .some (.some ⟨aa,?_,hj.2⟩);split<;>omega
theorem zc(w:WfG g)(d:Int):T (nT g d) λm=>c8 m:=by
 have nC:=w.nC;unfold nT;rw[Cw aa,aL];refine .ite (λ_=> .some dP) λhb=> .some ?_;have:mZ g d=((mZ g d).1,true):=by
  have h2:(mZ g d).2=true:=by simpa using hb
  rw[<-h2]
 exact(w.cards _ (yd this).1).2.1
theorem ED(w:WfG g)(d:Int)(h:0<=n/\n<=1000000):T (sa g d n) λr=>IdsOk g r:=by
 have nL:=w.nL;have nI:=w.nI;unfold sa;refine .bind ((Cz w).mono λc b=>?_);have i1:IdsOk g c:=⟨λx hx=>b.1.mem_iff.1 hx,by rw[b.1.length_eq];omega⟩;refine .bind (T.mono (Q:=λx:Int=> -1<=x/\x<g.L.length) (T.forA g.L.length (λ_ x=> -1<=x/\x<g.L.length) aa ⟨a9,aa⟩ (λk x hk hj=>?_) λx hj=>?_) λa h4=>?_)
 .obtain⟨o,ho,_⟩:=w.op hk;unfold ub;dsimp only;rw[eA hk,ax,au,ho,aL];exact .dec (λ_=> .some ⟨aq aa,by show-1<=(k:Int)/\(k:Int)<_;omega⟩) λ_=> .some ⟨aq aa,hj⟩
 .unfold ub;dsimp only;rw[eF,aM];exact .some hj
 .rw[cL,aL];refine .ite (λhb=>?_) λhb=>?_
  .have hx:0<a:=by
    by_cases h37:Int.tmod n 37=7
    .rw[decide_eq_true h37,ax] at hb;exact of_decide_eq_true hb
    .rw[decide_eq_false h37,aM] at hb;cases hb
   obtain⟨k,rfl⟩:∃k:Nat,a=(k:Int):=⟨a.toNat,aa⟩;obtain⟨o,ho,so,e⟩:=w.op (i:=k) aa;rw[au,ho,aL];exact .bind ((yf w (by have:=pK e.long;omega)).mono λr hr=> .some hr.1)
  .rw[cL,aL];refine .ite (λ_=> .some i1) λhb2=>?_;have hx:0<=a:=by
    by_cases h3:0<Int.tmod n 3
    .rw[decide_eq_true h3,ax] at hb2;cases hb2
    .rw[decide_eq_false h3,aM] at hb2;have:=of_decide_eq_false hb2;omega
   obtain⟨k,rfl⟩:∃k:Nat,a=(k:Int):=⟨a.toNat,aa⟩;obtain⟨y,hy⟩:∃y,g.IDs[k]?=some y:=⟨_,cv aa⟩;rw[au,hy,aL];have e3:wI (n.tdiv 3)=n.tdiv 3:=bM (by have:=Int.tdiv_nonneg h.1 (by decide:(0:Int)<=3);omega) (by have:=Int.tdiv_le_self 3 h.1;omega);rw[e3];refine .bind (.rem (by unfold ah;omega) ?_);have q0:0<=(n.tdiv 3).tmod (ah g.IDs):=Int.tmod_nonneg _ (Int.tdiv_nonneg h.1 a9);have q1:(n.tdiv 3).tmod (ah g.IDs)<ah g.IDs:=Int.tmod_lt_of_pos _ (by unfold ah;omega);refine .bind (.ixl q0 (by unfold ah at q1;exact q1) λz _ _=>?_);exact .bind ((yf w aC).mono λr hr=> .some hr.1)
theorem QI{m:Int}(h:c8 n)(hm:0<m)(h2:m<=1000000):c8 (n.tmod m):=by have h3:=Int.tmod_lt_of_pos n hm;have h4: -m<n.tmod m:=Int.lt_tmod_of_pos n hm;unfold c8;omega
def il{α:Type}(p:α->Prop)(l:List α):Prop:=l.length<=1000/\∀x∈l,p x
theorem ay{p:α->Prop}:il p []:=⟨aC,aC⟩
theorem eG(h1:c8 o.By)(h2:c8 o.Seq)(h3:c8 o.Kind)(h4:c8 o.At)(h5:il SmId o.Past)(h6:c8 o.Device)(h7:c8 o.Old)(h8:c8 o.Member)(h9:c8 o.Role)(h10:il SmNode o.Path)(h11:SmId o.Epoch)(h12:c8 o.N)(h13:o.Body.length<=1000)(a:il fS o.Refs)(e:SmId o.Of)(b:il c8 o.Guards)(g:c8 o.Need)(h:c8 o.Wait)(c:il SmBox o.Boxes)(f:fS o.Pub)(d:il SmSealed o.Hist):SmOp o:=by refine⟨λz hz=>?_,h5.1,h5.2,h10.1,h10.2,h11,h13,a.1,a.2,e,b.1,b.2,c.1,c.2,f,d.1,d.2⟩;simp only[List.mem_cons,List.not_mem_nil,or_false] at hz;rcases hz with rfl|rfl|rfl|rfl|rfl|rfl|rfl|rfl|rfl|rfl|rfl<;>assumption
theorem SmOp.iBy{o:DOp}(h:SmOp o):c8 o.By:=h.ints _ aC
theorem SmOp.iSeq{o:DOp}(h:SmOp o):c8 o.Seq:=h.ints _ aC
theorem SmOp.iKind{o:DOp}(h:SmOp o):c8 o.Kind:=h.ints _ aC
theorem SmOp.iAt{o:DOp}(h:SmOp o):c8 o.At:=h.ints _ aC
theorem SmOp.iDevice{o:DOp}(h:SmOp o):c8 o.Device:=h.ints _ aC
theorem SmOp.iOld{o:DOp}(h:SmOp o):c8 o.Old:=h.ints _ aC
theorem SmOp.iMember{o:DOp}(h:SmOp o):c8 o.Member:=h.ints _ aC
theorem SmOp.iRole{o:DOp}(h:SmOp o):c8 o.Role:=h.ints _ aC
theorem SmOp.iN{o:DOp}(h:SmOp o):c8 o.N:=h.ints _ aC
theorem SmOp.iNeed{o:DOp}(h:SmOp o):c8 o.Need:=h.ints _ aC
theorem SmOp.iWait{o:DOp}(h:SmOp o):c8 o.Wait:=h.ints _ aC
theorem SmOp.sPast{o:DOp}(h:SmOp o):il SmId o.Past:=⟨h.nPast,h.past⟩
theorem SmOp.sRefs{o:DOp}(h:SmOp o):il fS o.Refs:=⟨h.nRefs,h.refs⟩
theorem SmOp.sGuards{o:DOp}(h:SmOp o):il c8 o.Guards:=⟨h.nGuards,h.guards⟩
theorem SmOp.sBoxes{o:DOp}(h:SmOp o):il SmBox o.Boxes:=⟨h.nBoxes,h.boxes⟩
theorem SmOp.sHist{o:DOp}(h:SmOp o):il SmSealed o.Hist:=⟨h.nHist,h.hist⟩
theorem SmOp.nopath{o:DOp}(h:SmOp o):SmOp {o with Path:=[]}:=eG h.iBy h.iSeq h.iKind h.iAt h.sPast h.iDevice h.iOld h.iMember h.iRole ay h.epoch h.iN h.nBody h.sRefs h.of_ h.sGuards h.iNeed h.iWait h.sBoxes h.pub h.sHist
theorem m7(h: -1000000<=n/\n<=1000000):c8 n:=by unfold c8;omega
theorem IdsOk.smid{g:D12G}(w:WfG g){ids:List DIdent}(h:IdsOk g ids){x:DIdent}(hx:x∈ids):SmId x:=by obtain⟨_,_,_,_,_,_,s,_⟩:=w.name (h.sub x hx);exact s
theorem Ir(w:WfG g)(h:IdsOk g ids)(so:SmOp o)(hn:0<=n/\n<=1000000):T (sc g ids o n) λr=>SmOp r:=by
 unfold sc;refine .bind ((zb w h 9).mono λc hv=>?_);have s1:SmId c.1:=by
  rcases hv with⟨e,_⟩|⟨e,_⟩
  .rw[e];exact pM
  .exact h.smid w e
 have s2:SmOp c.2:=by
  rcases hv with⟨_,e⟩|⟨_,e,_⟩
  .rw[e];exact Wd
  .exact e
 rw[cL,aL,cL,aL];have e16:wI (n.tdiv 16)=n.tdiv 16:=bM (by have:=Int.tdiv_nonneg hn.1 (by decide:(0:Int)<=16);omega) (by have:=Int.tdiv_le_self 16 hn.1;omega);have e32:wI (n.tdiv 32)=n.tdiv 32:=bM (by have:=Int.tdiv_nonneg hn.1 (by decide:(0:Int)<=32);omega) (by have:=Int.tdiv_le_self 32 hn.1;omega);refine .dec (λh9=>?_) λh9=>?_
 ·
  refine .bind (T.mono (Q:=λx:List Int=>x.length<=4/\∀z∈x,c8 z) (T.loop (λs=>1<=s.2/\s.2<=5/\(s.1.length:Int)<=s.2-1/\∀z∈s.1,c8 z) (λs=>(5-s.2).toNat) ⟨a9,a9,a9,aC⟩ a9 ?_) λt hx=>?_)
  .rintro⟨q,i⟩ ⟨i1,A,B,i4⟩
   simp only at i1 A B i4
   have ei:wI (i+1)=i+1:=bM aa aa
   unfold vF
   dsimp only
   refine .dec (λh4=>?_) λh4=> .some ⟨aa,i4⟩
   refine .bind (.quo aa (.dec (λ_=>?_) λ_=> .some ⟨⟨?_,?_,?_,i4⟩,?_⟩))
   .refine .bind (.app cq (.some ⟨⟨?_,?_,?_,λz hz=>?_⟩,?_⟩))
    .show 1<=wI (i+1);omega
    .show wI (i+1)<=5;omega
    .show((q++[i]).length:Int)<=wI (i+1)-1;rw[ei];simp;omega
    .rcases List.mem_append.1 hz with hz|hz
     .exact i4 z hz
     .simp at hz;subst hz;exact m7 aa
    .show(5-wI (i+1)).toNat<(5-i).toNat;omega
   .show 1<=wI (i+1);omega
   .show wI (i+1)<=5;omega
   .show(q.length:Int)<=wI (i+1)-1;omega
   .show(5-wI (i+1)).toNat<(5-i).toNat;omega
  .rw[cL,aL]
   have hj:∃j:List Int,(bif decide (ah t=0) then([1,2]:List Int) else t)=j/\1<=j.length/\j.length<=4/\∀z∈j,c8 z:=by
    by_cases h0:ah t=0
    .rw[decide_eq_true h0];exact⟨_,rfl,aC,aC,λz hz=>by simp at hz;rcases hz with rfl|rfl<;>exact m7 aa⟩
    .rw[decide_eq_false h0];exact⟨_,rfl,by unfold ah at h0;show 1<=t.length;omega,hx.1,hx.2⟩
   obtain⟨j,ej,I,J,C⟩:=hj
   rw[ej,e16]
   have hm:0<iI 2 (ah j)/\iI 2 (ah j)<=2:=by unfold iI ah;split<;>omega
   refine .bind (.rem aa (.bind ((yg (n:=ah j) (by unfold ah;omega)).mono λbx f=> .some ?_)))
   exact eG so.iBy so.iSeq (by rw[h9];exact(m7 aa:c8 9)) so.iAt so.sPast so.iDevice so.iOld so.iMember so.iRole ay so.epoch so.iN so.nBody so.sRefs so.of_ ⟨by show j.length<=1000;omega,C⟩ (ky _) (QI (by rw[e32];have:=Int.tdiv_nonneg hn.1 (by decide:(0:Int)<=32);have:=Int.tdiv_le_self 32 hn.1;unfold c8;omega) a9 a9) ⟨f.1,f.2.2⟩ (by show(5:Nat)<_;omega) so.sHist
 ·
  generalize hj5:(bif bif decide (o.Kind≠9) then decide (c.1=(⟨0,0,0⟩:DIdent)) else false then(9:Int) else o.Kind)=D at h9⊢
  have hk5:D=o.Kind/\c.1≠⟨0,0,0⟩:=by
   by_cases k9:o.Kind=9
   .rw[decide_eq_false (show¬o.Kind≠9 by simp[k9]),aM,aM] at hj5;exact absurd (hj5.symm.trans k9) h9
   .rw[decide_eq_true k9,ax] at hj5;by_cases kz:c.1=⟨0,0,0⟩
    .rw[decide_eq_true kz,ax] at hj5;exact absurd hj5.symm h9
    .rw[decide_eq_false kz,aM] at hj5;exact⟨hj5.symm,kz⟩
  obtain⟨rfl,u⟩:=hk5
  have hv2:CheckOk c.2/\c.2.Kind=9:=by
   rcases hv with⟨e,_⟩|⟨_,_,e,e'⟩
   .exact absurd e u
   .exact⟨e,e'⟩
  have hg:=l8 hv2.1.numbers hv2.2
  have hgl:0<ah c.2.Guards/\ah c.2.Guards<=1000:=by have:=s2.nGuards;unfold ah;omega
  refine .bind ((zc w _).mono λv l=>?_)
  refine .bind (T.mono (Q:=λx:Int×List DBox=>c8 x.1/\il SmBox x.2) (.ite (λ_=> .bind ((yg hgl.2).mono λb hb=> .some ⟨s1.a,hb.1,hb.2.2⟩)) λ_=> .some ⟨so.iBy,so.sBoxes⟩) λE m=>?_)
  rw[cL,aL]
  refine .bind (T.mono (Q:=λx:Int×Int=>c8 x.1/\c8 x.2) (.ite (λ_=> .bind (.rem aa (.bind (.ixl (Int.tmod_nonneg _ hn.1) (Int.tmod_lt_of_pos _ hgl.1) λy _ hy=> .some ⟨s2.guards y hy,ky _⟩)))) λ_=> .some ⟨m.1,so.iDevice⟩) λF d=>?_)
  refine .bind (T.mono (Q:=λx:List DBox=>il SmBox x) (.ite (λ_=> .bind ((yg a9).mono λb hb=> .some ⟨hb.1,hb.2.2⟩)) λ_=> .some m.2) λH p=>?_)
  rw[cL,aL]
  have h40:c8 (bif decide (o.Kind=13) then v else o.Old):=by
   by_cases k:o.Kind=13
   .rw[decide_eq_true k];exact l
   .rw[decide_eq_false k];exact so.iOld
  refine .ite (λ_=> .some ?_) λ_=> .some ?_
  .exact eG l so.iSeq so.iKind so.iAt so.sPast d.2 h40 so.iMember so.iRole ay so.epoch so.iN so.nBody so.sRefs s1 ay so.iNeed so.iWait p so.pub so.sHist
  .exact eG d.1 so.iSeq so.iKind so.iAt so.sPast d.2 h40 so.iMember so.iRole ay so.epoch so.iN so.nBody so.sRefs s1 ay so.iNeed so.iWait p so.pub so.sHist
theorem EE(h:0<=n):T (z7 n) λk=>c8 k:=by unfold z7;refine .bind (.ixl (Int.tmod_nonneg _ h) (by have:=Int.tmod_lt_of_pos n (show(0:Int)<20 by decide);simp;omega) λx _ hx=> .some ?_);have:x∈([6,4,3,2,5,7,8,3,6,9,11,11,13,12,10,4,3,2,6,13]:List Int):=hx;have key:∀y∈([6,4,3,2,5,7,8,3,6,9,11,11,13,12,10,4,3,2,6,13]:List Int),-1000000<=y/\y<=1000000:=a9;exact m7 (key x this)
theorem Mt:c8 1:=m7 aa
theorem Yt:c8 2:=m7 aa
theorem QJ:fS 0:=by unfold fS;omega
def Nx(g:D12G)(x:DOp×List DIdent):Prop:=SmOp x.1/\IdsOk g x.2
theorem Nx.np{g:D12G}{x:DOp×List DIdent}(h:Nx g x):Nx g ({x.1 with Path:=[]},x.2):=⟨h.1.nopath,h.2⟩
theorem N2(w:WfG g){m:Int}(hn:c8 n)(hm:c8 m):T (sd g n m) λr=>SmOp r:=by
 have nL:=w.nL;have nI:=w.nI;unfold sd;refine .bind ((eX hn a9).mono λf h1=> .bind ((eX hm a9).mono λi h3=> .bind ((EE h3.1).mono λI h5=>?_)));have hq:∀q:Int,0<q->wI (f.tdiv q)=f.tdiv q/\0<=f.tdiv q/\f.tdiv q<=1000000:=λq hq=>by have a:=Int.tdiv_nonneg h1.1 (show(0:Int)<=q by omega);have b:=Int.tdiv_le_self q h1.1;exact⟨bM aa aa,a,aa⟩
 have hk:wI (i.tdiv 20)=i.tdiv 20/\0<=i.tdiv 20/\i.tdiv 20<=1000000:=by have a:=Int.tdiv_nonneg h3.1 (show(0:Int)<=20 by decide);have b:=Int.tdiv_le_self 20 h3.1;exact⟨bM aa aa,a,aa⟩
 rw[hk.1];generalize hkk:i.tdiv 20=k at hk⊢;obtain⟨_,H,k1⟩:=hk;have tm:∀(z q:Int),0<q->q<=1000000→-1000000<=z.tmod q/\z.tmod q<=1000000:=λz q h h'=>by have h3:=Int.tmod_lt_of_pos z h;have h4: -q<z.tmod q:=Int.lt_tmod_of_pos z h;omega
 refine .dec (λh0=> .some ?_) λh0=>?_
 .exact eG Mt Mt Mt dP ay dP dP dP dP ay pM dP aC ay pM ay (m7 (tm _ 4 a9 a9)) dP ay QJ ay
 have hL:0<g.L.length:=by unfold ah at h0;omega
 rw[cL,aL];generalize hj8:(bif decide (ah g.L<4) then(⟨1,0,2,0,[],wI ((ah g.L)+1),0,0,wI (3-(wI (Int.tdiv (Int.tmod f 5) 4))),[],⟨0,0,0⟩,0,[],[],⟨0,0,0⟩,[],0,0,[],0,[],⟨0,0⟩⟩:DOp) else⟨wI (1+(Int.tmod f 5)),0,I,0,[],0,0,0,0,[],⟨0,0,0⟩,0,[],[],⟨0,0,0⟩,[],0,0,[],0,[],⟨0,0⟩⟩)=A;have s8:SmOp A:=by
  rw[<-hj8];by_cases h4:ah g.L<4
  .rw[decide_eq_true h4,ax];exact eG Mt dP Yt dP ay (ky _) dP dP (ky _) ay pM dP aC ay pM ay dP dP ay QJ ay
  .rw[decide_eq_false h4,aM];exact eG (ky _) dP h5 dP ay dP dP dP dP ay pM dP aC ay pM ay dP dP ay QJ ay
 clear hj8;obtain⟨J,j,l⟩:=hq 5 a9;rw[J];refine .bind ((ED w A.By ⟨j,l⟩).mono λK h10=>?_);refine .bind (T.mono (Q:=λx=>IdsOk g x) (.ite (λ_=> .bind ((Cz w).mono λv hv=> .some ⟨λx hx=>hv.1.mem_iff.1 hx,by rw[hv.1.length_eq];omega⟩)) λ_=> .some h10) λM h12=>?_);refine .bind ((zb w h12 6).mono λB C=>?_);have s14:SmId B.1:=by
  rcases C with⟨e,_⟩|⟨e,_⟩
  .rw[e];exact pM
  .exact h12.smid w e
 refine .bind (T.mono (Q:=λx:Int×Int×Nat=>SmId ⟨x.1,x.2.1,x.2.2⟩) (.ite (λ_=> .bind (.ixl a9 (by rw[nI];omega) λy _ hy=> .some ?_)) λ_=> .some s14) λN o=>?_)
 .obtain⟨_,_,_,_,_,_,s,_⟩:=w.name hy;exact s
 refine .bind (T.mono (Q:=λx:DOp×List DIdent=>Nx g x) ?_ λO D=>?_)
 .refine .ite (λ_=>?_) λ_=>?_
  .refine .bind (T.mono (Q:=λx:Int×Int=>c8 x.1/\c8 x.2) (.ite (λ_=> .some ⟨ky _,ky _⟩) λ_=> .some ⟨s8.iDevice,s8.iRole⟩) λx hx=> .some ⟨?_,h12⟩);exact eG s8.iBy s8.iSeq s8.iKind s8.iAt ay hx.1 s8.iOld s8.iMember hx.2 ay s8.epoch s8.iN aC ay s8.of_ ay s8.iNeed s8.iWait ay s8.pub ay
  refine .bind (T.mono (Q:=λx:DOp×List DIdent=>Nx g x) ?_ λx hx=> .some hx.np);refine .ite (λ_=>?_) λ_=>?_
  .refine .bind (T.mono (Q:=λx:Int×Int=>c8 x.1/\c8 x.2) (.ite (λ_=> .some ⟨dP,ky _⟩) λ_=> .some ⟨ky _,s8.iMember⟩) λx hx=> .some ⟨?_,h12⟩);exact eG s8.iBy s8.iSeq s8.iKind s8.iAt ay hx.1 s8.iOld hx.2 s8.iRole ay s8.epoch s8.iN aC ay s8.of_ ay s8.iNeed s8.iWait ay s8.pub ay
  refine .bind (T.mono (Q:=λx:DOp×List DIdent=>Nx g x) ?_ λx hx=> .some hx.np);refine .ite (λ_=> .some ⟨?_,h12⟩) λ_=>?_
  .exact eG s8.iBy s8.iSeq s8.iKind s8.iAt ay s8.iDevice s8.iOld (ky _) (ky _) ay s8.epoch s8.iN aC ay s8.of_ ay s8.iNeed s8.iWait ay s8.pub ay
  refine .bind (T.mono (Q:=λx:DOp×List DIdent=>Nx g x) ?_ λx hx=> .some hx.np);refine .ite (λ_=>?_) λ_=>?_
  .have hm4:0<iI (ah g.IDs) 4/\iI (ah g.IDs) 4<=ah g.IDs:=by unfold iI ah;split<;>omega
   refine .bind (.rem aa (.bind (.ixl (Int.tmod_nonneg _ H) (by have:=Int.tmod_lt_of_pos k hm4.1;have h':iI (ah g.IDs) 4<=(g.IDs.length:Int):=hm4.2;omega) λy _ hy=>?_)));obtain⟨_,_,_,_,_,_,sy,_⟩:=w.name hy;refine .bind (T.mono (Q:=λx:List Nat=>il fS x) (.ite (λ_=> .some ⟨aC,λz hz=>by simp at hz;rcases hz with rfl|rfl<;>exact Mp _⟩) λ_=> .some ay) λx hx=> .some ⟨?_,h12⟩);exact eG s8.iBy s8.iSeq s8.iKind s8.iAt ay s8.iDevice s8.iOld s8.iMember s8.iRole ay sy (m7 (tm _ 2 a9 a9)) aC hx s8.of_ ay s8.iNeed s8.iWait ay s8.pub ay
  refine .bind (T.mono (Q:=λx:DOp×List DIdent=>Nx g x) ?_ λx hx=> .some hx.np);refine .ite (λ_=> .some ⟨?_,h12⟩) λ_=>?_
  .exact eG s8.iBy s8.iSeq s8.iKind s8.iAt ay s8.iDevice s8.iOld s8.iMember s8.iRole ay s8.epoch s8.iN aC ay o ay s8.iNeed s8.iWait ay s8.pub ay
  refine .bind (T.mono (Q:=λx:DOp×List DIdent=>Nx g x) ?_ λx hx=> .some hx.np);refine .ite (λ_=> .some ⟨?_,h12⟩) λ_=>?_
  .exact eG s8.iBy s8.iSeq s8.iKind s8.iAt ay s8.iDevice s8.iOld s8.iMember s8.iRole ay s8.epoch s8.iN aC ay o ay s8.iNeed s8.iWait ay s8.pub ay
  have s8':SmOp {A with Past:=[],Path:=[],Body:=[],Refs:=[],Guards:=[],Boxes:=[],Hist:=[]}:=eG s8.iBy s8.iSeq s8.iKind s8.iAt ay s8.iDevice s8.iOld s8.iMember s8.iRole ay s8.epoch s8.iN aC ay s8.of_ ay s8.iNeed s8.iWait ay s8.pub ay;refine .bindc ?_ λb _=>?_
  .repeat'(first|exact T.some trivial|(refine T.bindc ?_ λv _=>?_)|(refine T.ite (λ_=>?_) λ_=>?_))
  refine .bind (T.mono (Q:=λx:DOp×List DIdent=>Nx g x) (.ite (λ_=>?_) λ_=> .some ⟨s8',h12⟩) λx hx=> .some hx.np);refine .bind ((Ir w h12 s8' ⟨H,k1⟩).mono λP E=>?_);refine .bind (T.mono (Q:=λx=>IdsOk g x) (.ite (λ_=> .bind ((ED w _ ⟨j,l⟩).mono λv hv=> .some hv)) λ_=> .some h12) λx hx=> .some ⟨E.nopath,hx⟩)
 .obtain⟨c,p⟩:=D;have R:=p.len;refine .bindc ?_ λb _=>?_
  .refine .ite (λ_=>?_) λ_=> .some trivial;rw[kf aa,aL];exact .some trivial
  refine .bind (T.mono (Q:=λx=>IdsOk g x) (.ite (λ_=> .bind ((Cz w).mono λv hv=> .some ⟨λx hx=>hv.1.mem_iff.1 hx,by rw[hv.1.length_eq];omega⟩)) λ_=> .some p) λS d=>?_);refine .bind ((KH w d.len).mono λU t=> .bind ((QH w d _).mono λu F=> .bind ((N0 w d.len).mono λV W=> .some ?_)));exact eG c.iBy (by have:=F;unfold c8;show _<=u/\u<=_;omega) c.iKind (ky _) ⟨t.1.len,λx hx=>t.1.smid w hx⟩ c.iDevice c.iOld c.iMember c.iRole ay c.epoch c.iN c.nBody c.sRefs c.of_ c.sGuards c.iNeed c.iWait c.sBoxes c.pub c.sHist
theorem dk{l:List α}{k:Nat}(h:k<l.length):∃y,l[k]?=some y/\y∈l:=⟨_,cv h,List.getElem_mem h⟩
theorem N3(hl:ids.length<=1000000)(d s:Int):T (z9 ids d s) λ_=>True:=by
 unfold z9;refine .bind (T.forA ids.length (λ_ _=>True) aa trivial (λk n hk _=>?_) λn _=>?_)
 .obtain⟨y,hy,_⟩:=dk hk;unfold uf;simp only[eA hk,ax,au,hy,aL];refine .bindc (.ite (λ_=> .some trivial) λ_=> .some trivial) λb _=> .ite (λ_=> .some ⟨aq aa,trivial⟩) λ_=> .some ⟨aq aa,trivial⟩
 .unfold uf;dsimp only;rw[eF,aM];exact .some (.some trivial)
theorem CA(hl:ids.length<=1000000)(d:Int):T (qN ids d) λ_=>True:=by
 unfold qN;refine .bind (T.forA ids.length (λ_ _=>True) aa trivial (λk n hk _=>?_) λn _=>?_)
 .obtain⟨y,hy,_⟩:=dk hk;unfold qM;simp only[eA hk,ax,au,hy,aL];refine .bindc (N3 hl _ _) λv _=> .bindc ?_ λb _=> .ite (λ_=> .some ⟨aq aa,trivial⟩) λ_=> .some ⟨aq aa,trivial⟩;repeat'(first|exact T.some trivial|refine T.ite (λ_=>?_) λ_=>?_)
 .unfold qM;dsimp only;rw[eF,aM];exact .some (.some trivial)
theorem N4(hl:ids.length<=100000):T (vJ ids) λr=>r.length<=ids.length/\∀x∈r,x∈ids:=by
 unfold vJ;refine .bind (T.mono (Q:=λr=>r.length<=ids.length/\∀x∈r,x∈ids) (T.forA ids.length (λk a=>a.length<=k/\∀x∈a,x∈ids) aa ⟨aC,aC⟩ (λk a hk hj=>?_) λa hj=>?_) λx hx=> .bind ((kg aa).mono λv hv=> .some ⟨by rw[hv.1.length_eq];exact hx.1,λy hy=>hx.2 y (hv.1.mem_iff.1 hy)⟩))
 .obtain⟨y,hy,hm⟩:=dk hk;unfold un;simp only[eA hk,ax,au,hy,aL];refine .bindc (CA aa _) λv _=> .bindc (.ite (λ_=> .some trivial) λ_=> .some trivial) λb _=> .ite (λ_=>?_) λ_=> .some ⟨aq aa,Nat.le_succ_of_le hj.1,hj.2⟩;refine .bind (.app cq (.some ⟨aq aa,by simp;omega,λx hx=>?_⟩));rcases List.mem_append.1 hx with h|h
  .exact hj.2 x h
  .simp at h;subst h;exact hm
 .unfold un;dsimp only;rw[eF,aM];exact .some hj
def EF(g:D12G)(l:List Int):Prop:=∀x∈l,0<=x/\x<(g.L.length:Int)
theorem EF.nat{g:D12G}{l:List Int}(h:EF g l){x:Int}(hx:x∈l):∃i:Nat,x=(i:Int)/\i<g.L.length:=by obtain⟨h1,h2⟩:=h x hx;exact⟨x.toNat,aa,aa⟩
theorem EF.snoc{g:D12G}{l:List Int}(h:EF g l){i:Nat}(hi:i<g.L.length):EF g (l++[(i:Int)]):=λx hx=>by
 rcases List.mem_append.1 hx with h'|h'
 .exact h x h'
 .simp at h';subst h';omega
theorem EF.nil{g:D12G}:EF g []:=λx hx=>by cases hx
theorem It(w:WfG g):T (nZ g) λr=>r.length=g.L.length:=by
 have nL:=w.nL;have nU:=w.nU;unfold nZ;refine .bind (T.mono (Q:=λr=>r.length=g.L.length) (T.forA g.L.length (λk b=>b.length=k) aa rfl (λk b hk hj=>?_) λb hj=>?_) λx hx=> .some hx)
 .obtain⟨u,hu,_⟩:=dk (l:=g.Up) (k:=k) aa;obtain⟨u1,e⟩:=w.up k u hu;unfold pd;dsimp only;rw[eA hk,ax];have hin:∀q:Int×Int,iP g (b,(k:Int)) q=(bif decide (q.2<ah u) then((aS u q.2).bind λc=>(aS b c).bind λd=>some (.inl (gB q.1 (wI (1+d)),wI (q.2+1)))) else some (.inr q.1)):=λq=>by unfold iP;simp only[au,hu,aL]
  refine .bindc (x:=loop (iP g (b,(k:Int))) (1,0)) ?_ λv _=> .bind (.app cq (.some ⟨aq aa,by simp;omega⟩));have hf:iP g (b,(k:Int))=λq:Int×Int=>(bif decide (q.2<ah u) then((aS u q.2).bind λc=>(aS b c).bind λd=>some (.inl (gB q.1 (wI (1+d)),wI (q.2+1)))) else some (.inr q.1)):=funext hin;rw[hf];refine T.loop (λs=>∃j:Nat,j<=u.length/\s.2=(j:Int)) (λs=>u.length-s.2.toNat) ⟨0,aa,rfl⟩ cq ?_;rintro⟨a,i⟩ ⟨j,f,rfl⟩;dsimp only;rcases Nat.lt_or_ge j u.length with hlt|hge
  .obtain⟨y,hy,hm⟩:=dk hlt;obtain⟨h,m⟩:=e y hm;rw[eA hlt,ax,au,hy,aL];refine .bind (.ixl h aa λz _ _=> .some ⟨⟨j+1,aa,aq aa⟩,?_⟩);rw[aq aa];simp;omega
  .obtain rfl:j=u.length:=aa;rw[eF,aM];exact .some trivial
 .unfold pd;dsimp only;rw[eF,aM];exact .some hj
theorem KI(w:WfG g){l:List Int}(hl:l.length=g.L.length){i k:Nat}(hi:i<g.L.length)(hk:k<g.L.length):T (vI g l (i:Int) (k:Int)) λ_=>True:=by have nI:=w.nI;obtain⟨a,ha,_⟩:=dk (l:=l) (k:=i) aa;obtain⟨b,hb,_⟩:=dk (l:=l) (k:=k) aa;obtain⟨c,hc,_⟩:=dk (l:=g.IDs) (k:=i) aa;obtain⟨d,hd,_⟩:=dk (l:=g.IDs) (k:=k) aa;unfold vI;simp only[au,ha,hb,hc,hd,aL,pJ];exact .ite (λ_=> .some trivial) λ_=> .some trivial
theorem CB(w:WfG g)(hl:ids.length<=1000):T (n8 g ids) λr=>IdsOk g r/\r.length<=ids.length:=by
 have nL:=w.nL;have nI:=w.nI;unfold n8;refine .bind ((It w).mono λp h1=>?_);refine .bind (T.mono (Q:=λx:List Int=>EF g x/\x.length<=ids.length) (T.forA ids.length (λk a=>EF g a/\a.length<=k) aa ⟨.nil,aC⟩ (λk a hk hj=>?_) λa hj=>?_) λf h4=>?_)
 .obtain⟨y,hy,hm⟩:=dk hk;unfold qU;simp only[eA hk,ax,au,hy,aL,qR,dC (show g.IDs.length<=1000000 by omega)];refine .dec (λ_=> .some ⟨aq aa,hj.1,Nat.le_succ_of_le hj.2⟩) λhp=>?_;obtain⟨i,o,e,hi,ho,m,_⟩:=w.place (x:=y) aa;have hil:i<g.L.length:=(cr ho).1;rw[e];refine .bind (T.mono (Q:=λn:Int=>∃j:Nat,n=(j:Int)/\j<=a.length) (T.forI a.length (λ_=>True) aa trivial (λj hjl _=>?_) λ_=>?_) λn hn=>?_)
  .obtain⟨z,hz,c⟩:=dk hjl;obtain⟨q,rfl,d⟩:=hj.1.nat c;unfold qT;simp only[eA hjl,ax,au,hz,aL];refine .bindc (.bindc (KI w h1 d hil) λ_ _=> .some trivial) λb _=> .ite (λ_=> .some ⟨aq aa,trivial⟩) λ_=> .some ⟨j,rfl,aa⟩
  .unfold qT;dsimp only;rw[eF,aM,aL,aM];exact .some ⟨a.length,rfl,Nat.le_refl _⟩
  .obtain⟨j,rfl,hjl⟩:=hn;refine .bind (.pre aa aa (.bind (.app cq (.bind (.app cq (.bind (.suf aa aa (.bind (.app cq (.some ⟨aq aa,?_,?_⟩))))))))))
   .intro x hx;have:x∈a++[(i:Int)]:=Cy.mem_iff.1 (by simpa using hx);exact hj.1.snoc hil x this
   .have:=(Cy (x:=(i:Int)) (l:=a) (k:=j)).length_eq;simp at this⊢;omega
 .unfold qU;dsimp only;rw[eF,aM];exact .some hj
 .refine .bind (T.mono (Q:=λr:List DIdent=>IdsOk g r/\r.length<=ids.length) (T.forA f.length (λk a=>(∀x∈a,x∈g.IDs)/\a.length<=k) aa ⟨aC,aC⟩ (λk a hk hj=>?_) λa hj=>?_) λr hr=> .some hr)
  .obtain⟨y,hy,hm⟩:=dk hk;obtain⟨i,rfl,hi⟩:=h4.1.nat hm;obtain⟨z,hz,c⟩:=dk (l:=g.IDs) (k:=i) aa;unfold qS;simp only[eA hk,ax,au,hy,hz,aL];refine .bind (.app cq (.some ⟨aq aa,λx hx=>?_,by simp;omega⟩));rcases List.mem_append.1 hx with h|h
   .exact hj.1 x h
   .simp at h;subst h;exact c
  .unfold qS;dsimp only;rw[eF,aM];exact .some ⟨⟨hj.1,aa⟩,aa⟩
theorem Tl(o:DOp):T (LJ o) λ_=>True:=by unfold LJ;repeat'(first|exact T.some trivial|(refine T.bindc ?_ λv _=>?_)|(refine T.ite (λ_=>?_) λ_=>?_))
theorem wP(w:WfG g)(hl:ids.length<=1000):T (jn g ids) λr=>r.length<=1000:=by
 have nL:=w.nL;have nI:=w.nI;unfold jn;refine .bind ((CB w hl).mono λc h1=> .bind (T.mono (Q:=λr:List Int=>r.length<=1000) (T.forA c.length (λk a=>a.length<=k) (by have:=h1.1.len;omega) aC (λk a hk hj=>?_) λa hj=>?_) λr hr=> .some hr))
 .obtain⟨y,hy,hm⟩:=dk hk;have hv:=h1.1.len;obtain⟨i,o,e,_,ho,_⟩:=w.place (lj.2 (h1.1.sub y hm));unfold nk;simp only[eA hk,ax,au,hy,aL,qR,dC (show g.IDs.length<=1000000 by omega),e,ho];refine .bindc (Tl o) λv _=> .bindc ?_ λb _=> .ite (λ_=> .bind (.app cq (.some ⟨aq aa,by simp;omega⟩))) λ_=> .some ⟨aq aa,Nat.le_succ_of_le hj⟩;refine .ite (λ_=>?_) λ_=> .some trivial;rw[cX aa,aL];exact .some trivial
 .unfold nk;dsimp only;rw[eF,aM];exact .some (Nat.le_trans hj h1.1.len)
structure RkS (g:D12G) (n:Nat) (r:D15R):Prop where
 cards:r.Cards=g.Cards
 dev:r.In.length+r.Gone.length<=n
 nL:r.L.length<=n
 nV:r.V.length<=n
 mem:∀m∈r.L,m.Guards.length<=1000
def Nd(r:D15R):Prop:=∀m∈r.L,m.Is=true->1<=m.Need
theorem RkS.up{g:D12G}{n m:Nat}{r:D15R}(h:RkS g n r)(hm:n<=m):RkS g m r:=⟨h.cards,by have:=h.dev;omega,by have:=h.nL;omega,by have:=h.nV;omega,h.mem⟩
section
variable {g:D12G} {n:Nat} {r:D15R}
theorem dM(w:WfG g)(h:RkS g n r)(d:Int):T (gE r d) λ_=>True:=by
 have nC:=w.nC;have hc:r.Cards.length<=1000:=by rw[h.cards];exact nC
 unfold gE;refine .bind (T.mono (Q:=λ_=>True) (T.forI r.Cards.length (λ_=>True) aa trivial (λk hk _=>?_) λ_=>?_) λx _=>?_)
 .obtain⟨y,hy,_⟩:=dk hk;unfold AR;simp only[eA hk,ax,au,hy,aL];exact .ite (λ_=> .some trivial) λ_=> .some ⟨aq aa,trivial⟩
 .unfold AR;rw[eF,aM];exact .some trivial
 .cases x<;>exact .some trivial
theorem d9(h:RkS g n r)(hn:n<=100001)(d:Int):T (dS r d) λv=>v<0\/∃k:Nat,v=(k:Int)/\k<r.L.length:=by
 have nL:=h.nL;unfold dS;refine .bind (T.mono (Q:=λx:Unit⊕Int=>∀q,x= .inr q->∃k:Nat,q=(k:Int)/\k<r.L.length) (T.forI r.L.length (λ_=>True) aa trivial (λk hk _=>?_) λ_=>?_) λx hx=>?_)
 .obtain⟨y,hy,_⟩:=dk hk;unfold o5;simp only[eA hk,ax,au,hy,aL];refine .ite (λ_=> .some ?_) λ_=> .some ⟨aq aa,trivial⟩;intro q e;cases e;exact⟨k,rfl,hk⟩
 .unfold o5;rw[eF,aM];refine .some ?_;intro q e;cases e
 .cases x with
  |inl u=>exact .some (.inl a9)
  |inr q=>exact .some (.inr (hx q rfl))
theorem yh(hn:n<=100000)(h:RkS g n r)(d:Int):T (se r d) λ_=>True:=by
 unfold se;refine .bind ((d9 h (Nat.le_succ_of_le hn) d).mono λv hv=>?_);refine .dec (λ_=> .some trivial) λhp=>?_;rcases hv with hv|⟨k,rfl,hk⟩
 .omega
 obtain⟨y,hy,_⟩:=dk hk;rw[au,hy,aL];exact .some trivial
theorem QK(hn:n<=100000)(h:RkS g n r)(d:Int):T (Fd r d) λ_=>True:=by have:=h.dev;unfold Fd;rw[cX aa,aL];refine .bindc (.ite (λ_=> .some trivial) λ_=>?_) λ_ _=> .some trivial;rw[cX aa,aL];exact .some trivial
theorem uY(w:WfG g)(hn:n<=100000)(h:RkS g n r)(d:Int):T (nW r d) λ_=>True:=by unfold nW;refine .bindc (QK hn h d) λv _=> .bindc (.bindc (dM w h d) λ_ _=> .ite (λ_=> .some trivial) λ_=> .some trivial) λ_ _=> .some trivial
theorem uZ(w:WfG g)(hn:n<=100000)(h:RkS g n r)(d role:Int):T (nX r d role) λr'=>RkS g (n+1) r'/\(Nd r->Nd r'):=by
 have h1:=h.dev;have h2:=h.nL;unfold nX;refine .bindc (uY w hn h d) λv _=> .ite (λ_=> .some ⟨h.up aa,id⟩) λ_=>?_;refine .bind (.app cq (.bind (.app cq ?_)));rw[List.nil_append];have h':RkS g (n+1) {r with In:=r.In++[d]}:=⟨h.cards,by simp;omega,by show r.L.length<=_;omega,by have:=h.nV;show r.V.length<=_;omega,h.mem⟩;refine .bindc (dM w h' d) λa _=> .bind ((d9 h' (show n+1<=100001 by omega) a).mono λb _=> .dec (λ_=>?_) λ_=> .some ⟨h',id⟩);refine .bind (.bind (.app cq (.bind (.app cq (.some ?_)))));rw[List.nil_append];refine .some ⟨⟨h'.cards,h'.dev,by simp;omega,h'.nV,λm hm=>?_⟩,λnd m hm=>?_⟩
 .rcases List.mem_append.1 hm with hm|hm
  .exact h.mem m hm
  .simp at hm;subst hm;simp
 .rcases List.mem_append.1 hm with hm|hm
  .exact nd m hm
  .simp at hm;subst hm;simp
theorem zd(h:RkS g n r)(hn:n<=100001)(i:DIdent):T (jN r i) λv=>v<0\/∃(k:Nat) (m:D15M),v=(k:Int)/\r.L[k]?=some m/\m.Is=true:=by
 have nL:=h.nL;unfold jN;refine .bind (T.mono (Q:=λx:Unit⊕Int=>∀q,x= .inr q->∃(k:Nat) (m:D15M),q=(k:Int)/\r.L[k]?=some m/\m.Is=true) (T.forI r.L.length (λ_=>True) aa trivial (λk hk _=>?_) λ_=>?_) λx hx=>?_)
 .obtain⟨y,hy,_⟩:=dk hk;unfold qQ;simp only[eA hk,ax,au,hy,aL];refine .bind (T.mono (Q:=λb:Bool=>b=true->y.Is=true) (.ite (λhb=> .some λ_=>hb) λ_=> .some λe=>by cases e) λb hb=> .ite (λe=> .some ?_) λ_=> .some ⟨aq aa,trivial⟩);intro q e';cases e';exact⟨k,y,rfl,hy,hb e⟩
 .unfold qQ;rw[eF,aM];refine .some ?_;intro q e;cases e
 .cases x with
  |inl u=>exact .some (.inl a9)
  |inr q=>exact .some (.inr (hx q rfl))
theorem u4(hn:n<=100000)(h:RkS g n r)(i:DIdent):T (jN r i) λv=>v<0\/∃(k:Nat) (m:D15M),v=(k:Int)/\r.L[k]?=some m/\m.Is=true:=zd h (Nat.le_succ_of_le hn) i
theorem CC(w:WfG g)(h:RkS g n r)(hn:n<=100001)(d:Int):T (sh r d) λr'=>RkS g n r'/\(Nd r->Nd r'):=by
 have h1:=h.dev;have h2:=h.nL;have h3:=h.nV;unfold sh;rw[cX aa,aL];refine .ite (λ_=> .some ⟨h,id⟩) λt=>?_;have hd:d∈r.In:=by
  have:QF r.In d=true:=by simpa using t
  unfold QF at this;obtain⟨x,hx,e⟩:=List.any_eq_true.1 this;have:=of_decide_eq_true e;subst this;exact hx
 have hlt:(r.In.filter λx=>decide (x≠d)).length<r.In.length:=List.length_filter_lt_length_iff_exists.2 ⟨d,hd,aC⟩;refine .bindc (dM w h d) λz _=> .bind (T.mono (Q:=λx:List Int×Bool=>x.1=r.In.filter λx=>decide (x≠d)) ?_ λu h7=>?_)
 .refine T.mono (T.loop (Q:=λx:List Int×Bool=>x.1=r.In.filter λx=>decide (x≠d)) (λs=>∃k:Nat,k<=r.In.length/\s.2.2=(k:Int)/\s.1=(r.In.take k).filter λx=>decide (x≠d)) (λs=>r.In.length-s.2.2.toNat) ⟨0,aa,rfl,aC⟩ cq ?_) λ_ hx=>hx;rintro⟨a,b,i⟩ ⟨k,hk,rfl,ha⟩;simp only at ha;rcases Nat.lt_or_ge k r.In.length with hl|hg
  .obtain⟨y,hy,_⟩:=dk hl;have ht:(r.In.take (k+1)).filter (λx=>decide (x≠d))=a++[y].filter (λx=>decide (x≠d)):=by rw[List.take_add_one,hy,List.filter_append,ha];rfl
   have hal:a.length<=k:=by rw[ha];exact Nat.le_trans (List.length_filter_le _ _) cq
   have hm:wI ((k:Int)+1)=((k+1:Nat):Int):=aq aa;unfold uj;simp only[eA hl,ax,au,hy,aL];refine .dec (λhp=> .bind (.app cq (.bindc (.ite (λ_=> .some trivial) λ_=> .bindc (dM w h _) λ_ _=> .some trivial) λj _=> .some ⟨⟨k+1,aa,hm,?_⟩,?_⟩))) λhp=> .some ⟨⟨k+1,aa,hm,?_⟩,?_⟩
   .rw[ht,List.filter_cons_of_pos (by simpa using hp)];rfl
   .show r.In.length-(wI ((k:Int)+1)).toNat<_;rw[hm];simp;omega
   .rw[ht,List.filter_cons_of_neg (by simpa using hp)];simp
   .show r.In.length-(wI ((k:Int)+1)).toNat<_;rw[hm];simp;omega
  .obtain rfl:k=r.In.length:=aa;unfold uj;dsimp only;rw[eF,aM];exact .some (by show a=_;rw[ha,List.take_length])
 .obtain⟨A,B⟩:=u;simp only at h7;subst h7;refine .bind (.app cq (.bind (.app cq ?_)));rw[List.nil_append];have hk:∀(L:List D15M) (V:List D15V),L.length<=n->V.length<=n->(∀m∈L,m∈r.L)->RkS g n {r with In:=r.In.filter λx=>decide (x≠d),Gone:=r.Gone++[d],L:=L,V:=V}:=λL V hL hV hs=>⟨h.cards,by simp only[List.length_append,List.length_singleton];omega,hL,hV,λm hm=>h.mem m (hs m hm)⟩;refine .ite (λ_=> .some ⟨hk r.L r.V h2 h3 λ_ hm=>hm,id⟩) λ_=>?_;refine .bind (T.mono (Q:=λx:List D15M×List D15V=>x.1.length<=n/\(∀m∈x.1,m∈r.L)/\x.2=[]) ?_ λl o=>?_)
  .refine T.mono (T.loop (Q:=λx:List D15M×List D15V=>x.1.length<=n/\(∀m∈x.1,m∈r.L)/\x.2=[]) (λs=>∃k:Nat,k<=r.L.length/\s.2.2=(k:Int)/\s.1.length<=k/\(∀m∈s.1,m∈r.L)/\s.2.1=[]) (λs=>r.L.length-s.2.2.toNat) ⟨0,aa,rfl,aC,aC,rfl⟩ cq ?_) λ_ hx=>hx;rintro⟨a,b,i⟩ ⟨k,hk,rfl,ha,hs,hb⟩;simp only at ha hs hb;rcases Nat.lt_or_ge k r.L.length with hl|hg
   .obtain⟨y,hy,f⟩:=dk hl;have hm:wI ((k:Int)+1)=((k+1:Nat):Int):=aq aa;unfold ui;simp only[eA hl,ax,au,hy,aL];refine .dec (λhp=> .bind (.app cq (.some ⟨⟨k+1,aa,hm,by simp;omega,λm hmm=>?_,hb⟩,?_⟩))) λhp=> .some ⟨⟨k+1,aa,hm,Nat.le_succ_of_le ha,hs,hb⟩,?_⟩
    .rcases List.mem_append.1 hmm with hmm|hmm
     .exact hs m hmm
     .simp at hmm;subst hmm;exact f
    .show r.L.length-(wI ((k:Int)+1)).toNat<_;rw[hm];simp;omega
    .show r.L.length-(wI ((k:Int)+1)).toNat<_;rw[hm];simp;omega
   .obtain rfl:k=r.L.length:=aa;unfold ui;dsimp only;rw[eF,aM];exact .some ⟨Nat.le_trans ha h2,hs,hb⟩
  .obtain⟨L,V⟩:=l;obtain⟨hL,hs,hV⟩:=o;simp only at hL hs hV;subst hV;have hx:=hk L r.V hL h3 hs;refine .bind (T.mono (Q:=λv:List D15V=>v.length<=n) (T.forA r.V.length (λk c=>c.length<=k) aa aC (λk c hkl hj=>?_) λc hj=>?_) λp q=> .some ⟨hk L p hL q hs,λnd m hm=>nd m (hs m hm)⟩)
   .obtain⟨y,hy,f⟩:=dk hkl;unfold uh;simp only[eA hkl,ax,au,hy,aL];refine .bind ((zd hx hn y.Of).mono λv _=> .dec (λ_=> .bind (.app cq (.some ⟨aq aa,by simp;omega⟩))) λ_=> .some ⟨aq aa,Nat.le_succ_of_le hj⟩)
   .unfold uh;dsimp only;rw[eF,aM];exact .some (Nat.le_trans hj h3)
theorem N5(w:WfG g)(hn:n<=100000)(h:RkS g n r)(d:Int):T (sh r d) λr'=>RkS g n r'/\(Nd r->Nd r'):=CC w h (Nat.le_succ_of_le hn) d
end
theorem yi{l:List D15M}(hl:l.length<=1000000){k:Nat}(hk:k<l.length)(m:D15M):T (o6 l (k:Int) m) λr=>r=l.set k m:=by unfold o6;refine .bind (.app cq (.bind (.set aa cq (.some ?_))));rw[List.nil_append];rfl
theorem Mu{l:List D15M}{m x:D15M}(h:x∈l.set k m):x∈l\/x=m:=by
 rcases List.mem_or_eq_of_mem_set h with h|h
 .exact .inl h
 .exact .inr h
section
variable {g:D12G} {n:Nat} {r:D15R}
theorem RkS.setL(h:RkS g n r){k:Nat}{m:D15M}(hm:m.Guards.length<=1000):RkS g n {r with L:=r.L.set k m}:=⟨h.cards,h.dev,by simpa using h.nL,h.nV,λx hx=>by
 rcases Mu hx with hx|rfl
 .exact h.mem x hx
 .exact hm⟩
theorem Nd.setL(h:Nd r){k:Nat}{m:D15M}(hm:m.Is=true->1<=m.Need):Nd {r with L:=r.L.set k m}:=λx hx=>by
 rcases Mu hx with hx|rfl
 .exact h x hx
 .exact hm
theorem RkS.setV(h:RkS g n r){V:List D15V}(hV:V.length<=n):RkS g n {r with V:=V}:=⟨h.cards,h.dev,h.nL,hV,h.mem⟩
theorem Ga(w:WfG g)(hn:n<=100000)(h:RkS g n r)(so:SmOp o)(b:DIdent):T (o7 r o b) λr'=>RkS g n r'/\((o.Kind=9->1<=o.Need)->o.Kind=9->Nd r->Nd r'):=by
 have h2:=h.nL;have h3:=h.nV;unfold o7;refine .bindc (dM w h _) λf _=> .bind ((d9 h aa f).mono λp hv=> .dec (λ_=> .some ⟨h,λ_ _=>id⟩) λhp=>?_);rcases hv with hv|⟨k,rfl,hk⟩
 .omega
 obtain⟨y,hy,hm⟩:=dk hk;simp only[au,hy,aL];refine .bind ((yi aa hk _).mono λi e=>?_);subst e;have hx:=h.setL (k:=k) (m:=⟨y.N,y.Role,true,b,o.Guards,o.Need,o.Wait,false,0⟩) so.sGuards.1;refine .bind (T.mono (Q:=λv:List D15V=>v.length<=n) (T.forA r.V.length (λk a=>a.length<=k) aa aC (λk a hkl hj=>?_) λa hj=>?_) λj c=> .some ⟨hx.setV c,λhd d nd=>?_⟩)
 .obtain⟨y,hy,l⟩:=dk hkl;unfold ni;simp only[eA hkl,ax,au,hy,aL];refine .bind ((u4 hn hx y.Of).mono λv _=> .dec (λ_=> .bind (.app cq (.some ⟨aq aa,by simp;omega⟩))) λ_=> .some ⟨aq aa,Nat.le_succ_of_le hj⟩)
 .unfold ni;dsimp only;rw[eF,aM];exact .some (Nat.le_trans hj h3)
 .exact nd.setL (k:=k) λ_=>hd d
theorem ze(w:WfG g)(hn:n<=100000)(h:RkS g n r)(o:DOp):T (nY r o) λv=>v.2≠0\/∃(k:Nat) (m:D15M),v.1=(k:Int)/\r.L[k]?=some m/\m.Is=true:=by
 unfold nY;refine .bind ((u4 hn h o.Of).mono λv hv=> .dec (λ_=> .some (.inl a9)) λhp=>?_);rcases hv with hv|⟨k,m,rfl,hm,hi⟩
 .omega
 rw[au,hm,aL,cX (by have:=h.mem m (bO hm);omega),aL];exact .ite (λ_=> .some (.inl (show(14:Int)≠0 by decide))) λ_=> .some (.inr ⟨k,m,rfl,hm,hi⟩)
theorem Gb(w:WfG g)(hn:n<=100000)(h:RkS g n r)(o:DOp):T (o8 r o) λr'=>RkS g (n+1) r'/\(Nd r->Nd r'):=by
 have h3:=h.nV;unfold o8;refine .bind ((ze w hn h o).mono λd _=> .dec (λ_=> .some ⟨h.up aa,id⟩) λ_=>?_);refine .bind (T.mono (Q:=λx:Int×List D15V=>x.2.length<=n) ?_ λe h5=> .bind (.app cq (.some ⟨(h.up (Nat.le_succ n)).setV cq,λnd=>nd⟩)));refine T.mono (T.loop (Q:=λx:Int×List D15V=>x.2.length<=n) (λs=>∃k:Nat,k<=r.V.length/\s.2.2=(k:Int)/\s.2.1.length<=k) (λs=>r.V.length-s.2.2.toNat) ⟨0,aa,rfl,aC⟩ cq ?_) λ_ hx=>hx;rintro⟨a,b,i⟩ ⟨k,hk,rfl,ha⟩;simp only at ha;rcases Nat.lt_or_ge k r.V.length with hl|hg
 .obtain⟨y,hy,c⟩:=dk hl;have hm:wI ((k:Int)+1)=((k+1:Nat):Int):=aq aa;have hμ:r.V.length-(wI ((k:Int)+1)).toNat<r.V.length-((k:Int)).toNat:=by rw[hm];simp;omega
  unfold nj;simp only[eA hl,ax,au,hy,aL];refine .bindc ?_ λj _=> .ite (λ_=> .some ⟨⟨k+1,aa,hm,Nat.le_succ_of_le ha⟩,hμ⟩) λ_=> .bind (.app cq (.some ⟨⟨k+1,aa,hm,by simp;omega⟩,hμ⟩));repeat'(first|exact T.some trivial|refine T.ite (λ_=>?_) λ_=>?_)
 .obtain rfl:k=r.V.length:=aa;unfold nj;dsimp only;rw[eF,aM];exact .some (Nat.le_trans ha h3)
theorem N6(w:WfG g)(hn:n<=100000)(h:RkS g n r){o:DOp}{step:List Int×Int->Option ((List Int×Int)⊕(List Int))}(he:step=λs=>bif decide (s.2<ah r.In) then((aS r.In s.2).bind λb=>(gE r b).bind λc=>bif decide (c=o.Member) then((aS r.In s.2).bind λd=>(aT 8 s.1 ([d]:List Int)).bind λe=>some (.inl (e,wI (s.2+1)))) else(some (.inl (s.1,wI (s.2+1))))) else(some (.inr s.1))):T (loop step ([],0)) λl=>l.length<=n:=by
 have h1:=h.dev;subst he;refine T.forA r.In.length (λk a=>a.length<=k) aa aC (λk a hk hj=>?_) λa hj=>?_
 .obtain⟨y,hy,f⟩:=dk hk;simp only[eA hk,ax,au,hy,aL];refine .bindc (dM w h y) λv _=> .dec (λ_=> .bind (.app cq (.some ⟨aq aa,by simp;omega⟩))) λ_=> .some ⟨aq aa,Nat.le_succ_of_le hj⟩
 .dsimp only;rw[eF,aM];exact .some (by show a.length<=n;omega)
theorem Gc(w:WfG g)(hn:n<=100000)(h:RkS g n r)(so:SmOp o)(f:DIdent):T (DM r o f) λr'=>RkS g (n+1) r'/\((o.Kind=9->1<=o.Need)->Nd r->Nd r'):=by
 have h1:=h.dev;have h2:=h.nL;have up:=h.up (Nat.le_succ n);unfold DM;refine .bindc (dM w h _) λq _=> .bind ((d9 h aa q).mono λs hv=> .dec (λ_=>?_) λ_=>?_)
 .refine .bindc (.ite (λ_=> .some trivial) λ_=> .ite (λ_=> .some trivial) λ_=> .bindc (dM w h _) λ_ _=> .some trivial) λj _=> .ite (λ_=> .some ⟨up,λ_=>id⟩) λ_=> .bind ((uZ w hn h _ _).mono λt h9=> .some ⟨⟨h9.1.cards,h9.1.dev,h9.1.nL,h9.1.nV,h9.1.mem⟩,λ_ nd=>h9.2 nd⟩)
 refine .dec (λ_=> .bind ((uZ w hn h _ _).mono λt h9=> .some ⟨h9.1,λ_=>h9.2⟩)) λ_=>?_;refine .dec (λ_=>?_) λ_=>?_
 .refine .bind (T.mono (Q:=λx:List Int⊕D15R=>∃l,x= .inl l/\l.length<=n+1) (.dec (λ_=> .bind ((N6 w hn h (o:=o) rfl).mono λx hx=> .some ⟨x,rfl,Nat.le_succ_of_le hx⟩)) λ_=> .some ⟨_,rfl,aC⟩) λx hx=>?_);obtain⟨l,rfl,hl⟩:=hx;refine .bind (T.mono (Q:=λr':D15R=>RkS g n r'/\(Nd r->Nd r')) (T.forA l.length (λ_ r'=>RkS g n r'/\(Nd r->Nd r')) aa ⟨h,λnd=>nd⟩ (λk p hk hj=>?_) λp hj=>?_) λr' a=> .some ⟨a.1.up aa,λ_=>a.2⟩)
  .obtain⟨y,hy,u⟩:=dk hk;unfold AT;simp only[eA hk,ax,au,hy,aL];exact .bind ((N5 w hn hj.1 y).mono λv hv=> .some ⟨aq aa,hv.1,λnd=>hv.2 (hj.2 nd)⟩)
  .unfold AT;dsimp only;rw[eF,aM];exact .some hj
 refine .dec (λ_=>?_) λ_=>?_
 .refine .bind ((d9 h aa o.Member).mono λv hv=> .dec (λhp=>?_) λ_=> .some ⟨up,λ_=>id⟩);rcases hv with hv|⟨k,rfl,hk⟩
  .omega
  obtain⟨y,hy,hm⟩:=dk hk;rw[au,hy,aL];refine .bind ((yi aa hk _).mono λi e=> .some ?_);subst e;exact⟨up.setL (h.mem y hm),λ_ nd=>nd.setL λe=>nd y hm e⟩
 refine .dec (λhk=> .bind ((Ga w hn h so f).mono λv hv=> .some ⟨hv.1.up aa,λhd=>hv.2 hd hk⟩)) λ_=>?_;refine .dec (λ_=> .bind ((Gb w hn h o).mono λv hv=> .some ⟨hv.1,λ_=>hv.2⟩)) λ_=>?_;refine .dec (λ_=>?_) λ_=>?_
 .refine .bind (T.mono (Q:=λb:Bool=>b=true->0<=s) (.dec (λh0=>?_) λ_=> .some λe=>by cases e) λb hb=> .ite (λe=>?_) λ_=> .some ⟨up,λ_=>id⟩)
  .rcases hv with hv|⟨k,rfl,hk⟩
   .omega
   obtain⟨y,hy,hm⟩:=dk hk;have:gB (k:Int) 0=(k:Int):=by unfold gB;split<;>omega
   simp only[this,au,hy,aL];exact .ite (λ_=> .some λ_=>h0) λ_=> .some λ_=>h0
  .have h0:=hb e;rcases hv with hv|⟨k,rfl,hk⟩
   .omega
   obtain⟨y,hy,hm⟩:=dk hk;rw[au,hy,aL];refine .bind ((yi aa hk _).mono λi e=> .some ?_);subst e;exact⟨up.setL (h.mem y hm),λ_ nd=>nd.setL λe=>nd y hm e⟩
 refine .dec (λ_=>?_) λ_=> .some ⟨up,λ_=>id⟩;refine .bind ((u4 hn h o.Of).mono λz hv=> .bindc (.dec (λh0=>?_) λ_=> .some trivial) λj _=> .ite (λ_=>?_) λ_=> .some ⟨up,λ_=>id⟩)
 .rcases hv with hv|⟨k,m,rfl,hm,_⟩
  .omega
  have:gB (k:Int) 0=(k:Int):=by unfold gB;split<;>omega
  rw[cX aa,aL];simp only[this,au,hm,aL];exact .ite (λ_=> .bindc (dM w h _) λ_ _=> .ite (λ_=> .bindc (dM w h _) λ_ _=> .some trivial) λ_=> .some trivial) λ_=> .some trivial
 .exact .bindc (dM w h _) λA _=> .bindc (yh hn h _) λB _=> .bind ((uZ w hn h _ _).mono λC c=> .bind ((CC w c.1 aa _).mono λD d=> .some ⟨d.1,λ_ nd=>d.2 (c.2 nd)⟩))
end
theorem zf(hl:l.length<=1000000):T (lg l) λr=>r.length=l.length:=by
 unfold lg;refine .bind (T.mono (Q:=λr:List Int=>r.length=l.length) (T.forA l.length (λk a=>a.length=k) aa rfl (λk a hk hj=>?_) λa hj=>?_) λx hx=> .some hx)
 .obtain⟨y,hy,hm⟩:=dk hk;unfold pb;simp only[eA hk,ax,au,hy,aL];refine .bind (T.mono (Q:=λn:Int=>∃j:Nat,n=(j:Int)/\j<=a.length) (T.forI a.length (λ_=>True) aa trivial (λj hjl _=>?_) λ_=>?_) λn hn=>?_)
  .obtain⟨z,hz,b⟩:=dk hjl;unfold pa;simp only[eA hjl,ax,au,hz,hy,aL];exact .ite (λ_=> .some ⟨aq aa,trivial⟩) λ_=> .some ⟨j,rfl,aa⟩
  .unfold pa;dsimp only;rw[eF,aM,aL,aM];exact .some ⟨a.length,rfl,Nat.le_refl _⟩
  .obtain⟨j,rfl,hjl⟩:=hn;refine .bind (.pre aa aa (.bind (.app cq (.bind (.app cq (.bind (.suf aa aa (.bind (.app cq (.some ⟨aq aa,?_⟩))))))))));simp;omega
 .unfold pb;dsimp only;rw[eF,aM];exact .some hj
section
variable {g:D12G} {n:Nat} {r:D15R}
theorem Gd(hn:n<=100000)(h:RkS g n r):T (lu r) λl=>l.length=r.In.length:=by have h1:=h.dev;unfold lu;exact .bind ((zf aa).mono λv hv=> .some hv)
theorem Ge(w:WfG g)(hn:n<=100000)(h:RkS g n r)(o:DOp)(m:Int)(b:Bool):T (o9 r o m b) λ_=>True:=by
 have h1:=h.dev;unfold o9;refine .ite (λ_=>?_) λ_=>?_
 .rw[cX aa,aL];exact .ite (λ_=> .some trivial) λ_=> .bindc (.ite (λ_=> .bindc (dM w h _) λ_ _=> .some trivial) λ_=> .some trivial) λ_ _=> .ite (λ_=> .some trivial) λ_=> .some trivial
 .exact .bindc (uW (d9 h aa _)) λ_ _=> .ite (λ_=> .some trivial) λ_=> .bindc (.ite (λ_=> .some trivial) λ_=> .some trivial) λ_ _=> .ite (λ_=> .some trivial) λ_=> .some trivial
theorem QL(hn:n<=100000)(h:RkS g n r)(nd:Nd r)(m d:Int):T (Ff r m d) λ_=>True:=by
 have h2:=h.nL;have h3:=h.nV;unfold Ff;refine .bind ((d9 h aa m).mono λv hv=> .dec (λ_=> .some trivial) λhp=>?_);rcases hv with hv|⟨k,rfl,hk⟩
 .omega
 obtain⟨y,hy,hm⟩:=dk hk;rw[au,hy,aL];refine .ite (λ_=> .some trivial) λb=>?_;have hneed:=nd y hm (by simpa using b);refine .bind (T.mono (Q:=λx:List Int=>x.length<=100000) (T.forA r.V.length (λk a=>a.length<=k) aa aC (λk a hkl hj=>?_) λa hj=>?_) λi h8=>?_)
 .obtain⟨z,hz,c⟩:=dk hkl;unfold xv;simp only[eA hkl,ax,au,hz,aL];refine .bindc (.ite (λ_=> .some trivial) λ_=> .some trivial) λ_ _=> .ite (λ_=> .bind (.app cq (.some ⟨aq aa,by simp;omega⟩))) λ_=> .some ⟨aq aa,Nat.le_succ_of_le hj⟩
 .unfold xv;dsimp only;rw[eF,aM];exact .some (by show a.length<=100000;omega)
 .refine .bind ((zf aa).mono λe f=> .dec (λ_=> .some trivial) λhl=>?_);unfold ah at hl;have e1:wI (y.Need-1)=y.Need-1:=bM aa aa;refine .bindc (.ite (λ_=> .bind (.ixl aa aa λ_ _ _=> .some trivial)) λ_=> .some trivial) λ_ _=> .ite (λ_=> .some trivial) λ_=>?_;rw[e1];exact .bind (.ixl aa aa λ_ _ _=> .some trivial)
theorem Dx(w:WfG g)(hn:n<=100000)(h:RkS g n r)(nd:Nd r)(o:DOp):T (mB r o) λ_=>True:=by
 have h1:=h.dev;unfold mB;refine .bind ((ze w hn h o).mono λa hv=> .dec (λ_=> .some trivial) λhp=>?_);rcases hv with hv|⟨k,m,hk,hm,_⟩
 .exact absurd hv hp
 rw[hk,au,hm,aL];simp only[cX (show r.In.length<=1000000 by omega),aL];refine .bindc (.ite (λ_=> .bindc (dM w h _) λ_ _=> .some trivial) λ_=> .some trivial) λ_ _=> .ite (λ_=> .some trivial) λ_=>?_;refine .bindc (.ite (λ_=> .ite (λ_=> .some trivial) λ_=> .bindc (dM w h _) λ_ _=> .ite (λ_=> .some trivial) λ_=> .bindc (dM w h _) λ_ _=> .some trivial) λ_=> .some trivial) λ_ _=> .ite (λ_=> .some trivial) λ_=>?_;refine .bindc (uY w hn h _) λ_ _=> .ite (λ_=> .some trivial) λ_=> .ite (λ_=> .some trivial) λ_=>?_;refine .bindc (QL hn h nd _ _) λ_ _=> .bindc (.ite (λ_=> .some trivial) λ_=> .some trivial) λ_ _=> .ite (λ_=> .some trivial) λ_=> .some trivial
theorem Iu(w:WfG g)(hn:n<=100000)(h:RkS g n r)(nd:Nd r)(so:SmOp o)(d:DIdent):T (AX r o d) λ_=>True:=by
 have h1:=h.dev;have tr:∀{c:Bool} {a b:Int},T (bif c then some a else some b) λ_=>True:=λ{c a b}=> .ite (λ_=> .some trivial) λ_=> .some trivial;unfold AX;refine .bindc (dM w h _) λe _=> .ite (λ_=>?_) λ_=>?_
 .exact .ite (λ_=> .some trivial) λ_=> .bindc (.ite (λ_=> .some trivial) λ_=> .some trivial) λ_ _=>tr
 simp only[cX (show r.In.length<=1000000 by omega),aL];refine .ite (λ_=> .some trivial) λ_=> .bindc (yh hn h _) λf _=> .ite (λ_=>?_) λ_=>?_
 .exact .bindc (uY w hn h _) λ_ _=> .ite (λ_=> .some trivial) λ_=> .bindc (.ite (λ_=> .bindc (dM w h _) λ_ _=> .some trivial) λ_=> .some trivial) λ_ _=>tr
 refine .ite (λ_=> .bindc (Ge w hn h _ _ _) λ_ _=> .some trivial) λ_=> .ite (λ_=>?_) λ_=>?_
 .exact .ite (λ_=> .some trivial) λ_=> .bindc (uW (d9 h aa _)) λ_ _=>tr
 refine .ite (λ_=> .bindc (yh hn h _) λ_ _=>tr) λ_=> .ite (λ_=>?_) λ_=>?_
 .exact .bindc (.ite (λ_=> .bindc (dM w h _) λ_ _=> .some trivial) λ_=> .some trivial) λ_ _=>tr
 have sg:=so.sGuards.1;refine .ite (λ_=>?_) λ_=>?_
 .refine .bind (T.mono (Q:=λ_=>True) (T.forI o.Guards.length (λ_=>True) aa trivial (λk hk _=>?_) λ_=>?_) λx _=>?_)
  .obtain⟨y,hy,_⟩:=dk hk;unfold xw;simp only[eA hk,ax,au,hy,aL,cX (show r.In.length<=1000000 by omega)];exact .ite (λ_=> .some trivial) λ_=> .some ⟨aq aa,trivial⟩
  .unfold xw;rw[eF,aM];exact .some trivial
  .cases x<;>exact .some trivial
 refine .bindc (.ite (λ_=> .some trivial) λ_=> .some trivial) λ_ _=> .ite (λ_=>?_) λ_=>?_
 .refine .bind ((d9 h aa e).mono λv hv=> .dec (λ_=> .some trivial) λhp=>?_);rcases hv with hv|⟨k,rfl,hk⟩
  .omega
  obtain⟨y,hy,hm⟩:=dk hk;simp only[au,hy,aL];exact .bindc (.ite (λ_=> .some trivial) λ_=> .some trivial) λ_ _=>tr
 .exact .bindc (.ite (λ_=> .some trivial) λ_=> .some trivial) λ_ _=> .ite (λ_=> .bindc (Dx w hn h nd o) λ_ _=> .some trivial) λ_=> .some trivial
end
theorem WfG.inrow{g:D12G}(w:WfG g){i:Nat}(h:i<g.L.length):∃r,g.In[i]?=some r/\r.length=g.L.length:=by obtain⟨r,hr,_⟩:=dk (l:=g.In) (k:=i) (by rw[w.nN];exact h);exact⟨r,hr,w.rows i r hr⟩
theorem WfG.cell{g:D12G}(w:WfG g){i k:Nat}(h:i<g.L.length)(hk:k<g.L.length):∃r b,g.In[i]?=some r/\r[k]?=some b:=by obtain⟨r,hr,hl⟩:=w.inrow h;obtain⟨b,hb,_⟩:=dk (l:=r) (k:=k) aa;exact⟨r,b,hr,hb⟩
theorem WfG.id{g:D12G}(w:WfG g){i:Nat}(h:i<g.L.length):∃x,g.IDs[i]?=some x/\x∈g.IDs:=dk (by rw[w.nI];exact h)
theorem Mv(g:D12G):RkS g 0 ⟨g.Cards,[],[],[],0,[]⟩:=⟨rfl,aC,aC,aC,aC⟩
theorem QM(g:D12G):Nd ⟨g.Cards,[],[],[],0,[]⟩:=λm hm=>by cases hm
theorem QN(w:WfG g){l:List Int}(hi:EF g l)(hl:l.length<=1000){k:Nat}(hk:k<g.L.length):T (Fg g l (k:Int)) λr=>RkS g 1000 r/\Nd r:=by
 have nL:=w.nL;unfold Fg AV;rw[aL];refine .bind (T.mono (Q:=λr=>RkS g 1000 r/\Nd r) (T.forA l.length (λj r=>RkS g j r/\Nd r) aa ⟨Mv g,QM g⟩ (λj r hj hr=>?_) λr hr=>?_) λr hr=> .some hr)
 .obtain⟨y,hy,hm⟩:=dk hj;obtain⟨i,rfl,hil⟩:=hi.nat hm;obtain⟨o,ho,so,c⟩:=w.op hil;obtain⟨x,hx,_⟩:=w.id hil;obtain⟨row,b,a,hb⟩:=w.cell hk hil;unfold xx;simp only[eA hj,ax,au,hy,ho,hx,a,hb,aL];refine .ite (λ_=> .bind ((Gc w aa hr.1 so x).mono λv hv=> .some ⟨aq aa,hv.1,hv.2 (λe=>(l8 c.numbers e).1) hr.2⟩)) λ_=> .some ⟨aq aa,hr.1.up (Nat.le_succ j),hr.2⟩
 .unfold xx;dsimp only;rw[eF,aM];exact .some ⟨hr.1.up hl,hr.2⟩
structure LOk (g:D12G) (l:D16L):Prop where
 row:EF g l.Row
 nrow:l.Row.length<=1000
 nv:l.Void.length=g.L.length
 nd:l.Decided.length=g.L.length
theorem EG(w:WfG g){l:D16L}(h:LOk g l):T (si g l) λr=>EF g r/\r.length<=1000:=by
 have nL:=w.nL;have hr:=h.nrow;unfold si;refine .bind (T.mono (Q:=λr=>EF g r/\r.length<=1000) (T.forA l.Row.length (λj r=>EF g r/\r.length<=j) aa ⟨.nil,aC⟩ (λk c hk hj=>?_) λr a=>?_) λr a=> .some a)
 .obtain⟨y,hy,hm⟩:=dk hk;obtain⟨i,rfl,hil⟩:=h.row.nat hm;obtain⟨o,ho,so,d⟩:=w.op hil;obtain⟨x,hx,_⟩:=w.id hil;obtain⟨b,hb,_⟩:=dk (l:=l.Void) (k:=i) (by rw[h.nv];exact hil);unfold um;simp only[eA hk,ax,au,hy,ho,hx,hb,aL];refine .ite (λ_=> .some ⟨aq aa,hj.1,Nat.le_succ_of_le hj.2⟩) λ_=>?_;refine .bind ((QN w hj.1 aa hil).mono λv hv=> .bindc (Iu w aa hv.1 hv.2 so x) λe _=> .ite (λ_=> .bind (.app cq (.some ⟨aq aa,hj.1.snoc hil,by simp;omega⟩))) λ_=> .some ⟨aq aa,hj.1,Nat.le_succ_of_le hj.2⟩)
 .unfold um;dsimp only;rw[eF,aM];exact .some ⟨a.1,Nat.le_trans a.2 hr⟩
theorem N7(w:WfG g)(hi:IdsOk g ids):T (Aa g ids) λl=>LOk g l:=by
 have nL:=w.nL;have nI:=w.nI;have hl:=hi.len;unfold Aa;have mk:∀{Q:List Bool->Prop},Q (List.replicate g.L.length false)->T (rP 1 (false:Bool) (ah g.L)) Q:=λq=> .make (by unfold ah;omega) (by unfold ah;omega) (by unfold ah;omega) (by unfold ah;exact q);refine .bind ((CB w hl).mono λh h1=> .bind (mk (.bind (mk (.bind (mk ?_))))));refine .bind (T.mono (Q:=λx:List Int=>EF g x/\x.length<=1000) (T.forA h.length (λk d=>EF g d/\d.length<=k) aa ⟨.nil,aC⟩ (λk d hk hj=>?_) λd hj=>?_) λj h10=>?_)
 .obtain⟨y,hy,hm⟩:=dk hk;obtain⟨i,o,e,_,ho,_⟩:=w.place (lj.2 (h1.1.sub y hm));have hil:i<g.L.length:=(cr ho).1;unfold uq;simp only[eA hk,ax,au,hy,aL,dC (show g.IDs.length<=1000000 by omega),e];exact .bind (.app cq (.some ⟨aq aa,hj.1.snoc hil,by simp;omega⟩))
 .unfold uq;dsimp only;rw[eF,aM];exact .some ⟨hj.1,by show d.length<=1000;omega⟩
 .refine .bind ((N4 aa).mono λc f=> .bind (T.mono (Q:=λx:List Bool×List Bool=>x.1.length=g.L.length) ?_ λx hx=> .some ⟨h10.1,h10.2,hx,aC⟩));refine T.mono (T.loop (Q:=λx:List Bool×List Bool=>x.1.length=g.L.length) (λs=>∃k:Nat,k<=c.length/\s.2.2=(k:Int)/\s.1.length=g.L.length/\s.2.1.length=g.L.length) (λs=>c.length-s.2.2.toNat) ⟨0,aa,rfl,aC,aC⟩ cq ?_) λ_ hx=>hx;rintro⟨a,b,i⟩ ⟨k,hk,rfl,ha,hb⟩;simp only at ha hb;rcases Nat.lt_or_ge k c.length with hlt|hge
  .obtain⟨y,hy,hm⟩:=dk hlt;obtain⟨i,o,e,_,ho,_⟩:=w.place (lj.2 (hi.sub y (f.2 y hm)));have hil:i<g.L.length:=(cr ho).1;have hw:wI ((k:Int)+1)=((k+1:Nat):Int):=aq aa;have hμ:c.length-(wI ((k:Int)+1)).toNat<c.length-((k:Int)).toNat:=by rw[hw];simp;omega
   unfold uo;simp only[eA hlt,ax,au,hy,aL,dC (show g.IDs.length<=1000000 by omega),e];exact .bind (.set aa aa (.bind (.set aa aa (.some ⟨⟨k+1,aa,hw,by simpa using ha,by simpa using hb⟩,hμ⟩))))
  .obtain rfl:k=c.length:=aa;unfold uo;dsimp only;rw[eF,aM];exact .some ha
theorem yj(w:WfG g){l:D16L}(h:LOk g l)(hk:k<g.L.length):T (sj g l (k:Int)) λb=>b=true->l.Decided[k]?=some false:=by
 obtain⟨o,ho,so,a⟩:=w.op hk;obtain⟨v,hv,_⟩:=dk (l:=l.Void) (k:=k) (by rw[h.nv];exact hk);obtain⟨d,hd,_⟩:=dk (l:=l.Decided) (k:=k) (by rw[h.nd];exact hk);unfold sj;simp only[au,ho,hv,hd,aL];refine .bind (T.mono (Q:=λb:Bool=>b=true->d=false) (.ite (λ_=> .ite (λhd'=>?_) λ_=> .some λe=>by cases e) λ_=> .some λe=>by cases e) λb hb=> .some λe=>by rw[hb e]);have:d=false:=by simpa using hd'
 exact .ite (λ_=> .some λ_=>this) λ_=> .ite (λ_=> .some λ_=>this) λ_=> .some λ_=>this
theorem u5(w:WfG g){x:Nat}(hx:x<g.L.length)(hy:y<g.L.length):T (n9 g (x:Int) (y:Int)) λ_=>True:=by obtain⟨o,ho,_⟩:=w.op hx;obtain⟨q,hq,_⟩:=w.op hy;obtain⟨a,b1,h1,h1'⟩:=w.cell hx hy;obtain⟨b,b2,h2,h2'⟩:=w.cell hy hx;unfold n9;simp only[au,ho,hq,h1,h1',h2,h2',aL];repeat'(first|exact T.some trivial|exact uW (zc w _)|(refine T.bindc ?_ λv _=>?_)|(refine T.ite (λ_=>?_) λ_=>?_))
theorem CD(w:WfG g){l:D16L}(h:LOk g l){x:Nat}(hx:x<g.L.length)(hy:y<g.L.length):T (qW g l (x:Int) (y:Int)) λ_=>True:=by
 have hr:=h.nrow;unfold qW;refine .ite (λ_=> .some trivial) λ_=> .bind (T.mono (Q:=λ_=>True) (T.forI l.Row.length (λ_=>True) aa trivial (λk hk _=>?_) λ_=>?_) λx _=>?_)
 .obtain⟨z,hz,hm⟩:=dk hk;obtain⟨i,rfl,hil⟩:=h.row.nat hm;obtain⟨a,b1,h1,h1'⟩:=w.cell hx hil;unfold qV;simp only[eA hk,ax,au,hz,h1,h1',aL];refine .bindc (.ite (λ_=> .bindc (u5 w hy hil) λ_ _=> .some trivial) λ_=> .ite (λ_=> .bindc (u5 w hy hil) λ_ _=> .some trivial) λ_=> .some trivial) λ_ _=> .ite (λ_=> .some trivial) λ_=> .some ⟨aq aa,trivial⟩
 .unfold qV;rw[eF,aM];exact .some trivial
 .cases x<;>exact .some trivial
theorem zg(hl:l.length<=1000)(d:Int):T (oa l d) λ_=>True:=by
 unfold oa;refine .bind (T.mono (Q:=λ_=>True) (T.forI l.length (λ_=>True) aa trivial (λk hk _=>?_) λ_=>?_) λx _=>?_)
 .obtain⟨z,hz,hm⟩:=dk hk;unfold ph;simp only[eA hk,ax,au,hz,aL];exact .ite (λ_=> .some trivial) λ_=> .some ⟨aq aa,trivial⟩
 .unfold ph;rw[eF,aM];exact .some trivial
 .cases x<;>exact .some trivial
def N8(g:D12G)(D:List Bool)(v:Int):Prop:=v<0\/∃k:Nat,v=(k:Int)/\k<g.L.length/\D[k]?=some false
theorem EH(w:WfG g){l:D16L}(h:LOk g l){sn:List Int}(hs:sn.length<=1000):T (vL g l sn) λv=>N8 g l.Decided v:=by
 have hr:=h.nrow;unfold vL;refine .bind (T.mono (Q:=λx:Int⊕Int=>(∀v,x= .inl v->N8 g l.Decided v)/\∀v,x= .inr v->N8 g l.Decided v) ?_ λx hx=>?_)
 .refine T.loop (λs=>∃k:Nat,k<=l.Row.length/\s.2=(k:Int)/\N8 g l.Decided s.1) (λs=>l.Row.length-s.2.toNat) ⟨0,aa,rfl,.inl a9⟩ cq ?_;rintro⟨a,i⟩ ⟨k,hk,rfl,ha⟩;simp only at ha;rcases Nat.lt_or_ge k l.Row.length with hlt|hge
  .obtain⟨y,hy,hm⟩:=dk hlt;obtain⟨i,rfl,hil⟩:=h.row.nat hm;obtain⟨o,ho,_⟩:=w.op hil;have hw:wI ((k:Int)+1)=((k+1:Nat):Int):=aq aa;have hμ:l.Row.length-(wI ((k:Int)+1)).toNat<l.Row.length-((k:Int)).toNat:=by rw[hw];simp;omega
   unfold uu;simp only[eA hlt,ax,au,hy,ho,aL];refine .bind ((yj w h hil).mono λf h13=> .ite (λ_=> .some ⟨⟨k+1,aa,hw,ha⟩,hμ⟩) λhop=>?_);have hc:N8 g l.Decided (i:Int):= .inr ⟨i,rfl,hil,h13 (by simpa using hop)⟩;refine .bind (T.mono (Q:=λ_:Bool=>True) (T.forA l.Row.length (λ_ _=>True) aa trivial (λj b hj _=>?_) λb _=>?_) λm _=> .ite (λ_=> .some ⟨λv e=>(by cases e),λv e=>(by cases e;exact hc)⟩) λ_=>?_)
   .obtain⟨z,hz,c⟩:=dk hj;obtain⟨q,rfl,hq⟩:=h.row.nat c;unfold ut;simp only[eA hj,ax,au,hz,aL];exact .bindc (.bindc (uW (yj w h hq)) λ_ _=> .ite (λ_=> .bindc (CD w h hil hq) λ_ _=> .some trivial) λ_=> .some trivial) λ_ _=> .ite (λ_=> .some ⟨aq aa,trivial⟩) λ_=> .some ⟨aq aa,trivial⟩
   .unfold ut;dsimp only;rw[eF,aM];exact .some trivial
   .refine .bindc (.dec (λ_=> .some trivial) λhp=>?_) λ_ _=> .ite (λ_=> .some ⟨⟨k+1,aa,hw,hc⟩,hμ⟩) λ_=> .some ⟨⟨k+1,aa,hw,ha⟩,hμ⟩;rcases ha with ha|⟨q,rfl,hq,_⟩
    .exact absurd ha hp
    obtain⟨n,d,_⟩:=w.op hq;have:gB (q:Int) 0=(q:Int):=by unfold gB;split<;>omega
    rw[this,au,d];simp only[aL];exact .bindc (zg hs _) λ_ _=> .bindc (zg hs _) λ_ _=> .some trivial
  .obtain rfl:k=l.Row.length:=aa;unfold uu;dsimp only;rw[eF,aM];exact .some ⟨λv e=>(by cases e;exact ha),λv e=>(by cases e)⟩
 .cases x with
  |inl v=>exact .some (hx.1 v rfl)
  |inr v=>exact .some (hx.2 v rfl)
theorem N9{D:List Bool}(h:D[k]?=some false):(D.set k true).count false<D.count false:=by obtain⟨hk,e⟩:=cr h;have hp:0<D.count false:=List.count_pos_iff.2 (bO h);rw[List.count_set hk,e];simp;omega
theorem Gf(w:WfG g)(hi:IdsOk g ids):T (oR g ids) λl=>LOk g l:=by
 have nL:=w.nL;unfold oR;refine .bind ((N7 w hi).mono λd h1=> .bind ((wP w hi.len).mono λt h3=> .bind ((EH w h1 h3).mono λu h5=> .bind (T.mono (Q:=λx:List Bool×List Bool=>x.1.length=g.L.length/\x.2.length=g.L.length) ?_ λx hx=> .some ⟨h1.row,h1.nrow,hx.1,hx.2⟩))));have hr:=h1.nrow;refine T.mono (T.loop (Q:=λx:List Bool×List Bool=>x.1.length=g.L.length/\x.2.length=g.L.length) (λs=>s.1.length=g.L.length/\s.2.1.length=g.L.length/\N8 g s.2.1 s.2.2) (λs=>s.2.1.count false) ⟨h1.nv,h1.nd,h5⟩ (by show d.Decided.count false<_;have:=List.count_le_length (a:=false) (l:=d.Decided);rw[h1.nd] at this;omega) ?_) λ_ hx=>hx;rintro⟨V,D,c⟩ ⟨hV,hD,hc⟩;simp only at hV hD hc;unfold tw;refine .dec (λh0=>?_) λ_=> .some ⟨hV,hD⟩;rcases hc with hc|⟨c,rfl,hcl,hcd⟩
 .exact absurd (show(0:Int)<=c from h0) aa
 have hL:LOk g {d with Void:=V,Decided:=D}:=⟨h1.row,h1.nrow,hV,hD⟩;refine .bind ((EG w hL).mono λo p=>?_);rw[cX aa,aL];refine .bind (T.mono (Q:=λx:List Int=>EF g x/\x.length<=1000) (T.forA d.Row.length (λk b=>EF g b/\b.length<=k) aa ⟨.nil,aC⟩ (λk b hk hj=>?_) λb hj=>?_) λq f=>?_)
 .obtain⟨y,hy,hm⟩:=dk hk;obtain⟨i,rfl,hil⟩:=h1.row.nat hm;unfold nh;simp only[eA hk,ax,au,hy,aL];exact .bindc (.bindc (u5 w hcl hil) λ_ _=> .ite (λ_=> .some trivial) λ_=> .bindc (uW (yj w hL hil)) λ_ _=> .ite (λ_=> .bindc (CD w hL hcl hil) λ_ _=> .some trivial) λ_=> .some trivial) λ_ _=> .ite (λ_=> .bind (.app cq (.some ⟨aq aa,hj.1.snoc hil,by simp;omega⟩))) λ_=> .some ⟨aq aa,hj.1,Nat.le_succ_of_le hj.2⟩
 .unfold nh;dsimp only;rw[eF,aM];exact .some ⟨hj.1,Nat.le_trans hj.2 hr⟩
 .refine .bind (T.mono (Q:=λx:List Int=>EF g x/\x.length<=1000) (.ite (λ_=> .some ⟨?_,aC⟩) λ_=> .some f) λh j=> .bind (.set (by show(0:Int)<=(c:Int);omega) (by show(c:Int)<(D.length:Int);omega) ?_))
  .exact EF.nil.snoc hcl
  refine .bind (T.mono (Q:=λx:List Bool=>x.length=g.L.length) (T.forA h.length (λ_ x=>x.length=g.L.length) aa hV (λk b hk hj=>?_) λb hj=>?_) λm e=>?_)
  .obtain⟨y,hy,hm⟩:=dk hk;obtain⟨i,rfl,hil⟩:=j.1.nat hm;unfold ng;simp only[eA hk,ax,au,hy,aL];exact .bind (.set aa aa (.some ⟨aq aa,by simpa using hj⟩))
  .unfold ng;dsimp only;rw[eF,aM];exact .some hj
  .have hL2:LOk g {d with Void:=m,Decided:=D.set c true}:=⟨h1.row,h1.nrow,e,by simpa using hD⟩;refine .bind ((EH w hL2 h3).mono λr n=> .some ⟨⟨e,by simpa using hD,n⟩,?_⟩);exact N9 hcd
theorem Oa(w:WfG g)(hi:IdsOk g ids):T (zY g ids) λr=>RkS g 1000 r/\Nd r:=by
 have nL:=w.nL;unfold zY AV;rw[aL];refine .bind ((Gf w hi).mono λb h3=> .bind ((EG w h3).mono λl hl=>?_));refine .bind (T.mono (Q:=λr=>RkS g 1000 r/\Nd r) (T.forA l.length (λj r=>RkS g j r/\Nd r) aa ⟨Mv g,QM g⟩ (λj r hj hr=>?_) λr hr=>?_) λr hr=> .some hr)
 .obtain⟨y,hy,hm⟩:=dk hj;obtain⟨i,rfl,hil⟩:=hl.1.nat hm;obtain⟨o,ho,so,a⟩:=w.op hil;obtain⟨x,hx,_⟩:=w.id hil;unfold tQ;simp only[eA hj,ax,au,hy,ho,hx,aL];exact .bind ((Gc w aa hr.1 so x).mono λv hv=> .some ⟨aq aa,hv.1,hv.2 (λe=>(l8 a.numbers e).1) hr.2⟩)
 .unfold tQ;dsimp only;rw[eF,aM];exact .some ⟨hr.1.up hl.2,hr.2⟩
theorem KJ(w:WfG g)(so:SmOp o):T (qo g o) λl=>l.length<=3000:=by
 unfold qo;refine .bind ((yf w so.sPast.1).mono λn h1=> .bindc (CA (by have:=h1.1.len;omega) _) λp _=> .bindc (.ite (λ_=> .some trivial) λ_=> .some trivial) λ_ _=> .ite (λ_=> .some aC) λ_=>?_);refine .bind ((Oa w h1.1).mono λq h8=> .bind ((wN so).mono λb _=> .bindc (Iu w aa h8.1 h8.2 so b) λ_ _=> .ite (λ_=> .some aC) λ_=>?_));refine .bind ((Gc w aa h8.1 so b).mono λh c=> .bind ((Gd aa c.1).mono λd i=> .bind ((wP w h1.1.len).mono λe f=>?_)));have hin:=c.1.dev;refine .bind (T.mono (Q:=λx:List Int=>x.length<=1000) (T.forA e.length (λk a=>a.length<=k) aa aC (λk a hk hj=>?_) λa hj=>?_) λj m=> .bind (T.mono (Q:=λx:List Int=>x.length<=3000) (T.forA d.length (λk a=>a.length<=1000+k) aa aa (λk a hk hj=>?_) λa hj=>?_) λx hx=> .some hx))
 .obtain⟨y,hy,hm⟩:=dk hk;unfold qn;simp only[eA hk,ax,au,hy,aL,cX (show d.length<=1000000 by omega)];exact .ite (λ_=> .bind (.app cq (.some ⟨aq aa,by simp;omega⟩))) λ_=> .some ⟨aq aa,Nat.le_succ_of_le hj⟩
 .unfold qn;dsimp only;rw[eF,aM];exact .some (Nat.le_trans hj f)
 .obtain⟨y,hy,hm⟩:=dk hk;unfold qm;simp only[eA hk,ax,au,hy,aL,cX (show e.length<=1000000 by omega)];exact .ite (λ_=> .bind (.app cq (.some ⟨aq aa,by simp;omega⟩))) λ_=> .some ⟨aq aa,Nat.le_succ_of_le hj⟩
 .unfold qm;dsimp only;rw[eF,aM];exact .some (by show a.length<=3000;omega)
theorem Oc{n:Nat}(h:2<=n)(hn:n<=1000000):T (zZ (n:Int)) λv=>∃k:Nat,v=(k:Int)/\1<=k/\k<n:=by
 unfold zZ;refine .bind (T.mono (Q:=λv:Int=>∃k:Nat,v=(k:Int)/\1<=k/\k<n) (T.loop (λs=>∃k:Nat,s=(k:Int)/\1<=k/\k<n) (λs=>n-s.toNat) ⟨1,rfl,aa,aa⟩ cq ?_) λv hv=> .some hv);rintro s ⟨k,rfl,h1,h2⟩;unfold AE;have e:wI (2*(k:Int))=((2*k:Nat):Int):=by rw[bM aa aa];omega
 rw[e];refine .dec (λhp=> .some ⟨⟨2*k,rfl,aa,aa⟩,?_⟩) λ_=> .some ⟨k,rfl,h1,h2⟩;simp;omega
theorem u6:∀(nn:Nat) (l:List Int),l.length<nn->l.length<=1000000->T (lv nn l) λr=>r.length<=2*l.length-1/\∀y∈r,y.length<=l.length
 |0,_,h,_=>absurd h (Nat.not_lt_zero _)
 |nn+1,l,h,hl=>by
  unfold lv;refine .dec (λ_=> .some ⟨aC,aC⟩) λh0=> .dec (λh1=>?_) λh1=>?_
  .unfold ah at h0 h1;exact .some ⟨by simp;omega,aC⟩
  .unfold ah at h0 h1⊢;refine .bind ((Oc (n:=l.length) aa hl).mono λd hv=>?_);obtain⟨k,rfl,k1,k2⟩:=hv;refine .bind (.pre aa aa ?_);rw[Int.toNat_natCast];refine .bind ((u6 nn (l.take k) cq cq).mono λe h7=> .bind (.app (by simp at h7⊢;omega) (.bind (.suf aa aa ?_))));rw[Int.toNat_natCast];refine .bind ((u6 nn (l.drop k) cq cq).mono λc h13=> .bind (.app (by simp at h7 h13⊢;omega) (.some ?_)));simp only[List.length_take,List.length_drop] at h7 h13;have e1:min k l.length=k:=aa;rw[e1] at h7;refine⟨?_,λy hy=>?_⟩
   .have a:=h7.1;have b:=h13.1;simp only[List.length_append,List.length_singleton];omega
   .simp only[List.mem_append,List.mem_singleton] at hy;rcases hy with(rfl|hy)|hy
    .exact Nat.le_refl _
    .have:=h7.2 y hy;omega
    .have:=h13.2 y hy;omega
theorem Od(hl:l.length<=100000)(d:Int):T (z5 l d) λr=>r.length<=200000:=by
 unfold z5 z0;refine .bind ((u6 _ l aa aa).mono λb h1=>?_);have e:wI (ah b-1)=ah b-1:=bM (by unfold ah;omega) (by unfold ah;omega);rw[e];refine .bind (T.mono (Q:=λr:List (List Int)=>r.length<=200000) (T.loop (λs=> -1<=s.2/\s.2<(b.length:Int)/\s.1.length+(s.2+1).toNat<=b.length) (λs=>(s.2+1).toNat) ⟨by unfold ah;show-1<=(b.length:Int)-1;omega,by unfold ah;show(b.length:Int)-1<_;omega,by unfold ah;show([]:List (List Int)).length+((b.length:Int)-1+1).toNat<=_;simp⟩ (by unfold ah;show((b.length:Int)-1+1).toNat<_;omega) ?_) λ_ h=> .some h);rintro⟨a,i⟩ ⟨i1,c,f⟩;simp only at i1 c f;unfold AF;refine .dec (λh0=>?_) λ_=> .some (by show a.length<=_;omega);replace h0:0<=i:=h0;refine .bind (.ixl h0 (by show i<_;omega) λy hy hm=>?_);have hw:wI (i-1)=i-1:=bM aa aa;rw[cX (by have:=h1.2 y hm;omega),aL];refine .ite (λ_=>?_) λ_=> .some ⟨⟨?_,?_,?_⟩,?_⟩
 .rw[show aS b (a,i).2=aS b i from rfl];refine .bind (.ixl h0 aa λz _ _=> .bind (.app (by show(a.length+1)*24<=_;omega) (.some ⟨⟨?_,?_,?_⟩,?_⟩)))
  .show-1<=wI (i-1);omega
  .show wI (i-1)<_;omega
  .show(a++[z]).length+(wI (i-1)+1).toNat<=_;rw[hw];simp;omega
  .show(wI (i-1)+1).toNat<(i+1).toNat;omega
 .show-1<=wI (i-1);omega
 .show wI (i-1)<_;omega
 .show a.length+(wI (i-1)+1).toNat<=_;omega
 .show(wI (i-1)+1).toNat<(i+1).toNat;omega
theorem zh(k:Int):T (eM k) λ_=>True:=by unfold eM;repeat'(first|exact T.some trivial|(refine T.bindc ?_ λv _=>?_)|(refine T.ite (λ_=>?_) λ_=>?_))
theorem Iv(w:WfG g)(so:SmOp o):T (jm g o) λl=>l.length<=200000:=by unfold jm;refine .bindc (zh _) λa _=> .ite (λ_=> .some aC) λ_=> .bind ((KJ w so).mono λb h4=>?_);rw[cX aa,aL];exact .ite (λ_=> .some aC) λ_=> .bind ((Od aa _).mono λv hv=> .some hv)
inductive Grown (g0:D12G):D12G->Prop
 |base:Grown g0 g0
 |step {g:D12G} {o:DOp} {id:DIdent} {up:List Int} {row:List Bool}:Grown g0 g->WfG g->SmOp o->fS o.Sig.R->fS o.Sig.S->AddOk g o up->pV o=some id->jA g up=some row->Grown g0 (pL g o id up row)
def u7:List DCard:=(ql [1,2,3,1,2,3]).getD []
theorem Oe:ql [1,2,3,1,2,3]=some u7:=aH
def KK(c:DCard):Bool:=decide (1<=c.Device/\c.Device<=6/\1<=c.Member/\c.Member<=3/\c.Sign<18446744073709551616)
theorem Og:u7.all KK=true:=aH
theorem KL:u7.length=6:=aH
attribute [irreducible] u7
def g0:D12G:=⟨u7,[],[],[],[]⟩
theorem Yu:WfG g0 where
 nL:=by simp[g0]
 nI:=rfl
 nU:=rfl
 nN:=rfl
 nC:=by show u7.length<=1000;rw[KL];decide
 cards:=λc hc=>by have h:KK c=true:=List.all_eq_true.1 Og c hc;unfold KK at h;have:=of_decide_eq_true h;unfold c8 fS;omega
 up:=λi u h=>by simp[g0] at h
 rows:=λi r h=>by simp[g0] at h
 inlt:=λi k h=>by simp[vf,g0] at h
 ops:=λi o h=>by simp[g0] at h
 ids:=λi o id h=>by simp[g0] at h
 nd:=by simp[g0]
 one:=λi k u h=>by simp[g0] at h
 tr:=λi j k u h=>by simp[vf,g0] at h
 la:=λi k h=>by simp[vf,g0] at h
theorem Oh(hl:l.length<=9223372036854775807)(hi:∀x∈l,c8 x)(hm:most<=1000)(hk:k<=1000)(w:WfG g)(C:Grown g0 g):T (ly l most (g,(k:Int))) (Rd (λs'=>s'.2=((k+1:Nat):Int)/\k<1000/\WfG s'.1/\Grown g0 s'.1/\(g.L≠[]->s'.1.L≠[])) λv=>v=g/\(k=0->most<=0)):=by
 have e2:wI (2*(k:Int))=((2*k:Nat):Int):=by rw[bM aa aa];omega
 have e3:wI (((2*k:Nat):Int)+1)=((2*k+1:Nat):Int):=aq aa;have at_:∀(n:Nat) {Q:Int->Prop},(∀v,c8 v->Q v)->T (bif decide ((n:Int)<ah l) then((aS l (n:Int)).bind λr=>some r) else(some 0)) Q:=λn Q q=>by refine .dec (λhp=>?_) λ_=> .some (q 0 dP);refine .bind (.ixl aa (by unfold ah at hp;omega) λy _ hy=> .some (q y (hi y hy)))
 unfold ly;simp only[e2,e3];refine .bind (T.mono (Q:=λb:Bool=>(b=true->k<1000)/\(b=false->k=0->most<=0)) (.dec (λhp=>?_) λhp=> .some ⟨λe=>(by cases e),λ_ e=>(by subst e;exact Int.not_lt.1 hp)⟩) λb hb=> .ite (λe=>?_) λe=> .some ⟨rfl,hb.2 e⟩)
 .have:k<1000:=aa;refine .ite (λ_=> .some ⟨λ_=>this,λe=>(by cases e)⟩) λh4=> .some ⟨λ_=>this,λ_ e=>?_⟩;subst e;exact absurd h4 (λe=>Bool.noConfusion e)
 have hk':=hb.1 e;have hw:wI ((k:Int)+1)=((k+1:Nat):Int):=aq aa;refine .bind (at_ (2*k) λD t=> .bind (at_ (2*k+1) λE m=>?_));refine .bind ((N2 w t m).mono λu c=> .bind ((Iv w c.nopath).mono λF H=> .bindc (uW (eX m a9)) λI _=> .bindc (.ite (λ_=> .some trivial) λ_=> .some trivial) λJ _=> .bindc (zh _) λK _=>?_));refine .bind (T.mono (Q:=λx:List DNode=>x.length<=1000/\∀y∈x,SmNode y) (T.loop (λs=>∃j:Nat,s.2=(j:Int)/\j<=5/\s.1.length<=j/\∀y∈s.1,SmNode y) (λs=>6-s.2.toNat) ⟨0,rfl,aa,aC,aC⟩ aC ?_) λz A=>?_)
 .rintro⟨a,i⟩ ⟨j,rfl,hj,ha,hs⟩;simp only at ha hs;have hwj:wI ((j:Int)+1)=((j+1:Nat):Int):=aq aa;unfold lw;refine .bind (T.mono (Q:=λb:Bool=>b=true->j<5) (.ite (λ_=> .ite (λ_=> .some λe=>?_) λ_=> .some λe=>by cases e) λ_=> .some λe=>by cases e) λb hb=> .ite (λe=>?_) λ_=> .some ⟨by show a.length<=1000;omega,hs⟩)
  .have:=of_decide_eq_true e;exact Int.ofNat_lt.1 this
  .have:=hb e;refine .bind (.bind (.app cq (.some (.some ⟨⟨j+1,hwj,aa,by simp;omega,λy hy=>?_⟩,?_⟩))))
   .rcases List.mem_append.1 hy with hy|hy
    .exact hs y hy
    .simp at hy;subst hy;exact⟨Mp _,aC,aC⟩
   .show 6-(wI ((j:Int)+1)).toNat<6-((j:Int)).toNat;rw[hwj];simp;omega
 .have so:SmOp {u with Path:=z}:=eG c.iBy c.iSeq c.iKind c.iAt c.sPast c.iDevice c.iOld c.iMember c.iRole A c.epoch c.iN c.nBody c.sRefs c.of_ c.sGuards c.iNeed c.iWait c.sBoxes c.pub c.sHist;refine .bind ((Io so).mono λM B=>?_);obtain⟨s,rfl,hr,hs⟩:=B;refine .bind ((QG w (so.sig s) hs).mono λo f=> .dec (λh0=> .some ⟨hw,hk',f.1,?_,?_⟩) λ_=> .some ⟨hw,hk',w,C,λh=>h⟩)
  .rcases f.2 with⟨h,_⟩|⟨id,up,row,_,a,p,d,hg⟩
   .exact absurd h0 h
   .show Grown g0 o.1;rw[hg];exact .step C w (so.sig s) hr hs a p d
  .rcases f.2 with⟨h,_⟩|⟨id,up,row,_,a,p,d,hg⟩
   .exact absurd h0 h
   .intro _;show o.1.L≠[];rw[hg];show g.L++[_]≠[];simp
def We(c:Int):DOp:=⟨1,1,1,0,[],0,0,0,0,[],⟨0,0,0⟩,0,[],[],⟨0,0,0⟩,[],c,0,[],0,[],⟨0,0⟩⟩
theorem Yv{b:Int}(ha:c8 a)(hb:c8 b):∃c∈([0,1,2,3]:List Int),sd g0 a b=some (We c):=by
 obtain⟨d,e1,h1⟩:=eX ha (show(0:Int)<1000000 by decide);obtain⟨e,e3,h3⟩:=eX hb (show(0:Int)<1000000 by decide);obtain⟨f,e5,_⟩:=EE h3.1;refine⟨d.tmod 4,?_,?_⟩
 .have p:=Int.tmod_nonneg 4 h1.1;have q:=Int.tmod_lt_of_pos d (show(0:Int)<4 by decide);simp only[List.mem_cons,List.not_mem_nil,or_false];omega
 .unfold sd;rw[e1,aL,e3,aL,e5,aL];rfl
def Mw(c:Int)(b:Bool):Option (D12G×Int):=(jm g0 ({We c with Path:=[]})).bind λa=>(bif b then(some (wI ((ah a)+1))) else(some (ah a))).bind λd=>(eM (We c).Kind).bind λe=>(loop (lw (g0,0) d e) ([],0)).bind λf=>(nR ({We c with Path:=f})).bind λg=>AO g0 g
theorem QO:(([0,1,2,3]:List Int).all λc=>[true,false].all λb=>(Mw c b).map (λr=>(r.2,r.1.L.length))==some (0,1))=true:=aH
theorem Tm{c:Int}(hc:c∈([0,1,2,3]:List Int))(b:Bool):∃r,Mw c b=some r/\r.2=0/\r.1.L.length=1:=by
 have h:=List.all_eq_true.1 (List.all_eq_true.1 QO c hc) b (by cases b<;>simp);cases e:Mw c b with
 |none=>rw[e] at h;cases h
 |some r=>rw[e] at h;have h2:=eq_of_beq h;simp only[Option.map_some,bg,Prod.mk.injEq] at h2;exact⟨r,rfl,h2⟩
theorem KM(hi:∀x∈l,c8 x)(h0:0<most){r:(D12G×Int)⊕D12G}(h:ly l most (g0,((0:Nat):Int))=some r):∃g,r= .inl (g,1)/\g.L.length=1:=by
 have at_:∀(n:Int),0<=n->∃v,c8 v/\(bif decide (n<ah l) then((aS l n).bind λk=>some k) else(some 0))=some v:=λn hn=>by
  by_cases hp:n<ah l
  .have hl:n.toNat<l.length:=by unfold ah at hp;omega
   refine⟨l[n.toNat],hi _ (List.getElem_mem hl),?_⟩;rw[decide_eq_true hp,ax];unfold aS;rw[if_pos hn,cv hl,aL]
  .exact⟨0,dP,by rw[decide_eq_false hp,aM]⟩
 have e2:wI (2*((0:Nat):Int))=0:=bM a9 a9;have e3:wI ((0:Int)+1)=1:=bM a9 a9;have e4:wI (((0:Nat):Int)+1)=1:=bM a9 a9;obtain⟨a,ha,ea⟩:=at_ 0 a9;obtain⟨b,hb,eb⟩:=at_ 1 a9;obtain⟨c,hc,s⟩:=Yv ha hb;obtain⟨d,m,_⟩:=eX hb (show(0:Int)<31 by decide);obtain⟨q,hq,q1,o⟩:=Tm hc (decide (d=30));unfold Mw at hq;unfold ly at h;simp only[e2,e3,e4] at h;rw[decide_eq_true (show((0:Nat):Int)<most from h0),decide_eq_true (show((0:Nat):Int)<4 by decide),ax,ax,aL,ax,ea,aL,eb,aL,s,aL] at h;cases hs:jm g0 ({We c with Path:=[]}) with
 |none=>rw[hs] at hq;cases hq
 |some e=>
  rw[hs,aL] at hq;rw[hs,aL,m,aL] at h;cases hj:(bif decide (d=30) then(some (wI ((ah e)+1))) else(some (ah e)):Option Int) with
  |none=>rw[hj] at hq;cases hq
  |some f=>
   rw[hj,aL] at hq h;cases hk:eM (We c).Kind with
   |none=>rw[hk] at hq;cases hq
   |some i=>
    rw[hk,aL] at hq h;cases hx:loop (lw (g0,0) f i) ([],0) with
    |none=>rw[hx] at hq;cases hq
    |some j=>
     rw[hx,aL] at hq;rw[show loop (lw (g0,((0:Nat):Int)) f i) ([],0)=some j from hx,aL] at h;cases hg:nR ({We c with Path:=j}) with
     |none=>rw[hg] at hq;cases hq
     |some p=>rw[hg,aL] at hq h;rw[hq,aL,decide_eq_true q1,ax] at h;cases h;exact⟨q.1,rfl,o⟩
theorem Wf(hl:l.length<=9223372036854775807)(hi:∀x∈l,c8 x){most:Int}(h0:0<most)(hm:most<=1000):T (vq l most) λg=>WfG g/\Grown g0 g/\g.L≠[]:=by
 unfold vq r8;rw[aL,Oe,aL];unfold Jf;rw[aL];refine .bind (T.mono (Q:=λg:D12G=>WfG g/\Grown g0 g/\g.L≠[]) (T.loop (λs=>∃k:Nat,s.2=(k:Int)/\k<=1000/\WfG s.1/\Grown g0 s.1/\(k=0->s.1=g0)/\(k≠0->s.1.L≠[])) (λs=>1001-s.2.toNat) ⟨0,rfl,aa,Yu,.base,λ_=>rfl,λh=>absurd rfl h⟩ aC ?_) λv hv=> .some hv);rintro⟨g,i⟩ ⟨k,rfl,hk,w,b,hz,a⟩;obtain⟨r,e,hr⟩:=Oh hl hi hm hk w b;refine⟨r,e,?_⟩;cases r with
 |inr v=>obtain⟨rfl,h⟩:=hr;exact⟨w,b,a λe=>by have:=h e;omega⟩
 |inl s=>
  obtain⟨h1,h2,h3,h4,h5⟩:=hr;refine⟨⟨k+1,h1,aa,h3,h4,λe=>absurd e aa,λ_=>?_⟩,?_⟩
  .by_cases hk0:k=0
   .subst hk0;have:=hz rfl;simp only at this;subst this;obtain⟨c,e',hl'⟩:=KM hi h0 e;cases e';intro hn;have hl'':c.L.length=1:=hl';rw[show c.L=[] from hn] at hl'';cases hl''
   .exact h5 (a hk0)
  .rw[h1];show 1001-(((k+1:Nat):Int)).toNat<1001-((k:Int)).toNat;simp;omega
theorem T6(m:FM DIdent Int)(i:DIdent)(n:Int)(x:DIdent):(CW m i n).get x=match m.get x with|some v=>some v|none=>if i=x then some n else none:=by
 unfold CW FM.get;rw[List.find?_append];cases h:m.es.find? λe=>decide (e.1=x) with
 |some e=>rfl
 |none=>simp only[Option.none_or,Option.map_none,List.find?_cons,List.find?_nil];by_cases e:i=x<;>simp[e]
theorem EV{k x:DIdent}:∀{l:List DIdent},bu k (l++[x])=match bu k l with|some n=>some n|none=>if x=k then some l.length else none
 |[]=>by
  show(if k=x then some 0 else(none:Option Nat).map _)=_;by_cases e:k=x
  .simp[e,bu]
  .simp[e,Ne.symm e,bu]
 |y::r=>by
  rw[List.cons_append,bu,bu];by_cases e:k=y
  .rw[if_pos e,if_pos e]
  .rw[if_neg e,if_neg e,EV (l:=r)];cases bu k r with
   |some n=>rfl
   |none=>by_cases e2:x=k<;>simp[e2]
theorem T7(hn:g.Cards.length<=1000000){d:Int}{c:DCard}(h:mZ g d=(c,true)):hY ⟨g.Cards,m,N⟩ d=some (c,true):=by
 unfold mZ at h;unfold hY;refine T.eq (.bind (T.forA g.Cards.length (λk f=>∀(j:Nat) (c:DCard),j<k->g.Cards[j]?=some c->c.Device≠d) aa (λj c hj=>absurd hj (Nat.not_lt_zero _)) (λk f hk hj=>?_) λf hj=>?_))
 .obtain⟨x,hx⟩:∃x,g.Cards[k]?=some x:=⟨_,cv hk⟩;unfold ij;dsimp only;rw[eA hk,ax,au,hx,aL];refine .dec (λe=> .some (.some ?_)) λe=> .some ⟨aq aa,λj c' b a=>?_⟩
  .have hf:g.Cards.find? (λc=>decide (c.Device=d))=some x:=by rw[List.find?_eq_some_iff_getElem];refine⟨decide_eq_true e,k,hk,(cr hx).2,λj b=>?_⟩;have:=hj j _ b (cv aa);simpa using this
   rw[hf] at h;exact h
  .rcases Nat.lt_or_ge j k with hlt|hge
   .exact hj j c' hlt a
   .obtain rfl:j=k:=aa;rw[hx] at a;cases a;exact e
 .unfold ij;dsimp only;rw[eF,aM];exfalso;have hf:g.Cards.find? (λc=>decide (c.Device=d))=none:=by rw[List.find?_eq_none];intro c hc;obtain⟨j,hj'⟩:=List.getElem?_of_mem hc;have:=hj j c (cr hj').1 hj';simpa using this
  rw[hf] at h;cases h
theorem T8(w:WfG g)(pg:PgOk g m N){id:DIdent}{up:List Int}{row:List Bool}(sm:SmOp o)(hs:fS o.Sig.S)(a:AddOk g o up)(q:pV o=some id)(i:jA g up=some row):
  ∃y:DGraphNode,y.o=o/\y.id=id/\PgOk (pL g o id up row) (CW m id N.length) (N++[y])/\jg prog fI 50 [.ref 0 0,.agg (aJ o)] [(0,oG g.Cards N.length 2),(1,oM m),(2,zQ N)] 3 (iG 0) [(0,oG g.Cards (N++[y]).length 3),(1,oM (CW m id N.length)),(3,zQ (N++[y]))] 4:=by
 have nL:=w.nL
 have nI:=w.nI
 have pl:=pg.len
 have H:=a.room
 have f:=T1 a.check.numbers
 have ul:up.length<=12:=by rw[a.upl];exact pK a.check.long
 obtain⟨F,d,D,E⟩:=yc w (up:=up) aa a.upb
 rw[i] at d
 cases d
 obtain⟨Q,l,hfr⟩:=a.id
 rw[q] at l
 cases l
 obtain⟨c,hc,r⟩:=a.card
 obtain⟨W,hr1,t⟩:=a.right
 rw[i] at hr1
 cases hr1
 obtain⟨v,hv,u⟩:=Xb w (o:=o) D
 rw[t] at hv
 cases hv
 have I:=u rfl
 obtain⟨⟨p,b,R,C⟩,h1,e1,e2,e3,e4,e5⟩:=ZF w pg a sm
 dsimp only at e1 e2 e3 e4 e5
 have hbeh:∀j:Nat,j<256->(gW (vd b p) j=true↔behind g up j):=λj hj=>by rw[RP,Bool.or_eq_true,e1 j hj,e2 j hj];unfold behind;exact Or.comm
 obtain⟨⟨last,U⟩,h4,e6,e7⟩:=ZG (A:=vd b p) w pg f (λj hj=>by rw[hbeh j aa,E j hj]) I
 dsimp only at e6 e7
 obtain⟨V,z,s⟩:=TU sm
 rw[q] at s
 cases s
 have ap:AddP g.Cards m N o id c (pT o.Kind):={
  chk:=RL a.check sm
  sm:=sm
  cl:=RM sm
  id:=z
  fresh:=by rw[pg.get,hfr];rfl
  room:=aa
  card:=T7 (by have:=w.nC;omega) hc
  by_:=(yd hc).2.symm
  sig:=TW (by have:=yY sm;omega) r
  create:=λhk=>by have:=a.create hk;exact List.eq_nil_of_length_eq_zero (by rw[pl,this];rfl)
  nPast:=by have:=sm.nPast;omega
  par:=λx hx=>by obtain⟨k,hk⟩:=List.getElem?_of_mem hx;obtain⟨n,hn,_⟩:=a.par k x hk;have hnl:n<g.IDs.length:=(cr (gb hn).1).1;exact⟨n,by rw[pg.get,hn];rfl,aa⟩}
 have h2:ZA p b 4=z4:=RQ λj hj=>λ⟨hp,hb⟩=>by obtain⟨n,hn,B⟩:=(e2 j hj).1 hb;have:=a.apart n j hn ((e1 j hj).1 hp);rw[B] at this;cases this
 refine⟨⟨o,id,vd b p,C⟩,rfl,rfl,⟨?_,?_,?_⟩,W7 ap h1 h2 (decide_eq_false aa) h4 (decide_eq_false aa) e7⟩
 .show(N++[_]).length=(g.L++[o]).length
  simp[pl]
 .intro k y hy
  have inx:=kU w (o:=o) (id:=id) (up:=up) D
  rcases je hy with⟨hk,h⟩|⟨hk,rfl⟩
  .obtain⟨J,K,M,O,P⟩:=pg.nd k y h
   refine⟨Ms J,Ms K,λj hj=>?_,O,P⟩
   rw[M j hj]
   have:=inx k j
   cases h1:vf g k j<;>cases h2:vf (pL g o id up row) k j<;>rw[h1,h2] at this<;>simp at this<;>first|rfl|omega
  .subst hk
   refine⟨by rw[pl];exact F8,by rw[show N.length=g.IDs.length by omega];exact F8,λj hj=>?_,e4,e5⟩
   have:=inx N.length j
   have hb:=hbeh j hj
   have hrj:row[j]?=some true↔behind g up j:=by
    rcases Nat.lt_or_ge j g.L.length with h|h
    .exact E j h
    .constructor
     .intro h2;have:=(cr h2).1;omega
     .rintro(h2|⟨n,h2,h3⟩)
      .have:=(a.upb _ h2).2;omega
      .have:=w.inlt n j h3;omega
   have h3:vf (pL g o id up row) N.length j=true↔gW (vd b p) j=true:=by
    rw[this,hb,<-hrj];constructor
    .rintro(⟨h,_⟩|⟨_,h⟩)
     .omega
     .exact h
    .intro h;exact .inr ⟨pl,h⟩
   cases h1:gW (vd b p) j<;>cases h2:vf (pL g o id up row) N.length j<;>rw[h1,h2] at h3<;>simp at h3⊢
   all_goals(show _=_;first|exact h1|skip)
 .intro x
  rw[T6,pg.get,show(pL g o id up row).IDs=g.IDs++[id] from rfl,EV]
  cases bu x g.IDs with
  |some n=>rfl
  |none=>
   by_cases e:id=x
   .simp[e];omega
   .simp[e]
theorem OL{b:D12G}(h:Grown b g)(hb:b.L=[])(hi:b.IDs=[])(hs:xf b.Cards):∃(c:Nat->FM DIdent Int) (N:List DGraphNode),g.Cards=b.Cards/\g.L.length<=200/\OfRun g c N/\PgOk g (c g.L.length) N:=by
 induction h with
 |base=>refine⟨λ_=>⟨[],0⟩,[],rfl,by rw[hb];exact Nat.zero_le _,⟨hs,by rw[hb];exact Nat.zero_le _,by rw[hb];rfl,rfl,λk o ho=>by rw[hb] at ho;simp at ho⟩,⟨by rw[hb];rfl,λk y hy=>by simp at hy,λx=>by rw[hi];rfl⟩⟩
 | @step g o id up row gr w sm _ f a i d ih=>
  obtain⟨c,N,hc,hl,hrun,pg⟩:=ih;have pl:=pg.len;have m:=a.room;obtain⟨y,n,q,j,hm⟩:=T8 w pg sm f a i d;have el:(pL g o id up row).L=g.L++[o]:=rfl;have ell:(pL g o id up row).L.length=g.L.length+1:=by rw[el];simp
  have eC:(pL g o id up row).Cards=g.Cards:=rfl;refine⟨λk=>if k<=g.L.length then c k else CW (c g.L.length) id N.length,N++[y],hc,aa,⟨by rw[eC];exact hrun.srt,aa,by rw[ell];simp[pl],by show(if 0<=g.L.length then c 0 else _)=_;rw[if_pos (Nat.zero_le _)];exact hrun.m0,λk p hp=>?_⟩,?_⟩
  .rw[eC];rcases je (l:=g.L) (x:=o) hp with⟨hk,h⟩|⟨hk,rfl⟩
   .rw[if_pos aa,if_pos aa,List.take_append_of_le_length aa,List.take_append_of_le_length aa];exact hrun.step k p h
   .subst hk;rw[if_pos (Nat.le_refl _),if_neg aa,<-pl,List.take_left,List.take_of_length_le aC];rw[<-pl] at hm;have e:(N++[y]).length=N.length+1:=aC;rw[e] at hm;exact hm
  .rw[ell];dsimp only;rw[if_neg aa];exact j
def R5(l:List DCard):Bool:=decide (l.length<=12)&&(List.range 12).all λk=>match l[k]?,l[k+1]? with
 |some a,some b=>decide (a.Device<=b.Device)&&(decide (0<=a.Device)&&decide (b.Device<=1000000))
 |_,_=>true
theorem OM{l:List DCard}(h:R5 l=true):xf l:=by unfold R5 at h;simp only[bA,decide_eq_true_eq] at h;refine⟨h.1,λk a b ha hb=>?_⟩;have hk:=(cr ha).1;have:=List.all_eq_true.1 h.2 k (List.mem_range.2 aa);rw[ha,hb] at this;simpa using this
theorem Ls:xf u7:=OM aH
structure MadeOk (r:D12G) (ms:Nat->FM DIdent Int) (N:List DGraphNode):Prop where
 wf:WfG r
 ne:r.L≠[]
 run:OfRun r ms N
 pg:PgOk r (ms r.L.length) N
theorem Xe(hl:l.length<=9223372036854775807)(hi:∀x∈l,c8 x):∃r a N,vq l 14=some r/\MadeOk r a N:=by obtain⟨r,e,w,g,ne⟩:=Wf hl hi (most:=14) a9 a9;obtain⟨a,N,_,_,h3,h4⟩:=OL g rfl rfl Ls;exact⟨r,a,N,e,w,ne,h3,h4⟩
abbrev oN3(N:List DGraphNode)(n:Nat):Option Ob:=zQ (N.take n)
theorem Ui{r:D12G}{ms:Nat->FM DIdent Int}(e:vq l 14=some r)(h:MadeOk r ms N):jg prog fI 4 [aE cZ l] [] 0 (.tup [.ref 0 0,.agg (aI r)]) [(0,oG r.Cards r.L.length 2),(1,oM (ms r.L.length)),(2,oN3 N r.L.length)] 3:=by refine pP func4 ?_;exact mt .ret (s0 10 fI [(2,.ref 0 0),(3,.ptr (aI r) 0)] [(0,oG r.Cards r.L.length 2),(1,oM (ms r.L.length)),(2,oN3 N r.L.length)] 3 0) [.ref 0 0,.agg (aI r)] [hf 6 (Jm fI e),tN 8 [] 2 [] [.agg (aI r)] [ob 0 167 [aE bv r.Cards,.mref 3,.rsl 4 0 r.L.length],(1,oM (ms r.L.length)),(2,oN3 N r.L.length)] (ZC h.run) trivial ⟨⟨rfl,.inl rfl⟩,⟨rfl,rfl,rfl,rfl,.inr ⟨rfl,cf _⟩⟩,⟨rfl,.inr ⟨rfl,az.imm _⟩⟩,trivial⟩] [hc (eB (gs:=aI r) aH),hc (rfl:r.L.length=r.L.length),hc (cf (ms r.L.length)),hc (az.imm (N.take r.L.length))] (ρ:=[(0,2),(1,3),(2,4)]) (kd:=[(2,.row)])
def Se(r:D12G)(a:List D23Act)(s:FM DHoldName Nat×D23H×Int):Option ((FM DHoldName Nat×D23H×Int)⊕(FM DHoldName Nat×D23H)):=
 bif decide (s.2.2<ah a) then(aS a s.2.2).bind λy=>(u9 y.At (ah r.IDs)).bind λi=>(aS r.IDs i).bind λx=>(q6 s.2.1 x y.N y.Private).bind λw=>some (.inl (tt s.1 ⟨x,y.N⟩ y.Private,w,wI (s.2.2+1))) else some (.inr (s.1,s.2.1))
abbrev oW(w:D23H):Option Ob:=some ⟨37,fA w,none⟩
theorem OR{r:D12G}{device:Int}{lead:Nat}{b:List D23Act}(e1:iq device 6=some a)(e2:nO lead=some k)(e3:vO al=some b){m:FM DHoldName Nat}{w:D23H}(h:loop (Se r b) (O4 k,⟨wI (1+a),[⟨true,⟨0,0,0⟩,0,k⟩]⟩,0)=some (m,w)):
  jg prog fI 5 [.agg (aI r),iG device,uG lead,aE cZ al] [] 0 (.tup [.ref 0 0,.agg (fA w)]) [(0,oH (wI (1+a)) 1),(1,eI m)] 2:=by
 refine pP func5 ?_
 refine pN (λs:FM DHoldName Nat×D23H×Int=>(s0 81 fI [(4,.ptr (aI r) 0),(9,.ref 3 0),(12,.ref 0 0),(13,.ref 2 0),(14,aE r5 b),(15,iG s.2.2)] [(0,oH (wI (1+a)) 1),(1,eI s.1),(2,oW s.2.1),(3,oW ⟨0,[]⟩)] 4 0)) 11111110122 h [hf 18 (iL fI e1),hf 21 (vr fI e2),tN 24 [] 2 [] [iG (wI (1+a)),uG k] [ob 0 82 [iG (wI (1+a)),.mref 3],(1,eI (O4 k))] (Lm fI (wI (1+a)) k) trivial ⟨⟨rfl,.inl rfl⟩,⟨rfl,rfl,rfl,rfl,.inr ⟨rfl,aN _⟩⟩,trivial⟩,hf 27 (Nh fI (r:=⟨wI (1+a),[⟨true,⟨0,0,0⟩,0,k⟩]⟩) rfl),hf 29 (JI fI e3)] [hc (eB (gs:=aI r) aH),hc (aN (O4 k))] (λB s v hs k5 g=>?_) [] [(0,2),(1,3),(2,4),(3,1)]
 obtain⟨m1,d,j⟩:=s
 unfold Se at hs
 dsimp only at hs
 rcases bC hs with⟨b1,hs⟩|⟨b1,hs⟩
 .obtain⟨y,c,hs⟩:=bS hs
  obtain⟨i,ei,hs⟩:=bS hs
  obtain⟨x,f,hs⟩:=bS hs
  obtain⟨l,ew,hs⟩:=bS hs
  obtain rfl:=bn hs
  exact jw [hr 33 b1,hv 44 (dh.ixZ c),hv 46 (dh.fdZ tZ 0 c),hb 50 (KO ei),hv 51 (ac.ixZ f),hv 52 (ac.ptZ aW f),hv 57 (dh.ixZ c),hv 59 (dh.fdZ tZ 1 c),hv 62 (dh.ixZ c),hv 64 (dh.fdZ tW 2 c),tN 65 [0,1] 5 [(0,oH (wI (1+a)) 1),(1,eI m1)] [.ref 0 0,.agg (aj x),iG y.N,uG y.Private] [(0,oH (wI (1+a)) 1),(1,eI (tt m1 ⟨x,y.N⟩ y.Private))] (RT fI x y.N y.Private) ⟨⟨rfl,.inl rfl⟩,⟨rfl,rfl,rfl,rfl,.inr ⟨rfl,aN _⟩⟩,trivial⟩ ⟨⟨rfl,.inl rfl⟩,⟨rfl,rfl,rfl,rfl,.inr ⟨rfl,aN _⟩⟩,trivial⟩,hv 70 (dh.ixZ c),hv 72 (dh.fdZ tZ 1 c),hv 75 (dh.ixZ c),hv 77 (dh.fdZ tW 2 c),hf 78 (Hb fI ew)] [hc (aN (tt m1 ⟨x,y.N⟩ y.Private))] (k5 _ rfl) [] [(0,0),(1,1),(2,2),(3,3)]
 .obtain rfl:=bn hs
  have e:=g _ rfl
  simp only[Prod.mk.injEq] at e
  obtain⟨rfl,rfl⟩:=e
  exact mt .ret (s0 81 fI [(8,.ref 0 0),(9,.ptr (fA d) 0)] [(0,oH (wI (1+a)) 1),(1,eI m1)] 2 0) [.ref 0 0,.agg (fA d)] [hr 33 b1] [hc (eB (gs:=fA d) aH),hc (aN m1)] (ρ:=[(0,0),(1,1)])
theorem I6(n:Nat):T (nO n) λk=>fS k:=by unfold nO;refine .some ?_;unfold fS;rw[show(((1:Nat):Int)+((n%2305843009213693949:Nat):Int))=((1+n%2305843009213693949:Nat):Int) by omega,gP];exact Nat.mod_lt _ a9
structure ActOk (y:D23Act):Prop where
 at_:0<=y.At/\y.At<16
 n:0<=y.N/\y.N<4
 p:fS y.Private
theorem Xf(hl:l.length<=9223372036854775807)(hi:∀x∈l,c8 x):T (vO l) λr=>r.length<=10/\∀y∈r,ActOk y:=by
 unfold vO;refine .bind (T.mono (Q:=λr:List D23Act=>r.length<=10/\∀y∈r,ActOk y) (T.loop (λs=>∃k:Nat,s.2=(k:Int)/\k<=10/\s.1.length=k/\∀y∈s.1,ActOk y) (λs=>11-s.2.toNat) ⟨0,rfl,aa,rfl,aC⟩ a9 ?_) λv hv=> .some hv);rintro⟨b,i⟩ ⟨k,rfl,hk,hlen,hok⟩;dsimp only at hlen hok;unfold A3;dsimp only;refine .eqb (v:=decide ((k:Int)<ah l)&&decide ((k:Int)<10)) (by cases decide ((k:Int)<ah l)<;>rfl) (.ite (λa=>?_) λa=> .some ⟨by show b.length<=10;omega,hok⟩);simp only[bA,decide_eq_true_eq] at a;unfold ah at a;have hkl:k<l.length:=aa;have hx:=cv hkl;have h64:=hi _ (List.getElem_mem hkl);generalize l[k]=x at hx h64;rw[au,hx,aL];refine .bind ((eX h64 a9).mono λv hv=> .bind ((I6 _).mono λp hp=> .bind (.app cq (.some ⟨⟨k+1,aq aa,aa,by simp;omega,λy hy=>?_⟩,?_⟩))))
 .rcases List.mem_append.1 hy with hy|hy
  .exact hok y hy
  .simp at hy;subst hy;have e1:Int.tmod v 16=v%16:=Int.tmod_eq_emod_of_nonneg hv.1;have e2:wI (Int.tdiv v 16)=v/16:=by rw[Int.tdiv_eq_ediv_of_nonneg hv.1,bM aa aa]
   have e3:Int.tmod (wI (Int.tdiv v 16)) 4=(v/16)%4:=by rw[e2];exact Int.tmod_eq_emod_of_nonneg aa
   refine⟨?_,?_,hp⟩
   .show 0<=Int.tmod v 16/\Int.tmod v 16<16;rw[e1];omega
   .show 0<=Int.tmod _ 4/\Int.tmod _ 4<4;rw[e3];omega
 .show 11-(wI ((k:Int)+1)).toNat<11-((k:Int)).toNat;rw[bM aa aa];omega
theorem ZN{r:D12G}(w:WfG r)(h:r.IDs[i]?=some x):SmId x/\1<=x.By:=by have hi:=(cr h).1;rw[w.nI] at hi;obtain⟨o,ho,sm,d⟩:=w.op hi;have e:=w.ids i o x ho h;obtain⟨y,a,b,_,_,c⟩:=wN sm;rw[e] at a;cases a;exact⟨c,by rw[b];exact(T1 d.numbers).by_.1⟩
theorem Sf{r:D12G}(w:WfG r)(ne:r.L≠[]){c:List D23Act}(hn:c.length<=10)(ha:∀y∈c,ActOk y)(d:Int)(hk:fS k):∃m h,loop (Se r c) (O4 k,⟨d,[⟨true,⟨0,0,0⟩,0,k⟩]⟩,0)=some (m,h)/\HRel d m h/\h.L.length<=11:=by
 have hL:0<r.L.length:=by cases hx:r.L with|nil=>exact absurd hx ne|cons a b=>simp
 have nI:=w.nI;have nL:=w.nL;have:T (loop (Se r c) (O4 k,⟨d,[⟨true,⟨0,0,0⟩,0,k⟩]⟩,0)) λv=>HRel d v.1 v.2/\v.2.L.length<=11:=by
  refine T.loop (λs=>∃j:Nat,s.2.2=(j:Int)/\j<=c.length/\HRel d s.1 s.2.1/\s.2.1.L.length<=j+1) (λs=>11-s.2.2.toNat) ⟨0,rfl,aa,R9 d hk,aC⟩ (by show 11-_<_;omega) ?_;rintro⟨m,h,i⟩ ⟨j,rfl,hj,hr,hl⟩;dsimp only at hr hl;unfold Se;dsimp only;refine .dec (λhlt=>?_) λ_=> .some ⟨hr,by show h.L.length<=11;omega⟩;unfold ah at hlt;have hja:j<c.length:=aa;have hx:=cv hja;have hy:=ha _ (List.getElem_mem hja);generalize c[j]=y at hx hy;have f:=hy.at_;have o:=hy.n;rw[au,hx,aL];have hlz:ah r.IDs=(r.IDs.length:Int):=rfl;have em:Int.tmod y.At (ah r.IDs)=y.At%(r.IDs.length:Int):=by rw[hlz];exact Int.tmod_eq_emod_of_nonneg f.1
  refine .bind (.rem (by rw[hlz];omega) ?_);have b1:0<=y.At%(r.IDs.length:Int):=Int.emod_nonneg _ aa;have b2:y.At%(r.IDs.length:Int)<(r.IDs.length:Int):=Int.emod_lt_of_pos _ aa;rw[em];refine .bind (.ixl b1 b2 λx g hmem=>?_);obtain⟨q1,q⟩:=ZN w g;refine .bind ((Lw hr aa (of_:=x) (n:=y.N) (p:=y.Private) ⟨rfl,q1,q,by show 0<=y.N/\y.N<=1000;omega,hy.p⟩).mono λh' l=> .some ⟨⟨j+1,aq aa,aa,l.1,by have:=l.2;show h'.L.length<=_;omega⟩,?_⟩);show 11-(wI ((j:Int)+1)).toNat<11-((j:Int)).toNat;rw[bM aa aa];omega
 obtain⟨⟨m,h⟩,e,h1,h2⟩:=this;exact⟨m,h,e,h1,h2⟩
theorem Zu(s:List UInt8):∀p q:Operand,b8 prog .neq 9 p q (sG s) (sG s)=some (bG false):=λp q=>by
 unfold b8;simp only[cD];have e:bt prog (binOp .neq 9 (.string ⟨s.toArray⟩) (.string ⟨s.toArray⟩))=some (.bool false):=by simp[binOp,Op.stringOp,bz]
 have hg:bt prog (eqGuard .neq 9 p q (.string ⟨s.toArray⟩) (.string ⟨s.toArray⟩))=some ():=aH;rw[fP hg,e];rfl
theorem aa0(σ:aQ)(i:Nat)(l:List UInt8)(h:ag σ i=some ⟨5,l.flatMap cY,none⟩):iQ prog σ 44 9 (.rsl i 0 l.length)=some (sG l):=by
 have e1:dp prog 44=some 5:=aH;have e2:xR prog 5=some .u8:=aH;have e3:nu prog 9=true:=aH;have hg:fO σ 1 (.rsl i 0 l.length)=some (l.map gY,l.length):=by show(ag σ i).bind _=_;rw[h,aL];dsimp only;rw[E4,if_pos aC,List.drop_zero,List.take_of_length_le aC]
 unfold iQ;simp only[e1,e2,hg,xl,e3,Bool.true_and,Nat.beq_refl,ax]
def hcR(d i:Nat)(l:List UInt8):HP:=⟨some (.c d (sG l)),iQ prog [(i,oY l)] 44 9 (.rsl i 0 l.length)=some (sG l),aa0 _ i l (by show ag [(i,oY l)] i=_;simp[am])⟩
def gf(w:D23H)(pub:Nat)(k:Nat):List Nat:=pub::(w.L.take k).map λy=>(mg y.Private).getD 0
abbrev Zv(w:D23H):Fr:=[(13,.ref 0 0),(14,.ptr (fA w) 0)]
abbrev oWs(l:List Nat):Option Ob:=some ⟨23,l.flatMap cW,none⟩
theorem WY(o:ba prog fI 14 [] (bG true)){device:Int}{lead pub:Nat}(hl:l.length<=9223372036854775807)(hi:∀x∈l,c8 x)(hd:c8 device)(hal:al.length<=9223372036854775807)(s:∀x∈al,c8 x)(hp:fS pub):ba prog fI 3 [aE cZ l,iG device,uG lead,aE cZ al,uG pub] (bG true):=by
 obtain⟨r,J,N,K,hm⟩:=Xe hl hi;obtain⟨a,ea,E⟩:=eX hd (m:=6) a9;obtain⟨k,ek,hk⟩:=I6 lead;obtain⟨D,C,hn,hok⟩:=Xf hal s;obtain⟨m,w,et,hrl,hwl⟩:=Sf hm.wf hm.ne hn hok (wI (1+a)) hk;have hM:=Ui K hm;have hT:=OR (r:=r) ea ek C et;have hd64:c8 (wI (1+a)):=by rw[bM aa aa];exact⟨aa,aa⟩
 generalize wI (1+a)=d at hrl hT hd64;have hold:=hrl.hold aa;obtain⟨p,rest,ew,t,f⟩:=hrl.ld;have c:=R4 fI (d:=d) hold;rw[List.take_length] at c;have g:=Sb hrl aa;have i:=OP (a:=(w.L.map kn).map (C4 d)) cq;generalize (w.L.map kn).map (C4 d)=tl at c g i;have j:=Uq hrl hd64 aa ew;have hP:jg prog fI 9 [.ref 0 0] [(0,oH d 1),(1,eI m)] 2 (.rsl 2 0 (gg d p rest.length++rest.flatMap I5).length) [(0,oH d 1),(1,eI m),(2,oY (gg d p rest.length++rest.flatMap I5))] 3:=by
  have ho:HoldOk m (Vm::rest.map kn):=by have:=hold;rw[ew] at this;exact this
  refine Lr fI ho hd64 (ld:=p) ?_ t (λy hy=>?_) ?_
  .exact hrl.get ⟨true,⟨0,0,0⟩,0,p⟩ (by rw[ew];simp)
  .obtain⟨z,hz,rfl⟩:=List.mem_map.1 hy;have:=f z hz;refine⟨this.id,⟨by have:=this.n;show _<=z.N;omega,by have:=this.n;show z.N<=_;omega⟩,?_⟩;rw[hrl.get z (by rw[ew];simp[hz])];exact this.p
  .rw[Ur hrl ew,List.length_map]
 generalize gg d p rest.length++rest.flatMap I5=b at hP j;refine Gh func3 ?_;refine pO 1111100 (s0 108 fI ((4,uG pub)::Zv w) [(0,oH d 1),(1,eI m)] 2 0) [tN 24 [] 0 [] [aE cZ l] [(0,oG r.Cards r.L.length 2),(1,oM (J r.L.length)),(2,oN3 N r.L.length)] hM trivial ⟨⟨rfl,.inl rfl⟩,⟨rfl,rfl,rfl,rfl,.inr ⟨rfl,cf _⟩⟩,⟨rfl,.inr ⟨rfl,az.imm _⟩⟩,trivial⟩,tN 32 [] 4 [] [.agg (aI r),iG device,uG lead,aE cZ al] [ob 0 82 [iG d,.mref 5],(1,eI m)] hT trivial ⟨⟨rfl,.inl rfl⟩,⟨rfl,rfl,rfl,rfl,.inr ⟨rfl,aN m⟩⟩,trivial⟩] [hc (eB (gs:=fA w) aH),hc (aN m)] ?_ [] [(0,4),(1,5)];refine pO 1111110 (s0 108 fI ((4,uG pub)::Zv w) [(0,oH d 1),(1,eI m)] 2 0) [tN 42 [0,1] 2 [(0,oH d 1),(1,eI m)] [.ref 0 0] [(0,oH d 1),(1,eI m),(2,oTm tl)] c ⟨⟨rfl,.inl rfl⟩,⟨rfl,rfl,rfl,rfl,.inr ⟨rfl,aN m⟩⟩,trivial⟩ ⟨⟨rfl,.inl rfl⟩,⟨rfl,rfl,rfl,rfl,.inr ⟨rfl,aN m⟩⟩,⟨rfl,.inr ⟨rfl,fL.imm tl⟩⟩,trivial⟩,hf 44 (G9 fI g),hq 45 [aE fT tl,aE fT tl] [hc (fL.al tl)] (zx fI i),tN 49 [0,1] 3 [(0,oH d 1),(1,eI m)] [.ref 0 0] [(0,oH d 1),(1,eI m),(2,oY b)] hP ⟨⟨rfl,.inl rfl⟩,⟨rfl,rfl,rfl,rfl,.inr ⟨rfl,aN m⟩⟩,trivial⟩ ⟨⟨rfl,.inl rfl⟩,⟨rfl,rfl,rfl,rfl,.inr ⟨rfl,aN m⟩⟩,⟨rfl,.inr ⟨rfl,rY.imm b⟩⟩,trivial⟩,hcR 50 3 b,hf 52 (Ng fI j),XY 53 b,hV 54 (Zu b)] [hc (aN m)] ?_ [] [(0,0),(1,1)];have hpub:∀y∈w.L,mg y.Private=some ((mg y.Private).getD 0):=λy hy=>by obtain⟨q,_,e2,_⟩:=Lx (hrl.priv y hy);rw[e2];rfl
 refine Ix 111111101 (s0 108 fI ((15,.rsl 2 0 (gf w pub w.L.length).length)::Zv w) [(0,oH d 1),(1,eI m),(2,oWs (gf w pub w.L.length))] 3 0) ?_ λM=>?_;rotate_left
 .refine pN (λk:Nat=>(s0 108 fI ([(15,.rsl 2 0 (gf w pub k).length),(16,iG (k:Int))]++Zv w) [(0,oH d 1),(1,eI m),(2,oWs (gf w pub k))] 3 0)) 11111110122 (CX (n:=w.L.length) aa) [] [hc (el (gf w pub 0)),hc (aN m),hc (rW.imm (gf w pub 0))] (λB k v hs k5 F=>?_) [] [(0,0),(1,1),(2,2)] [(2,.row)];unfold Lk at hs;split at hs
  .rename_i hk';obtain rfl:=bn hs;obtain⟨y,hy⟩:∃y,w.L[k]?=some y:=⟨_,cv hk'⟩;have hz:aS w.L (k:Int)=some y:=by rw[au];exact hy
   have hb':=hpub y (bO hy);have k5:=k5 _ rfl;have e:gf w pub (k+1)=gf w pub k++[(mg y.Private).getD 0]:=by unfold gf;rw[List.take_add_one,hy];simp
   have hlq:(gf w pub k).length<=100:=by unfold gf;simp;omega
   simp only[e] at k5;generalize gf w pub k=q at hlq k5⊢;generalize (mg y.Private).getD 0=v at hb' k5⊢;exact jw [hr 62 (show decide ((k:Int)<(w.L.length:Int))=true from decide_eq_true aa),hv 69 (cP.ixZ hz),hv 71 (cP.fdZ tW 5 hz),hf 72 (yv fI hb'),Tn 74 rW 8 q v aa,hb 64 (Xl (q:=k) aa)] [hc (el (q++[v])),hc (aN m),hc (rW.imm (q++[v]))] k5 [] [(0,0),(1,1),(2,4)] [(2,.row)]
  .split at hs
   .rename_i he;subst he;obtain rfl:=bn hs;exact yl 111111101 [hr 62 (show decide ((w.L.length:Int)<(w.L.length:Int))=false from decide_eq_false aa)] [hc (el (gf w pub w.L.length)),hc (aN m),hc (rW.imm (gf w pub w.L.length))] M [] [(0,0),(1,1),(2,2)] [(2,.row)]
   .cases hs
 have hpl:(gf w pub w.L.length).length<=100:=by unfold gf;simp;omega
 generalize gf w pub w.L.length=ps at hpl⊢;refine pN (λk:Nat=>(s0 108 fI ([(15,.rsl 2 0 ps.length),(17,iG (k:Int))]++Zv w) [(0,oH d 1),(1,eI m),(2,oWs ps)] 3 0)) 111111110122 (CX (n:=ps.length) aa) [] [hc (el ps),hc (aN m),hc (rW.imm ps)] (λB k v hs k5 F=>?_) [] [(0,0),(1,1),(2,2)] [(2,.row)];unfold Lk at hs;split at hs
 .rename_i hk';obtain rfl:=bn hs;obtain⟨q,u⟩:∃q,ps[k]?=some q:=⟨_,cv hk'⟩;have hz:aS ps (k:Int)=some q:=by rw[au];exact u
  obtain⟨x,O,H,I⟩:=Sd hrl aa q;have hF:=Uh fI (d:=d) hold (pub:=q) O (λe=>H e) (λv hv=>I v hv);have A:=JG fI (Sc hrl aa q);generalize (rX w q).1=fa at hF A;generalize (rX w q).2=fi at hF A;cases fi<;>exact jw [hr 78 (show decide ((k:Int)<(ps.length:Int))=true from decide_eq_true aa),hv 85 (rW.ixrZ 2 hz),hv 86 (rW.p10Z tW hz),tN 87 [0,1] 3 [(0,oH d 1),(1,eI m)] [.ref 0 0,uG q] [(0,oH d 1),(1,eI m)] hF ⟨⟨rfl,.inl rfl⟩,⟨rfl,rfl,rfl,rfl,.inr ⟨rfl,aN m⟩⟩,trivial⟩ ⟨⟨rfl,.inl rfl⟩,⟨rfl,rfl,rfl,rfl,.inr ⟨rfl,aN m⟩⟩,trivial⟩,hv 94 (rW.ixrZ 2 hz),hv 95 (rW.p10Z tW hz),hf 96 A,hr 101 (show decide ((fa:Int)≠(fa:Int))=false from decide_eq_false (λh=>h rfl)),hb 80 (Xl (q:=k) aa)] [hc (el ps),hc (aN m),hc (rW.imm ps)] (k5 _ rfl) [] [(0,0),(1,1),(2,2)] [(2,.row)]
 .split at hs
  .rename_i he;subst he;obtain rfl:=bn hs;exact Ar [hr 78 (show decide ((ps.length:Int)<(ps.length:Int))=false from decide_eq_false aa),hf 107 o] []
  .cases hs
abbrev ti(z:Int):G:= .lit (.int .i64 z)
abbrev tu(n:Nat):G:= .lit (.int .u64 (.ofNat n))
abbrev ty(n:Nat):G:= .lit (.int .u8 (.ofNat n))
abbrev tb(b:Bool):G:= .lit (.bool b)
abbrev ts(l:List UInt8):G:= .lit (.string ⟨⟨l⟩⟩)
abbrev tz:G:= .lit (.slice none 0 0)
def Ow(n:Nat):Bool:=Nat.blt n 18446744073709551616
theorem Gu{n:Nat}(h:Ow n=true):n<18446744073709551616:=cm h
theorem xc:prog.follows .mixedOrders=true:=Mix.mx
def Z2:pW:=λfid gs _=>match gs with
 |[.lit (.int .u64 (.ofNat a)),.lit (.int .u64 (.ofNat b))]=>bif Ow a&&Ow b then
   (bif Nat.beq fid 112 then some (tu (a*b%PF))
   else bif Nat.beq fid 57 then some (tu (a*b%PF))
   else bif Nat.beq fid 184 then some (tu ((a+b)%PF))
   else none) else none
 |[.lit (.int .u64 (.ofNat a))]=>bif Ow a&&Nat.beq fid 110 then some (tu (a%PF)) else none
 |_=>none
theorem Re{c:Bool}{x:G}{y:Option G}(h:(bif c then some x else y)=some r):(c=true/\x=r)\/y=some r:=by
 cases c
 .exact .inr h
 .exact .inl ⟨rfl,bn h⟩
theorem K3:dD prog Z2:=by
 intro fid gs gl r h;unfold Z2 at h;split at h
 .rename_i a b;cases hc:(Ow a&&Ow b) with
  |false=>rw[hc] at h;cases h
  |true=>
   rw[hc] at h;simp only[bA] at hc;have ha:=Gu hc.1;have hb:=Gu hc.2;rcases Re h with⟨e,rfl⟩|h
   .obtain rfl:=bc e;exact⟨nK gl ll,lR _,aH⟩
   rcases Re h with⟨e,rfl⟩|h
   .obtain rfl:=bc e;exact⟨j0 gl (nc ha hb),lR _,aH⟩
   rcases Re h with⟨e,rfl⟩|h
   .obtain rfl:=bc e;exact⟨xp gl yq,lR _,aH⟩
   .cases h
 .rename_i a;rcases Re h with⟨e,rfl⟩|h
  .simp only[bA] at e;obtain rfl:=bc e.2;exact⟨dr gl (du (Gu e.1)),lR _,aH⟩
  .cases h
 .cases h
def Vb:List Nat:=[112,58,184,127,113,65,59,60,42,17,57,36,95,170,252,110]
def EA:XEnv:={pf:=λf=>Vb.any (Nat.beq f),tp:=Z2}
theorem Vc:gI prog EA:=⟨(λ_ _ _ _ _ _ h=>by cases h),(λ_ _ _ _ _ _ _ h=>by cases h)⟩
def WE:Yb:=[(60,[ts [108,101,97,100],ti (1)],tu 421707201092791294),
 (59,[tu 421707201092791294],tu 1858807316446646070),
 (60,[ts [107,101,101,112],ti (1)],tu 1521848841071240365),
 (59,[tu 1521848841071240365],tu 2294458496254976924),
 (60,[ts [115,105,103,110],ti (1)],tu 1626133395376501031),
 (59,[tu 1626133395376501031],tu 1058522930688824048),
 (60,[ts [108,101,97,100],ti (2)],tu 2291886921610748822),
 (59,[tu 2291886921610748822],tu 1810974450540283748),
 (60,[ts [107,101,101,112],ti (2)],tu 1180713173775317926),
 (59,[tu 1180713173775317926],tu 732551293757751401),
 (60,[ts [115,105,103,110],ti (2)],tu 1386298229917608494),
 (59,[tu 1386298229917608494],tu 86482453431610406),
 (65,[ts [115,105,103,110,101,100],.sl [ty 2,ty 2,ty 2,ty 0,ty 0,ty 0,ty 0,ty 0,ty 0,ty 2,ty 77,ty 0,ty 0,ty 0,ty 0,ty 0,ty 0,ty 0,ty 0,ty 0,ty 0,ty 0,ty 0,ty 0,ty 0,ty 0,ty 0] 27],tu 548699417238400799),
 (113,[ts [110,111,110,99,101],.sl [tu 1626133395376501031,tu 548699417238400799] 2],tu 46510885366322548),
 (127,[ts [115,105,103],.sl [tu 2105261610024964903,tu 1058522930688824048,tu 548699417238400799] 3],tu 491737871520151385),
 (42,[.agg [ti (1),ti (1),ti (1),ti (0),tz,ti (0),ti (0),ti (0),ti (0),.sl [tu 77,tz] 1,ti (0),ti (0),tu 0,ti (0),tz,tz,ti (0),ti (0),tu 0,tz,ti (0),ti (0),tz,tu 0,tz,tu 2105261610024964903,tu 1671013581248195933]],.agg [ti (1),ti (1),tu 937959638841350770])]
theorem Rf:WE.all (SP prog EA 100000)=true:=aH
def WF:Yb:=[(170,[ts [111,112],.sl [ty 2,ty 2,ty 2,ty 0,ty 0,ty 0,ty 0,ty 0,ty 0,ty 2,ty 77,ty 0,ty 0,ty 0,ty 0,ty 0,ty 0,ty 0,ty 0,ty 0,ty 0,ty 0,ty 0,ty 0,ty 0,ty 0,ty 0] 27],tu 937959638841350770),
 (170,[ts [115,105,103,110,101,100],.sl [ty 2,ty 2,ty 2,ty 0,ty 0,ty 0,ty 0,ty 0,ty 0,ty 2,ty 77,ty 0,ty 0,ty 0,ty 0,ty 0,ty 0,ty 0,ty 0,ty 0,ty 0,ty 0,ty 0,ty 0,ty 0,ty 0,ty 0] 27],tu 548699417238400799),
 (252,[ts [115,105,103],.sl [tu 2105261610024964903,tu 1058522930688824048,tu 548699417238400799] 3],tu 491737871520151385),
 (54,[.agg [ti (1),ti (1),tu 937959638841350770,ti (0)],.agg [ti (0),ti (0),tu 0,ti (0)]],ti (1)),
 (54,[.agg [ti (0),ti (0),tu 0,ti (0)],.agg [ti (1),ti (1),tu 937959638841350770,ti (0)]],ti (-1))]
theorem Rg:WF.all (SP prog EA 100000)=true:=aH
def o1:DOp:=⟨1,1,1,0,[],0,0,0,0,[⟨77,[]⟩],⟨0,0,0⟩,0,[],[],⟨0,0,0⟩,[],0,0,[],0,[],⟨2105261610024964903,1671013581248195933⟩⟩
def nq:Nat->G->G->G
 |0,g,_=>g
 |n+1,g,t=>match t with
  | .sl l' _=>match g with
   | .lit (.slice none 0 0)=> .sl [] 0
   | .sl l m=> .sl (bif Nat.beq l.length l'.length then OX (nq n) l l' else l) m
   |g=>g
  | .agg l'=>match g with
   | .agg l=> .agg (bif Nat.beq l.length l'.length then OX (nq n) l l' else l)
   |g=>g
  |_=>g
theorem Rh{S:Nat->Prop}{w:World}:∀(n:Nat) (g t:G) (v:Value),IV S w g v->IV S w (nq n g t) v
 |0,g,t,v,h=>h
 |n+1,g,t,v,h=>by
  unfold nq;split
  .split
   .cases h;exact .sl [] 0 none 0 (λ_=>undef) (Nat.le_refl _) (Nat.zero_le _) aC aC aC
   .rename_i d _ _ l m;cases hb:Nat.beq l.length d.length with
    |false=>exact h
    |true=>
     have hl:=bc hb;cases h with
     |sl _ _ a cap us hn hm ha h1 hr=>refine .sl _ _ a cap us hn hm (by rw[ax,wV _ _ hl];exact ha) (by rw[ax,wV _ _ hl];exact h1) λi e hg=>?_;obtain⟨g,c,b,rfl⟩:=sS _ _ hl i e hg;exact Rh n g c _ (hr i g b)
   .exact h
  .split
   .rename_i d _ l;cases hb:Nat.beq l.length d.length with
    |false=>exact h
    |true=>
     have hl:=bc hb;cases h with
     |agg _ us h2 h1 hr=>refine .agg _ us (by rw[ax,wV _ _ hl];exact h2) h1 λi e u hg hu=>?_;obtain⟨g,c,b,rfl⟩:=sS _ _ hl i e hg;exact Rh n g c u (hr i g u b hu)
   .exact h
  .exact h
theorem Za{gl:List (Nat×List G)}{f:FuncId}{ts:List G}(gs:List G)(h:ba P gl f ts r)(hl:gs.length=ts.length:=by rfl)(e:OX (nq 20) gs ts=ts:=by kernel_rfl):ba P gl f gs r:=λw S vs hS c hsz a=>by refine h w S vs hS c aa λi g u hg hu=>?_;rw[<-e] at hg;obtain⟨g0,d,b,rfl⟩:=sS _ _ hl i g hg;exact Rh 20 g0 d u (a i g0 u b hu)
def gsO:List G:=[.agg [ti 1,ti 1,ti 1,ti 0,tz,ti 0,ti 0,ti 0,ti 0,.sl [tu 77,tz] 1,ti 0,ti 0,tu 0,ti 0,tz,tz,ti 0,ti 0,tu 0,tz,ti 0,ti 0,tz,tu 0,tz,tu 2105261610024964903,tu 1671013581248195933]]
def tpC:pW:=λfid gs gl=>bif Nat.beq fid 95&&fe (Sh 12) gs gsO&&(match gl with
  |[(a,l),(b,m)]=>Nat.beq a 0&&Nat.beq b 1&&fe (Sh 12) l (nG.flatMap cZ)&&fe (iF 12) m IU
  |_=>false) then some (iG 0) else HE WE (HE WF Z2) fid gs gl
theorem Zb:ba prog fI 95 gsO (iG 0):=by
 have s:SmOp o1:=by constructor<;>simp[o1,c8,fS]<;>constructor<;>simp[c8,fS]
 obtain⟨r,e,h⟩:=Cv s;have e0:qE o1=some 0:=aH;rw[e0] at e;exact Za gsO (IW (RL (h (bn e).symm) s))
theorem WG:dD prog tpC:=by
 intro fid gs gl r h;rcases Re h with⟨e,rfl⟩|h
 .simp only[bA] at e;obtain⟨⟨e1,e2⟩,e3⟩:=e;obtain rfl:=bc e1;obtain rfl:=bi (lK 12) e2;split at e3
  .simp only[bA] at e3;obtain⟨⟨⟨a1,a2⟩,a3⟩,a4⟩:=e3;rw[bc a1,bc a2,bi (lK 12) a3,bi (cc 12) a4];exact⟨Zb,lR _,aH⟩
  .cases e3
 .exact BB (T:=WE) (BB (T:=WF) K3 (PP xc K3 Vc Rg)) (PP xc K3 Vc Rf) fid gs gl r h
def Vn:Operand->Array Operand->Array TypeId->Bool:=λ_ _ ts=>match ts.toList with
 |[a,b]=>bif Nat.beq a 74 then Nat.beq b 74 else false
 |_=>false
def vn:FuncId->Bool:=λf=>Vb.any (Nat.beq f)
def tP:pW:=tpC
theorem mu:dD prog tP:=WG
abbrev jh:=fI
def Vo:List G:=[ti 1,ti 1,ti 1,ti 0,tz,ti 0,ti 0,ti 0,ti 0,.rsl 247 0 1,ti 0,ti 0,tu 0,ti 0,tz,tz,ti 0,ti 0,tu 0,tz,ti 0,ti 0,tz,tu 0,tz,tu 2105261610024964903,tu 1671013581248195933,ti 1,ti 1,tu 937959638841350770,tu 0,tu 0,tu 0,tu 0,ti 1]
def O5:List G:=[ti 1,ti 1,ti 1,ti 0,tz,ti 0,ti 0,ti 0,ti 0,.rsl 7 0 1,ti 0,ti 0,tu 0,ti 0,tz,tz,ti 0,ti 0,tu 0,tz,ti 0,ti 0,tz,tu 0,tz,tu 2105261610024964903,tu 1671013581248195933]
def XK:List G:=[ti 1,ti 1,tu 1858807316446646070,tu 2294458496254976924,tu 1058522930688824048,ti 2,ti 2,tu 1810974450540283748,tu 732551293757751401,tu 86482453431610406]
def XL:List G:=[ti 0,ti 0,tu 0,ti 0,ti 1,ti 1,tu 937959638841350770,ti 0]
def XM:List G:=[ti 3,ti 1,ti 1,tu 937959638841350770,ti 0,ti 0]
def Vp:List G:=[ti 1,ti 0,ti 0,tu 0,ti 1,ti 0]
def EZ:List G:=[ti 1,ti 1,tu 937959638841350770]
def Sp:List G:=[tu 0,tu 0,tu 0,tu 0]
def I9:Nat×Option Ob:=(ob 398 173 Vo)
def M4:Nat×Option Ob:=(ob 224 99 O5)
def M5:Nat×Option Ob:=(ob 105 99 O5)
def XN:Nat×Option Ob:=(399,some ⟨80,[],some (.map [(.agg #[.int .i64 (0),.int .i64 (0),.int .u64 (0),.int .i64 (0)],tu 5,0),(.agg #[.int .i64 (1),.int .i64 (1),.int .u64 (937959638841350770),.int .i64 (0)],tu 9,1)] 2)⟩)
def GK:Nat×Option Ob:=(ob 237 129 XK)
def GL:Nat×Option Ob:=(ob 4 129 XK)
def XP:Nat×Option Ob:=(399,some ⟨80,[],some (.map [(.agg #[.int .i64 (1),.int .i64 (1),.int .u64 (937959638841350770),.int .i64 (0)],tu 9,1)] 2)⟩)
def Ja:Nat×Option Ob:=(238,some ⟨164,[],some (.map [(.agg #[.int .i64 (1),.int .i64 (1),.int .u64 (937959638841350770)],ti 0,0)] 1)⟩)
def Sq:Nat×Option Ob:=(ob 432 70 [ti 1,ti 0,ti 0,tu 0,ti 1,ti 0,ti 3,ti 1,ti 1,tu 937959638841350770,ti 0,ti 0])
def XQ:Nat×Option Ob:=(ob 235 31 [.rsl 4 0 2,.rsl 224 0 1,.rsl 227 0 1,.rsl 230 0 1,.rsl 234 0 1])
def DD:Nat×Option Ob:=(ob 6 31 [.rsl 4 0 2,.rsl 224 0 1,.rsl 227 0 1,.rsl 230 0 1,.rsl 234 0 1])
def Us:Nat×Option Ob:=(ob 716 74 XL)
def Ut:Nat×Option Ob:=(ob 715 74 XL)
def Uu:Nat×Option Ob:=(ob 883 70 XM)
def Uv:Nat×Option Ob:=(ob 881 70 XM)
def Uw:Nat×Option Ob:=(ob 725 74 [ti 1,ti 1,tu 937959638841350770,ti 0])
def Az:Nat×Option Ob:=(ob 239 167 [.rsl 237 0 2,.mref 238,.rsl 398 0 1])
def Ux:Nat×Option Ob:=(ob 882 70 Vp)
def Uy:Nat×Option Ob:=(ob 724 70 Vp)
def Uz:Nat×Option Ob:=(ob 723 70 Vp)
def DE:Nat×Option Ob:=(ob 227 50 EZ)
def Lz:Nat×Option Ob:=(ob 581 50 EZ)
def LA:Nat×Option Ob:=(ob 580 50 EZ)
def LB:Nat×Option Ob:=(ob 436 50 EZ)
def LC:Nat×Option Ob:=(ob 410 50 EZ)
def UA:Nat×Option Ob:=(ob 703 50 EZ)
def UB:Nat×Option Ob:=(ob 702 50 EZ)
def UC:Nat×Option Ob:=(ob 6 31 [.rsl 4 0 2,tz,tz,tz,tz])
def UD:Nat×Option Ob:=(ob 717 74 [ti 0,ti 0,tu 0,ti 0])
def LD:Nat×Option Ob:=(ob 400 82 [ti 1,.mref 399])
def DF:Nat×Option Ob:=(ob 234 134 [.rsl 232 0 1])
def UE:Nat×Option Ob:=(ob 865 22 [.rsl 861 0 1])
def UF:Nat×Option Ob:=(ob 727 22 [.rsl 861 0 1])
def UG:Nat×Option Ob:=(ob 719 22 [.rsl 718 0 1])
def AA:Nat×Option Ob:=(ob 247 102 [tu 77,tz])
def LE:Nat×Option Ob:=(ob 433 24 [.ref 239 0])
def yw:Nat×Option Ob:=(ob 7 102 [tu 77,tz])
def yx:Nat×Option Ob:=(ob 0 3 [ti 1,ti 2])
def DG:Nat×Option Ob:=(ob 232 4 [tb false])
def UH:Nat×Option Ob:=(ob 861 3 [ti 1])
def UI:Nat×Option Ob:=(ob 726 3 [ti 1])
def UJ:Nat×Option Ob:=(ob 718 3 [ti 1])
def DH:Nat×Option Ob:=(ob 230 22 [tz])
def LF:KE:=
 ⟨40,[.agg [ti 1,ti 1,ti 1,ti 0,tz,ti 0,ti 0,ti 0,ti 0,.rsl 7 0 1,ti 0,ti 0,tu 0,ti 0,tz,tz,ti 0,ti 0,tu 0,tz,ti 0,ti 0,tz,tu 0,tz,tu 0,tu 0]],[yw,
 UC,
 GL,
 yx],8,[(.agg O5,[yw,
 UC,
 GL,
 yx],105,8)]⟩
noncomputable def XS:XEnv:={lS vn tP jh [] [] with pc:=Vn}
theorem Sr:gI prog XS:=(lT aC aC:gI prog (lS vn tP jh [] []))
theorem Ss:NP prog XS jh 100000 LF=true:=aH
theorem xk:NR prog jh LF:=Aj xc mu Sr Ss
def OS:KE:=
 ⟨50,[.ref 239 0,.agg O5],[(238,some ⟨164,[],some (.map [] 0)⟩),
 GK,
 (ob 239 167 [.rsl 237 0 2,.mref 238,tz]),
 XQ,
 DG,
 DF,
 DH,
 DE,
 M4,
 M5,
 yw,
 DD,
 GL,
 yx],242,[(ti 0,[I9,
 (ob 397 173 Vo),
 (ob 396 171 Sp),
 (ob 395 171 Sp),
 (ob 394 171 Sp),
 (ob 393 171 Sp),
 (ob 319 129 [ti 1,ti 1,tu 1858807316446646070,tu 2294458496254976924,tu 1058522930688824048]),
 AA,
 (ob 243 173 Vo),
 (ob 242 99 O5),
 Ja,
 GK,
 Az,
 XQ,
 DG,
 DF,
 DH,
 DE,
 M4,
 M5,
 yw,
 DD,
 GL,
 yx],399,238)]⟩
noncomputable def XT:XEnv:={lS vn tP jh [LF] [] with pc:=Vn}
theorem Su:gI prog XT:=(lT (by simp[xk]) aC:gI prog (lS vn tP jh [LF] []))
theorem Sv:NP prog XT jh 100000 OS=true:=aH
theorem AB:NR prog jh OS:=Aj xc mu Su Sv
def Sg:KF:=
 ⟨189,[.ref 239 0,.agg [ti 1,ti 1,ti 1,ti 0,tz,ti 0,ti 0,ti 0,ti 0,.rsl 447 0 1,ti 0,ti 0,tu 0,ti 0,tz,tz,ti 0,ti 0,tu 0,tz,ti 0,ti 0,tz,tu 0,tz,tu 2105261610024964903,tu 1671013581248195933]],[447,247,398,238,237,239],[ob 447 102 [tu 77,tz],
 AA,
 I9,
 Ja,
 GK,
 Az],450,.rsl 564 0 1,[ob 564 3 [ti 1]],573⟩
noncomputable def XU:XEnv:={lS vn tP jh [OS,LF] [] with pc:=Vn}
theorem Sw:gI prog XU:=(lT (by simp[AB,xk]) aC:gI prog (lS vn tP jh [OS,LF] []))
theorem Sx:Td prog XU jh 100000 Sg=true:=aH
theorem E1:Te prog jh Sg:=Mj xc mu Sw Sx
def UK:KE:=
 ⟨44,[.ref 239 0,.agg EZ],[Lz,
 LA,
 LB,
 LE,
 Sq,
 LC,
 XN,
 LD,
 AA,
 I9,
 Ja,
 GK,
 Az,
 DG,
 DF,
 DH,
 DE,
 M4,
 M5,
 yw,
 DD,
 GL,
 yx],582,[(tb true,[Lz,
 LA,
 LB,
 LE,
 Sq,
 LC,
 XN,
 LD,
 AA,
 I9,
 Ja,
 GK,
 Az,
 DG,
 DF,
 DH,
 DE,
 M4,
 M5,
 yw,
 DD,
 GL,
 yx],702,582)]⟩
noncomputable def XV:XEnv:={lS vn tP jh [OS,LF] [Sg] with pc:=Vn}
theorem Sy:gI prog XV:=(lT (by simp[AB,xk]) (by simp[E1]):gI prog (lS vn tP jh [OS,LF] [Sg]))
theorem Sz:NP prog XV jh 100000 UK=true:=aH
theorem Jb:NR prog jh UK:=Aj xc mu Sy Sz
def Xg:KF:=
 ⟨189,[.ref 239 0,.agg [ti 1,ti 1,ti 1,ti 0,tz,ti 0,ti 0,ti 0,ti 0,.rsl 734 0 1,ti 0,ti 0,tu 0,ti 0,tz,tz,ti 0,ti 0,tu 0,tz,ti 0,ti 0,tz,tu 0,tz,tu 2105261610024964903,tu 1671013581248195933]],[734,247,398,238,237,239],[ob 734 102 [tu 77,tz],
 AA,
 I9,
 Ja,
 GK,
 Az],737,.rsl 851 0 1,[ob 851 3 [ti 1]],860⟩
noncomputable def XW:XEnv:={lS vn tP jh [UK,OS,LF] [Sg] with pc:=Vn}
theorem SA:gI prog XW:=(lT (by simp[Jb,AB,xk]) (by simp[E1]):gI prog (lS vn tP jh [UK,OS,LF] [Sg]))
theorem SB:Td prog XW jh 100000 Xg=true:=aH
theorem O6:Te prog jh Xg:=Mj xc mu SA SB
def ZO:KE:=
 ⟨44,[.ref 239 0,.agg EZ],[Uu,
 Ux,
 Uv,
 UH,
 UE,
 UF,
 UI,
 Uw,
 Uy,
 Uz,
 UG,
 UJ,
 UD,
 Us,
 Ut,
 UA,
 UB,
 Lz,
 LA,
 LB,
 LE,
 Sq,
 LC,
 XP,
 LD,
 AA,
 I9,
 Ja,
 GK,
 Az,
 DG,
 DF,
 DH,
 DE,
 M4,
 M5,
 yw,
 DD,
 GL,
 yx],884,[(tb true,[Uu,
 Ux,
 Uv,
 UH,
 UE,
 UF,
 UI,
 Uw,
 Uy,
 Uz,
 UG,
 UJ,
 UD,
 Us,
 Ut,
 UA,
 UB,
 Lz,
 LA,
 LB,
 LE,
 Sq,
 LC,
 XP,
 LD,
 AA,
 I9,
 Ja,
 GK,
 Az,
 DG,
 DF,
 DH,
 DE,
 M4,
 M5,
 yw,
 DD,
 GL,
 yx],1004,884)]⟩
noncomputable def XX:XEnv:={lS vn tP jh [UK,OS,LF] [Xg,Sg] with pc:=Vn}
theorem SC:gI prog XX:=(lT (by simp[Jb,AB,xk]) (by simp[O6,E1]):gI prog (lS vn tP jh [UK,OS,LF] [Xg,Sg]))
theorem SD:NP prog XX jh 100000 ZO=true:=aH
theorem Vq:NR prog jh ZO:=Aj xc mu SC SD
noncomputable def Ekv:XEnv:={lS vn tP jh [ZO,UK,OS,LF] [Xg,Sg] with pc:=Vn}
theorem Vr:gI prog Ekv:=(lT (by simp[Vq,Jb,AB,xk]) (by simp[O6,E1]):gI prog (lS vn tP jh [ZO,UK,OS,LF] [Xg,Sg]))
def isT(r:Option G):Bool:=match r with
 |some (.lit (.bool true))=>true
 |_=>false
theorem O7{r:Option G}(h:isT r=true):r=some (.lit (.bool true)):=by
 unfold isT at h;split at h
 .rfl
 .cases h
theorem M6:isT (Bc prog Ekv (Ht prog Ekv 100000) 14 [] jh)=true:=aH
theorem O8:ba prog jh 14 [] (.lit (.bool true)):=(xB (rc xc mu Vr 100000).toRunOk mu _ _ _ _ (O7 M6)).1
abbrev zn:List (String×DataW Unit):=[("huddle/roll.asks",Rows.laid_huddle_roll_asks),("huddle/op.kinds",Rows.laid_huddle_op_kinds)]
theorem Y8:Tryz.prog.globalNamed "huddle/roll.asks" =some 1:=aH
theorem WB:Tryz.prog.globalNamed "huddle/op.kinds" =some 0:=aH
theorem Y9:(Tryz.prog.globals[1]?).map (·.type)=some 402:=aH
theorem WC:(Tryz.prog.globals[0]?).map (·.type)=some 241:=aH
theorem Rb{l:List α}{v:α}(h:l[i]?=some v):(l.drop (i*1)).take 1=[v]:=by rw[Nat.mul_one];obtain⟨hi,rfl⟩:=cr h;rw[List.drop_eq_getElem_cons hi];rfl
theorem IL{sp:Nat->Bool}{fuel:Nat}{ps rs:Array TypeId}{va:Bool}{q:List MemPlace}(ht:P.underlying t=some (.func ps rs va))
  (h:DataW.trod (funcToken P) P w base sp true fuel t [v]=some (.nil,q)):v= .nilFunc:=by
 cases fuel with
 |zero=>simp[DataW.trod] at h
 |succ n=>cases v<;>simp[DataW.trod,ht] at h;rfl
theorem zo{H:Type}{enc:TypeId×Value->H}{sp:Nat->Bool}{a:Bool}{fuel n:Nat}{e:TypeId}{cs:Array Value}{ds:List (DataW H)}{p:List MemPlace}{nm:String}{g:Nat}(ht:P.underlying t=some (.array n e))(hc:P.cellsOf e=1)(hn:P.cellsOf t=n)
  (hg:P.globalNamed nm=some g) (hv:w.var? P nm=some cs) (h:DataW.trod enc P w base sp a fuel t cs.toList=some (.agg ds,p)):∀i,i<n->∃v d m q,w.cell? ⟨g,i,none⟩=some v/\ds[i]?=some d/\DataW.trod enc P w base sp a m e [v]=some (d,q):=by
 obtain⟨xs,m,_,hx,hl,hlen,b⟩:=DataW.trod_array ht h
 simp only[Prod.mk.injEq,DataW.agg.injEq] at hx
 intro i hi
 have hsz:cs.size=n:=by rw[<-hn,<-hl];simp
 have hcell:=World.var?_cell hg hv i
 have hci:cs[i]?=some (cs[i]'aa):=Array.getElem?_eq_getElem aa
 have hli:cs.toList[i]?=some (cs[i]'aa):=by rw[Array.getElem?_toList];exact hci
 have:=b i hi
 rw[hc,Rb hli] at this
 have hxi:xs[i]?=some (xs[i]'aa):=cv aa
 rw[hxi] at this
 refine⟨_,(xs[i]'aa).1,m,(xs[i]'aa).2,hcell.trans hci,?_,this⟩
 rw[hx.1,List.getElem?_map,hxi]
 rfl
theorem ML{g:Nat}(h:W.cell? ⟨g,i,none⟩=some v):g<W.heap.size:=by
 rcases Nat.lt_or_ge g W.heap.size with h'|h'
 .exact h'
 .unfold World.cell? at h;simp[Array.getElem?_eq_none h'] at h
def IM:G->Value
 | .lit v=>v
 | .clo fn _ _=> .func fn #[] #[]
 |_=> .nilFunc
theorem WD{S:Nat->Prop}{g:G}(h:(∃v,g= .lit v)\/∃n,g= .clo (.func n) [] []):IV S W g (IM g):=by
 rcases h with⟨v,rfl⟩|⟨n,rfl⟩
 .exact .lit v
 .exact .clo _ [] [] #[] #[] rfl rfl aC aC
theorem MM{g:Nat}{l:List G}(h0:g<W.heap.size)(hc:∀i x,l[i]?=some x->W.cell? ⟨g,i,none⟩=some (IM x))(hg:∀x∈l,((∃k z,x= .lit (.int k z))\/x= .lit .nilFunc)\/∃n,x= .clo (.func n) [] []):IV (λ_=>False) W (.ptr l 0) (.pointer (some ⟨g,0,none⟩)):=by
 have e:(⟨g,0,none⟩:Addr)=⟨g,0+0,none⟩:=rfl;refine .ptr l 0 g 0 (λi=>IM (l.getD i .junk)) (λh=>h) h0 (λi hi=>?_) (λi hi=>?_) (λi x hx=>?_)
 .rw[Nat.zero_add];refine hc i _ ?_;rw[List.getD_eq_getElem?_getD,cv hi];rfl
 .have hx:l[i]?=some (l[i]'hi):=cv hi;rw[List.getD_eq_getElem?_getD,hx];rcases hg _ (bO hx) with(⟨k,z,h⟩|h)|⟨n,h⟩<;>(simp only[Option.getD_some];rw[h];rfl)
 .rw[List.getD_eq_getElem?_getD,hx];simp only[Option.getD_some];refine WD ?_;rcases hg _ (bO hx) with(⟨k,z,h⟩|h)|⟨n,h⟩
  .exact .inl ⟨_,h⟩
  .exact .inl ⟨_,h⟩
  .exact .inr ⟨n,h⟩
theorem Ov(h:laidMetH Tryz.prog zn W):IV (λ_=>False) W (.ptr (nG.flatMap cZ) 0) (.pointer (some ⟨0,0,none⟩)):=by
 have hm:laidMet Tryz.prog [("huddle/op.kinds",Rows.laid_huddle_op_kinds)] W:=h.1;obtain⟨ps,⟨g1,f,e,f1,g,q1,a,b,c,hd1,_,_⟩,_,_⟩:=hm;obtain rfl:=bn (WB.symm.trans a);obtain rfl:=bn (WC.symm.trans b);have hcells:=zo (n:=14) Tryz.underlying241 aH aH a c hd1;have key:∀i x,(nG.flatMap cZ)[i]?=some x->W.cell? ⟨0,i,none⟩=some (IM x):=by
  intro i x hx;have hi:i<14:=(cr hx).1;obtain⟨v,d,m,q,hc,hd,hr⟩:=hcells i hi;obtain⟨k,e1,e2,_⟩:=DataW.trod_int Tryz.underlying3 hr;simp only[Prod.mk.injEq] at e2;rw[hc];simp only[List.cons.injEq,and_true] at e1;rw[e1];rw[e2.1] at hd;match i,hi with
  |0,_|1,_|2,_|3,_|4,_|5,_|6,_|7,_|8,_|9,_|10,_|11,_|12,_|13,_=>cases hd;cases hx;rfl
 refine MM (ML (key 0 _ rfl)) key λx hx=> .inl (.inl ?_);obtain⟨z,_,hz⟩:=List.mem_flatMap.1 hx;cases List.mem_singleton.1 hz;exact⟨_,_,rfl⟩
noncomputable abbrev fby(l:List UInt8):List Nat:=(List.range Tryz.prog.funcs.size).filter λf=>(Tryz.prog.funcs[f]?).any (·.name.toUTF8.data.toList==l)
theorem aaJ:fby [104,117,100,100,108,101,47,114,111,108,108,46,97,115,107,115,36,49]=[423]:=aH
theorem aaK:fby [104,117,100,100,108,101,47,114,111,108,108,46,97,115,107,115,36,50]=[425]:=aH
theorem aaL:fby [104,117,100,100,108,101,47,114,111,108,108,46,97,115,107,115,36,51]=[426]:=aH
theorem aaM:fby [104,117,100,100,108,101,47,114,111,108,108,46,97,115,107,115,36,52]=[427]:=aH
theorem aaN:fby [104,117,100,100,108,101,47,114,111,108,108,46,97,115,107,115,36,53]=[428]:=aH
theorem aaO:fby [104,117,100,100,108,101,47,114,111,108,108,46,97,115,107,115,36,54]=[429]:=aH
theorem aaP:fby [40,42,104,117,100,100,108,101,47,114,111,108,108,46,82,111,108,108,41,46,111,119,110]=[431]:=aH
theorem aaQ:fby [104,117,100,100,108,101,47,114,111,108,108,46,97,115,107,115,36,55]=[432]:=aH
theorem aaR:fby [104,117,100,100,108,101,47,114,111,108,108,46,97,115,107,115,36,56]=[433]:=aH
theorem Rc(h:laidMetH Tryz.prog zn W):IV (λ_=>False) W (.ptr IU 0) (.pointer (some ⟨1,0,none⟩)):=by
 obtain⟨g,t,b,fuel,p,hg,ht,hv,a⟩:=h.funcs (List.mem_cons_self ..);obtain rfl:=bn (Y8.symm.trans hg);obtain rfl:=bn (Y9.symm.trans ht);have hd1:DataW.trod (funcToken Tryz.prog) Tryz.prog W 0 (λ_=>true) true fuel 402 b.toList=some (.agg [.nil,.nil,.held [104,117,100,100,108,101,47,114,111,108,108,46,97,115,107,115,36,49],.held [104,117,100,100,108,101,47,114,111,108,108,46,97,115,107,115,36,50],.nil,.held [104,117,100,100,108,101,47,114,111,108,108,46,97,115,107,115,36,51],.held [104,117,100,100,108,101,47,114,111,108,108,46,97,115,107,115,36,52],.nil,.held [104,117,100,100,108,101,47,114,111,108,108,46,97,115,107,115,36,53],.held [104,117,100,100,108,101,47,114,111,108,108,46,97,115,107,115,36,54],.held [40,42,104,117,100,100,108,101,47,114,111,108,108,46,82,111,108,108,41,46,111,119,110],.held [104,117,100,100,108,101,47,114,111,108,108,46,97,115,107,115,36,55],.held [40,42,104,117,100,100,108,101,47,114,111,108,108,46,82,111,108,108,41,46,111,119,110],.held [104,117,100,100,108,101,47,114,111,108,108,46,97,115,107,115,36,56]],p):=a;have hcells:=zo (n:=14) Tryz.underlying402 aH aH hg hv hd1;have key:∀i x,IU[i]?=some x->W.cell? ⟨1,i,none⟩=some (IM x):=by
  intro i x hx;have hi:i<14:=(cr hx).1;obtain⟨v,d,m,q,hc,hd,hr⟩:=hcells i hi;match i,hi with
  |0,_|1,_|2,_|3,_|4,_|5,_|6,_|7,_|8,_|9,_|10,_|11,_|12,_|13,_=>
   cases hd;cases hx;rw[hc];first
    |(rw[IL Tryz.underlying401 hr];rfl)
    |(rw[func_of_trod (f0:=423) Tryz.underlying401 aaJ hr];rfl)
    |(rw[func_of_trod (f0:=425) Tryz.underlying401 aaK hr];rfl)
    |(rw[func_of_trod (f0:=426) Tryz.underlying401 aaL hr];rfl)
    |(rw[func_of_trod (f0:=427) Tryz.underlying401 aaM hr];rfl)
    |(rw[func_of_trod (f0:=428) Tryz.underlying401 aaN hr];rfl)
    |(rw[func_of_trod (f0:=429) Tryz.underlying401 aaO hr];rfl)
    |(rw[func_of_trod (f0:=431) Tryz.underlying401 aaP hr];rfl)
    |(rw[func_of_trod (f0:=432) Tryz.underlying401 aaQ hr];rfl)
    |(rw[func_of_trod (f0:=433) Tryz.underlying401 aaR hr];rfl)
 refine MM (ML (key 0 _ rfl)) key λx hx=>?_;simp only[IU,List.mem_cons,List.not_mem_nil,or_false] at hx;rcases hx with rfl|rfl|rfl|rfl|rfl|rfl|rfl|rfl|rfl|rfl|rfl|rfl|rfl|rfl<;>first|exact .inl (.inr rfl)|exact .inr ⟨_,rfl⟩
theorem TK(h:laidMetH Tryz.prog zn W):Gls fI (λ_=>False) W:=by
 intro g l hl;simp only[fI,List.lookup_cons] at hl;split at hl
 .rename_i e;cases hl;obtain rfl:=eq_of_beq e;exact Ov h
 .split at hl
  .rename_i e;cases hl;obtain rfl:=eq_of_beq e;exact Rc h
  .cases hl
end Go.Proofs.YtnpdibmpndhkjaaGreatDoor
