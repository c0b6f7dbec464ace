/- Texts. -/
import Derived.Test.YtlijnaneopediaaGreatDoorZL
namespace Go.Proofs.YtlijnaneopediaaGreatDoor
set_option linter.unusedSectionVars false
set_option linter.unusedVariables false
set_option linter.unusedSimpArgs false
open Go.RowKit Tryz
attribute [local irreducible] Tr dz Gp
variable {l:List Ef}{d m:Int}{i x:Ab}{g:CA}{o:Bj}{k n p:Nat}{y y':Ef}{x':AA}{cs:Mw}{D V:List Bool}{dl:JQ}{al:Bb}{s:Bh}{ids row vs:A3}{a:A3×FM Ab Bool}{b:List Bool×List Bool×Int}{R:Ad}{fi:FuncId}{fa fc:Bk}{N:Jk}{gg:Aj}
theorem Ai3{l:Bh}{x:Int}{j:Nat}(hp:PR l)(h1:∀i y,i<j->l[i]?=some y->y<=x)(h2:∀y,l[j]?=some y->x<=y):PR (l.take j++[x]++l.drop j):=by
 have hpj:(l.take j++l.drop j).Pairwise λa b=>a<=b:=by rw[Pu];exact hp
 rw[List.pairwise_append] at hpj;have hlt:∀a∈l.take j,a<=x:=by grind [G9]
 have hgt:∀b∈l.drop j,x<=b:=λb hb=>by cases hc:l[j]? <;>grind [List.drop_eq_nil_of_le,List.drop_eq_getElem_cons,List.pairwise_cons]
 grind [PR]
theorem Ab0{l:Bh}(hl:l.length<=1000000):T (lg l) λr=>r.Perm l/\PR r:=by
 unfold lg;refine .bind (T.mono (Q:=λr:Bh=>r.Perm l/\PR r) (T.forA l.length (λk acc=>acc.Perm (l.take k)/\PR acc) aa ⟨aC,.nil⟩ (λk acc hk hj=>?_) λacc hj=>?_) λx hx=> .some hx)
 .obtain⟨y,hy,hm⟩:=dk hk;have hal:acc.length=k:=by rw[hj.1.length_eq,LL];omega
  unfold pb;simp only[eA hk,ax,au,hy,aL];refine .bind (T.mono (Q:=λn:Int=>∃j:Nat,n=(j:Int)/\j<=acc.length/\(∀i z,i<j->acc[i]?=some z->z<=y)/\∀z,acc[j]?=some z->y<=z) (T.forI acc.length (λj=>∀i z,i<j->acc[i]?=some z->z<=y) aa (λi z h=>aa) (λj hjl hq=>?_) λhq=>?_) λn hn=>?_)
  .obtain⟨z,hz,a⟩:=dk hjl;unfold pa;simp only[eA hjl,ax,au,hz,hy,aL];refine .dec (λhc=> .some ⟨aq aa,λi b hi hz'=>?_⟩) λhc=> .some ⟨j,rfl,aa,hq,λb hz'=>?_⟩;all_goals grind
  .unfold pa;dsimp only;rw[eF,A7,aL,A7];refine .some ⟨acc.length,rfl,Dl _,hq,λz hz=>?_⟩;grind
  .obtain⟨j,rfl,hjl,q1,c⟩:=hn;refine .bind (.pre aa aa (.bind (.app cq (.bind (.app cq (.bind (.suf aa aa (.bind (.app cq (.some ⟨aq aa,?_⟩))))))))));rw[Ni,EO];constructor<;>grind [Ai3,Rb,Cy]
 .unfold pb;dsimp only;rw[eF,A7];rw[D3] at hj;exact .some hj
theorem Vv{a b:Bh}(hp:a.Perm b)(h1:PR a)(h2:PR b):a=b:=List.Perm.eq_of_pairwise (le:=λa b=>a<=b) (by grind) h1 h2 hp
theorem ZR{α β γ:Type}{f:α->β}{g:α->γ}:∀{l:List α},(l.map g).Nodup->(∀x∈l,∀y∈l,f x=f y->g x=g y)->(l.map f).Nodup
 |[],_,_=> .nil
 |a::r,hd,h=>by rw[Fi,Mi] at hd⊢;refine⟨λhm=>?_,ZR hd.2 (by grind)⟩;grind
section
variable {R:Ad} {D:C7}
abbrev atV(V:List G8)(i:Ab)(d:Int):Bh:=(V.filter λv=>decide (v.Of=i)&&decide (v.Device=d)).map (·.At)
theorem AkZ(h:Rr R D)(hR:Bi R){x:AA}(hx:R.members.get m=some x)(hg:x.guard=some g)(d:Int):(atV D.V g.id d).Perm (dvE d g.vouches.es):=by
 have hv:=hR.cv _ _ g hx hg;have hp:((D.V.filter λv=>decide (v.Of=g.id)&&decide (v.Device=d)).map λv=>(v.By,v.At)).Perm ((g.vouches.es.filter λe=>decide (e.1.device=d)).map λe=>(e.1.by_,e.2.1)):=by
  refine(List.perm_ext_iff_of_nodup ?_ ?_).2 λ⟨b,a⟩=>?_
  .refine ZR (g:=λv:G8=>(v.Of,v.By,v.Device)) (h.vnd.sublist (List.filter_sublist.map _)) λp hp q hq e=>?_;grind
  .refine ZR (g:=λe:C4×Int×Nat=>e.1) (hv.kd.sublist (List.filter_sublist.map _)) λp hp q hq e=>?_;rw[Hq] at hp hq;have h1:=DD hp.2;have h2:=DD hq.2;simp only[Fw] at e;cases hp1:p.1;cases i:q.1;grind
  .have hb:=h.vou m x g hx hg b d a;constructor
   .intro hm;obtain⟨v,hv1,hv2⟩:=Fo.1 hm;rw[Hq] at hv1;have h1:v.Of=g.id/\v.Device=d:=by simpa using hv1.2
    simp only[Fw] at hv2;obtain⟨n,hn⟩:=Hd (hb.2 ⟨v,hv1.1,h1.1,hv2.1,h1.2,hv2.2⟩);exact Fo.2 ⟨_,Hq.2 ⟨hn,CO rfl⟩,rfl⟩
   .intro hm;obtain⟨e,c,f⟩:=Fo.1 hm;rw[Hq] at c;have h1:=DD c.2;simp only[Fw] at f;have hge:=JI hv (k:=e.1) (v:=e.2.1) (n:=e.2.2) c.1;have hk:e.1=⟨b,d⟩:=by cases hq:e.1;grind
    rw[hk,f.2] at hge;obtain⟨v,k1,k2,k3,j,k5⟩:=hb.1 hge;grind
 have:=hp.map Prod.snd;rw[Iu,Iu] at this;exact this
theorem atT(z:Sz D)(d:Int)(y:Ef):AB (Qs D d y) ([],0)=some (atV D.V y.ID d):=by
 have:=z.v;refine T.eq (T.forA D.V.length (λk acc=>acc=atV (D.V.take k) y.ID d) aa (by simp[atV]) (λk acc hk hj=>?_) λacc hj=>?_)
 .obtain⟨v,hv,_⟩:=dk hk;have hal:acc.length<=k:=by grind
  have e:atV (D.V.take (k+1)) y.ID d=acc++(if v.Of=y.ID/\v.Device=d then[v.At] else[]):=by unfold atV;rw[Rb hv,O7,List.map_append];grind
  unfold Qs;simp only[eA hk,ax,au,hv,aL];by_cases c1:v.Of=y.ID
  .by_cases c2:v.Device=d
   .simp only[c1,c2,decide_true,ax,aL];rw[Bz ⟨c1,c2⟩] at e;exact .bind (.app cq (.some ⟨aq aa,e.symm⟩))
   .simp only[c1,c2,decide_true,decide_false,ax,A7,aL];rw[BW λc=>c2 c.2,Nj] at e;exact .some ⟨aq aa,e.symm⟩
  .simp only[c1,decide_false,A7,aL];rw[BW λc=>c1 c.1,Nj] at e;exact .some ⟨aq aa,e.symm⟩
 .unfold Qs;dsimp only;rw[eF,A7];refine .some (show acc=_ from ?_);rw[hj,D3]
theorem AmJ(z:Sz D)(h:Rr R D)(hR:Bi R)(m d:Int):Ff D m d=some (Y0 R m d):=by
 unfold Ff;refine T.eq (.bind ((Ya z h m).mono λv hv=>?_));unfold Y0;cases hx:R.members.get m with
 |none=>grind [T.some]
 |some x=>
  rw[hx] at hv;obtain⟨k,y,rfl,hy,_,hm⟩:=hv;rw[show decide ((k:Int)<0)=false from C5 aa,A7,au,hy,aL];dsimp only;cases hg:x.guard with
  |none=>grind [Mr.no,T.some]
  |some g=>
   have h1:=hm.gd g hg;have hv:=hR.cv _ _ g hx hg;have hb:=hR.vb _ _ g hx hg;have hn:=hR.gN _ _ g hx hg;have h6:=Aau hv.kd hb (List.Pairwise.of_map (λx=>x.1) (by grind) hv.kd) (λe he=>he) d;obtain⟨srt,e1,a,s1⟩:=AbA (l:=dvE d g.vouches.es) aa;have hda:AcI g d=srt:=by unfold AcI;rw[e1];rfl
   have hp:=AkZ h hR hx hg d;rw[h1.1,atT z d y,aL];simp only[Bool.not_true,A7];rw[hda,h1.2.1];refine .bind ((Ab0 (by rw[hp.length_eq];omega)).mono λv hv=>?_);obtain rfl:v=srt:=Vv (hv.1.trans (hp.trans a.symm)) hv.2 s1;rw[h1.2.2.2.1,h1.2.2.2.2.1,h1.2.2.2.2.2.1,h1.2.2.2.2.2.2];refine .dec (by grind [T.some]) λhc=>?_;rw[C5 hc,A7];have hc2:g.need<=(v.length:Int):=by unfold ah at hc;omega
   have hz0:aS v 0=some (v.getD 0 0):=by grind [au]
   have hz1:aS v (wI (g.need-1))=some (v.getD (g.need.toNat-1) 0):=by grind [bM,au]
   grind [T.some]
theorem AeC(z:Sz D)(h:Rr R D)(o:Bj)(m:Int):o9 D o m (decide (MI R m=3))=some (Aem R o m):=by
 unfold o9 Aem Jd;rw[inE z h,ofE z,h.card,aL,aL];cases decide (o.Device≠0) with
 |true=>grind
 |false=>refine T.eq (.bind ((Ya z h o.Member).mono λv hv=>?_));grind [T.some]
theorem AmK(z:Sz D)(h:Rr R D)(hR:Bi R)(hk:o.Kind=11):mB D o=some (Aen R o):=by
 unfold mB Aen;refine T.eq (.bind ((ZQ z h hR o).mono λv hv=>?_));rw[hv.1];cases c0:decide ((Dd R o).2≠0) with
 |true=>exact .some rfl
 |false=>
  have c1:(Dd R o).2=0:=by simpa using c0
  obtain⟨k,y,x,g,hv1,hy,a,hx,hm,hgd,hid⟩:=hv.2 c1;rw[A7,hv1,au,hy,aL,ofE z,ZP z h,h.card,a,hk];grind [T.some]
theorem AmL(z:Sz D)(h:Rr R D)(hR:Bi R)(hk:o.Kind=13):mB D o=some (Aeo R o):=by
 unfold mB Aeo Aj1;refine T.eq (.bind ((ZQ z h hR o).mono λv hv=>?_));rw[hv.1];cases c0:decide ((Dd R o).2≠0) with
 |true=>exact .some rfl
 |false=>
  have c1:(Dd R o).2=0:=by simpa using c0
  obtain⟨k,y,x,g,hv1,hy,a,hx,hm,hgd,hid⟩:=hv.2 c1;rw[A7,hv1,au,hy,aL,ofE z,ofE z,ZP z h,inE z h,h.card,h.card,a,hk,AmJ z h hR];simp only[Int.reduceEq,decide_true,decide_false,ax,A7,aL];generalize Y0 R (Dd R o).1 o.Device=q;cases PO R o.Old with
  |false=>exact .some rfl
  |true=>simp only[Bool.not_true,A7,ax];cases decide (X9 D.Cards o.Old≠(Dd R o).1)<;>grind [T.some]
theorem Ai4(z:Sz D)(h:Rr R D)(hR:Bi R)(hgl:o.Guards.length<=1000000)(i:Ab):AX D o i=some (Mh R o):=by
 have e:=z.dev;unfold AX;rw[ofE z,aL,<-h.card];unfold Mh;by_cases k1:o.Kind=1
 .grind [Rr.w0,ah]
 rw[BW k1,C5 k1,A7,inE z h,aL];cases PO R o.By with
 |false=>rfl
 |true=>
 rw[Bool.not_true,A7,ax,Aiq z h,aL];unfold AcJ;by_cases k2:o.Kind=2
 .grind [ZP,ofE,Agf,Jd,Rr.card]
 rw[BW k2,C5 k2,A7];by_cases k3:o.Kind=3
 .grind [AeC]
 rw[BW k3,C5 k3,A7];by_cases k5:o.Kind=5
 .rw[Bz k5,CO k5,ax];unfold Agg Jd;cases decide (MI R (Dx R o.By)=3) with
  |false=>rfl
  |true=>simp only[Bool.not_true,A7,ax];refine T.eq (.bind ((Ya z h o.Member).mono λv hv=>?_));grind [T.some]
 rw[BW k5,C5 k5,A7];by_cases k6:o.Kind=6
 .grind [Agh]
 rw[BW k6,C5 k6,A7];by_cases k8:o.Kind=8
 .grind [ofE,Agi,Jd,Rr.card]
 rw[BW k8,C5 k8,A7];by_cases k9:o.Kind=9
 .rw[Bz k9,CO k9,ax];unfold Agk;refine T.eq (.bind ((T.search o.Guards (λx=> !PO R x) (λk _=>(17:Int)) aa (λk x hx hk=>?_) ?_).mono ?_))
  .grind [T9,eA,au,inE,aq]
  .unfold T9;rw[eF,A7]
  .rintro r (⟨rfl,hn⟩|⟨k,x,hx,hp,rfl,hn⟩)
   .refine .some ?_;grind
   .refine .some ?_;grind
 rw[BW k9,C5 k9,A7];have hO:T ((dS D (Dx R o.By)).bind λa=>bif a<0 then(some 25)else(((aS D.L a).bind λb=>bif(!b.Is)then(some true)else((aS D.L a).bind λc=>some (!decide (c.ID=o.Of)))).bind λd=>bif d then(some 25)else(some 0))) λw=>w=AbE R o (Dx R o.By):=by
  refine .bind ((Ya z h (Dx R o.By)).mono λv hv=>?_);unfold AbE;cases hx:R.members.get (Dx R o.By) with
  |none=>grind [T.some]
  |some x=>rw[hx] at hv;grind [au,Mr.no,T.some,Mr.gd]
 grind [T.eq,AmK,AmL]
end
theorem AmM{K V:Type}[DecidableEq K]{m:FM K V}{k:K}{p:V}:(C6 m k p).es.length=if(m.get k).isSome then m.es.length else m.es.length+1:=by
 unfold C6;cases hk:bu k (m.es.map (·.1)) with
 |none=>rw[Tk hk];simp
 |some j=>obtain⟨e,_,_,h⟩:=MJ hk;rw[h];simp
structure Sy (D:C7):Prop where
 c:D.Cards.length<=1000
 dev:D.In.length+D.Gone.length<=2000
 l:D.L.length<=2000
 v:D.V.length<=2000
structure Gw (D D':C7):Prop where
 c:D'.Cards=D.Cards
 dev:D'.In.length+D'.Gone.length<=D.In.length+D.Gone.length+1
 l:D'.L.length<=D.L.length+1
 v:D'.V=D.V
theorem Gw.rfl'{D:C7}:Gw D D:=by grind [Gw]
theorem Sy.z{D:C7}(h:Sy D):Sz D:=by grind [Sy,Sz]
section
variable {R:Ad} {D:C7}
theorem Ak0(h:Rr R D)(h1:d∉D.In)(h2:d∉D.Gone):Rr {R with in_:=C6 R.in_ d true,was:=C6 R.was d true} {D with In:=D.In++[d]} where
 card:=h.card
 nd:=by show(D.In++[d]++D.Gone).Nodup;rw[List.append_assoc,List.singleton_append,List.perm_middle.nodup_iff,Mi];grind [Rr.nd]
 in_ e:=by grind [BA,Rr.in_]
 was e:=by grind [BA,Rr.was]
 w0:=by grind [Rr.was,AmM,Rr.w0]
 ln:=h.ln
 no:=h.no
 mem:=h.mem
 vou:=h.vou
 vof:=h.vof
 vnd:=h.vnd
 back:=h.back
theorem Ai5(h:Rr R D){m role:Int}(hm:R.members.get m=none):Rr {R with members:=C6 R.members m ⟨role,none⟩} {D with L:=D.L++[⟨m,role,false,⟨0,0,0⟩,[],0,0,false,0⟩]} where
 card:=h.card
 nd:=h.nd
 in_:=h.in_
 was:=h.was
 w0:=h.w0
 ln:=by show((D.L++[(⟨m,role,false,⟨0,0,0⟩,[],0,0,false,0⟩:Ef)]).map (·.N)).Nodup;rw[List.map_append,Fi,List.map_nil,List.perm_append_comm.nodup_iff,List.singleton_append,Mi];grind [Rr.ln,Rr.no]
 no k hk y hy:=by grind [BA,Rr.no]
 mem k x hk:=by
  have hk:(C6 R.members m ⟨role,none⟩).get k=some x:=hk;rw[BA] at hk;split at hk
  .rename_i e;cases hk;exact⟨_,I6.2 (.inr (List.mem_singleton.2 rfl)),e.symm,rfl,λ_=>rfl,λg hg=>by cases hg⟩
  grind [Rr.mem]
 vou k x g hk hg:=by grind [BA,Rr.vou]
 vof v hv:=by obtain⟨k,x,g,hk,hg,e⟩:=h.vof v hv;refine⟨k,x,g,?_,hg,e⟩;grind [BA]
 vnd:=h.vnd
 back:=h.back
theorem Ab1(z:Sy D)(h:Rr R D)(hR:Bi R)(d role:Int):T (nX D d role) λD'=>Rr (Jb R d role) D'/\Gw D D':=by
 have a:=z.dev;have b:=z.l;unfold nX Jb;rw[ZP z.z h,aL];cases hf:D4 R d with
 |false=>exact .some ⟨h,.rfl'⟩
 |true=>
  rw[Bool.not_true,A7,ax];have hw:R.was.get d=none:=by grind [Rr.was,D4,Hj]
  have hnd:d∉D.In/\d∉D.Gone:=by grind [Rr.was]
  refine .bind (.app cq (.bind (.app cq ?_)));rw[Ni];have h':=Ak0 h hnd.1 hnd.2;rw[show gE {D with In:=D.In++[d]} d=gE D d from rfl,ofE z.z,aL,<-h.card];rw[show dS {D with In:=D.In++[d]} (Dx R d)=dS D (Dx R d) from rfl];refine .bind ((Ya z.z h (Dx R d)).mono λv hv=>?_);cases hx:R.members.get (Dx R d) with
  |none=>rw[hx] at hv;subst hv;rw[show decide ((-1:Int)<0)=true from rfl,ax];refine .bind (.bind (.app cq (.bind (.app cq (.some ?_)))));rw[Ni];exact .some ⟨Ai5 (role:=role) h' hx,rfl,by simp;omega,aC,rfl⟩
  |some x=>rw[hx] at hv;obtain⟨k,y,rfl,_⟩:=hv;rw[show decide ((k:Int)<0)=false from C5 aa,A7];exact .some ⟨h',rfl,by simp;omega,aC,rfl⟩
theorem AeD(h:Rr R D)(hy:D.L[k]?=some y)(hn:y.N=m)(a:y'.N=m):((D.L.set k y').map (·.N)).Nodup:=by grind [List.map_set,Rr.ln]
theorem AeE(h:Rr R D)(a:y'.N=m)(q:Int)(hq:(C6 R.members m x').get q=none)(z:Ef)(hz:z∈D.L.set k y'):z.N≠q:=by grind [BA,Rr.no]
theorem ZW(h:Rr R D)(hy:D.L[k]?=some y)(hn:y.N=m)(a:y'.N=m)(hM:Mr x' y')(q:Int)(z:AA)(hq:(C6 R.members m x').get q=some z):∃y∈D.L.set k y',y.N=q/\Mr z y:=by
 rw[BA] at hq;split at hq
 .rename_i e;cases hq;exact⟨y',bO (i:=k) (by grind),a.trans e.symm,hM⟩
 .rename_i hne;obtain⟨w,hw,b,c⟩:=h.mem q z hq;obtain⟨j,hj⟩:=G9 hw;have hkj:¬k=j:=by grind
  exact⟨w,bO (i:=j) (by grind),b,c⟩
theorem AeF(h:Rr R D){x:AA}(hx:R.members.get m=some x)(hy:D.L[k]?=some y)(hn:y.N=m)(b:y'.N=m)(hM:Mr x' y')(h1:∀a,x'.guard=some a->∃g,x.guard=some g/\a.id=g.id/\a.vouches=g.vouches)(h2:∀g,x.guard=some g->∃a,x'.guard=some a/\a.id=g.id):Rr (HU R m x') {D with L:=D.L.set k y'} where
 card:=h.card
 nd:=h.nd
 in_:=h.in_
 was:=h.was
 w0:=h.w0
 ln:=AeD h hy hn b
 no q hq z hz:=AeE h b q hq z hz
 mem q z hq:=ZW h hy hn b hM q z hq
 vou q z a hq hg':=by grind [BA,Rr.vou]
 vof v hv:=by
  obtain⟨q,z,g,hq,hg,e⟩:=h.vof v hv;by_cases c:q=m
  .subst c;rw[hx] at hq;cases hq;obtain⟨a,e1,e2⟩:=h2 g hg;exact⟨q,x',a,by grind [BA],e1,e.trans e2.symm⟩
  .exact⟨q,z,g,by grind [BA],hg,e⟩
 vnd:=h.vnd
 back:=h.back
theorem Ak1(z:Sy D)(h:Rr R D)(o:Bj):T ((dS D o.Member).bind λa=>bif 0<=a then((aS D.L a).bind λb=>(o6 D.L a ({b with Role:=o.Role})).bind λc=>some ({D with L:=c}))else(some D)) (Rr (UF R o)):=by
 have d:=z.l;refine .bind ((Ya z.z h o.Member).mono λv hv=>?_);unfold UF;cases hx:R.members.get o.Member with
 |none=>grind [T.some]
 |some x=>rw[hx] at hv;obtain⟨k,y,rfl,hy,hn,hM⟩:=hv;have hk:=(cr hy).1;rw[show decide ((0:Int)<=(k:Int))=true from CO aa,ax,au,hy,aL];unfold o6;refine .bind (.bind (.app cq (.bind (.set aa cq (.some (.some ?_))))));rw[Ni,EO];grind [AeF,Mr]
abbrev inF(l:Bh)(d:Int):Bh:=l.filter λx=>decide (x≠d)
abbrev lF(l:List Ef)(m:Int):List Ef:=l.filter λy=>decide (y.N≠m)
def ZX(l:List Ef)(i:Ab):Bool:=l.any λy=>y.Is&&decide (y.ID=i)
theorem Pt:ZX l i=true↔∃y∈l,y.Is=true/\y.ID=i:=by grind [ZX]
theorem Ak2(z:Sz D)(i:Ab):T (jN D i) λv=>decide (0<=v)=ZX D.L i:=by grind [T.mono,AkX,Pt]
theorem ZZ:∀{l:Bh} {d:Int},l.Nodup->d∈l->(inF l d).length+1=l.length
 |[],d,_,h=>by cases h
 |x::r,d,hn,h=>by
  rw[Mi] at hn;by_cases e:x=d
  .grind [List.filter_eq_self]
  .have:=ZZ hn.2 ((EZ.1 h).resolve_left λc=>e c.symm);grind
theorem Ai6(h:Rr R D)(hR:Bi R)(hd:d∈D.In):Rr (I4 R d) {D with In:=inF D.In d,Gone:=D.Gone++[d]} where
 card:=h.card
 nd:=by show(inF D.In d++(D.Gone++[d])).Nodup;have h1:=List.nodup_append.1 h.nd;grind
 in_ e:=by grind [NP,Bi.ci,Rr.in_]
 was e:=by grind [Rr.was]
 w0:=by grind [ZZ,Rr.nd,Rr.w0]
 ln:=h.ln
 no:=h.no
 mem:=h.mem
 vou:=h.vou
 vof:=h.vof
 vnd:=h.vnd
 back:=h.back
theorem Ai7(h:Rr R D)(hR:Bi R)(m:Int):Rr (Sp R m) {D with L:=lF D.L m,V:=D.V.filter λv=>ZX (lF D.L m) v.Of}:=by
 have hg:∀k,(Sp R m).members.get k=if k=m then none else R.members.get k:=λk=>NP hR.cm k
 have hmem:∀y,y∈lF D.L m↔y∈D.L/\y.N≠m:=by grind
 constructor<;>try grind [Rr.nd,Rr.in_,Rr.was,Rr.w0,Rr.ln,Rr.of,Rr.vnd,Rr.back]
 .exact h.card
 .exact(by grind [Rr.mem])
 .exact λk x g hk hgd b d a=>by
   rw[hg] at hk;split at hk
   .cases hk
   .rename_i hne;rw[h.vou k x g hk hgd b d a];obtain⟨y,hy,hn,hm⟩:=h.mem k x hk;have h1:=hm.gd g hgd;have hown:ZX (lF D.L m) g.id=true:=by grind [Pt]
    constructor
    .rintro⟨v,hv,e1,e2⟩;exact⟨v,(by grind),e1,e2⟩
    .rintro⟨v,hv,e⟩;exact⟨v,(Hq.1 hv).1,e⟩
 .exact λv hv=>by obtain⟨y,hy,h1,h2⟩:=Pt.1 (Hq.1 hv).2;have c:=(hmem y).1 hy;obtain⟨x,hx,hm⟩:=h.of c.1;cases hgd:x.guard<;>grind [Mr.no,Mr.gd]
theorem Ak3(z:Sy D)(d f:Int):T (AB (uj D d f) ([],false,0)) λx=>x=(inF D.In d,(inF D.In d).any λx=>decide (X9 D.Cards x=f)):=by
 have hd:=z.dev;refine T.loop (λs=>∃k:Nat,k<=D.In.length/\s.2.2=(k:Int)/\s.1=inF (D.In.take k) d/\s.2.1=(inF (D.In.take k) d).any λx=>decide (X9 D.Cards x=f)) (λs=>D.In.length-s.2.2.toNat) (by grind) cq ?_;rintro⟨a,b,i⟩ ⟨k,hk,rfl,ha,hb⟩;dsimp only at ha hb;subst ha;unfold uj;dsimp only;rcases It k D.In.length with hlt|hge
 .obtain⟨x,hx,_⟩:=dk hlt;have hla:(inF (D.In.take k) d).length<=k:=by grind
  simp only[eA hlt,ax,au,hx,aL,ofE z.z];have ew:=aq (show k<2305843009213693952 by omega);have e:inF (D.In.take (k+1)) d=inF (D.In.take k) d++(if x≠d then[x] else[]):=by unfold inF;rw[Rb hx,O7];by_cases c:x=d<;>simp[c]
  refine .dec (λhc=>?_) λhc=>?_
  .rw[Bz hc] at e;refine .bind (.app cq (.bind (x:=bif b then some true else some (decide (X9 D.Cards x=f))) (T.mono (Q:=λq=>q=(b||decide (X9 D.Cards x=f))) (by cases b<;>exact .some rfl) λq hq=> .some ⟨⟨k+1,aa,ew,e.symm,?_⟩,?_⟩)));all_goals grind
  .rw[BW hc,Nj] at e;refine .some ⟨(by grind),?_⟩;rw[ew];simp;omega
 .obtain rfl:k=D.In.length:=aa;rw[eF,A7];refine .some (show(_,_)=_ from ?_);rw[hb,D3]
theorem Ak4(z:Sy D)(m:Int):T (AB (ui D m) ([],[],0)) λx=>x=(lF D.L m,[]):=by
 have hd:=z.l;refine T.loop (λs=>∃k:Nat,k<=D.L.length/\s.2.2=(k:Int)/\s.1=lF (D.L.take k) m/\s.2.1=[]) (λs=>D.L.length-s.2.2.toNat) (by grind) cq ?_;rintro⟨a,b,i⟩ ⟨k,hk,rfl,ha,hb⟩;dsimp only at ha hb;subst ha;subst hb;unfold ui;dsimp only;rcases It k D.L.length with hlt|hge
 .obtain⟨x,hx,_⟩:=dk hlt;have hla:(lF (D.L.take k) m).length<=k:=by grind
  simp only[eA hlt,ax,au,hx,aL];have ew:=aq (show k<2305843009213693952 by omega);have e:lF (D.L.take (k+1)) m=lF (D.L.take k) m++(if x.N≠m then[x] else[]):=by unfold lF;rw[Rb hx,O7];grind
  refine .dec (λhc=>?_) λhc=>?_
  .rw[Bz hc] at e;refine .bind (.app cq (.some ⟨(by grind),?_⟩));rw[ew];simp;omega
  .rw[BW hc,Nj] at e;refine .some ⟨(by grind),?_⟩;rw[ew];simp;omega
 .obtain rfl:k=D.L.length:=aa;rw[eF,A7];refine .some (show(_,_)=_ from ?_);rw[D3]
theorem Ak5{step:List G8×Int->Option ((List G8×Int)⊕List G8)}{V:List G8}{p:G8->Bool}(hn:V.length<=2000)(hs:∀(k:Nat) (v:G8) (acc:List G8),V[k]?=some v->acc.length<=2000->T (step (acc,(k:Int))) λq=>q= .inl (if p v then acc++[v]else acc,wI ((k:Int)+1)))(he:∀acc,step (acc,(V.length:Int))=some (.inr acc)):T (AB step ([],0)) λx=>x=V.filter p:=by
 refine T.forA V.length (λk acc=>acc=(V.take k).filter p) aa aC (λk acc hk hj=>?_) λacc hj=>?_
 .obtain⟨v,hv,_⟩:=dk hk;have hal:acc.length<=k:=by grind
  refine(hs k v acc hv aa).mono λq hq=>?_;subst hq;refine⟨aq aa,?_⟩;dsimp only;rw[Rb hv,O7,<-hj];cases hp:p v<;>simp[hp]
 .rw[he];refine .some (show acc=_ from ?_);rw[hj,D3]
theorem Air(z:Sy D)(h:Rr R D)(hR:Bi R)(d:Int):T (sh D d) λD'=>Rr (G4 R d) D'/\Sy D':=by
 have f:=z.dev;have b:=z.l;have a:=z.v;have z4:=z.c;unfold sh G4;rw[inE z.z h,aL];cases hi:PO R d with
 |false=>exact .some ⟨h,z⟩
 |true=>
  have hd:d∈D.In:=by grind [Rr.ins]
  rw[Bool.not_true,A7,ax,ofE z.z,aL,<-h.card];refine .bind ((Ak3 z d (Dx R d)).mono λx hx=>?_);subst hx;have ho:=Ai6 h hR hd;have hlen:=ZZ (List.nodup_append.1 h.nd).1 hd;have hst:LW (I4 R d) (Dx R d)=(inF D.In d).any λx=>decide (X9 D.Cards x=Dx R d):=by
   unfold LW;rw[Bool.eq_iff_iff,List.any_eq_true,List.any_eq_true];constructor
   .rintro⟨e,he,hc⟩;have hg:=JI (Vo hR.ci) (k:=e.1) (v:=e.2.1) (n:=e.2.2) he;have hge:=ho.in_ e.1;grind [Rr]
   .rintro⟨x,hx,hc⟩;have hge:=ho.in_ x;rw[Bz hx] at hge;obtain⟨n,hn⟩:=Hd hge;grind [Rr]
  refine .bind (.app cq (.bind (.app cq ?_)));rw[Ni];dsimp only;rw[hst];cases hb:(inF D.In d).any λx=>decide (X9 D.Cards x=Dx R d) with
  |true=>grind [Sy,T.some]
  |false=>
   rw[A7,A7];refine .bind ((Ak4 z (Dx R d)).mono λx hx=>?_);subst hx;have hlf:(lF D.L (Dx R d)).length<=2000:=JF (KZ _ _) b;have hif:(inF D.In d).length<=D.In.length:=KZ _ _;refine .bind ((Ak5 (p:=λv=>ZX (lF D.L (Dx R d)) v.Of) a (λk v acc hv hal=>?_) λacc=>?_).mono λx hx=>?_)
   .have hk:=(cr hv).1;unfold uh;simp only[eA hk,ax,au,hv,aL];grind [T.bind,T.mono,Ak2,Sz,T.app,T.some]
   .grind [uh,eF]
   .subst hx;exact .some ⟨Ai7 ho (Aai hR d) (Dx R d),z4,by simp;omega,hlf,JF (KZ _ _) a⟩
end
structure Rq (Q Q':Ad):Prop where
 c:∀d,Dx Q' d=Dx Q d
 i:∀d,Q'.in_.get d=Q.in_.get d
 w:∀d,Q'.was.get d=Q.was.get d
 n:Q'.was.es.length=Q.was.es.length
 m:∀k,Q'.members.get k=Q.members.get k
 b:Q'.back=Q.back
theorem Rq.rr{Q Q':Ad}{D:C7}(q:Rq Q Q')(h:Rr Q D):Rr Q' D where
 card d:=(q.c d).trans (h.card d)
 nd:=h.nd
 in_ d:=(q.i d).trans (h.in_ d)
 was d:=(q.w d).trans (h.was d)
 w0:=q.n.trans h.w0
 ln:=h.ln
 no m hm:=h.no m ((q.m m).symm.trans hm)
 mem m x hm:=h.mem m x ((q.m m).symm.trans hm)
 vou m x g hm hg:=by grind [Rr,m]
 vof v hv:=by grind [Rr.vof,m]
 vnd:=h.vnd
 back:=q.b.trans h.back
structure Go (R Q:Ad) (m:Int) (p:Bh):Prop where
 c:∀d,Dx Q d=Dx R d
 w:Q.was=R.was
 b:Q.back=R.back
 i:∀e,Q.in_.get e=if e∈p then none else R.in_.get e
 m1:p=[]\/(∃e v,Q.in_.get e=some v/\Dx R e=m)->∀k,Q.members.get k=R.members.get k
 m2:p≠[]->(∀e v,Q.in_.get e=some v->Dx R e≠m)->∀k,Q.members.get k=if k=m then none else R.members.get k
theorem Go.step{R Q:Ad}{m:Int}{p:Bh}{d:Int}(h:Go R Q m p)(hQ:Bi Q)(hp:d∉p)(hi:R.in_.get d=some true)(hm:Dx R d=m):Go R (G4 Q d) m (p++[d]):=by
 have hq:Q.in_.get d=some true:=by rw[h.i,BW hp,hi]
 have hin:PO Q d=true:=by unfold PO;rw[hq];rfl
 have ho:∀e,(I4 Q d).in_.get e=if e∈p++[d]then none else R.in_.get e:=by grind [NP,Bi.ci,i]
 have hst:LW (I4 Q d) (Dx Q d)=true↔∃e v,(I4 Q d).in_.get e=some v/\Dx R e=m:=by
  unfold LW;rw[List.any_eq_true,h.c,hm];constructor
  .rintro⟨e,he,hc⟩;exact⟨e.1,e.2.1,(by grind [JI,Vo,Bi.ci]),(h.c e.1).symm.trans (DD hc)⟩
  .rintro⟨e,v,hg,hc⟩;obtain⟨n,hn⟩:=Hd hg;exact⟨_,hn,CO ((h.c e).trans hc)⟩
 have a:=h.m1 (.inr ⟨d,true,hq,hm⟩);unfold G4;rw[hin,ax];cases hs:LW (I4 Q d) (Dx Q d) with
 |true=>have hx:=hst.1 hs;exact⟨h.c,h.w,h.b,ho,λ_=>a,(by grind)⟩
 |false=>
  have hx:¬∃e v,(I4 Q d).in_.get e=some v/\Dx R e=m:=by grind
  refine⟨h.c,h.w,h.b,ho,λc=>?_,λ_ _ k=>?_⟩;all_goals grind [NP,Bi.cm,c]
theorem Go.fold{R:Ad}{m:Int}:∀{l p:Bh} {Q:Ad},Go R Q m p->Bi Q->(p++l).Nodup->(∀d∈l,R.in_.get d=some true/\Dx R d=m)->Go R (l.foldl G4 Q) m (p++l)
 |[],p,Q,h,_,_,_=>by rw[Nj];exact h
 |d::r,p,Q,h,hQ,hn,hl=>by
  have hp:d∉p:=by grind
  have h1:=h.step hQ hp (hl d aC).1 (hl d aC).2;have:=Go.fold (l:=r) h1 (KM hQ d) (by rw[List.append_assoc];exact hn) (by grind);rw[List.append_assoc] at this;exact this
theorem Ua{R:Ad}{m:Int}:∀{l:Bh} {Q:Ad},(∀d,Dx Q d=Dx R d)->l.foldl (Tl m) Q=(l.filter λd=>decide (Dx R d=m)).foldl G4 Q
 |[],Q,_=>rfl
 |d::r,Q,h=>by
  have hc:∀e,Dx (G4 Q d) e=Dx R e:=by grind [G4,Dx]
  have e:Tl m Q d=bif Dx R d=m then G4 Q d else Q:=by unfold Tl;rw[h d]
  rw[List.foldl_cons,e];by_cases c:Dx R d=m
  .rw[CO c,ax,List.filter_cons_of_pos (p:=λd=>decide (Dx R d=m)) (CO c),List.foldl_cons];exact Ua hc
  .rw[C5 c,A7,List.filter_cons_of_neg (p:=λd=>decide (Dx R d=m)) (by simpa using c)];exact Ua h
section
variable {R:Ad} {D:C7}
theorem Ais(l:Bh)(hl:l.length<=2000)(z:Sy D)(h:Rr R D)(hR:Bi R):T (AB (AT l) (D,0)) λD'=>Rr (l.foldl G4 R) D'/\Sy D':=by
 refine(T.forA l.length (λk D'=>Rr ((l.take k).foldl G4 R) D'/\Bi ((l.take k).foldl G4 R)/\Sy D') aa ⟨h,hR,z⟩ (λk D' hk hj=>?_) λD' hj=>?_)
 .obtain⟨x,hx,_⟩:=dk hk;unfold AT;simp only[eA hk,ax,au,hx,aL];refine .bind ((Air hj.2.2 hj.1 hj.2.1 x).mono λa h2=> .some ⟨aq aa,?_⟩);rw[Rb hx,O8];grind [KM]
 .unfold AT;dsimp only;rw[eF,A7];rw[D3] at hj;exact .some ⟨hj.1,hj.2.2⟩
theorem AmN(z:Sy D)(o:Bj){st:Bh×Int->Option ((Bh×Int)⊕Bh)}(hst:st=Pj D o):AB st ([],0)=some (D.In.filter λx=>decide (X9 D.Cards x=o.Member)):=by
 have a:=z.dev;subst hst;refine T.eq (T.forA D.In.length (λk acc=>acc=(D.In.take k).filter λx=>decide (X9 D.Cards x=o.Member)) aa aC (λk acc hk hj=>?_) λacc hj=>?_)
 .obtain⟨x,hx,_⟩:=dk hk;have hal:acc.length<=k:=by grind
  unfold Pj;simp only[eA hk,ax,au,hx,aL,ofE z.z];have e:(D.In.take (k+1)).filter (λx=>decide (X9 D.Cards x=o.Member))=acc++(if X9 D.Cards x=o.Member then[x] else[]):=by rw[Rb hx,O7,<-hj];grind
  refine .dec (λhc=>?_) λhc=>?_
  .rw[Bz hc] at e;exact .bind (.app cq (.some ⟨aq aa,e.symm⟩))
  .rw[BW hc,Nj] at e;exact .some ⟨aq aa,e.symm⟩
 .unfold Pj;dsimp only;rw[eF,A7];refine .some (show acc=_ from ?_);rw[hj,D3]
theorem AmO(z:Sy D)(h:Rr R D)(hR:Bi R)(o:Bj):T (AB (AT (D.In.filter λx=>decide (X9 D.Cards x=o.Member))) (D,0)) (Rr (Agc R o)):=by
 have j:=z.dev;have hn:=(List.nodup_append.1 h.nd).1;refine(Ais _ (by grind) z h hR).mono λD' hD=>?_;unfold Agc;rw[Ua λd=>rfl];obtain⟨m,f,_⟩:=LX hR;generalize hA:(D.In.filter λx=>decide (X9 D.Cards x=o.Member))=A at hD;generalize hB:((Ha R).filter λd=>decide (Dx R d=o.Member))=B;have hAB:∀e,e∈A↔e∈B:=λe=>by
  rw[<-hA,<-hB,Hq,Hq,f.mem_iff,h.card];refine and_congr ?_ Iff.rfl;have hi:=h.in_ e;constructor
  .grind [Hd]
  .intro he;obtain⟨q,hq,rfl⟩:=Fo.1 he;have hg:=JI hR.ci (k:=q.1) (v:=q.2.1) (n:=q.2.2) hq;grind
 have hin:∀d∈A,R.in_.get d=some true/\Dx R d=o.Member:=by grind [Rr.in_]
 have h0:Go R R o.Member []:=by constructor<;>grind
 have gA:=Go.fold (l:=A) h0 hR (by rw[Ni,<-hA];exact hn.sublist List.filter_sublist) hin;have gB:=Go.fold (l:=B) h0 hR (by rw[Ni,<-hB];exact((f.nodup_iff.2 hR.ci.kd).sublist List.filter_sublist)) λd hd=>hin d ((hAB d).2 hd);rw[Ni] at gA gB;have hfin:∀{Q:Ad} {p:Bh},(∀e,e∈p↔e∈A)->Go R Q o.Member p->∀k,Q.members.get k=if A=[]then R.members.get k else if k=o.Member then none else R.members.get k:=λ{Q p} hp g k=>by
  by_cases c:A=[]
  .have hp0:p=[]:=by
    cases p with
    |nil=>rfl
    |cons a r=>have:=(hp a).1 aC;rw[c] at this;cases this
   grind [Go.m1]
  .rw[BW c];have hp0:p≠[]:=λe=>by
    cases hA':A with
    |nil=>exact c hA'
    |cons a r=>have:=(hp a).2 (by rw[hA'];simp);rw[e] at this;cases this
   refine g.m2 hp0 (λe v he hc=>?_) k;grind [Go.i,Rr.in_,Rr.card]
 have q:Rq (A.foldl G4 R) (B.foldl G4 R):=⟨(by grind [Go]),λd=>by rw[gA.i,gB.i];simp only[hAB],λd=>by rw[gA.w,gB.w],by rw[gA.w,gB.w],(by grind),by rw[gA.b,gB.b]⟩;exact q.rr hD.1
def NoG(R:Ad)(i:Ab):Prop:=∀q z g,R.members.get q=some z->z.guard=some g->g.id≠i
theorem Ai8{z:Ef}(hz:z∈l.set k y'):z=y'\/∃j,j≠k/\l[j]?=some z:=by grind [G9]
theorem Ai9(h:Rr R D){x:AA}(hx:R.members.get m=some x)(hy:D.L[k]?=some y)(hn:y.N=m)(f:y'.N=m)(hM:Mr x' y')(hg:x'.guard=some g)(hi:g.id=i)(he:∀q,g.vouches.get q=none)(hf:NoG R i):Rr (HU R m x') {D with L:=D.L.set k y',V:=D.V.filter λv=>ZX (D.L.set k y') v.Of} where
 card:=h.card
 nd:=h.nd
 in_:=h.in_
 was:=h.was
 w0:=h.w0
 ln:=AeD h hy hn f
 no q hq z hz:=AeE h f q hq z hz
 mem q z hq:=ZW h hy hn f hM q z hq
 vou q z g' hq hg':=by
  have hz:∃w∈D.L.set k y',w.N=q/\Mr z w:=ZW h hy hn f hM q z hq;have hq:(C6 R.members m x').get q=some z:=hq;intro b d a;rw[BA] at hq;split at hq
  .cases hq;rw[hg] at hg';cases hg';rw[he];constructor
   .intro c;cases c
   .rintro⟨v,hv,e1,_⟩;obtain⟨l,n,g2,k1,k2,k3⟩:=h.vof v (Hq.1 hv).1;exact absurd (k3.symm.trans (e1.trans hi)) (hf l n g2 k1 k2)
  .rw[h.vou q z g' hq hg'];obtain⟨w,hw,_,hm⟩:=hz;have h1:=hm.gd g' hg';have hown:ZX (D.L.set k y') g'.id=true:=by grind [Pt]
   constructor
   .rintro⟨v,hv,e1,e2⟩;exact⟨v,(by grind),e1,e2⟩
   .rintro⟨v,hv,e⟩;exact⟨v,(Hq.1 hv).1,e⟩
 vof v hv:=by
  obtain⟨w,hw,h1,h2⟩:=Pt.1 (Hq.1 hv).2;obtain⟨l,n,g2,k1,k2,k3⟩:=h.vof v (Hq.1 hv).1;rcases Ai8 hw with rfl|⟨j,hj,o⟩
  .have:=(hM.gd g hg).2.1;exact absurd (by grind) (hf l n g2 k1 k2)
  .obtain⟨z,hz,hm⟩:=h.of (bO o);have hne:w.N≠m:=λc=>by
    have e1:(D.L.map (·.N))[j]?=some m:=by grind
    have e2:(D.L.map (·.N))[k]?=some m:=by grind
    exact hj (MT h.ln e1 e2)
   cases hgd:z.guard with
   |none=>rw[hm.no hgd] at h1;cases h1
   |some p=>exact⟨w.N,z,p,by grind [BA],hgd,by grind [Mr.gd]⟩
 vnd:=h.vnd.sublist (List.filter_sublist.map _)
 back:=h.back
theorem AmQ(z:Sy D)(h:Rr R D)(hf:NoG R i):T (o7 D o i) (Rr (Aan R o i)):=by
 have b:=z.l;have a:=z.v;have z4:=z.c;have d:=z.dev;unfold o7 Aan;rw[ofE z.z,aL,<-h.card];refine .bind ((Ya z.z h (Dx R o.By)).mono λv hv=>?_);cases hx:R.members.get (Dx R o.By) with
 |none=>grind [T.some]
 |some x=>
  rw[hx] at hv;obtain⟨k,y,rfl,hy,hn,hM⟩:=hv;have hk:=(cr hy).1;rw[show decide ((k:Int)<0)=false from C5 aa,A7,au,hy,aL,aL];unfold o6;refine .bind (.bind (.app cq (.bind (.set aa cq (.some ?_)))));rw[Ni,EO];refine .bind ((Ak5 (p:=λv=>ZX (D.L.set k ⟨y.N,y.Role,true,i,o.Guards,o.Need,o.Wait,false,0⟩) v.Of) a (λj v acc hv hal=>?_) λacc=>?_).mono λq hq=>?_)
  .have hj:=(cr hv).1;unfold ni;simp only[eA hj,ax,au,hv,aL];grind [T.bind,T.mono,Ak2,Sz,T.app,T.some]
  .grind [ni,eF]
  .subst hq;refine .some (Ai9 h hx hy hn hn ⟨hM.role,λc=>(by cases c),λg hg=>?_⟩ rfl rfl (λq=>rfl) hf);cases hg;exact⟨rfl,rfl,rfl,rfl,rfl,rfl,rfl⟩
def Jq(o:Bj)(v:G8):Bool:=decide (v.Of=o.Of)&&(decide (v.By=o.By)&&decide (v.Device=o.Device))
theorem AeG{v:G8}:Jq o v=true↔v.Of=o.Of/\v.By=o.By/\v.Device=o.Device:=by grind [Jq]
theorem AmR(z:Sy D)(h:Rr R D)(o:Bj):T (AB (nj D o) (o.At,[],0)) λx=>x.2=D.V.filter (λv=> !Jq o v)/\((x.1=o.At/\∀v∈D.V,Jq o v=false)\/∃v∈D.V,Jq o v=true/\x.1=iI o.At v.At):=by
 have a:=z.v;refine T.loop (λs=>∃k:Nat,k<=D.V.length/\s.2.2=(k:Int)/\s.2.1=(D.V.take k).filter (λv=> !Jq o v)/\((s.1=o.At/\∀v∈D.V.take k,Jq o v=false)\/∃(j:Nat) (v:G8),j<k/\D.V[j]?=some v/\Jq o v=true/\s.1=iI o.At v.At)) (λs=>D.V.length-s.2.2.toNat) (by grind) cq ?_;rintro⟨b,acc,i⟩ ⟨k,hk,rfl,ha,hm⟩;dsimp only at ha hm;subst ha;unfold nj;dsimp only;rcases It k D.V.length with hlt|hge
 .obtain⟨v,hv,_⟩:=dk hlt;have hla:((D.V.take k).filter (λv=> !Jq o v)).length<=k:=by grind
  have ew:=aq (show k<2305843009213693952 by omega);have e:(D.V.take (k+1)).filter (λv=> !Jq o v)=(D.V.take k).filter (λv=> !Jq o v)++(if Jq o v=true then[] else[v]):=by rw[Rb hv,O7];cases c:Jq o v<;>simp[c]
  simp only[eA hlt,ax,au,hv,aL];refine .bind (T.mono (Q:=λq=>q=Jq o v) (by grind [Jq,T.some]) λq hq=>?_)
  subst hq;cases c:Jq o v with
  |true=>
   rw[c,Bz rfl,Nj] at e;rw[ax];refine .some ⟨⟨k+1,aa,ew,e.symm,.inr ⟨k,v,aa,hv,c,?_⟩⟩,by rw[ew];simp;omega⟩;rcases hm with⟨rfl,_⟩|⟨j,w,hj,hw,hc,_⟩
   .rfl
   .have kc:∀u:G8,Jq o u=true->(u.Of,u.By,u.Device)=(o.Of,o.By,o.Device):=by grind [Jq]
    have e1:(D.V.map λv=>(v.Of,v.By,v.Device))[j]?=some (o.Of,o.By,o.Device):=by grind
    have e2:(D.V.map λv=>(v.Of,v.By,v.Device))[k]?=some (o.Of,o.By,o.Device):=by grind
    have:=MT h.vnd e1 e2;omega
  |false=>rw[c,BW aC] at e;rw[A7];refine .bind (.app cq (.some ⟨⟨k+1,aa,ew,e.symm,?_⟩,by rw[ew];simp;omega⟩));grind [Rb]
 .obtain rfl:k=D.V.length:=aa;rw[eF,A7];rw[D3] at hm⊢;refine .some ⟨rfl,?_⟩;grind
theorem AeH(h:Rr R D)(hR:Bi R){x:AA}{g g2:CA}{a:Int}{M:FM Int AA}(hx:R.members.get m=some x)(hg:x.guard=some g)(hid:g.id=o.Of)(e2:∀y,Mr x y->Mr ⟨x.role,some g2⟩ y)(ei:g2.id=g.id)(hM:∀q,M.get q=if q=m then some ⟨x.role,some g2⟩else R.members.get q)(hv:∀q,g2.vouches.get q=if q=Xj o then some a else g.vouches.get q):Rr {R with members:=M} {D with V:=D.V.filter (λv=> !Jq o v)++[⟨o.Of,o.By,o.Device,a⟩]} where
 card:=h.card
 nd:=h.nd
 in_:=h.in_
 was:=h.was
 w0:=h.w0
 ln:=h.ln
 no q hq y hy:=by grind [Rr.no]
 mem q z hq:=by grind [Rr.mem]
 vou q z g' hq hg':=by
  have hq:M.get q=some z:=hq;intro b d c;have hkb:∀v:G8,(!Jq o v)=true↔¬(v.Of=o.Of/\v.By=o.By/\v.Device=o.Device):=by grind [AeG]
  have hV:∀i,AgW (D.V.filter (λv=> !Jq o v)++[⟨o.Of,o.By,o.Device,a⟩]) i b d c↔(i=o.Of/\b=o.By/\d=o.Device/\c=a)\/(¬(i=o.Of/\b=o.By/\d=o.Device)/\AgW D.V i b d c):=λi=>by
   constructor
   .rintro⟨v,hv,e1,e2,e3,e4⟩;rcases I6.1 hv with hv|hv
    .rw[Hq,hkb,e1,e2,e3] at hv;exact .inr ⟨hv.2,v,hv.1,e1,e2,e3,e4⟩
    grind
   .rintro(⟨rfl,rfl,rfl,rfl⟩|⟨hne,v,hv,e1,e2,e3,e4⟩)
    .exact⟨_,I6.2 (.inr (List.mem_singleton.2 rfl)),rfl,rfl,rfl,rfl⟩
    .exact⟨v,(by grind),e1,e2,e3,e4⟩
  show _↔AgW (D.V.filter (λv=> !Jq o v)++[⟨o.Of,o.By,o.Device,a⟩]) g'.id b d c;rw[hV];rw[hM] at hq;split at hq
  .grind [Rr.vou]
  .rename_i hne;rw[h.vou q z g' hq hg'];have hd:g'.id≠o.Of:=by grind [Bi]
   grind
 vof v e:=by grind [Rr.vof]
 vnd:=by show((D.V.filter (λv=> !Jq o v)++[(⟨o.Of,o.By,o.Device,a⟩:G8)]).map λv=>(v.Of,v.By,v.Device)).Nodup;rw[List.map_append,Fi,List.map_nil,List.perm_append_comm.nodup_iff,List.singleton_append,Mi];refine⟨λhh=>?_,h.vnd.sublist (List.filter_sublist.map _)⟩;grind [Jq]
 back:=h.back
theorem AmS(z:Sy D)(h:Rr R D)(hR:Bi R)(o:Bj):T (o8 D o) (Rr (YC R o)):=by
 have c:=z.v;unfold o8;refine .bind ((ZQ z.z h hR o).mono λv hv=>?_);rw[hv.1];cases hf:R.members.es.find? λe=>Lo e.2.1 o.Of with
 |none=>grind [Dd,YC,T.some]
 |some e=>
  obtain⟨hx,_⟩:=hR.mem (List.mem_of_find?_eq_some hf);have hge:Lo e.2.1 o.Of=true:=by have:=List.find?_some hf;exact this
  obtain⟨q,⟨role,gd⟩,n⟩:=e;dsimp only at hx hge;cases gd with
  |none=>cases hge
  |some g=>
  have hid:g.id=o.Of:=DD hge;have e1:Dd R o=bif g.guards.any (λy=>decide (o.By=y))then(q,0)else(0,14):=by unfold Dd;rw[hf]
  have e2:YC R o=bif(g.guards.any λy=>decide (o.By=y))&&Aam g o then HU R q ⟨role,some (Acz g o)⟩else R:=by unfold YC;rw[hf]
  rw[e1,e2];cases hb:g.guards.any λy=>decide (o.By=y) with
  |false=>exact .some h
  |true=>
  rw[ax,Bool.true_and];refine .bind ((AmR z h o).mono λx hx2=>?_);obtain⟨b,V'⟩:=x;obtain⟨h1,h2⟩:=hx2;dsimp only at h1 h2;subst h1;have hfl:(D.V.filter λv=> !Jq o v).length<=D.V.length:=KZ _ _;refine .bind (.app cq (.some ?_));have key:∀a,g.vouches.get (Xj o)=some a↔∃v∈D.V,Jq o v=true/\v.At=a:=λa=>by
   rw[show Xj o=⟨o.By,o.Device⟩ from rfl,h.vou q _ g hx rfl];constructor
   .rintro⟨v,hv,k1,k2,k3,d⟩;grind [Jq]
   .rintro⟨v,hv,k1,k2⟩;unfold Jq at k1;simp only[bA,decide_eq_true_eq] at k1;exact⟨v,hv,k1.1.trans hid.symm,k1.2.1,k1.2.2,k2⟩
  have keep:g.vouches.get (Xj o)=some b->Rr R {D with V:=D.V.filter (λv=> !Jq o v)++[⟨o.Of,o.By,o.Device,b⟩]}:=λhk=>AeH (M:=R.members) (g2:=g) (a:=b) h hR hx rfl hid (λy hy=>hy) rfl (by grind) (by grind);have new:b=o.At->Rr (HU R q ⟨role,some (Acz g o)⟩) {D with V:=D.V.filter (λv=> !Jq o v)++[⟨o.Of,o.By,o.Device,b⟩]}:=λhk=>AeH (M:=C6 R.members q ⟨role,some (Acz g o)⟩) (g2:=Acz g o) (a:=b) h hR hx rfl hid (by grind [Mr]) rfl (λp=>by rw[BA]) (by grind [BA]);cases hg:g.vouches.get (Xj o) with
  |none=>
   have hN:Aam g o=true:=by unfold Aam;rw[hg]
   rw[hN];rcases h2 with⟨h2,_⟩|⟨v,hv,h3,h4⟩
   .exact new h2
   .have:=(key v.At).2 ⟨v,hv,h3,rfl⟩;rw[hg] at this;cases this
  |some a=>
   have hN:Aam g o=decide (o.At<a):=by unfold Aam;rw[hg]
   obtain⟨w,hw,k1,k2⟩:=(key a).1 hg;have hmn:b=iI o.At a:=by
    rcases h2 with⟨_,h2⟩|⟨v,hv,h3,h4⟩
    .rw[h2 w hw] at k1;cases k1
    .have:=(key v.At).2 ⟨v,hv,h3,rfl⟩;grind
   grind [iI]
theorem AmT(z:Sy D)(h:Rr R D)(hR:Bi R)(o:Bj):T ((bif 0<ah D.In then(some true)else(bif 0<ah D.Gone then(some true)else((gE D o.By).bind λa=>some (decide (a=0))))).bind λb=>bif b then(some D)else((nX D o.By 3).bind λc=>some ({c with Back:=o.Need}))) (Rr (Aby R o)):=by
 have hw:=h.w0;unfold Aby;rw[ofE z.z,<-h.card,aL];unfold ah;rcases Nat.eq_zero_or_pos D.In.length with c1|c1
 .rcases Nat.eq_zero_or_pos D.Gone.length with c2|c2
  .have hi:D.In=[]:=List.eq_nil_of_length_eq_zero c1;have hg:D.Gone=[]:=List.eq_nil_of_length_eq_zero c2;have hf:D4 R o.By=decide (0<Dx R o.By):=by grind [Rr.was,D4,Hj]
   rw[c1,c2,hw,c1,c2,hf];have h0:=(hR.c3 o.By).1;have h0:0<=Dx R o.By:=h0;rw[show decide ((0:Int)<((0:Nat):Int))=false from rfl,A7,A7,aL,show decide ((((0+0:Nat)):Int)=0)=true from rfl,Bool.true_and];by_cases c3:Dx R o.By=0
   .rw[CO c3,c3];exact .some h
   .rw[C5 c3,show decide (0<Dx R o.By)=true from CO aa,A7,ax];refine .bind ((Ab1 z h hR o.By 3).mono λD' hD=> .some ?_);have h1:=hD.1;exact⟨h1.card,h1.nd,h1.in_,h1.was,h1.w0,h1.ln,h1.no,h1.mem,h1.vou,h1.vof,h1.vnd,rfl⟩
  grind [T.some]
 grind [T.some]
theorem AmU(z:Sy D)(h:Rr R D)(o:Bj){a:Int}(hv:match R.members.get (Dx R o.By) with
  |none=>a= -1
  |some x=>∃(k:Nat) (y:Ef),a=(k:Int)/\D.L[k]?=some y/\y.N=Dx R o.By/\Mr x y):T ((bif 0<=a then((aS D.L (E1 a 0)).bind λc=>bif c.Is then((aS D.L (E1 a 0)).bind λd=>some (decide (d.ID=o.Of)))else(some false))else(some false)).bind λf=>bif f then((aS D.L a).bind λb=>(o6 D.L a ({b with Objected:=true,Last:=E1 b.Last o.At})).bind λi=>some ({D with L:=i}))else(some D)) (Rr (Xi R o)):=by
 have j:=z.l
 cases hx:R.members.get (Dx R o.By) with
 |none=>
  grind [Xi,T.some]
 |some x=>
  rw[hx] at hv
  obtain⟨k,y,rfl,hy,hn,hM⟩:=hv
  have hk:=(cr hy).1
  have hmx:E1 (k:Int) 0=(k:Int):=by unfold E1;rw[BW aa]
  rw[show decide ((0:Int)<=(k:Int))=true from CO aa,ax,hmx,au,hy,aL,aL]
  obtain⟨role,gd⟩:=x
  cases gd with
  |none=>
   grind [Xi,Mr.no,T.some]
  |some g=>
   have h1:=hM.gd g rfl
   have e:Xi R o=bif g.id=o.Of then HU R (Dx R o.By) ⟨role,some {g with objected:=true,last:=E1 g.last o.At}⟩else R:=by unfold Xi;rw[hx]
   rw[e,h1.1,h1.2.1,ax,aL]
   cases decide (g.id=o.Of) with
   |false=>exact .some h
   |true=>
    rw[ax,ax,aL]
    unfold o6
    refine .bind (.bind (.app cq (.bind (.set aa cq (.some (.some ?_))))))
    rw[Ni,EO]
    refine AeF h hx hy hn hn (by grind [Mr]) (λm hg'=>?_) (by grind)
    all_goals grind
theorem AmV(z:Sy D)(hb:D.In.length+D.Gone.length<=1999/\D.L.length<=1999)(h:Rr R D)(hR:Bi R)(o:Bj):T ((jN D o.Of).bind λb=>(bif 0<=b then((fb D.In o.Old).bind λj=>bif j then((gE D o.Old).bind λm=>(aS D.L (E1 b 0)).bind λn=>bif m=n.N then((gE D o.Device).bind λp=>(aS D.L (E1 b 0)).bind λq=>some (decide (p=q.N)))else(some false))else(some false))else(some false)).bind λr=>bif r then((gE D o.Device).bind λd=>(se D d).bind λf=>(nX D o.Device f).bind λi=>(sh i o.Old).bind λa=>some a)else(some D)) (Rr (Aao R o)):=by
 refine .bind ((AkY z.z h hR o.Of).mono λv hv=>?_);have fin:T (bif AcA R o then((gE D o.Device).bind λd=>(se D d).bind λf=>(nX D o.Device f).bind λi=>(sh i o.Old).bind λa=>some a)else(some D)) (Rr (Aao R o)):=by
  unfold Aao;cases AcA R o with
  |false=>exact .some h
  |true=>rw[ax,ax,ofE z.z,aL,<-h.card,Aiq z.z h,aL];refine .bind ((Ab1 z h hR _ _).mono λD' hD=>?_);have g1:=hD.2.dev;have g2:=hD.2.l;refine .bind (by grind [T.mono,Air,Sy,Gw.c,Gw.v,I3,T.some])
 cases hf:R.members.es.find? λe=>Lo e.2.1 o.Of with
 |none=>grind [AcA,Hx]
 |some e=>
  rw[hf] at hv;obtain⟨k,y,g,rfl,hy,hn,_,_,_,hx⟩:=hv;have hw:Hx R o.Of=e.1:=by unfold Hx;rw[hf]
  have h3:=hR.m3 e (List.mem_of_find?_eq_some hf);have hB:AcA R o=bif PO R o.Old then(bif Dx R o.Old=e.1 then decide (Dx R o.Device=e.1)else false)else false:=by grind [AcA]
  have hmx:E1 (k:Int) 0=(k:Int):=by unfold E1;rw[BW aa]
  rw[show decide ((0:Int)<=(k:Int))=true from CO aa,ax,inE z.z h,aL,hmx,au,hy];grind [ofE,Sy.z,Rr.card]
theorem doE(z:Sy D)(hb:D.In.length+D.Gone.length<=1999/\D.L.length<=1999)(h:Rr R D)(hR:Bi R){o:Bj}{i:Ab}(hf:o.Kind=9->NoG R i):T (DM D o i) (Rr (Vq R o i)):=by
 unfold DM;refine .eqb (ofE z.z o.By) ?_;rw[<-h.card];refine .bind ((Ya z.z h (Dx R o.By)).mono λa hv=>?_);unfold Vq;refine .dec (λk1=>?_) λk1=>?_
 .grind [AmT]
 rw[BW k1];refine .dec (λk2=>?_) λk2=>?_
 .rw[Bz k2];exact .bind (by grind [T.mono,Ab1,T.some])
 rw[BW k2];refine .dec (λk3=>?_) λk3=>?_
 .rw[Bz k3];by_cases c:o.Device=0
  .rw[Bz c,CO c,ax,AmN z o rfl,aL,aL];exact .bind ((AmO z h hR o).mono λD' hD=> .some hD)
  .rw[BW c,C5 c,A7,aL];exact .bind (by grind [T.mono,Ais,T.some])
 rw[BW k3];refine .dec (λk5=>?_) λk5=>?_
 .rw[Bz k5];exact Ak1 z h o
 rw[BW k5];refine .dec (λk9=>?_) λk9=>?_
 .grind [AmQ]
 grind [AmS,T.some,AmU,AmV]
theorem Ak6(hc:∀d,Dx (Hh cs) d=X9 cs d):T (AV cs) (Rr (Hh cs)):=by
 refine .some ⟨hc,.nil,λd=>?_,λd=>?_,rfl,.nil,(by grind),λm x hm=>(by cases hm),λm x g hm=>(by cases hm),λv hv=>(by cases hv),.nil,rfl⟩
 .rw[BW aC];rfl
 .rw[BW aC];rfl
end
theorem T.and{α:Type}{x:Option α}{P Q:α->Prop}(h1:T x P)(h2:T x Q):T x λv=>P v/\Q v:=by obtain⟨v,e,p⟩:=h1;obtain⟨w,e2,q⟩:=h2;rw[e] at e2;cases e2;exact⟨v,e,p,q⟩
def Gs(R:Ad)(S:A3):Prop:=∀q z g,R.members.get q=some z->z.guard=some g->g.id∈S
section
variable {R:Ad} {S:A3}
theorem Gs.up(h:Gs R S)(i:Ab):Gs R (S++[i]):=λq z g h1 h2=>by simp[h q z g h1 h2]
theorem Vx(h:Gs R S){M:FM Int AA}{k:Int}{x:AA}(hM:∀q,M.get q=if q=k then some x else R.members.get q)(hx:∀g,x.guard=some g->g.id∈S){Q:Ad}(hQ:Q.members=M):Gs Q S:=λq z g h1 h2=>by
 rw[hQ,hM] at h1;split at h1
 .cases h1;exact hx g h2
 .exact h q z g h1 h2
theorem Vz(h:Gs R S)(d role:Int):Gs (Jb R d role) S:=by
 unfold Jb;cases D4 R d with
 |false=>exact h
 |true=>
  cases hm:(R.members.get (Dx R d)).isSome with
  |true=>exact λq z g h1 h2=>h q z g (by grind) h2
  |false=>exact Vx h (M:=C6 R.members (Dx R d) ⟨role,none⟩) (λq=>BA _ q) (λg hg=>by cases hg) (by rw[ax];simp[hm])
theorem Z2(h:Gs R S)(hR:Bi R)(d:Int):Gs (G4 R d) S:=by
 unfold G4;cases PO R d with
 |false=>exact h
 |true=>
  cases LW (I4 R d) (Dx R d) with
  |true=>exact h
  |false=>
   intro q z g h1 h2;have h1:(Sq R.members (Dx R d)).get q=some z:=h1;rw[NP hR.cm] at h1;split at h1
   .cases h1
   .exact h q z g h1 h2
theorem Aja(h:Gs R S)(hR:Bi R)(m:Int):∀l:Bh,Gs (l.foldl (Tl m) R) S:=λl=>by induction l generalizing R<;>grind [AdA,Tl,Z2]
theorem Ait(h:Gs R S)(hR:Bi R)(o:Bj)(i:Ab):Gs (Vq R o i) (S++[i]):=by
 unfold Vq;split
 .unfold Aby;cases decide ((R.was.es.length:Int)=0)&&D4 R o.By with
  |false=>exact h.up i
  |true=>exact(Vz h o.By 3).up i
 split
 .exact(Vz h _ _).up i
 split
 .split
  .exact(Aja h hR _ _).up i
  .exact(Z2 h hR _).up i
 split
 .refine Gs.up ?_ i;unfold UF;split
  .exact h
  .rename_i x hx;exact Vx h (x:=⟨o.Role,x.guard⟩) (λq=>BA _ q) (λg hg=>h _ x g hx hg) rfl
 split
 .unfold Aan;split
  .exact h.up i
  .exact Vx (h.up i) (λq=>BA _ q) (by grind) rfl
 split
 .refine Gs.up ?_ i;unfold YC;split
  .rename_i k role g n hf;have hx:=(hR.mem (List.mem_of_find?_eq_some hf)).1;cases(g.guards.any λy=>decide (o.By=y))&&Aam g o with
   |false=>exact h
   |true=>exact Vx h (λq=>BA _ q) (λa hg=>by cases hg;exact h _ _ g hx rfl) rfl
  .exact h
 split
 .refine Gs.up ?_ i;unfold Xi;split
  .rename_i role g hx;cases decide (g.id=o.Of) with
   |false=>exact h
   |true=>exact Vx h (λq=>BA _ q) (λa hg=>by cases hg;exact h _ _ g hx rfl) rfl
  .exact h
 grind [Gs.up,Aao,Z2,Vz,I3]
end
structure Pg (g:AQ) (m:Jn) (N:Jk):Prop where
 w:Fq g
 p:OI g m N
 od:∀(i:Nat) (o:Bj) (x:Ab),g.L[i]?=some o->g.IDs[i]?=some x->UQ o x
 dv:∀(i:Nat) (o:Bj) (x:Ab),g.L[i]?=some o->g.IDs[i]?=some x->∃c∈g.Cards,c.Device=o.By
 cd:Ael g.Cards
 cn:(g.Cards.map (·.Device)).Nodup
section
variable {g:AQ} {m:Jn} {N:Jk} (P:Pg g m N)
include P
theorem Pg.op{i:Nat}{o:Bj}{x:Ab}(ho:g.L[i]?=some o)(hx:g.IDs[i]?=some x):(Bw g m N).op x=some o/\(Bw g m N).o x=o:=by
 have e:(Bw g m N).op x=some o:=by rw[AiQ P.w P.p,JD P.w hx];exact ho
 grind [Gi.o]
theorem Pg.bef{i k:Nat}{x y:Ab}(hx:g.IDs[i]?=some x)(hy:g.IDs[k]?=some y):(Bw g m N).bef x y=Pm g k i:=by rw[Ut P.w P.p,JD P.w hx,JD P.w hy]
theorem Pg.new(d:Int):Dx (Hh g.Cards) d=X9 g.Cards d:=by
 have key:∀(l:Mw) (M:FM Int DP),(l.map (·.Device)).Nodup->(∀c∈l,M.get c.Device=none)->(l.foldl (λm c=>C6 m c.Device c) M).get d=match l.find? λc=>decide (c.Device=d) with|some c=>some c|none=>M.get d:=by
  intro l;induction l with
  |nil=>exact λM _ _=>rfl
  |cons c r ih=>grind [BA]
 unfold Dx X9 Hh AjY;rw[key g.Cards ⟨[],0⟩ P.cn λc _=>rfl];cases g.Cards.find? λc=>decide (c.Device=d)<;>rfl
theorem VA{D:C7}(h:Jo g n D)(hn:n<=1000):Sy D:=by grind [Pg,Jo,Sy,Fq.nC]
theorem Ak7{l:Bh}(hi:EF g l)(hl:l.length<=1000)(hnd:(HD g l).Nodup){id:Ab}(hk:g.IDs[k]?=some id):T (Fg g l (k:Int)) λD=>Rr (RZ (Bw g m N) (HD g l) id) D/\Bi (RZ (Bw g m N) (HD g l) id)/\Jo g 1000 D:=by
 have w:=P.w;have nL:=w.nL;have nI:=w.nI;have hkl:k<g.L.length:=by grind
 obtain⟨d,e0,f⟩:=Ak6 (P.new);unfold Fg;rw[e0,aL];have hD0:d=⟨g.Cards,[],[],[],0,[]⟩:=(Bo e0).symm;subst hD0;refine .bind (T.mono (Q:=λD=>Rr (RZ (Bw g m N) (HD g l) id) D/\Bi (RZ (Bw g m N) (HD g l) id)/\Jo g 1000 D) (T.forA l.length (λj D=>(Rr (((HD g l).take j).foldl (Tz (Bw g m N) id) (Hh g.Cards)) D/\Bi (((HD g l).take j).foldl (Tz (Bw g m N) id) (Hh g.Cards))/\Gs (((HD g l).take j).foldl (Tz (Bw g m N) id) (Hh g.Cards)) ((HD g l).take j))/\Jo g j D) aa ⟨⟨f,Lz P.cd.r,λq z g h=>by cases h⟩,Mv g⟩ (λj D hj hr=>?_) λD hr=>?_) λD hr=> .some hr)
 .obtain⟨y,hy,hm⟩:=dk hj;obtain⟨i,x,rfl,hil,hx,a⟩:=OR w hi hy;obtain⟨o,ho,so,t⟩:=w.op hil;obtain⟨row,b,hrow,hb⟩:=w.cell hkl hil;obtain⟨⟨h1,h2,h3⟩,h4⟩:=hr;have hod:=P.od i o x ho hx;have c:=(P.op ho hx).2;have hbf:(Bw g m N).bef x id=b:=by rw[P.bef hx hk];grind [Pm]
  have et:((HD g l).take (j+1)).foldl (Tz (Bw g m N) id) (Hh g.Cards)=bif b then Vq (((HD g l).take j).foldl (Tz (Bw g m N) id) (Hh g.Cards)) o x else((HD g l).take j).foldl (Tz (Bw g m N) id) (Hh g.Cards):=by rw[Rb a,O8,List.foldl_cons,List.foldl_nil];unfold Tz;rw[hbf,c]
  have hxS:x∉(HD g l).take j:=by grind [G9,MT]
  rw[et,Rb a];generalize ((HD g l).take j).foldl (Tz (Bw g m N) id) (Hh g.Cards)=R at h1 h2 h3⊢;unfold xx;simp only[eA hj,ax,au,hy,ho,hx,hrow,hb,aL];have z:=VA P h4 aa;have p:=h4.dev;have s:=h4.nL;cases b with
  |true=>exact .bind ((T.and (doE z ⟨aa,aa⟩ h1 h2 λ_ q z n k1 k2 e=>by have:=h3 q z n k1 k2;rw[e] at this;exact hxS this) (Gc w aa h4 so x)).mono λv hv=> .some (by constructor<;>grind [aq,Sb,Ait]))
  |false=>exact .some (by constructor<;>grind [aq,Gs.up,Jo.up])
 .unfold xx;dsimp only;rw[eF,A7];have hl2:(HD g l).length=l.length:=Ho ..;rw[<-hl2,D3] at hr;exact .some ⟨hr.1.1,hr.1.2.1,hr.2.up aa⟩
end
structure Lr (g:AQ) (dl:JQ) (al:Bb):Prop where
 row:EF g dl.Row
 nm:HD g dl.Row=al.row
 nd:al.row.Nodup
 nr:dl.Row.length<=1000
 nv:dl.Void.length=g.L.length
 nc:dl.Decided.length=g.L.length
 fk:∀(p:Nat) (x:Ab),g.IDs[p]?=some x->dl.Fork[p]?=some (AH (al.fork.get x))
 vd:∀(p:Nat) (x:Ab),g.IDs[p]?=some x->dl.Void[p]?=some (AH (al.void.get x))
section
variable {g:AQ} {m:Jn} {N:Jk} (P:Pg g m N)
include P
theorem AeI(h:Lr g dl al):T (Qt g dl) λr=>EF g r/\r.length<=1000/\HD g r=Fa (Bw g m N) al/\(HD g r).Sublist al.row:=by
 have w:=P.w;have nL:=w.nL;have hr:=h.nr;unfold Qt Fa;refine .bind (T.mono (Q:=λr=>EF g r/\r.length<=1000/\HD g r=al.row.foldl (Lu (Bw g m N) al.void) []/\(HD g r).Sublist al.row) (T.forA dl.Row.length (λj r=>EF g r/\r.length<=j/\HD g r=(al.row.take j).foldl (Lu (Bw g m N) al.void) []/\(HD g r).Sublist (al.row.take j)) aa ⟨.nil,aC,by simp[HD],by simp[HD]⟩ (λk acc hk hj=>?_) λr a=>?_) λr a=> .some a)
 .obtain⟨y,hy,hm⟩:=dk hk;obtain⟨i,x,rfl,hil,hx,b⟩:=OR w h.row hy;rw[h.nm] at b;obtain⟨o,ho,so,q⟩:=w.op hil;obtain⟨l,p,n,d⟩:=hj;have f:=(P.op ho hx).2;have hod:=P.od i o x ho hx;have hv:=h.vd i x hx;have hnd:(HD g acc).Nodup:=(h.nd.sublist (List.take_sublist k _)).sublist d;rw[Rb b,O8,List.foldl_cons,List.foldl_nil,<-n];unfold um;simp only[eA hk,ax,au,hy,ho,hx,hv,aL];have keep:(HD g acc).Sublist (al.row.take k++[x]):=d.trans (List.sublist_append_left _ _);unfold Lu;rw[f];cases hc:AH (al.void.get x) with
  |true=>exact .some (by constructor<;>grind [aq])
  |false=>
   rw[A7,A7];refine .bind ((Ak7 P l aa hnd hx).mono λD hD=>?_);rw[Ai4 (VA P hD.2.2 aa).z hD.1 hD.2.1 hod.g x,aL];refine .dec (λc=>?_) λc=>?_
   .rw[CO c,ax];have e:HD g (acc++[(i:Int)])=HD g acc++[x]:=by simp[HD,hx]
    exact .bind (.app cq (.some ⟨aq aa,l.snoc hil,by simp;omega,e,e▸d.append (.refl _)⟩))
   .rw[C5 c,A7];exact .some (by constructor<;>grind [aq])
 .unfold um;dsimp only;rw[eF,A7];have hl2:al.row.length=dl.Row.length:=by rw[<-h.nm,Ho]
  rw[<-hl2,D3] at a;exact .some ⟨a.1,aa,a.2.2.1,a.2.2.2⟩
theorem AgX(d:Int):nT g d=some (match(Bw g m N).card d with|some c=>c.Member|none=>0):=by have nC:=P.w.nC;unfold nT;rw[Cw aa,aL];unfold mZ;show _=some (match g.Cards.find? (λc=>decide (c.Device=d)) with|some c=>c.Member|none=>0);grind
theorem Pg.same{i k:Nat}{x y:Ab}(hx:g.IDs[i]?=some x)(hy:g.IDs[k]?=some y):x=y↔(i:Int)=(k:Int):=by grind [Pg,MT,Fq.nd]
theorem Ab2{i:Nat}{y:Ab}(hi:i<g.L.length)(hk:k<g.L.length)(hx:g.IDs[i]?=some x)(hy:g.IDs[k]?=some y):n9 g (i:Int) (k:Int)=some (D5 (Bw g m N) x y):=by
 have w:=P.w;obtain⟨a,ha,j,f⟩:=w.op hi;obtain⟨b,hb,h,l⟩:=w.op hk;obtain⟨row,u,hrow,hu⟩:=w.cell hi hk;obtain⟨e,v,c,hv⟩:=w.cell hk hi;have ea:=P.op ha hx;have eb:=P.op hb hy;have e1:(Bw g m N).bef y x=u:=by rw[P.bef hy hx];grind [Pm]
 have e2:(Bw g m N).bef x y=v:=by rw[P.bef hx hy];grind [Pm]
 have d:=P.same hx hy;unfold n9 D5;simp only[au,ha,hb,hrow,hu,c,hv,aL,ea.1,eb.1,ea.2,eb.2,e1,e2,Option.isSome_some,Bool.true_and];have hd:decide (x=y)=decide ((i:Int)=(k:Int)):=decide_eq_decide.2 d;rw[hd];cases decide ((i:Int)=(k:Int)) with
 |true=>rfl
 |false=>
 cases u with
 |true=>cases v<;>rfl
 |false=>
 cases v with
 |true=>rfl
 |false=>
 simp only[A7,aL,Bool.not_false,Bool.true_and];unfold Aj2 AbF;rw[AgX P];by_cases k3:a.Kind=3
 .rw[k3];simp only[Int.reduceEq,decide_true,decide_false,ax,A7];by_cases hD:a.Device=0
  .have hm:=T1 f.numbers|>.k3 k3;grind [C5]
  grind
 grind
theorem AeJ(h:Lr g dl al){i:Nat}{y:Ab}(hi:i<g.L.length)(hk:k<g.L.length)(hx:g.IDs[i]?=some x)(hy:g.IDs[k]?=some y):qW g dl (i:Int) (k:Int)=some (DZ (Bw g m N) al.row x y):=by
 have w:=P.w;have hr:=h.nr;have b:=P.same hx hy;unfold qW DZ;rw[show decide (x=y)=decide ((i:Int)=(k:Int)) from decide_eq_decide.2 b];cases decide ((i:Int)=(k:Int)) with
 |true=>rfl
 |false=>
 rw[A7,Bool.not_false,Bool.true_and];refine T.eq (.bind ((T.search dl.Row (λz=>XK (Bw g m N) x y ((g.IDs[z.toNat]?).getD ⟨0,0,0⟩)) (λk _=>true) aa (λj z hz hj=>?_) ?_).mono ?_))
 .obtain⟨q,v,rfl,a,hv,_⟩:=OR w h.row hz;obtain⟨row,u,hrow,hu⟩:=w.cell hi a;have e1:(Bw g m N).bef v x=u:=by rw[P.bef hv hx];grind [Pm]
  have hvx:decide (v=x)=decide ((q:Int)=(i:Int)):=decide_eq_decide.2 (P.same hv hx);unfold qV XK;rw[eA hj,ax,au,hz,aL,EO,hv,MZ,aq aa,e1,hvx,Ab2 P hk a hy hv];grind [au]
 .unfold qV;rw[eF,A7]
 .have hmap:∀z∈dl.Row,((g.IDs[z.toNat]?).getD ⟨0,0,0⟩)∈al.row:=by grind [Lr.nm]
  rintro r (⟨rfl,hn⟩|⟨j,z,hz,hp,rfl,hn⟩)
  .refine .some ?_;grind [Lr.nm]
  .refine .some ?_;grind
end
theorem Aa0(c:Gd o)(h:AbM o=some d):1<=d/\d<=12:=by have f:=T1 c.numbers;grind [Ow,AbM]
theorem AeK(o:Bj):LJ o=some ((AbM o).getD 0):=by grind [LJ,AbM]
theorem Ak8{l:Bh}(hd:l.Nodup)(h:∀x∈l,1<=x/\x<=12):l.length<=12:=by
 have hs:∀x∈l.map Int.toNat,x∈List.range' 1 12:=by grind
 have hn:(l.map Int.toNat).Nodup:=ZR (g:=id) (by rw[List.map_id];exact hd) (by grind);have:=Q9 hn hs;rwa [Ho,List.length_range'] at this
theorem AcW{I:Gi}:∀{l:A3} {acc:Bh},acc.Nodup->(l.foldl (TD I) acc).Nodup
 |[],acc,h=>h
 |x::r,acc,h=>by refine AcW (l:=r) ?_;grind [TD]
theorem Aa1{I:Gi}{Q:Int->Prop}:∀{l:A3} {acc:Bh},(∀x∈l,∀d,AbM (I.o x)=some d->Q d)->(∀d∈acc,Q d)->∀d∈l.foldl (TD I) acc,Q d
 |[],acc,_,h=>h
 |x::r,acc,hx,h=>by refine Aa1 (l:=r) (by grind) ?_;grind [TD]
theorem AcX{m:FM Int Int}{s:Bh}(hn:s.Nodup){d:Int}:∀k,k<=s.length->(∀j:Nat,j<k->s[j]?=some d->(UR m s k).get d=some (j:Int))/\((∀j:Nat,j<k->s[j]?≠some d)->(UR m s k).get d=m.get d)
 |0,_=>⟨λj h=>aa,λ_=>rfl⟩
 |k+1,hk=>by
  have ih:=AcX (m:=m) hn (d:=d) k aa;obtain⟨x,hx,_⟩:=dk (l:=s) (k:=k) aa;have e:UR m s (k+1)=C6 (UR m s k) x (k:Int):=by show(match s[k]? with|some d=>_|none=>_)=_;rw[hx]
  rw[e,BA];refine⟨λj hj hd=>?_,λhne=>?_⟩
  .grind [MT]
  grind
theorem AcY{d:Int}:∀{cs:Mw} {m:FM Int Int},(∃c∈cs,c.Device=d)\/m.get d=some 12->(cs.foldl (λm c=>C6 m c.Device 12) m).get d=some 12
 |[],m,h=>by grind
 |c::r,m,h=>by refine AcY (cs:=r) ?_;grind [BA]
def snD(s:Bh)(d:Int):Int:=match bu d s with
 |some j=>(j:Int)
 |none=>(s.length:Int)
theorem aaa(hn:s.length<=1000)(d:Int):oa s d=some (snD s d):=by
 unfold oa;refine T.eq (.bind ((T.search s (λx=>decide (x=d)) (λk _=>(k:Int)) aa (λk x hx hk=>?_) ?_).mono ?_))
 .grind [ph,eA,au,aq]
 .unfold ph;rw[eF,A7]
 .rintro r (⟨rfl,h⟩|⟨k,x,hx,hp,rfl,h⟩)
  .have:bu d s=none:=by grind [jv]
   refine .some ?_;unfold snD;rw[this];rfl
  .have hp:=DD hp;subst hp;have:bu x s=some k:=by grind [y0]
   refine .some ?_;unfold snD;rw[this]
theorem Ajb(hn:s.Nodup)(hl:s.length<=12){e:Int}(hd:∃c∈cs,c.Device=d)(he:∃c∈cs,c.Device=e):decide (Sv (NR cs s) d<Sv (NR cs s) e)=decide (snD s d<snD s e):=by
 have at_:∀d,(∃c∈cs,c.Device=d)->(∃j:Nat,j<s.length/\Sv (NR cs s) d=(j:Int)/\snD s d=(j:Int))\/(Sv (NR cs s) d=12/\snD s d=(s.length:Int)):=λd hd=>by have h:=AcX (m:=TC cs) hn (d:=d) s.length (Dl _);unfold Sv NR snD;grind [gb,jv,TC,AcY]
 grind
section
variable {g:AQ} {m:Jn} {N:Jk} (P:Pg g m N)
include P
theorem Aa2{ids row:A3}(ho:n8 g ids=some row)(hn:row.length<=1000)(hm:∀x∈row,x∈g.IDs):jn g ids=some (NS (Bw g m N) row):=by
 have w:=P.w;have nL:=w.nL;have nI:=w.nI;unfold jn;rw[ho,aL];refine T.eq (.bind (T.mono (Q:=λr=>r=NS (Bw g m N) row) (T.forA row.length (λk acc=>acc=(row.take k).foldl (TD (Bw g m N)) []) aa rfl (λk acc hk hj=>?_) λacc hj=>?_) λr hr=> .some hr))
 .obtain⟨x,hx,hmx⟩:=dk hk;obtain⟨i,hi⟩:=G9 (hm x hmx);have hil:i<g.L.length:=by grind
  obtain⟨o,a,so,c⟩:=w.op hil;have hpz:gO g x=(i:Int):=by unfold gO;rw[JD w hi]
  have b:=(P.op a hi).2;have hal:=XR (I:=Bw g m N) (l:=row.take k) (acc:=[]);rw[LL,List.length_nil,<-hj] at hal;rw[Rb hx,O8,List.foldl_cons,List.foldl_nil,<-hj];unfold TD;rw[b];unfold nk;simp only[eA hk,ax,au,hx,aL,qR,dC (show g.IDs.length<=1000000 by omega),hpz,a,AeK];cases hc:AbM o with
  |none=>exact .some ⟨aq aa,rfl⟩
  |some d=>
   have hd:=Aa0 c hc;rw[MZ,show decide (0<d)=true from CO aa,ax,cX aa,aL];have hb:QF acc d=acc.any (λy=>decide (d=y)):=by grind [KE]
   rw[hb,aL];dsimp only;cases acc.any (λy=>decide (d=y)) with
   |true=>exact .some ⟨aq aa,rfl⟩
   |false=>exact .bind (.app cq (.some ⟨aq aa,rfl⟩))
 .unfold nk;dsimp only;rw[eF,A7];refine .some (show acc=_ from ?_);rw[hj,D3];rfl
end
def Yb(lt:Ab->Ab->Bool)(b:Option Ab)(x:Ab):Option Ab:=match b with
 |none=>some x
 |some y=>bif lt x y then some x else some y
theorem AmX{I:Gi}{row l:A3}{sen:FM Int Int}(hl:l.length<=1000):T (AB (Agn I row l sen) (0,-1)) λr=>(∃(i:Nat) (x:Ab),r=(i:Int)/\l[i]?=some x/\(l.find? (λx=> !l.any (DZ I row x))=some x\/(l.find? (λx=> !l.any (DZ I row x))=none/\l.foldl (Yb λx y=>decide (Sv sen x.By<Sv sen y.By)) none=some x)))\/(l=[]/\r= -1):=by
 refine T.loop (λs=>s.1<=l.length/\(∀y∈l.take s.1,(!l.any (DZ I row y))=false)/\((s.1=0/\s.2= -1)\/∃(i:Nat) (x:Ab),s.2=(i:Int)/\l[i]?=some x/\(l.take s.1).foldl (Yb λx y=>decide (Sv sen x.By<Sv sen y.By)) none=some x)) (λs=>l.length-s.1) (by grind) (by show l.length-0<_;omega) ?_;rintro⟨k,b⟩ ⟨hk,hw,hb⟩;dsimp only at hk hw hb;unfold Agn;dsimp only;cases hx:l[k]? with
 |none=>
  have hge:l.length<=k:=List.getElem?_eq_none_iff.1 hx;obtain rfl:k=l.length:=aa;rw[D3] at hw hb;dsimp only;rw[Nat.beq_refl,ax];refine .some ?_;rcases hb with⟨h1,h2⟩|⟨i,x,h1,h2,h3⟩
  .exact .inr ⟨List.length_eq_zero_iff.1 h1,h2⟩
  .exact .inl (by grind)
 |some x=>
  have hlt:=(cr hx).1;dsimp only;refine .ite (λha=>?_) λha=> .some (.inl ⟨k,x,rfl,hx,.inl ?_⟩)
  .have hw':∀y∈l.take (k+1),(!l.any (DZ I row y))=false:=λy hy=>by rw[Rb hx] at hy;grind
   have ef:(l.take (k+1)).foldl (Yb λx y=>decide (Sv sen x.By<Sv sen y.By)) none=Yb (λx y=>decide (Sv sen x.By<Sv sen y.By)) ((l.take k).foldl (Yb λx y=>decide (Sv sen x.By<Sv sen y.By)) none) x:=by rw[Rb hx,O8];rfl
   unfold upB;rcases hb with⟨rfl,rfl⟩|⟨i,y,rfl,hi,hf⟩
   .refine .some ⟨⟨aa,hw',.inr ⟨0,x,rfl,hx,?_⟩⟩,by show l.length-1<l.length-0;omega⟩;rw[ef];rfl
   .rw[hf] at ef;rw[show decide ((i:Int)<0)=false from C5 aa,A7,au,hi,aL];cases hc:decide (Sv sen x.By<Sv sen y.By) with
    |true=>exact .some ⟨⟨by show k+1<=_;omega,hw',.inr ⟨k,x,rfl,hx,by rw[ef];show(bif Sv sen x.By<Sv sen y.By then some x else some y)=_;rw[hc];rfl⟩⟩,by grind⟩
    |false=>exact .some ⟨⟨by show k+1<=_;omega,hw',.inr ⟨i,y,rfl,hi,by rw[ef];show(bif Sv sen x.By<Sv sen y.By then some x else some y)=_;rw[hc];rfl⟩⟩,by grind⟩
  .rw[List.find?_eq_some_iff_getElem];obtain⟨h1,h2⟩:=cr hx;refine⟨by rw[ha];rfl,k,h1,h2,λj hj=>?_⟩;have hj':l[j]?=some (l[j]'aa):=EH _;have:=hw _ (bO (i:=j) (by rw[List.getElem?_take,Bz hj];exact hj'));rw[this];simp
abbrev NxQ(g:AQ)(m:Jn)(N:Jk)(al:Bb)(l:A3)(lt:Ab->Ab->Bool)(nx:Int):Prop:=(∃(p:Nat) (x:Ab),nx=(p:Int)/\g.IDs[p]?=some x/\x∈l/\(l.find? (λx=> !l.any (DZ (Bw g m N) al.row x))=some x\/(l.find? (λx=> !l.any (DZ (Bw g m N) al.row x))=none/\l.foldl (Yb lt) none=some x)))\/(l=[]/\nx= -1)
section
variable {g:AQ} {m:Jn} {N:Jk} (P:Pg g m N)
include P
theorem Ak9(h:Lr g dl al){l:A3}{lt:Ab->Ab->Bool}(hs:s.length<=1000)(hlf:l=al.row.filter λx=>decide (x∈l))(j:∀(p:Nat) (x:Ab),g.IDs[p]?=some x->x∈al.row->N7 g dl (p:Int)=some (decide (x∈l)))(hlt:∀x∈al.row,∀y∈al.row,lt x y=decide (snD s ((Bw g m N).o x).By<snD s ((Bw g m N).o y).By)):T (vL g dl s) λnx=>NxQ g m N al l lt nx:=by
 have w:=P.w;have hr:=h.nr;have inner:∀{i:Nat} {x:Ab},i<g.L.length->g.IDs[i]?=some x->AB (ut g dl (i:Int)) (true,0)=some (!l.any (DZ (Bw g m N) al.row x)):=λ{i x} hi hx=>by
  refine T.eq (T.forA dl.Row.length (λk b=>b= !((al.row.take k).any λy=>decide (y∈l)&&DZ (Bw g m N) al.row x y)) aa rfl (λk b hk hb=>?_) λb hb=>?_)
  .obtain⟨z,hz,_⟩:=dk hk;obtain⟨q,v,rfl,d,hv,a⟩:=OR w h.row hz;rw[h.nm] at a;unfold ut;simp only[eA hk,ax,au,hz,aL,j q v hv (bO a),AeJ P h hi d hx hv];have e:((al.row.take (k+1)).any λy=>decide (y∈l)&&DZ (Bw g m N) al.row x y)=(((al.row.take k).any λy=>decide (y∈l)&&DZ (Bw g m N) al.row x y)||(decide (v∈l)&&DZ (Bw g m N) al.row x v)):=by rw[Rb a,List.any_append];simp
   rw[e];cases decide (v∈l) with
   |false=>exact .some ⟨aq aa,by simpa using hb⟩
   |true=>
    cases DZ (Bw g m N) al.row x v with
    |false=>exact .some ⟨aq aa,by simpa using hb⟩
    |true=>exact .some ⟨aq aa,aC⟩
  .unfold ut;dsimp only;rw[eF,A7];refine .some (show b=_ from ?_);grind [Lr.nm,Ho]
 unfold vL;refine .bind ((T.forA (Q:=λr:Int⊕Int=>(∃(p:Nat) (x:Ab),r= .inr (p:Int)/\g.IDs[p]?=some x/\x∈l/\l.find? (λx=> !l.any (DZ (Bw g m N) al.row x))=some x)\/(∃(p:Nat) (x:Ab),r= .inl (p:Int)/\g.IDs[p]?=some x/\x∈l/\l.find? (λx=> !l.any (DZ (Bw g m N) al.row x))=none/\l.foldl (Yb lt) none=some x)\/(l=[]/\r= .inl (-1))) dl.Row.length (λk b=>(∀y∈al.row.take k,y∈l->(!l.any (DZ (Bw g m N) al.row y))=false)/\((b= -1/\((al.row.take k).filter λx=>decide (x∈l))=[])\/∃(p:Nat) (x:Ab),b=(p:Int)/\p<g.L.length/\g.IDs[p]?=some x/\x∈l/\((al.row.take k).filter λx=>decide (x∈l)).foldl (Yb lt) none=some x)) aa ⟨λy hy=>(by cases hy),.inl ⟨rfl,rfl⟩⟩ (λk b hk hb=>?_) λb hb=>?_).mono ?_)
 .obtain⟨z,hz,_⟩:=dk hk;obtain⟨q,v,rfl,d,hv,a⟩:=OR w h.row hz;rw[h.nm] at a;have n:=bO a;obtain⟨hb1,hb2⟩:=hb;have ef:(al.row.take (k+1)).filter (λx=>decide (x∈l))=(al.row.take k).filter (λx=>decide (x∈l))++(if v∈l then[v] else[]):=by rw[Rb a,O7];grind
  unfold uu;simp only[eA hk,ax,au,hz,aL,j q v hv n];by_cases c:v∈l
  .rw[Bz c] at ef;rw[CO c,Bool.not_true,A7,inner d hv,aL];cases hany:l.any (DZ (Bw g m N) al.row v) with
   |false=>
    refine .some (.inl ⟨q,v,rfl,hv,c,?_⟩);have hkl:(al.row.take k).filter (λx=>decide (x∈l))++[v]++(al.row.drop (k+1)).filter (λx=>decide (x∈l))=l:=by grind [Pu]
    have:l.find? (λx=> !l.any (DZ (Bw g m N) al.row x))=((al.row.take k).filter (λx=>decide (x∈l))++[v]++(al.row.drop (k+1)).filter (λx=>decide (x∈l))).find? (λx=> !l.any (DZ (Bw g m N) al.row x)):=by rw[hkl]
    rw[this,List.append_assoc,List.find?_append,List.find?_eq_none.2 λy hy=>by rw[Hq] at hy;rw[hb1 y hy.1 (DD hy.2)];simp]
    rw[List.singleton_append,List.find?_cons,hany];rfl
   |true=>
    rw[Bool.not_true,A7];have hb1':∀y∈al.row.take (k+1),y∈l->(!l.any (DZ (Bw g m N) al.row y))=false:=λy hy f=>by
     rw[Rb a] at hy;rcases I6.1 hy with hy|hy
     .exact hb1 y hy f
     .simp at hy;subst hy;rw[hany];rfl
    obtain⟨o,ho,so,u⟩:=w.op d;rcases hb2 with⟨rfl,he⟩|⟨p,y,rfl,hpl,hp,f,hf⟩
    .rw[show decide ((-1:Int)<0)=true from rfl,ax,aL,ax];refine .some ⟨aq aa,hb1',.inr ⟨q,v,rfl,d,hv,c,?_⟩⟩;rw[ef,he];rfl
    .obtain⟨t,ho2,_⟩:=w.op hpl;have hmx:E1 (p:Int) 0=(p:Int):=by unfold E1;rw[BW aa]
     have hyr:y∈al.row:=by grind
     rw[show decide ((p:Int)<0)=false from C5 aa,A7,hmx];simp only[au,ho,ho2,aL,aaa hs];have hl1:=hlt v n y hyr;rw[(P.op ho hv).2,(P.op ho2 hp).2] at hl1;rw[<-hl1];have ef2:((al.row.take (k+1)).filter λx=>decide (x∈l)).foldl (Yb lt) none=Yb lt (some y) v:=by rw[ef,O8,hf];rfl
     cases hc:lt v y with
     |true=>exact .some ⟨aq aa,hb1',.inr ⟨q,v,rfl,d,hv,c,by rw[ef2];show(bif lt v y then some v else some y)=_;rw[hc];rfl⟩⟩
     |false=>exact .some ⟨aq aa,hb1',.inr ⟨p,y,rfl,hpl,hp,f,by rw[ef2];show(bif lt v y then some v else some y)=_;rw[hc];rfl⟩⟩
  .rw[BW c,Nj] at ef;rw[C5 c,Bool.not_false,ax];refine .some ⟨aq aa,λy hy f=>?_,by rw[ef];exact hb2⟩;rw[Rb a] at hy;grind
 .unfold uu;dsimp only;rw[eF,A7];have hl2:al.row.length=dl.Row.length:=by rw[<-h.nm,Ho]
  rw[<-hl2,D3,<-hlf] at hb;refine .some ?_;obtain⟨hb1,hb2⟩:=hb;rcases hb2 with⟨rfl,he⟩|⟨p,x,rfl,_,hp,hx,hf⟩
  .exact .inr (.inr ⟨he,rfl⟩)
  .refine .inr (.inl ⟨p,x,rfl,hp,hx,List.find?_eq_none.2 λy hy=>?_,hf⟩);have hyr:y∈al.row:=by rw[hlf] at hy;exact(Hq.1 hy).1
   rw[hb1 y hyr hy];simp
 .rintro r (⟨p,x,rfl,hp,hx,h1⟩|⟨p,x,rfl,hp,hx,h1⟩|⟨h1,rfl⟩)
  .exact .some (.inl ⟨p,x,rfl,hp,hx,.inl h1⟩)
  .exact .some (.inl ⟨p,x,rfl,hp,hx,.inr h1⟩)
  .exact .some (.inr ⟨h1,rfl⟩)
end
theorem Ab3{α:Type}[DecidableEq α]:∀{l row:List α},l.Sublist row->row.Nodup->l=row.filter λx=>decide (x∈l)
 |_,_,.slnil,_=>rfl
 |l,_,.cons (l₂:=r) a h,hn=>by rw[Mi] at hn;rw[List.filter_cons_of_neg (by grind)];exact Ab3 h hn.2
 |_,_,.cons_cons (l₁:=l) (l₂:=r) a h,hn=>by rw[Mi] at hn;rw[List.filter_cons_of_pos aC];have e:=Ab3 h hn.2;grind [List.filter_congr]
theorem U0:AH ((ofV vs).get x)=decide (x∈vs):=by
 have key:∀(l:A3) (M:FM Ab Bool),AH ((l.foldl (λm x=>C6 m x true) M).get x)=(AH (M.get x)||decide (x∈l)):=by intro l;induction l<;>grind [BA,AH]
 unfold ofV;rw[key];rfl
theorem AcZ{I:Gi}{row left:A3}{x y:Ab}:∀{l:A3} {v:FM Ab Bool},AH ((l.foldl (vFu I row left x) v).get y)=(AH (v.get y)||(decide (y∈l)&&(D5 I x y||(left.any (λz=>decide (y=z))&&DZ I row x y))))
 |[],v=>aC
 |a::r,v=>by
  rw[List.foldl_cons,AcZ (l:=r)];have e:AH ((vFu I row left x v a).get y)=(AH (v.get y)||(decide (y=a)&&(D5 I x y||(left.any (λz=>decide (y=z))&&DZ I row x y)))):=by unfold vFu;grind [BA,AH]
  grind
section
variable {g:AQ} {m:Jn} {N:Jk} (P:Pg g m N)
include P
theorem Ala(hi:EA g ids)(ho:n8 g ids=some row)(hrn:row.Nodup)(hr:row.length<=1000)(hrm:∀x∈row,x∈g.IDs)(hv:vJ ids=some vs)(d:vs.length<=1000)(hvm:∀x∈vs,x∈g.IDs):T (Aa g ids) λc=>Lr g c (Nf ⟨g.Cards,m,N⟩ row vs)/\c.Decided=List.replicate g.L.length false:=by
 have w:=P.w;have nL:=w.nL;have nI:=w.nI;unfold Aa;rw[ho,aL];have hmk:rP 1 (false:Bool) (ah g.L)=some (List.replicate g.L.length false):=T.eq (.make (by unfold ah;omega) (by unfold ah;omega) (by unfold ah;omega) (by unfold ah;rw[EO]));rw[hmk,aL,aL,aL];have pz:∀x∈g.IDs,∃i:Nat,g.IDs[i]?=some x/\i<g.L.length/\fC g x=some (i:Int):=λx hx=>by obtain⟨i,hi⟩:=G9 hx;have:=(cr hi).1;exact⟨i,hi,aa,by rw[dC aa];unfold gO;rw[JD w hi]⟩
 refine .bind ((T.forA row.length (λk acc=>EF g acc/\acc.length=k/\HD g acc=row.take k) aa ⟨.nil,rfl,rfl⟩ (λk acc hk hj=>?_) λacc hj=>?_).mono (Q:=λacc=>EF g acc/\acc.length=row.length/\HD g acc=row) λb h10=>?_)
 .obtain⟨x,hx,hmx⟩:=dk hk;obtain⟨i,hi,hil,hp⟩:=pz x (hrm x hmx);unfold uq;simp only[eA hk,ax,au,hx,aL,hp];refine .bind (.app cq (.some ⟨aq aa,hj.1.snoc hil,by simp;omega,?_⟩));grind [Rb]
 .unfold uq;dsimp only;rw[eF,A7];rw[D3] at hj;exact .some hj
 .rw[hv,aL];refine .bind ((T.loop (Q:=λr:List Bool×List Bool=>r.1.length=g.L.length/\∀(p:Nat) (x:Ab),g.IDs[p]?=some x->r.1[p]?=some (decide (x∈vs))/\r.2[p]?=some (decide (x∈vs))) (λs=>∃k:Nat,k<=vs.length/\s.2.2=(k:Int)/\s.1.length=g.L.length/\s.2.1.length=g.L.length/\∀(p:Nat) (x:Ab),g.IDs[p]?=some x->s.1[p]?=some (decide (x∈vs.take k))/\s.2.1[p]?=some (decide (x∈vs.take k))) (λs=>vs.length-s.2.2.toNat) ⟨0,aa,rfl,aC,aC,λp x hp=>?_⟩ cq ?_).mono λr a=>?_)
  .have:=(cr hp).1;show(List.replicate g.L.length false)[p]?=_/\(List.replicate g.L.length false)[p]?=_;rw[List.getElem?_replicate,Bz aa];simp
  .rintro⟨V,F,i⟩ ⟨k,hk,rfl,h1,h2,h3⟩;dsimp only at h1 h2 h3;unfold uo;dsimp only;rcases It k vs.length with hlt|hge
   .obtain⟨x,hx,hmx⟩:=dk hlt;obtain⟨q,hq,e,hp⟩:=pz x (hvm x hmx);rw[eA hlt,ax,au,hx,aL,hp,aL];have ew:=aq (show k<2305843009213693952 by omega);refine .bind (.set aa aa (.bind (.set aa aa (.some ⟨⟨k+1,aa,ew,by simp;omega,by simp;omega,λp y hy=>?_⟩,by rw[ew];simp;omega⟩))));dsimp only;rw[EO,List.getElem?_set,List.getElem?_set,Rb hx];have:=h3 p y hy;grind [MT,Fq.nd]
   .obtain rfl:k=vs.length:=aa;rw[eF,A7];rw[D3] at h3;exact .some ⟨h1,h3⟩
  .refine .some ⟨⟨h10.1,h10.2.2,hrn,by show b.length<=1000;omega,a.1,aC,λp x hp=>?_,λp x hp=>?_⟩,rfl⟩
   .show r.2[p]?=some (AH ((ofV vs).get x));rw[U0];exact(a.2 p x hp).2
   .show r.1[p]?=some (AH ((ofV vs).get x));rw[U0];exact(a.2 p x hp).1
structure RDb (g:AQ) (I:Gi) (dl:JQ) (al:Bb) (a:A3×FM Ab Bool) (V D:List Bool):Prop where
 lr:Lr g {dl with Void:=V,Decided:=D} (wV al a.2)
 sub:a.1.Sublist al.row
 kil:∀x∈a.1,JJ (I.o x).Kind=true
 dec:∀(p:Nat) (x:Ab),g.IDs[p]?=some x->x∈al.row->JJ (I.o x).Kind=true->AH (a.2.get x)=false->D[p]?=some (!decide (x∈a.1))
structure RDc (g:AQ) (I:Gi) (dl:JQ) (al:Bb) (s:Bh) (a:A3×FM Ab Bool) (b:List Bool×List Bool×Int):Prop extends RDb g I dl al a b.1 b.2.1 where
 nx:vL g {dl with Void:=b.1,Decided:=b.2.1} s=some b.2.2
theorem Aiv(h:RDb g (Bw g m N) dl al a V D)(hp:g.IDs[p]?=some x)(hx:x∈al.row):N7 g {dl with Void:=V,Decided:=D} (p:Int)=some (decide (x∈a.1.filter λx=> !AH (a.2.get x))):=by
 have w:=P.w;have nI:=w.nI;have hpl:p<g.L.length:=by grind
 obtain⟨o,ho,so,c⟩:=w.op hpl;have b:=(P.op ho hp).2;have hv:=h.lr.vd p x hp;have hv:V[p]?=some (AH (a.2.get x)):=hv;have hdl:=h.lr.nc;grind [N7,au,JJ,RDb.kil,RDb.dec,Bo]
end
theorem AmY{js:Bh}(hj:js.length<=1000)(hi:∀z∈js,∃q:Nat,z=(q:Int)/\q<V.length):T (AB (ng js) (V,0)) λW=>W.length=V.length/\∀(q:Nat) (b:Bool),V[q]?=some b->W[q]?=some (b||decide ((q:Int)∈js)):=by
 refine T.forA js.length (λk W=>W.length=V.length/\∀(q:Nat) (b:Bool),V[q]?=some b->W[q]?=some (b||decide ((q:Int)∈js.take k))) aa (by grind) (λk W hk a=>?_) λW a=>?_
 .obtain⟨z,hz,c⟩:=dk hk;obtain⟨p,rfl,hp⟩:=hi z c;unfold ng;simp only[eA hk,ax,au,hz,aL];refine .bind (.set aa (by rw[a.1];omega) (.some ⟨aq aa,by rw[List.length_set];exact a.1,λq b h=>?_⟩));rw[EO,List.getElem?_set,Rb hz];grind
 .unfold ng;dsimp only;rw[eF,A7];rw[D3] at a;exact .some a
theorem Aa3{σ1 σ2 ρ1 ρ2:Type}{s1:σ1->Option (σ1⊕ρ1)}{s2:σ2->Option (σ2⊕ρ2)}(R:σ1->σ2->Prop)(Q:ρ1->ρ2->Prop)(μ:σ1->Nat)(h:∀a b,R a b->∃u v,s1 a=some u/\s2 b=some v/\Sim (λa' b'=>R a' b'/\μ a'<μ a) Q u v):∀(n:Nat) (a:σ1) (b:σ2),μ a<n->R a b->∃q r,KN s1 n a=some q/\KN s2 n b=some r/\Q q r
 |0,a,b,hm,_=>absurd hm (Nat.not_lt_zero _)
 |n+1,a,b,hm,hR=>by
  obtain⟨u,v,e1,e2,hs⟩:=h a b hR;unfold KN;rw[e1,e2];cases u with
  |inl a'=>
   cases v with
   |inl b'=>exact Aa3 R Q μ h n a' b' (by have:=hs.2;omega) hs.1
   |inr b'=>exact hs.elim
  |inr a'=>
   cases v with
   |inl b'=>exact hs.elim
   |inr b'=>exact⟨_,_,rfl,rfl,hs⟩
section
variable {g:AQ} {m:Jn} {N:Jk} (P:Pg g m N)
include P
theorem Ab4{l:Bh}(hi:EF g l)(hp:g.IDs[p]?=some x):(p:Int)∈l↔x∈HD g l:=by grind [G9,OR,Pg.w,MT,Fq.nd]
theorem Alc(h:RDc g (Bw g m N) dl al s a b){p:Nat}{x:Ab}(hp:g.IDs[p]?=some x)(hb:b.2.2=(p:Int)):AB (nh g dl b) ([],0)=some (dl.Row.filter λz=>(λy=>D5 (Bw g m N) x y||(decide (y∈a.1.filter λx=> !AH (a.2.get x))&&DZ (Bw g m N) al.row x y)) ((g.IDs[z.toNat]?).getD ⟨0,0,0⟩)):=by
 have w:=P.w;have nI:=w.nI;have hr:dl.Row.length<=1000:=h.lr.nr;have hpl:p<g.L.length:=by grind
 generalize hf:(λy=>D5 (Bw g m N) x y||(decide (y∈a.1.filter λx=> !AH (a.2.get x))&&DZ (Bw g m N) al.row x y))=f;refine T.eq (T.forA dl.Row.length (λk acc=>acc=(dl.Row.take k).filter λz=>f ((g.IDs[z.toNat]?).getD ⟨0,0,0⟩)) aa aC (λk acc hk hj=>?_) λacc hj=>?_)
 .obtain⟨z,hz,_⟩:=dk hk;have hrow:EF g dl.Row:=h.lr.row;obtain⟨q,y,rfl,d,hq,i⟩:=OR w hrow hz;have hnm:HD g dl.Row=al.row:=h.lr.nm;rw[hnm] at i;have hyr:=bO i;have hal:acc.length<=k:=by grind
  have e:(dl.Row.take (k+1)).filter (λz=>f ((g.IDs[z.toNat]?).getD ⟨0,0,0⟩))=acc++(if f y=true then[(q:Int)] else[]):=by rw[Rb hz,O7,<-hj];cases hfy:f y<;>simp[hq,hfy]
  have hw:=AeJ P h.lr hpl d hp hq;unfold nh;simp only[eA hk,ax,au,hz,aL,hb,Ab2 P hpl d hp hq,Aiv P h.toRDb hq hyr];refine .bind (T.mono (Q:=λc=>c=f y) ?_ λc hc=>?_)
  .rw[<-hf];dsimp only;cases D5 (Bw g m N) x y<;>grind [T.some]
  .subst hc;cases hfy:f y with
   |true=>rw[hfy,Bz rfl] at e;exact .bind (.app cq (.some ⟨aq aa,e.symm⟩))
   |false=>rw[hfy,BW aC,Nj] at e;exact .some ⟨aq aa,e.symm⟩
 .unfold nh;dsimp only;rw[eF,A7];refine .some (show acc=_ from ?_);rw[hj,D3]
theorem ltE(c:s.Nodup)(hsl:s.length<=12)(h:Lr g dl al):∀x∈al.row,∀y∈al.row,decide (Sv (NR g.Cards s) x.By<Sv (NR g.Cards s) y.By)=decide (snD s ((Bw g m N).o x).By<snD s ((Bw g m N).o y).By):=by
 have w:=P.w;have pos:∀x∈al.row,∃q:Nat,q<g.L.length/\g.IDs[q]?=some x:=λx hx=>by rw[<-h.nm] at hx;obtain⟨z,hz,e⟩:=Fo.1 hx;obtain⟨j,hj⟩:=G9 hz;obtain⟨n,y,rfl,hn,hy,_⟩:=OR w h.row hj;grind
 intro x hx y hy;obtain⟨p,hp,a⟩:=pos x hx;obtain⟨q,hq,b⟩:=pos y hy;obtain⟨o,ho,_⟩:=w.op hp;obtain⟨d,ho2,_⟩:=w.op hq;rw[(P.op ho a).2,(P.op ho2 b).2,<-(P.od p o x ho a).i,<-(P.od q d y ho2 b).i];refine Ajb c hsl ?_ ?_
 .rw[(P.od p o x ho a).i];exact P.dv p o x ho a
 .rw[(P.od q d y ho2 b).i];exact P.dv q d y ho2 b
theorem nxE(b:s.Nodup)(hsl:s.length<=12)(h:RDb g (Bw g m N) dl al a V D):T (vL g {dl with Void:=V,Decided:=D} s) λnx=>NxQ g m N (wV al a.2) (a.1.filter λx=> !AH (a.2.get x)) (λx y=>decide (Sv (NR g.Cards s) x.By<Sv (NR g.Cards s) y.By)) nx:=Ak9 P h.lr (show s.length<=1000 by omega) (Ab3 (List.filter_sublist.trans h.sub) h.lr.nd) (λ_ _ hp hx=>Aiv P h hp hx) (ltE P b hsl h.lr)
theorem Ald(j:s.Nodup)(hsl:s.length<=12)(h:RDc g (Bw g m N) dl al s a b):∃u v,Agu (Bw g m N) al (NR g.Cards s) a=some u/\tw g dl s b=some v/\Sim (λa' b'=>RDc g (Bw g m N) dl al s a' b'/\a'.1.length<a.1.length) (λ(v:FM Ab Bool) (r:List Bool×List Bool)=>Lr g {dl with Void:=r.1,Decided:=r.2} (wV al v)) u v:=by
 have w:=P.w;have nL:=w.nL;have nI:=w.nI;have hrow:EF g dl.Row:=h.lr.row;have hnm:HD g dl.Row=al.row:=h.lr.nm;have hnd:al.row.Nodup:=h.lr.nd;have hnr:dl.Row.length<=1000:=h.lr.nr;have hrl:al.row.length=dl.Row.length:=by rw[<-hnm,Ho]
 obtain⟨nx,e1,A⟩:=nxE P j hsl h.toRDb;obtain⟨v0,hv⟩:∃v0,tw g dl s b=v0:=⟨_,rfl⟩;rw[hv];have E:=KZ (λx=> !AH (a.2.get x)) a.1;have hkl:=λp x hp hb=>Alc P h (p:=p) (x:=x) hp hb;have hl1s:(a.1.filter λx=> !AH (a.2.get x)).Sublist al.row:=List.filter_sublist.trans h.sub;have hlen:a.1.length<=1000:=by have:=h.sub.length_le;omega
 have hmem:∀y,y∈(a.1.filter λx=> !AH (a.2.get x))↔y∈a.1/\AH (a.2.get y)=false:=by grind
 unfold Agu;rw[CO hlen,ax];dsimp only;generalize (a.1.filter λx=> !AH (a.2.get x))=l1 at*;have hl1n:l1.Nodup:=hnd.sublist hl1s;have hl1l:l1.length<=1000:=by have:=hl1s.length_le;omega
 rw[h.nx] at e1;obtain rfl:=Bo e1;obtain⟨r,e2,hr⟩:=AmX (I:=Bw g m N) (row:=al.row) (sen:=NR g.Cards s) hl1l;rw[e2];rcases A with⟨p,x,f,hp,hxl,hx⟩|⟨h0,hb⟩
 .obtain⟨i,K,rfl,hi,hx'⟩:=hr.resolve_right (by grind);obtain rfl:x=K:=by grind
  have hil:=(cr hi).1;have H:=hl1s.subset hxl;have hpl:p<g.L.length:=by grind
  rw[show decide (ah l1=0)=false from C5 (by unfold ah;omega),A7,aL,au,hi,aL,EO];obtain⟨gd,e3,g1,g2,J,O⟩:=AeI P h.lr;have hgood:QF gd (p:Int)=(Fa (Bw g m N) (wV al a.2)).any (λz=>decide (x=z)):=by rw[KE,Bool.eq_iff_iff,List.any_eq_true,decide_eq_true_iff,Ab4 P g1 hp,J];constructor<;>grind
  have hlp:∀y,y∈l1.eraseIdx i↔y∈l1/\y≠x:=λy=>by
   have hsp:l1=l1.take i++x::l1.drop (i+1):=by grind [List.drop_eq_getElem_cons,Pu]
   have B:=hl1n;rw[hsp,List.perm_middle.nodup_iff,Mi] at B;rw[List.eraseIdx_eq_take_drop_succ];constructor
   .intro hy;constructor<;>grind [List.mem_of_mem_drop]
   .rintro⟨hy,hne⟩;rw[hsp] at hy;rcases I6.1 hy with hy|hy
    .exact I6.2 (.inl hy)
    grind
  have hvl:b.1.length=g.L.length:=h.lr.nv;have hdl:b.2.1.length=g.L.length:=h.lr.nc;have key:∀(t:Bh) (d:FM Ab Bool),t.length<=1000->(∀z∈t,∃q:Nat,z=(q:Int)/\q<b.1.length)->(∀(q:Nat) (y:Ab),g.IDs[q]?=some y->AH (d.get y)=(AH (a.2.get y)||decide ((q:Int)∈t)))->T ((ji b.2.1 b.2.2 true).bind λk=>(AB (ng t) (b.1,0)).bind λl=>(vL g ({dl with Void:=l,Decided:=k}) s).bind λC=>some (.inl (l,k,C))) λ(v:(List Bool×List Bool×Int)⊕(List Bool×List Bool))=>Sim (λa' b'=>RDc g (Bw g m N) dl al s a' b'/\a'.1.length<a.1.length) (λ(v:FM Ab Bool) (r:List Bool×List Bool)=>Lr g {dl with Void:=r.1,Decided:=r.2} (wV al v)) (.inl (l1.eraseIdx i,d)) v:=λt d hjl D n=>by
   rw[f];refine .bind (.set aa aa (.bind ((AmY hjl D).mono λW F=>?_)));rw[EO];have hL:Lr g {dl with Void:=W,Decided:=b.2.1.set p true} (wV al d):=⟨hrow,hnm,hnd,hnr,F.1.trans hvl,by grind,h.lr.fk,λq y hq=>by show W[q]?=some (AH (d.get y));rw[n q y hq];exact F.2 q _ (h.lr.vd q y hq)⟩
   have hb:RDb g (Bw g m N) dl al (l1.eraseIdx i,d) W (b.2.1.set p true):=by
    refine⟨hL,(List.eraseIdx_sublist l1 i).trans hl1s,(by grind [RDb.kil,h.toRDb]),λq y hq hy hk o=>?_⟩;dsimp only at o⊢;rw[n q y hq] at o;have hvy1:AH (a.2.get y)=false:=by grind
    rw[List.getElem?_set];by_cases c:p=q
    .grind
    .have hne:y≠x:=λe=>c (by rw[e] at hq;exact MT w.nd hp hq);rw[BW c,h.dec q y hq hy hk hvy1];grind
   obtain⟨M,e4,_⟩:=nxE P j hsl hb;rw[e4,aL];exact .some ⟨⟨hb,e4⟩,by show(l1.eraseIdx i).length<_;rw[List.length_eraseIdx_of_lt hil];omega⟩
  unfold tw at hv;rw[f,show decide ((0:Int)<=(p:Int))=true from CO aa,ax,e3,aL,cX aa,aL,hkl p x hp f,aL,hgood] at hv;rw[<-f] at hv;cases hg:(Fa (Bw g m N) (wV al a.2)).any (λz=>decide (x=z)) with
  |true=>
   rw[hg,Bool.not_true,A7,aL] at hv;rw[ax];obtain⟨v',ev,hs⟩:=key (dl.Row.filter λz=>(λy=>D5 (Bw g m N) x y||(decide (y∈l1)&&DZ (Bw g m N) al.row x y)) ((g.IDs[z.toNat]?).getD ⟨0,0,0⟩)) (vAl (Bw g m N) al.row (l1.eraseIdx i) x a.2) (JF (KZ _ _) hnr) (λz hz=>by
    obtain⟨q,e,hq⟩:=hrow.nat (Hq.1 hz).1;exact⟨q,e,aa⟩) λq y hq=>by
    unfold vAl;rw[AcZ];congr 1;have h1:decide ((q:Int)∈dl.Row.filter λz=>(λy=>D5 (Bw g m N) x y||(decide (y∈l1)&&DZ (Bw g m N) al.row x y)) ((g.IDs[z.toNat]?).getD ⟨0,0,0⟩))=(decide (y∈al.row)&&(D5 (Bw g m N) x y||(decide (y∈l1)&&DZ (Bw g m N) al.row x y))):=by rw[Bool.eq_iff_iff,decide_eq_true_iff,Hq,bA,decide_eq_true_iff,Ab4 P hrow hq,hnm,EO,hq,MZ]
    rw[h1];congr 2;have h2:(l1.eraseIdx i).any (λz=>decide (y=z))=decide (y∈l1/\y≠x):=by rw[Bool.eq_iff_iff,List.any_eq_true,decide_eq_true_iff,<-hlp];constructor<;>grind
    rw[h2];by_cases c:y=x
    .subst c;unfold DZ;simp
    .simp[c]
   exact⟨_,v',rfl,by rw[<-hv,ev],hs⟩
  |false=>
   rw[hg,Bool.not_false,ax,aL] at hv;rw[A7];obtain⟨v',ev,hs⟩:=key [b.2.2] (C6 a.2 x true) aC (by grind) λq y hq=>by
    rw[BA,f];by_cases c:y=x
    .subst c;have:q=p:=MT w.nd hq hp;rw[Bz rfl,this];simp[AH]
    .have:¬((q:Int)=(p:Int)):=λe=>c (by have:q=p:=aa;grind)
     rw[BW c];simp[this]
   exact⟨_,v',rfl,by rw[<-hv,ev],hs⟩
 .rw[h0,show decide (ah ([]:A3)=0)=true from rfl,ax];unfold tw at hv;rw[hb,show decide ((0:Int)≤-1)=false from rfl,A7] at hv;exact⟨_,_,rfl,hv.symm,h.lr⟩
include P
theorem AeL(hrm:∀x∈row,x∈g.IDs):(NS (Bw g m N) row).Nodup/\(NS (Bw g m N) row).length<=12:=by have h1:(NS (Bw g m N) row).Nodup:=AcW .nil;refine⟨h1,Ak8 h1 ?_⟩;refine Aa1 (Q:=λd=>1<=d/\d<=12) (λx hx d hd=>?_) (by grind);obtain⟨i,hi⟩:=G9 (hrm x hx);have:=(cr hi).1;obtain⟨o,ho,so,a⟩:=P.w.op (i:=i) (by have:=P.w.nI;omega);rw[(P.op ho hi).2] at hd;exact Aa0 a hd
theorem Aa4(hi:EA g ids)(ho:n8 g ids=some row)(hrn:row.Nodup)(hr:row.length<=1000)(hrm:∀x∈row,x∈g.IDs)(hv:vJ ids=some vs)(c:vs.length<=1000)(hvm:∀x∈vs,x∈g.IDs):T (oR g ids) λd=>∃v,AcP (Bw g m N) (Nf ⟨g.Cards,m,N⟩ row vs) (NR g.Cards (NS (Bw g m N) row))=some v/\Lr g d (wV (Nf ⟨g.Cards,m,N⟩ row vs) v):=by
 unfold oR;refine .bind ((Ala P hi ho hrn hr hrm hv c hvm).mono λb ⟨hL,hD⟩=>?_);rw[Aa2 P ho hr hrm,aL];obtain⟨s1,s2⟩:=AeL P hrm;have hR:RDb g (Bw g m N) b (Nf ⟨g.Cards,m,N⟩ row vs) (row.filter (λx=> !!JJ ((Bw g m N).o x).Kind),(Nf ⟨g.Cards,m,N⟩ row vs).void) b.Void b.Decided:=⟨hL,List.filter_sublist,(by grind),λp x hp hx hk _=>by have hpl:=(cr hp).1;have hm:x∈row.filter (λx=> !!JJ ((Bw g m N).o x).Kind):=Hq.2 ⟨hx,by rw[hk];rfl⟩;grind [Lr]⟩
 obtain⟨nx,e3,_⟩:=nxE P s1 s2 hR;rw[show vL g b (NS (Bw g m N) row)=some nx from e3,aL];obtain⟨v,r,h1,h2,h3⟩:=Aa3 (s1:=Agu (Bw g m N) (Nf ⟨g.Cards,m,N⟩ row vs) (NR g.Cards (NS (Bw g m N) row))) (s2:=tw g b (NS (Bw g m N) row)) (RDc g (Bw g m N) b (Nf ⟨g.Cards,m,N⟩ row vs) (NS (Bw g m N) row)) (λ(v:FM Ab Bool) (r:List Bool×List Bool)=>Lr g {b with Void:=r.1,Decided:=r.2} (wV (Nf ⟨g.Cards,m,N⟩ row vs) v)) (λa=>a.1.length) (by grind [Ald]) FU _ (b.Void,b.Decided,nx) (by grind [FU]) ⟨hR,e3⟩;rw[show AB (tw g b (NS (Bw g m N) row)) (b.Void,b.Decided,nx)=some r from h2,aL];exact .some ⟨v,h1,h3⟩
theorem Ale{l:Bh}(hi:EF g l)(hl:l.length<=1000)(hnd:(HD g l).Nodup):T (AB (tQ g l) (⟨g.Cards,[],[],[],0,[]⟩,0)) λD=>Rr (AbI (Bw g m N) (HD g l)) D/\Bi (AbI (Bw g m N) (HD g l))/\Jo g 1000 D:=by
 have w:=P.w;have nI:=w.nI;obtain⟨b,e0,c⟩:=Ak6 (P.new);have hD0:b=⟨g.Cards,[],[],[],0,[]⟩:=(Bo e0).symm;subst hD0;refine T.forA l.length (λj D=>(Rr (((HD g l).take j).foldl (NQ (Bw g m N)) (Hh g.Cards)) D/\Bi (((HD g l).take j).foldl (NQ (Bw g m N)) (Hh g.Cards))/\Gs (((HD g l).take j).foldl (NQ (Bw g m N)) (Hh g.Cards)) ((HD g l).take j))/\Jo g j D) aa ⟨⟨c,Lz P.cd.r,λq z g h=>by cases h⟩,Mv g⟩ (λj D hj hr=>?_) λD hr=>?_
 .obtain⟨y,hy,hm⟩:=dk hj;obtain⟨i,x,rfl,hil,hx,a⟩:=OR w hi hy;obtain⟨o,ho,so,p⟩:=w.op hil;obtain⟨⟨h1,h2,h3⟩,h4⟩:=hr;have hod:=P.od i o x ho hx;have d:=(P.op ho hx).2;have et:((HD g l).take (j+1)).foldl (NQ (Bw g m N)) (Hh g.Cards)=Vq (((HD g l).take j).foldl (NQ (Bw g m N)) (Hh g.Cards)) o x:=by rw[Rb a,O8,List.foldl_cons,List.foldl_nil];grind [NQ]
  have hxS:x∉(HD g l).take j:=by grind [G9,MT]
  rw[et,Rb a];generalize ((HD g l).take j).foldl (NQ (Bw g m N)) (Hh g.Cards)=R at h1 h2 h3⊢;unfold tQ;simp only[eA hj,ax,au,hy,ho,hx,aL];have z:=VA P h4 aa;have k:=h4.dev;have n:=h4.nL;exact .bind ((T.and (doE z (by grind) h1 h2 λ_ q z f k1 k2 e=>by have:=h3 q z f k1 k2;grind) (Gc w aa h4 so x)).mono λv hv=> .some (by constructor<;>grind [aq,Sb,Ait]))
 .unfold tQ;dsimp only;rw[eF,A7];have hl2:(HD g l).length=l.length:=Ho ..;rw[<-hl2,D3] at hr;exact .some ⟨hr.1.1,hr.1.2.1,hr.2.up aa⟩
theorem Am0{ids row vs:A3}(hi:EA g ids)(ho:n8 g ids=some row)(hrn:row.Nodup)(hr:row.length<=1000)(hrm:∀x∈row,x∈g.IDs)(hv:vJ ids=some vs)(a:vs.length<=1000)(hvm:∀x∈vs,x∈g.IDs):T (zY g ids) λD=>∃cs,Agx (Bw g m N) (Nf ⟨g.Cards,m,N⟩ row vs) (NS (Bw g m N) row)=some cs/\cs.Sublist row/\Rr (AbI (Bw g m N) cs) D/\Bi (AbI (Bw g m N) cs)/\Jo g 1000 D:=by
 unfold zY AV;rw[aL];refine .bind ((Aa4 P hi ho hrn hr hrm hv a hvm).mono λe hdl=>?_);obtain⟨v,h1,h2⟩:=hdl;refine .bind ((AeI P h2).mono λr b=>?_);obtain⟨g1,g2,d,c⟩:=b;have hcs:Agx (Bw g m N) (Nf ⟨g.Cards,m,N⟩ row vs) (NS (Bw g m N) row)=some (HD g r):=by unfold Agx;rw[show(Bw g m N).cards=g.Cards from rfl,h1,d];rfl
 refine .bind ((Ale P g1 g2 (hrn.sublist c)).mono λD hD=> .some ⟨HD g r,hcs,c,hD⟩)
end
theorem Ajc{D:C7}(z:Sz D)(h:Rr R D)(hR:Bi R):lu D=some (Ha R):=by
 obtain⟨a,b,_⟩:=LX hR;unfold lu;refine T.eq (.bind ((Ab0 z.i).mono λv hv=> .some ?_));refine Vv (hv.1.trans (List.Perm.trans ?_ b.symm)) hv.2 a;refine(List.perm_ext_iff_of_nodup (List.nodup_append.1 h.nd).1 hR.ci.kd).2 λe=>?_;have hi:=h.in_ e;constructor
 .grind [Hd]
 .intro he;obtain⟨q,hq,rfl⟩:=Fo.1 he;have hg:=JI hR.ci (k:=q.1) (v:=q.2.1) (n:=q.2.2) hq;grind
theorem UC:fg prog 109=some true:=aH
section
variable (gl:Cd)
theorem Nu:Acg prog gl Bu (λx=>[.agg (Bu x)]) 212:=λs f fi_f fa_f fc_f a=>
 cy func212 λK=>O0 1101 (λg=>sg [] []) (λs1=>sf [] [(7,iG (ah s)),(8,iG s1)]) [hc (a.im)] K (λg=>rv K) λs1 k5 h k6=>aF 9 (CD 14 Bg.ixZ 15 (Bg.ptZ Hr) λd=>ak λi e=>kV (λb=>aw [hz 16 [] (cS (a.cs (c:=0) e (aY (aG 20 (.agg (Bu d)) aH) (bf))) b)]<|aP c3 k6 []) λb=>aw [hz 16 [] (cS (a.cs (c:=0) e (aY (aG 20 (.agg (Bu d)) aH) (bf))) b)]<|cj k5 [hc (a.im)])<|aA c2 h []
theorem LV:Ach prog gl Bu (λx=>[.agg (Bu x)]) 115:=λs f fi_f fa_f fc_f a=>
 cy func115 λK=>ak λb e2=>aw [hz 7 [] (jf (c:=0) aH (Nu gl (a) e2) (aY (aG 20 (aE Bu s) aH) (aY (a.im) (bf))))]<|rv K
def JG(f:Bf)(a1:Bj):Fp:=
 (bif f.Device=a1.By then(some (decide (f.Seq<=a1.Seq)))else(some false)).bind λa=>some a
theorem UJ{f a1}:DC prog gl (JG f a1) 117 [.agg (Bu f),.ptr (aJ a1) 0] bG:=
 cy func117 λK=>cN [1,0] (so [0] [(2,.ref 0 0)] [ob 0 165 (Bu f)] 1) []<|cC [1,0] (λa=>sk [] [(3,bG a)] [] 0) (λa=>rv K) λa k3=>aF 8 (rx k3)<|rx k3
def Aad(a:Ad)(device:Int):Fp:=
 some (Hj (a.in_.get device))
theorem UK{r_ device}:DC prog gl (Aad r_ device) 121 [.ptr (CB r_) 0,iG device] bG:=
 cy func121 λK=>aw [hm 10 (SC r_.in_ device)]<|rv K
def SP(d:Int)(a1:Bh):Fp:=
 (Aci a1 d).bind λa=>some (!a)
theorem UM{d a1}:DC prog gl (SP d a1) 122 [iG d,.ptr [aE cZ a1] 0] bG:=
 cy func122 λK=>BU 6 (DL gl) λa=>rv K
end
section
variable {gl:Cd}
abbrev InV(gl:Cd)(fi:FuncId)(a b:Bk)(p:Int->Bool):Prop:=R7 prog gl fi a b (λx:Int=>[iG x]) (λx:Bool=>bG x) (λk=>some (p k))
theorem Adj{p:Int->Bool}(hv:InV gl fi fa fc p){l:Bh}(hn:l.length<=1000000):iV prog gl 119 [aE cZ l,.clo (.func fi) fa fc] 3 (l.filter p).length ((l.filter p).flatMap cZ):=by
 refine OW func119 ?_;refine pN (λk:Nat=>(s0 23 gl [(1,.clo (.func fi) fa fc),(5,.rsl 0 0 ((l.take k).filter p).length),(8,aE cZ l),(9,iG (ah l)),(10,iG (k:Int))] [(0,Ju ((l.take k).filter p))] 1 0)) 1110122 (Aat (n:=l.length) aa) [] [hc hv.im,hc (rZ.imm [])] (λB k w hs k5 a=>?_) [3] [(0,0)] [(0,.row)];unfold Aek at hs;split at hs
 .rename_i hlt;obtain rfl:=Bo hs;obtain⟨x,hx⟩:∃x,l[k]?=some x:=⟨_,EH hlt⟩;have hz:=Bp hx;have k5:=k5 _ rfl;have hl:((l.take k).filter p).length<=k:=JF (KZ _ _) (by rw[LL];omega);rw[Hp,hx,Option.toList_some,O7] at k5;generalize (l.take k).filter p=q at k5 hl⊢;have hcs:=hv.cs (c:=1) (x:=x) rfl (aY (aG 20 (iG x) aH) bf);cases hp:p x with
  |true=>rw[hp] at hcs;rw[List.filter_cons_of_pos hp,List.filter_nil] at k5;exact jw [hr 11 (CM hx),Az 12 (rZ.ixZ hz),Az 13 (rZ.p1Z tZ hz),Go.Proofs.YtlijnaneopediaaGreatDoor.hz 16 [] hcs,Tn 20 rZ 8 q x aa,hbb 21 (Xl (q:=k) aa)] [hc hv.im,hc (el (q++[x])),hc (rZ.imm (q++[x]))] k5 [] [(0,2)] [(0,.row)]
  |false=>rw[hp] at hcs;rw[List.filter_cons_of_neg (by simp[hp]),List.filter_nil,Nj] at k5;exact jw [hr 11 (CM hx),Az 12 (rZ.ixZ hz),Az 13 (rZ.p1Z tZ hz),Go.Proofs.YtlijnaneopediaaGreatDoor.hz 16 [] hcs,hbb 21 (Xl (q:=k) aa)] [hc hv.im,hc (el q),hc (rZ.imm q)] k5 [] [(0,0)] [(0,.row)]
 .split at hs
  .rename_i he;subst he;rw[D3];exact EI [hr 11 (DH (s:=l))] (rZ.imm (l.filter p))
  .cases hs
end
def nmS(p:Nat->Bool)(N:Jk):A3:=(N.zipIdx.filter λq=>p q.2).map (·.1.id)
theorem Afu{p:Nat->Bool}{x:C3}(h:N[k]?=some x):nmS p (N.take (k+1))=nmS p (N.take k)++bif p k then[x.id] else[]:=by grind [nmS,Hp]
theorem Adk{p:Nat->Bool}:(nmS p N).length<=N.length:=by grind [nmS,List.length_zipIdx]
section
variable {gl:Cd}
theorem Ahr(a b:Ab):ba prog gl 174 [.agg (aj a),.agg (aj b)] (iG (He a b)):=by
 have h1:=TF (gl:=gl) a b;have h2:=TF (gl:=gl) b a;unfold He;refine Gh func174 ?_;cases c1:dt a b with
 |true=>rw[c1] at h1;exact Ar [hf 8 h1] []
 |false=>
  rw[c1] at h1;cases c2:dt b a with
  |true=>rw[c2] at h2;exact Ar [hf 8 h1,hf 12 h2] []
  |false=>rw[c2] at h2;exact Ar [hf 8 h1,hf 12 h2] []
theorem AjE:CmV gl 174 [] [] He:=⟨aH,bf,bf,(by grind [Ahr])⟩
abbrev NmV(gl:Cd)(fi:FuncId)(a b:Bk)(p:Nat->Bool):Prop:=R7 prog gl fi a b (λx:Nat=>[iG (x:Int)]) (λx:Bool=>bG x) (λk=>bif k<200 then some (p k)else none)
theorem Afv(hn:gg.nodes.length<=14){p:Nat->Bool}(hv:NmV gl fi fa fc p){r:A3}(h:R0 He (nmS p gg.nodes)=some r)(hle:r.length=(nmS p gg.nodes).length):iV prog gl 85 [.ptr (Ag gg) 0,.clo (.func fi) fa fc] 36 r.length (r.flatMap aj):=by
 rw[hle];refine OW func85 ?_;refine Un (l:=gg.nodes) aa (λk:Nat=>(s0 30 gl [(1,.clo (.func fi) fa fc),(5,.rsl 0 0 (nmS p (gg.nodes.take k)).length),(11,aE d7 gg.nodes),(12,iG (ah gg.nodes)),(13,iG (k:Int))] [(0,Bt (nmS p (gg.nodes.take k)))] 1 0)) 1110122 [] [hc hv.im,hc (ac.imm [])] (λB k x hx hz k5=>?_) (λB=>?_)
 .have hlt:=(cr hx).1;have hl:(nmS p (gg.nodes.take k)).length<=k:=by grind [Adk]
  rw[Afu hx] at k5;generalize nmS p (gg.nodes.take k)=l at k5 hl⊢;have hcs:=hv.cs (c:=2) (x:=k) (by rw[CO (by grind)];rfl) (aY (aG 20 (iG (k:Int)) aH) bf);cases hp:p k with
  |true=>rw[hp] at k5 hcs;exact jw [hr 14 (CM hx),Az 16 (az.ixZ hz),Az 17 (az.ptZ UC hz),Go.Proofs.YtlijnaneopediaaGreatDoor.hz 20 [] hcs,Tn 25 ac 24 l x.id aa,hbb 26 (Xl (q:=k) aa)] [hc hv.im,hc (el (l++[x.id])),hc (ac.imm (l++[x.id]))] k5
  |false=>rw[hp] at k5 hcs;rw[A7,Nj] at k5;exact jw [hr 14 (CM hx),Az 16 (az.ixZ hz),Az 17 (az.ptZ UC hz),Go.Proofs.YtlijnaneopediaaGreatDoor.hz 20 [] hcs,hbb 26 (Xl (q:=k) aa)] [hc hv.im,hc (el l),hc (ac.imm l)] k5
 .rw[D3];exact EI [hr 14 (DH (s:=gg.nodes)),hso (gl:=gl) 28 1 AjE (JF Adk hn) h] (ac.imm r)
def RW(gg:Aj)(l:A3):OS:=l.foldl (λs x=>match M6 gg x with|some y=>RU s y.past|none=>s) z4
theorem Afw(hg:Uq gg)(hn:ids.length<=1000000):ba prog gl 177 [.ptr (Ag gg) 0,aE aj ids] (.agg (FSq (RW gg ids))):=by
 refine Gh func177 ?_;refine Un (l:=ids) aa (λk:Nat=>(s0 37 gl [(0,.ptr (Ag gg) 0),(4,.ref 0 0),(5,.ref 1 0),(10,aE aj ids),(11,iG (ah ids)),(12,iG (k:Int))] [(0,oA z4),(1,oA (RW gg (ids.take k)))] 2 0)) 1110122 [] [] (λB k x hx hz k5=>?_) (λB=>?_) [] [(0,0),(1,1)] []
 .have hlt:=(cr hx).1;have e:RW gg (ids.take (k+1))=match M6 gg x with|some y=>RU (RW gg (ids.take k)) y.past|none=>RW gg (ids.take k):=by unfold RW;rw[Hp,hx,Option.toList_some,O8];rfl
  rw[e] at k5;generalize RW gg (ids.take k)=s at k5⊢;have hk:=H7 gg.at_ x;cases em:gg.at_.get x with
  |none=>rw[em] at hk;rw[XL em] at k5;exact jw [hr 13 (CM hx),Az 14 (ac.ixZ hz),Az 15 (ac.ptZ aW hz),hm 22 hk,hbb 35 (Xl (q:=k) aa)] [] k5 [] [(0,0),(1,1)] []
  |some n=>rw[em] at hk;obtain⟨j,y,rfl,hy,e2,_⟩:=Ur hg em;rw[e2] at k5;exact jw [hr 13 (CM hx),Az 14 (ac.ixZ hz),Az 15 (ac.ptZ aW hz),hm 22 hk,Az 31 (az.ixZ hy),Az 33 (az.fsZ aap aaq 30 B5 hy),tN 34 [1] 3 [(1,oA s)] [.ref 1 0,.agg (FSq y.past)] [(0,oA (RU s y.past))] (TX gl s y.past) ⟨⟨rfl,.inl rfl⟩,trivial⟩ ⟨⟨rfl,.inl rfl⟩,trivial⟩,hbb 35 (Xl (q:=k) aa)] [] k5 [] [(0,0),(1,1)] []
 .rw[D3];exact Ar [hr 13 (DH (s:=ids))] []
theorem Ahs(s:OS)(hn:n<256):ba prog gl 65 [.ptr (FSq s) 0,iG (n:Int)] (bG (gW s n)):=by
 have h:=Xa (s:=s) hn;generalize gW s n=r at h⊢;have hm:u9 (n:Int) 64=some ((n%64:Nat):Int):=by grind [u9]
 have hcn:wJ ((n%64:Nat):Int)=some (n%64):=by grind [wJ]
 have hq:∀q:Nat,n/64=q->Gg (n:Int) 64=some (q:Int):=by grind [Gg,Mx]
 have hd:wI (Int.tdiv (n:Int) 64)=((n/64:Nat):Int):=by grind [bM]
 have ht:Int.tmod (n:Int) 64=((n%64:Nat):Int):=by grind
 unfold iX at h;rw[hd,ht,hcn] at h;refine Gh func65 ?_;have h4:n/64=0\/n/64=1\/n/64=2\/n/64=3:=aa;rcases h4 with e|e|e|e
 .rw[e] at h;obtain rfl:=Bo h;exact Ar [hbb 7 (Tt (hq 0 e)),hbb 12 (KO hm),hV 13 (Am (P:=prog) (t:=34) s.a0 hcn),hV 14 (ju (P:=prog) (t:=34) (Jt s.a0 (n%64)) 1)] []
 .rw[e] at h;obtain rfl:=Bo h;exact Ar [hbb 7 (Tt (hq 1 e)),hbb 12 (KO hm),hV 13 (Am (P:=prog) (t:=34) s.a1 hcn),hV 14 (ju (P:=prog) (t:=34) (Jt s.a1 (n%64)) 1)] []
 .rw[e] at h;obtain rfl:=Bo h;exact Ar [hbb 7 (Tt (hq 2 e)),hbb 12 (KO hm),hV 13 (Am (P:=prog) (t:=34) s.a2 hcn),hV 14 (ju (P:=prog) (t:=34) (Jt s.a2 (n%64)) 1)] []
 .rw[e] at h;obtain rfl:=Bo h;exact Ar [hbb 7 (Tt (hq 3 e)),hbb 12 (KO hm),hV 13 (Am (P:=prog) (t:=34) s.a3 hcn),hV 14 (ju (P:=prog) (t:=34) (Jt s.a3 (n%64)) 1)] []
theorem Aht(s:OS):NmV gl 65 [.ptr (FSq s) 0] [] (gW s):=⟨aH,aY (aG 20 _ aH) bf,bf,(by grind [Ahs])⟩
theorem Adl(hg:Uq gg)(hn:gg.nodes.length<=14){ids r:A3}(hi:ids.length<=1000000)(h:R0 He (nmS (gW (RW gg ids)) gg.nodes)=some r)(hle:r.length=(nmS (gW (RW gg ids)) gg.nodes).length):iV prog gl 88 [.ptr (Ag gg) 0,aE aj ids] 36 r.length (r.flatMap aj):=by refine OW func88 ?_;exact EI [hf 8 (Afw (gl:=gl) hg hi),ho 11 [.ptr (Ag gg) 0,.clo (.func 65) [.ptr (FSq (RW gg ids)) 0] []] [] (Afv (gl:=gl) hn (Aht _) h hle) (kF r)] (ac.imm r)
theorem Afx{l:A3}{x:Ab}{i c:Nat}(hn:l.length<=100000):oJ prog gl 180 [.rsl i 0 l.length,.agg (aj x)] [(i,Bt l)] c (bG (l.any λy=>decide (x=y))) [] c:=
 ON aH (Jm gl (UG aa x)) (lR _) rfl λst h j y z h1 h2=>by
  match j with
  |0=>grind [AaE]
  |1=>cases h1;cases h2;exact jB (aG 20 (.agg (aj x)) aH)
  |j+2=>cases h1
def Lm(I:Gi)(p l:A3):A3:=l.foldl (λr x=>bif 0<I.lev x then bif r.any λy=>decide (x=y)then r else r++[x]else r) p
theorem Abo{I:Gi}:∀{l p:A3},(Lm I p l).length<=p.length+l.length
 |[],p=>Dl _
 |x::l,p=>by have a:Lm I p (x::l)=Lm I (bif 0<I.lev x then bif p.any λy=>decide (x=y)then p else p++[x]else p) l:=rfl;rw[a];refine JF Abo ?_;grind
theorem Afy{I:Gi}(h:Pa gl gg I){p:A3}(hp:iV prog gl 88 [.ptr (Ag gg) 0,aE aj o.Past] 36 p.length (p.flatMap aj))(hn:p.length+o.Past.length<=100000):iV prog gl 114 [.ptr (Ag gg) 0,.agg (aJ o)] 36 (Lm I p o.Past).length ((Lm I p o.Past).flatMap aj):=by
 refine OW func114 ?_;refine Un (l:=o.Past) aa (λk:Nat=>(s0 35 gl [(0,.ptr (Ag gg) 0),(5,.rsl 0 0 (Lm I p (o.Past.take k)).length),(13,aE aj o.Past),(14,iG (ah o.Past)),(15,iG (k:Int))] [(0,Bt (Lm I p (o.Past.take k)))] 1 0)) 1110122 [ho 11 [.ptr (Ag gg) 0,aE aj o.Past] [] hp (kF p)] [hc (el p),hc (ac.imm p)] (λB k x hx hz k5=>?_) (λB=>?_)
 .have hlt:=(cr hx).1;have hl:(Lm I p (o.Past.take k)).length<=100000:=by grind [Abo]
  have e:Lm I p (o.Past.take (k+1))=bif 0<I.lev x then bif(Lm I p (o.Past.take k)).any λy=>decide (x=y)then Lm I p (o.Past.take k)else Lm I p (o.Past.take k)++[x]else Lm I p (o.Past.take k):=by grind [Lm,Hp,Option.toList_some]
  rw[e] at k5;generalize Lm I p (o.Past.take k)=l at k5 hl⊢;have b:=h.lev x;cases c1:decide (0<I.lev x) with
  |false=>rw[c1] at k5;exact jw [hr 16 (CM hx),Az 17 (ac.ixZ hz),Az 18 (ac.ptZ aW hz),hf 21 b,hr 22 c1,hbb 33 (Xl (q:=k) aa)] [hc (el l),hc (ac.imm l)] k5
  |true=>
   rw[c1] at k5;have a:=Afx (gl:=gl) (l:=l) (x:=x) (i:=0) (c:=2) hl;cases c2:(l.any λy=>decide (x=y)) with
   |true=>rw[c2] at k5 a;exact jw [hr 16 (CM hx),Az 17 (ac.ixZ hz),Az 18 (ac.ptZ aW hz),hf 21 b,hr 22 c1,Go.Proofs.YtlijnaneopediaaGreatDoor.hz 26 [0] a,hbb 33 (Xl (q:=k) aa)] [hc (el l),hc (ac.imm l)] k5
   |false=>rw[c2] at k5 a;exact jw [hr 16 (CM hx),Az 17 (ac.ixZ hz),Az 18 (ac.ptZ aW hz),hf 21 b,hr 22 c1,Go.Proofs.YtlijnaneopediaaGreatDoor.hz 26 [0] a,Tn 32 ac 24 l x aa,hbb 33 (Xl (q:=k) aa)] [hc (el (l++[x])),hc (ac.imm (l++[x]))] k5
 .rw[D3];exact EI [hr 16 (DH (s:=o.Past))] (ac.imm (Lm I p o.Past))
end
abbrev haS(R:Ad)(sen:Bh):Bh:=sen.filter (PO R)
abbrev Abp(l:Bh)(d:Int):Bool:= !(l.any λy=>decide (d=y))
def Ad5(fk:Bool)(R:Ad)(o:Bj)(i:Ab)(sen:Bh):Bh:=bif fk then[]else bif Mh R o≠0 then[]else haS (Vq R o i) sen++(Ha (Vq R o i)).filter (Abp (haS (Vq R o i) sen))
theorem Ahu(gl:Cd)(R:Ad):InV gl 121 [.ptr (CB R) 0] [] (PO R):=⟨aH,aY (aG 20 (.ptr (CB R) 0) aH) bf,bf,λk r e=>by cases e;exact UK gl rfl⟩
theorem Ahv(gl:Cd){l:Bh}(hl:l.length<=1000000):InV gl 122 [] [.ptr [aE cZ l] 0] (Abp l):=⟨aH,bf,aY (aG 20 (.ptr [aE cZ l] 0) aH) bf,λk r e=>by cases e;exact UM gl (by grind [SP,UG])⟩
theorem Aco{gl:Cd}(hR:Bi R){l:Bh}(hl:l.length<=1000000){f:Nat->Nat}{c:Nat}(hnd:(XW f).Nodup):oJ prog gl 119 [aE cZ l,.clo (.func 121) [.ref (f 0) 0] []] (BG f R) c (.rsl c 0 (haS R l).length) [(c,some ⟨3,(haS R l).flatMap cZ,none⟩)] (c+1):=
 AdI aH (Adj (Ahu gl R) hl) (lZ _) rfl λst h i x y h1 h2=>by
  have hs:Rls f R st.σ:=λk ob ho=>h _ _ (by rw[Hw,LE (by grind [Acx]) (List.mem_range.2 (DY ho))];exact ho)
  match i with
  |0=>cases h1;cases h2;exact jB (aG 20 (aE cZ l) aH)
  |1=>cases h1;cases h2;refine SX rfl rfl (λj g d a b=>?_) (by grind);grind [AfH]
  |i+2=>cases h1
section
variable {gg:Aj} {I:Gi} (h:Pa fI gg I) {o:Bj} {i:Ab} {s:A3} (hS:iV prog fI 114 [.ptr (Ag gg) 0,.agg (aJ o)] 36 s.length (s.flatMap aj)) {fr:List Bf} (hF:ba prog fI 116 [.ptr (Ag gg) 0,aE aj s] (aE Bu fr)) {fk:Bool} (hK:Abd fr (λf=>JG f o)=some fk) {R:Ad} (hR:Bi R) (hRl:SH prog fI 24 [.ptr (Ag gg) 0,aE aj s] [] 0 0 (.ref 0 0) (BG f0 R)) (hi:ba prog fI 79 [.agg (aJ o)] (.agg (aj i))) (hg:o.Guards.length<=1000000) (hp:Mh R o=0->UQ o i) {sen:Bh} (hN:ba prog fI 120 [.ptr (Ag gg) 0,aE aj s] (aE cZ sen)) (hn:sen.length<=1000)
include hS hF hK hR hRl hi hg hp hN hn
theorem Afz:iV prog fI 58 [.ptr (Ag gg) 0,.agg (aJ o)] 3 (Ad5 fk R o i sen).length ((Ad5 fk R o i sen).flatMap cZ):=by
 have a:=hS.fn ac.sz (ac.len _) (ac.imm _);have b:=LV fI (fi_f:=117) (fa_f:=[]) (fc_f:=[.ptr (aJ o) 0]) ⟨aH,bf,aY (aG 20 (.ptr (aJ o) 0) aH) bf,λf r e=>UJ fI e⟩ hK;refine OW func58 ?_;unfold Ad5;cases fk with
 |true=>exact EI [hf 11 a,hf 14 hF,hq 16 [aE Bu fr,.clo (.func 117) [] [.ptr (aJ o) 0]] [] b] (rZ.imm [])
 |false=>
 rw[A7];have hM:=AcK hR (o:=o) (i:=i) hg;generalize Mh R o=mm at hM hp⊢;cases cm:decide (mm≠0) with
 |true=>exact EI [hf 11 a,hf 14 hF,hq 16 [aE Bu fr,.clo (.func 117) [] [.ptr (aJ o) 0]] [] b,hrn 19 2 [.ptr (Ag gg) 0,aE aj s] hR hRl,hf 21 hi,hrr 25 (OP 2) 16 [.agg (aJ o),.agg (aj i)] hR hM,hr 26 cm] (rZ.imm [])
 |false=>
  rw[A7];have hp:=hp (Decidable.of_not_not (Lw cm));have hD:=Agd fI hR hp;have hQ:=Sb hR hp;generalize Vq R o i=Q at hD hQ⊢;have hdl:(Ha Q).length<=1000:=by grind [List.Perm.length_eq,LX,Ho,Bi.len]
  have hv:=Md fI hQ;have hl:(haS Q sen).length<=1000:=by grind
  have d:=Adj (Ahv fI (l:=haS Q sen) aa) (l:=Ha Q) aa;have hap:aT 8 (haS Q sen) ((Ha Q).filter (Abp (haS Q sen)))=some (haS Q sen++(Ha Q).filter (Abp (haS Q sen))):=Bz (by grind);have g:=Aco (gl:=fI) hQ (l:=sen) aa (f:=f0) (c:=14) B5;refine pO 1111110 (s0 43 fI [(0,.ptr (Ag gg) 0),(3,.ptr (aJ o) 0),(5,aE aj s),(6,.ref 0 0),(7,.ref 14 0)] (BG f0 R++[(14,XX i)]) 15 0) [hf 11 a,hf 14 hF,hq 16 [aE Bu fr,.clo (.func 117) [] [.ptr (aJ o) 0]] [] b,hrn 19 2 [.ptr (Ag gg) 0,aE aj s] hR hRl,hf 21 hi,hrr 25 (OP 2) 16 [.agg (aJ o),.agg (aj i)] hR hM,hr 26 cm] (hc (eB (gs:=aJ o) aH)::rlB (GE (OP 2)++[(14,1)]) (OP 2) hR) ?_ (ρ:=GE (OP 2)++[(14,1)]) (kd:=N3);refine pO 11111110 (s0 43 fI [(0,.ptr (Ag gg) 0),(5,aE aj s),(6,.ref 0 0)] (BG f0 Q) 14 0) [hrw 30 f0 15 [.agg (aJ o),.agg (aj i)] hR hQ hD] (rlB (GE (fW f0 15)) (fW f0 15) hQ) ?_ (ρ:=GE (fW f0 15)) (kd:=N3);refine pO 111111110 (s0 43 fI [(6,.ref 0 0),(8,.ref 14 0)] (BG f0 Q++[ob 14 22 [.rsl 15 0 (haS Q sen).length],(15,Ju (haS Q sen))]) 16 0) [hf 33 hN,hz 36 (XW f0) g] (rlB (GE f0++[(14,15),(15,14)]) f0 hQ++[hc (el (haS Q sen)),hc (rZ.imm (haS Q sen))]) ?_ (ρ:=GE f0++[(14,15),(15,14)]) (kd:=N3++[(15,.row)]);exact EI [hrr 39 f0 17 [] hQ hv,ho 41 [aE cZ (Ha Q),.clo (.func 122) [] [.ptr [aE cZ (haS Q sen)] 0]] [hc (rZ.al (haS Q sen))] d (lZ _),dg 42 rZ hap] (rZ.imm _)
end
end Go.Proofs.YtlijnaneopediaaGreatDoor
