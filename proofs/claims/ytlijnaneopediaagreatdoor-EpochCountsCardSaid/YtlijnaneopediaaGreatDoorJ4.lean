/- Texts. -/
import Derived.Test.YtlijnaneopediaaGreatDoorZI
namespace Go.Proofs.YtlijnaneopediaaGreatDoor
set_option linter.unusedSectionVars false
set_option linter.unusedVariables false
set_option linter.unusedSimpArgs false
open Go.RowKit Tryz
attribute [local irreducible] Tr dz Gp
variable (gl:Cd)
variable {l:List D5}{i j k n p:Nat}{d m:Int}{x:Ab}{g:CA}{o:Bi}{y y':D5}{x':AA}{cs:Mj}{D V:List Bool}{dl:JP}{al:Bb}{s:Bk}{ids row vs:A3}{a:A3×FM Ab Bool}{b:List Bool×List Bool×Int}{R:Ad}{fi:FuncId}{fa fc:Bj}{N:IH}{gg:Aj}{I:Gi}
theorem AiX{l:Bk}{x:Int}(hp:PN l)(h1:∀i y,i<j->l[i]?=some y->y<=x)(h2:∀y,l[j]?=some y->x<=y):PN (l.take j++[x]++l.drop j):=by
 have hpj:(l.take j++l.drop j).Pairwise λa b=>a<=b:=by rw[Pp];exact hp
 rw[List.pairwise_append] at hpj;have hlt:∀a∈l.take j,a<=x:=by grind [He]
 have hgt:∀b∈l.drop j,x<=b:=λb hb=>by cases hc:l[j]? <;>grind [List.drop_eq_nil_of_le,List.drop_eq_getElem_cons,List.pairwise_cons]
 grind [PN]
theorem ZK{l:Bk}(hl:l.length<=1000000):T (lg l) λr=>r.Perm l/\PN r:=by
 unfold lg;refine .bind (T.mono (Q:=λr:Bk=>r.Perm l/\PN r) (T.forA l.length (λk acc=>acc.Perm (l.take k)/\PN acc) aa ⟨aC,.nil⟩ (λk acc hk hj=>?_) λacc hj=>?_) λx hx=> .some hx)
 .obtain⟨y,hy,hm⟩:=dk hk;have hal:acc.length=k:=by rw[hj.1.length_eq,LW];omega
  unfold pb;simp only[eA hk,ax,au,hy,aL];refine .bind (T.mono (Q:=λn:Int=>∃j:Nat,n=(j:Int)/\j<=acc.length/\(∀i z,i<j->acc[i]?=some z->z<=y)/\∀z,acc[j]?=some z->y<=z) (T.forI acc.length (λj=>∀i z,i<j->acc[i]?=some z->z<=y) aa (λi z h=>aa) (λj hjl hq=>?_) λhq=>?_) λn hn=>?_)
  .obtain⟨z,hz,a⟩:=dk hjl;unfold pa;simp only[eA hjl,ax,au,hz,hy,aL];refine .dec (λhc=> .some ⟨aq aa,λi b hi hz'=>?_⟩) λhc=> .some ⟨j,rfl,aa,hq,λb hz'=>?_⟩;all_goals grind
  .unfold pa;dsimp only;rw[eF,AQ,aL,AQ];refine .some ⟨acc.length,rfl,Dx _,hq,λz hz=>?_⟩;grind
  .obtain⟨j,rfl,hjl,q1,c⟩:=hn;refine .bind (.pre aa aa (.bind (.app cq (.bind (.app cq (.bind (.suf aa aa (.bind (.app cq (.some ⟨aq aa,?_⟩))))))))));rw[Nk,E0];constructor<;>grind [AiX,Rb,Cy]
 .unfold pb;dsimp only;rw[eF,AQ];rw[DZ] at hj;exact .some hj
theorem U2{a b:Bk}(hp:a.Perm b)(h1:PN a)(h2:PN b):a=b:=List.Perm.eq_of_pairwise (le:=λa b=>a<=b) (by grind) h1 h2 hp
theorem ZL{α β γ:Type}{f:α->β}{g:α->γ}:∀{l:List α},(l.map g).Nodup->(∀x∈l,∀y∈l,f x=f y->g x=g y)->(l.map f).Nodup
 |[],_,_=> .nil
 |a::r,hd,h=>by rw[Fa,LE] at hd⊢;refine⟨λhm=>?_,ZL hd.2 (by grind)⟩;grind
section
variable {R:Ad} {D:C7}
abbrev atV(V:List Hb)(i:Ab)(d:Int):Bk:=(V.filter λv=>decide (v.Of=i)&&decide (v.Device=d)).map (·.At)
theorem AkT(h:Rr R D)(hR:Bh R){x:AA}(hx:R.members.get m=some x)(hg:x.guard=some g)(d:Int):(atV D.V g.id d).Perm (dvE d g.vouches.es):=by
 have hv:=hR.cv _ _ g hx hg;have hp:((D.V.filter λv=>decide (v.Of=g.id)&&decide (v.Device=d)).map λv=>(v.By,v.At)).Perm ((g.vouches.es.filter λe=>decide (e.1.device=d)).map λe=>(e.1.by_,e.2.1)):=by
  refine(List.perm_ext_iff_of_nodup ?_ ?_).2 λ⟨b,a⟩=>?_
  .refine ZL (g:=λv:Hb=>(v.Of,v.By,v.Device)) (h.vnd.sublist (List.filter_sublist.map _)) λp hp q hq e=>?_;grind
  .refine ZL (g:=λe:C4×Int×Nat=>e.1) (hv.kd.sublist (List.filter_sublist.map _)) λp hp q hq e=>?_;rw[GV] at hp hq;have h1:=DS hp.2;have h2:=DS hq.2;simp only[Fu] at e;cases hp1:p.1;cases i:q.1;grind
  .have hb:=h.vou m x g hx hg b d a;constructor
   .intro hm;obtain⟨v,hv1,hv2⟩:=Fl.1 hm;rw[GV] at hv1;have h1:v.Of=g.id/\v.Device=d:=by simpa using hv1.2
    simp only[Fu] at hv2;obtain⟨n,hn⟩:=GL (hb.2 ⟨v,hv1.1,h1.1,hv2.1,h1.2,hv2.2⟩);exact Fl.2 ⟨_,GV.2 ⟨hn,CM rfl⟩,rfl⟩
   .intro hm;obtain⟨e,c,f⟩:=Fl.1 hm;rw[GV] at c;have h1:=DS c.2;simp only[Fu] at f;have hge:=JH hv (k:=e.1) (v:=e.2.1) (n:=e.2.2) c.1;have hk:e.1=⟨b,d⟩:=by cases hq:e.1;grind
    rw[hk,f.2] at hge;obtain⟨v,k1,k2,k3,j,k5⟩:=hb.1 hge;grind
 have:=hp.map Prod.snd;rw[It,It] at this;exact this
theorem atT(z:Sz D)(d:Int)(y:D5):AH (Qh D d y) ([],0)=some (atV D.V y.ID d):=by
 have:=z.v;refine T.eq (T.forA D.V.length (λk acc=>acc=atV (D.V.take k) y.ID d) aa (by simp[atV]) (λk acc hk hj=>?_) λacc hj=>?_)
 .obtain⟨v,hv,_⟩:=dk hk;have hal:acc.length<=k:=by grind
  have e:atV (D.V.take (k+1)) y.ID d=acc++(if v.Of=y.ID/\v.Device=d then[v.At] else[]):=by unfold atV;rw[Rb hv,Nj,List.map_append];grind
  unfold Qh;simp only[eA hk,ax,au,hv,aL];by_cases c1:v.Of=y.ID
  .by_cases c2:v.Device=d
   .simp only[c1,c2,decide_true,ax,aL];rw[Bz ⟨c1,c2⟩] at e;exact .bind (.app cq (.some ⟨aq aa,e.symm⟩))
   .simp only[c1,c2,decide_true,decide_false,ax,AQ,aL];rw[BU λc=>c2 c.2,Md] at e;exact .some ⟨aq aa,e.symm⟩
  .simp only[c1,decide_false,AQ,aL];rw[BU λc=>c1 c.1,Md] at e;exact .some ⟨aq aa,e.symm⟩
 .unfold Qh;dsimp only;rw[eF,AQ];refine .some (show acc=_ from ?_);rw[hj,DZ]
theorem AmB(z:Sz D)(h:Rr R D)(hR:Bh R)(m d:Int):Ff D m d=some (X8 R m d):=by
 unfold Ff;refine T.eq (.bind ((XN z h m).mono λv hv=>?_));unfold X8;cases hx:R.members.get m with
 |none=>grind [T.some]
 |some x=>
  rw[hx] at hv;obtain⟨k,y,rfl,hy,_,hm⟩:=hv;rw[show decide ((k:Int)<0)=false from C5 aa,AQ,au,hy,aL];dsimp only;cases hg:x.guard with
  |none=>grind [Mr.no,T.some]
  |some g=>
   have h1:=hm.gd g hg;have hv:=hR.cv _ _ g hx hg;have hb:=hR.vb _ _ g hx hg;have hn:=hR.gN _ _ g hx hg;have h6:=Aav hv.kd hb (List.Pairwise.of_map (λx=>x.1) (by grind) hv.kd) (λe he=>he) d;obtain⟨srt,e1,a,s1⟩:=AbC (l:=dvE d g.vouches.es) aa;have hda:AcF g d=srt:=by unfold AcF;rw[e1];rfl
   have hp:=AkT h hR hx hg d;rw[h1.1,atT z d y,aL];simp only[Bool.not_true,AQ];rw[hda,h1.2.1];refine .bind ((ZK (by rw[hp.length_eq];omega)).mono λv hv=>?_);obtain rfl:v=srt:=U2 (hv.1.trans (hp.trans a.symm)) hv.2 s1;rw[h1.2.2.2.1,h1.2.2.2.2.1,h1.2.2.2.2.2.1,h1.2.2.2.2.2.2];refine .dec (by grind [T.some]) λhc=>?_;rw[C5 hc,AQ];have hc2:g.need<=(v.length:Int):=by unfold ah at hc;omega
   have hz0:aS v 0=some (v.getD 0 0):=by grind [au]
   have hz1:aS v (wI (g.need-1))=some (v.getD (g.need.toNat-1) 0):=by grind [bM,au]
   grind [T.some]
theorem Aey(z:Sz D)(h:Rr R D)(o:Bi)(m:Int):o9 D o m (decide (MI R m=3))=some (Aef R o m):=by
 unfold o9 Aef Je;rw[inE z h,ofE z,h.card,aL,aL];cases decide (o.Device≠0) with
 |true=>grind
 |false=>refine T.eq (.bind ((XN z h o.Member).mono λv hv=>?_));grind [T.some]
theorem AmC(z:Sz D)(h:Rr R D)(hR:Bh R)(hk:o.Kind=11):mB D o=some (Aeg R o):=by
 unfold mB Aeg;refine T.eq (.bind ((ZJ z h hR o).mono λv hv=>?_));rw[hv.1];cases c0:decide ((Dd R o).2≠0) with
 |true=>exact .some rfl
 |false=>
  have c1:(Dd R o).2=0:=by simpa using c0
  obtain⟨k,y,x,g,hv1,hy,a,hx,hm,hgd,hid⟩:=hv.2 c1;rw[AQ,hv1,au,hy,aL,ofE z,ZI z h,h.card,a,hk];grind [T.some]
theorem AmD(z:Sz D)(h:Rr R D)(hR:Bh R)(hk:o.Kind=13):mB D o=some (Aeh R o):=by
 unfold mB Aeh AjV;refine T.eq (.bind ((ZJ z h hR o).mono λv hv=>?_));rw[hv.1];cases c0:decide ((Dd R o).2≠0) with
 |true=>exact .some rfl
 |false=>
  have c1:(Dd R o).2=0:=by simpa using c0
  obtain⟨k,y,x,g,hv1,hy,a,hx,hm,hgd,hid⟩:=hv.2 c1;rw[AQ,hv1,au,hy,aL,ofE z,ofE z,ZI z h,inE z h,h.card,h.card,a,hk,AmB z h hR];simp only[Int.reduceEq,decide_true,decide_false,ax,AQ,aL];generalize X8 R (Dd R o).1 o.Device=q;cases O4 R o.Old with
  |false=>exact .some rfl
  |true=>simp only[Bool.not_true,AQ,ax];cases decide (XM D.Cards o.Old≠(Dd R o).1)<;>grind [T.some]
theorem AiY(z:Sz D)(h:Rr R D)(hR:Bh R)(hgl:o.Guards.length<=1000000)(i:Ab):AX D o i=some (K4 R o):=by
 have e:=z.dev;unfold AX;rw[ofE z,aL,<-h.card];unfold K4;by_cases k1:o.Kind=1
 .grind [Rr.w0,ah]
 rw[BU k1,C5 k1,AQ,inE z h,aL];cases O4 R o.By with
 |false=>rfl
 |true=>
 rw[Bool.not_true,AQ,ax,Aim z h,aL];unfold AcG;by_cases k2:o.Kind=2
 .grind [ZI,ofE,Aga,Je,Rr.card]
 rw[BU k2,C5 k2,AQ];by_cases k3:o.Kind=3
 .grind [Aey]
 rw[BU k3,C5 k3,AQ];by_cases k5:o.Kind=5
 .rw[Bz k5,CM k5,ax];unfold Agb Je;cases decide (MI R (Dl R o.By)=3) with
  |false=>rfl
  |true=>simp only[Bool.not_true,AQ,ax];refine T.eq (.bind ((XN z h o.Member).mono λv hv=>?_));grind [T.some]
 rw[BU k5,C5 k5,AQ];by_cases k6:o.Kind=6
 .grind [Agc]
 rw[BU k6,C5 k6,AQ];by_cases k8:o.Kind=8
 .grind [ofE,Agd,Je,Rr.card]
 rw[BU k8,C5 k8,AQ];by_cases k9:o.Kind=9
 .rw[Bz k9,CM k9,ax];unfold Agf;refine T.eq (.bind ((T.search o.Guards (λx=> !O4 R x) (λk _=>(17:Int)) aa (λk x hx hk=>?_) ?_).mono ?_))
  .grind [Tz,eA,au,inE,aq]
  .unfold Tz;rw[eF,AQ]
  .rintro r (⟨rfl,hn⟩|⟨k,x,hx,hp,rfl,hn⟩)
   .refine .some ?_;grind
   .refine .some ?_;grind
 rw[BU k9,C5 k9,AQ];have hO:T ((dS D (Dl R o.By)).bind λa=>bif a<0 then(some 25)else(((aS D.L a).bind λb=>bif(!b.Is)then(some true)else((aS D.L a).bind λc=>some (!decide (c.ID=o.Of)))).bind λd=>bif d then(some 25)else(some 0))) λw=>w=AbG R o (Dl R o.By):=by
  refine .bind ((XN z h (Dl R o.By)).mono λv hv=>?_);unfold AbG;cases hx:R.members.get (Dl R o.By) with
  |none=>grind [T.some]
  |some x=>rw[hx] at hv;grind [au,Mr.no,T.some,Mr.gd]
 grind [T.eq,AmC,AmD]
end
theorem AmE{K V:Type}[DecidableEq K]{m:FM K V}{k:K}{p:V}:(C6 m k p).es.length=if(m.get k).isSome then m.es.length else m.es.length+1:=by
 unfold C6;cases hk:bu k (m.es.map (·.1)) with
 |none=>rw[S7 hk];simp
 |some j=>obtain⟨e,_,_,h⟩:=MJ hk;rw[h];simp
structure Sy (D:C7):Prop where
 c:D.Cards.length<=1000
 dev:D.In.length+D.Gone.length<=2000
 l:D.L.length<=2000
 v:D.V.length<=2000
structure Gw (D D':C7):Prop where
 c:D'.Cards=D.Cards
 dev:D'.In.length+D'.Gone.length<=D.In.length+D.Gone.length+1
 l:D'.L.length<=D.L.length+1
 v:D'.V=D.V
theorem Gw.rfl'{D:C7}:Gw D D:=by grind [Gw]
theorem Sy.z{D:C7}(h:Sy D):Sz D:=by grind [Sy,Sz]
section
variable {R:Ad} {D:C7}
theorem AkU(h:Rr R D)(h1:d∉D.In)(h2:d∉D.Gone):Rr {R with in_:=C6 R.in_ d true,was:=C6 R.was d true} {D with In:=D.In++[d]} where
 card:=h.card
 nd:=by show(D.In++[d]++D.Gone).Nodup;rw[List.append_assoc,List.singleton_append,List.perm_middle.nodup_iff,LE];grind [Rr.nd]
 in_ e:=by grind [BA,Rr.in_]
 was e:=by grind [BA,Rr.was]
 w0:=by grind [Rr.was,AmE,Rr.w0]
 ln:=h.ln
 no:=h.no
 mem:=h.mem
 vou:=h.vou
 vof:=h.vof
 vnd:=h.vnd
 back:=h.back
theorem AiZ(h:Rr R D){m role:Int}(hm:R.members.get m=none):Rr {R with members:=C6 R.members m ⟨role,none⟩} {D with L:=D.L++[⟨m,role,false,⟨0,0,0⟩,[],0,0,false,0⟩]} where
 card:=h.card
 nd:=h.nd
 in_:=h.in_
 was:=h.was
 w0:=h.w0
 ln:=by show((D.L++[(⟨m,role,false,⟨0,0,0⟩,[],0,0,false,0⟩:D5)]).map (·.N)).Nodup;rw[List.map_append,Fa,List.map_nil,List.perm_append_comm.nodup_iff,List.singleton_append,LE];grind [Rr.ln,Rr.no]
 no k hk y hy:=by grind [BA,Rr.no]
 mem k x hk:=by
  have hk:(C6 R.members m ⟨role,none⟩).get k=some x:=hk;rw[BA] at hk;split at hk
  .rename_i e;cases hk;exact⟨_,Jo.2 (.inr (List.mem_singleton.2 rfl)),e.symm,rfl,λ_=>rfl,λg hg=>by cases hg⟩
  grind [Rr.mem]
 vou k x g hk hg:=by grind [BA,Rr.vou]
 vof v hv:=by obtain⟨k,x,g,hk,hg,e⟩:=h.vof v hv;refine⟨k,x,g,?_,hg,e⟩;grind [BA]
 vnd:=h.vnd
 back:=h.back
theorem Ab0(z:Sy D)(h:Rr R D)(hR:Bh R)(d role:Int):T (nX D d role) λD'=>Rr (Jd R d role) D'/\Gw D D':=by
 have a:=z.dev;have b:=z.l;unfold nX Jd;rw[ZI z.z h,aL];cases hf:D3 R d with
 |false=>exact .some ⟨h,.rfl'⟩
 |true=>
  rw[Bool.not_true,AQ,ax];have hw:R.was.get d=none:=by grind [Rr.was,D3,Hf]
  have hnd:d∉D.In/\d∉D.Gone:=by grind [Rr.was]
  refine .bind (.app cq (.bind (.app cq ?_)));rw[Nk];have h':=AkU h hnd.1 hnd.2;rw[show gE {D with In:=D.In++[d]} d=gE D d from rfl,ofE z.z,aL,<-h.card];rw[show dS {D with In:=D.In++[d]} (Dl R d)=dS D (Dl R d) from rfl];refine .bind ((XN z.z h (Dl R d)).mono λv hv=>?_);cases hx:R.members.get (Dl R d) with
  |none=>rw[hx] at hv;subst hv;rw[show decide ((-1:Int)<0)=true from rfl,ax];refine .bind (.bind (.app cq (.bind (.app cq (.some ?_)))));rw[Nk];exact .some ⟨AiZ (role:=role) h' hx,rfl,by simp;omega,aC,rfl⟩
  |some x=>rw[hx] at hv;obtain⟨k,y,rfl,_⟩:=hv;rw[show decide ((k:Int)<0)=false from C5 aa,AQ];exact .some ⟨h',rfl,by simp;omega,aC,rfl⟩
theorem Aez(h:Rr R D)(hy:D.L[k]?=some y)(hn:y.N=m)(hn':y'.N=m):((D.L.set k y').map (·.N)).Nodup:=by grind [List.map_set,Rr.ln]
theorem AeA(h:Rr R D)(hn':y'.N=m)(q:Int)(hq:(C6 R.members m x').get q=none)(z:D5)(hz:z∈D.L.set k y'):z.N≠q:=by grind [BA,Rr.no]
theorem ZM(h:Rr R D)(hy:D.L[k]?=some y)(hn:y.N=m)(hn':y'.N=m)(hM:Mr x' y')(q:Int)(z:AA)(hq:(C6 R.members m x').get q=some z):∃y∈D.L.set k y',y.N=q/\Mr z y:=by
 rw[BA] at hq;split at hq
 .rename_i e;cases hq;exact⟨y',bO (i:=k) (by grind),hn'.trans e.symm,hM⟩
 .rename_i hne;obtain⟨w,hw,a,b⟩:=h.mem q z hq;obtain⟨j,hj⟩:=He hw;have hkj:¬k=j:=by grind
  exact⟨w,bO (i:=j) (by grind),a,b⟩
theorem AeB(h:Rr R D){x:AA}(hx:R.members.get m=some x)(hy:D.L[k]?=some y)(hn:y.N=m)(hn':y'.N=m)(hM:Mr x' y')(h1:∀a,x'.guard=some a->∃g,x.guard=some g/\a.id=g.id/\a.vouches=g.vouches)(h2:∀g,x.guard=some g->∃a,x'.guard=some a/\a.id=g.id):Rr (HE R m x') {D with L:=D.L.set k y'} where
 card:=h.card
 nd:=h.nd
 in_:=h.in_
 was:=h.was
 w0:=h.w0
 ln:=Aez h hy hn hn'
 no q hq z hz:=AeA h hn' q hq z hz
 mem q z hq:=ZM h hy hn hn' hM q z hq
 vou q z a hq hg':=by grind [BA,Rr.vou]
 vof v hv:=by
  obtain⟨q,z,g,hq,hg,e⟩:=h.vof v hv;by_cases c:q=m
  .subst c;rw[hx] at hq;cases hq;obtain⟨a,e1,e2⟩:=h2 g hg;exact⟨q,x',a,by grind [BA],e1,e.trans e2.symm⟩
  .exact⟨q,z,g,by grind [BA],hg,e⟩
 vnd:=h.vnd
 back:=h.back
theorem AkV(z:Sy D)(h:Rr R D)(o:Bi):T ((dS D o.Member).bind λa=>bif 0<=a then((aS D.L a).bind λb=>(o6 D.L a ({b with Role:=o.Role})).bind λc=>some ({D with L:=c}))else(some D)) (Rr (Uv R o)):=by
 have d:=z.l;refine .bind ((XN z.z h o.Member).mono λv hv=>?_);unfold Uv;cases hx:R.members.get o.Member with
 |none=>grind [T.some]
 |some x=>rw[hx] at hv;obtain⟨k,y,rfl,hy,hn,hM⟩:=hv;have hk:=(cr hy).1;rw[show decide ((0:Int)<=(k:Int))=true from CM aa,ax,au,hy,aL];unfold o6;refine .bind (.bind (.app cq (.bind (.set aa cq (.some (.some ?_))))));rw[Nk,E0];grind [AeB,Mr]
abbrev inF(l:Bk)(d:Int):Bk:=l.filter λx=>decide (x≠d)
abbrev lF(l:List D5)(m:Int):List D5:=l.filter λy=>decide (y.N≠m)
def ZN(l:List D5)(i:Ab):Bool:=l.any λy=>y.Is&&decide (y.ID=i)
theorem Po{i:Ab}:ZN l i=true↔∃y∈l,y.Is=true/\y.ID=i:=by grind [ZN]
theorem AkW(z:Sz D)(i:Ab):T (jN D i) λv=>decide (0<=v)=ZN D.L i:=by grind [T.mono,AkR,Po]
theorem ZO:∀{l:Bk} {d:Int},l.Nodup->d∈l->(inF l d).length+1=l.length
 |[],d,_,h=>by cases h
 |x::r,d,hn,h=>by
  rw[LE] at hn;by_cases e:x=d
  .grind [List.filter_eq_self]
  .have:=ZO hn.2 ((EH.1 h).resolve_left λc=>e c.symm);grind
theorem Ai0(h:Rr R D)(hR:Bh R)(hd:d∈D.In):Rr (I5 R d) {D with In:=inF D.In d,Gone:=D.Gone++[d]} where
 card:=h.card
 nd:=by show(inF D.In d++(D.Gone++[d])).Nodup;have h1:=List.nodup_append.1 h.nd;grind
 in_ e:=by grind [NP,Bh.ci,Rr.in_]
 was e:=by grind [Rr.was]
 w0:=by grind [ZO,Rr.nd,Rr.w0]
 ln:=h.ln
 no:=h.no
 mem:=h.mem
 vou:=h.vou
 vof:=h.vof
 vnd:=h.vnd
 back:=h.back
theorem Ai1(h:Rr R D)(hR:Bh R)(m:Int):Rr (Sh R m) {D with L:=lF D.L m,V:=D.V.filter λv=>ZN (lF D.L m) v.Of}:=by
 have hg:∀k,(Sh R m).members.get k=if k=m then none else R.members.get k:=λk=>NP hR.cm k
 have hmem:∀y,y∈lF D.L m↔y∈D.L/\y.N≠m:=by grind
 constructor<;>try grind [Rr.nd,Rr.in_,Rr.was,Rr.w0,Rr.ln,Rr.of,Rr.vnd,Rr.back]
 .exact h.card
 .exact(by grind [Rr.mem])
 .exact λk x g hk hgd b d a=>by
   rw[hg] at hk;split at hk
   .cases hk
   .rename_i hne;rw[h.vou k x g hk hgd b d a];obtain⟨y,hy,hn,hm⟩:=h.mem k x hk;have h1:=hm.gd g hgd;have hown:ZN (lF D.L m) g.id=true:=by grind [Po]
    constructor
    .rintro⟨v,hv,e1,e2⟩;exact⟨v,(by grind),e1,e2⟩
    .rintro⟨v,hv,e⟩;exact⟨v,(GV.1 hv).1,e⟩
 .exact λv hv=>by obtain⟨y,hy,h1,h2⟩:=Po.1 (GV.1 hv).2;have c:=(hmem y).1 hy;obtain⟨x,hx,hm⟩:=h.of c.1;cases hgd:x.guard<;>grind [Mr.no,Mr.gd]
theorem AkX(z:Sy D)(d f:Int):T (AH (uj D d f) ([],false,0)) λx=>x=(inF D.In d,(inF D.In d).any λx=>decide (XM D.Cards x=f)):=by
 have hd:=z.dev;refine T.loop (λs=>∃k:Nat,k<=D.In.length/\s.2.2=(k:Int)/\s.1=inF (D.In.take k) d/\s.2.1=(inF (D.In.take k) d).any λx=>decide (XM D.Cards x=f)) (λs=>D.In.length-s.2.2.toNat) (by grind) cq ?_;rintro⟨a,b,i⟩ ⟨k,hk,rfl,ha,hb⟩;dsimp only at ha hb;subst ha;unfold uj;dsimp only;rcases HU k D.In.length with hlt|hge
 .obtain⟨x,hx,_⟩:=dk hlt;have hla:(inF (D.In.take k) d).length<=k:=by grind
  simp only[eA hlt,ax,au,hx,aL,ofE z.z];have ew:=aq (show k<2305843009213693952 by omega);have e:inF (D.In.take (k+1)) d=inF (D.In.take k) d++(if x≠d then[x] else[]):=by unfold inF;rw[Rb hx,Nj];by_cases c:x=d<;>simp[c]
  refine .dec (λhc=>?_) λhc=>?_
  .rw[Bz hc] at e;refine .bind (.app cq (.bind (x:=bif b then some true else some (decide (XM D.Cards x=f))) (T.mono (Q:=λq=>q=(b||decide (XM D.Cards x=f))) (by cases b<;>exact .some rfl) λq hq=> .some ⟨⟨k+1,aa,ew,e.symm,?_⟩,?_⟩)));all_goals grind
  .rw[BU hc,Md] at e;refine .some ⟨(by grind),?_⟩;rw[ew];simp;omega
 .obtain rfl:k=D.In.length:=aa;rw[eF,AQ];refine .some (show(_,_)=_ from ?_);rw[hb,DZ]
theorem AkY(z:Sy D)(m:Int):T (AH (ui D m) ([],[],0)) λx=>x=(lF D.L m,[]):=by
 have hd:=z.l;refine T.loop (λs=>∃k:Nat,k<=D.L.length/\s.2.2=(k:Int)/\s.1=lF (D.L.take k) m/\s.2.1=[]) (λs=>D.L.length-s.2.2.toNat) (by grind) cq ?_;rintro⟨a,b,i⟩ ⟨k,hk,rfl,ha,hb⟩;dsimp only at ha hb;subst ha;subst hb;unfold ui;dsimp only;rcases HU k D.L.length with hlt|hge
 .obtain⟨x,hx,_⟩:=dk hlt;have hla:(lF (D.L.take k) m).length<=k:=by grind
  simp only[eA hlt,ax,au,hx,aL];have ew:=aq (show k<2305843009213693952 by omega);have e:lF (D.L.take (k+1)) m=lF (D.L.take k) m++(if x.N≠m then[x] else[]):=by unfold lF;rw[Rb hx,Nj];grind
  refine .dec (λhc=>?_) λhc=>?_
  .rw[Bz hc] at e;refine .bind (.app cq (.some ⟨(by grind),?_⟩));rw[ew];simp;omega
  .rw[BU hc,Md] at e;refine .some ⟨(by grind),?_⟩;rw[ew];simp;omega
 .obtain rfl:k=D.L.length:=aa;rw[eF,AQ];refine .some (show(_,_)=_ from ?_);rw[DZ]
theorem AkZ{step:List Hb×Int->Option ((List Hb×Int)⊕List Hb)}{V:List Hb}{p:Hb->Bool}(hn:V.length<=2000)(hs:∀(k:Nat) (v:Hb) (acc:List Hb),V[k]?=some v->acc.length<=2000->T (step (acc,(k:Int))) λq=>q= .inl (if p v then acc++[v]else acc,wI ((k:Int)+1)))(he:∀acc,step (acc,(V.length:Int))=some (.inr acc)):T (AH step ([],0)) λx=>x=V.filter p:=by
 refine T.forA V.length (λk acc=>acc=(V.take k).filter p) aa aC (λk acc hk hj=>?_) λacc hj=>?_
 .obtain⟨v,hv,_⟩:=dk hk;have hal:acc.length<=k:=by grind
  refine(hs k v acc hv aa).mono λq hq=>?_;subst hq;refine⟨aq aa,?_⟩;dsimp only;rw[Rb hv,Nj,<-hj];cases hp:p v<;>simp[hp]
 .rw[he];refine .some (show acc=_ from ?_);rw[hj,DZ]
theorem Ain(z:Sy D)(h:Rr R D)(hR:Bh R)(d:Int):T (sh D d) λD'=>Rr (G9 R d) D'/\Sy D':=by
 have f:=z.dev;have b:=z.l;have a:=z.v;have z4:=z.c;unfold sh G9;rw[inE z.z h,aL];cases hi:O4 R d with
 |false=>exact .some ⟨h,z⟩
 |true=>
  have hd:d∈D.In:=by grind [Rr.ins]
  rw[Bool.not_true,AQ,ax,ofE z.z,aL,<-h.card];refine .bind ((AkX z d (Dl R d)).mono λx hx=>?_);subst hx;have ho:=Ai0 h hR hd;have hlen:=ZO (List.nodup_append.1 h.nd).1 hd;have hst:LS (I5 R d) (Dl R d)=(inF D.In d).any λx=>decide (XM D.Cards x=Dl R d):=by
   unfold LS;rw[Bool.eq_iff_iff,List.any_eq_true,List.any_eq_true];constructor
   .rintro⟨e,he,hc⟩;have hg:=JH (UT hR.ci) (k:=e.1) (v:=e.2.1) (n:=e.2.2) he;have hge:=ho.in_ e.1;grind [Rr]
   .rintro⟨x,hx,hc⟩;have hge:=ho.in_ x;rw[Bz hx] at hge;obtain⟨n,hn⟩:=GL hge;grind [Rr]
  refine .bind (.app cq (.bind (.app cq ?_)));rw[Nk];dsimp only;rw[hst];cases hb:(inF D.In d).any λx=>decide (XM D.Cards x=Dl R d) with
  |true=>grind [Sy,T.some]
  |false=>
   rw[AQ,AQ];refine .bind ((AkY z (Dl R d)).mono λx hx=>?_);subst hx;have hlf:(lF D.L (Dl R d)).length<=2000:=LV (M0 _ _) b;have hif:(inF D.In d).length<=D.In.length:=M0 _ _;refine .bind ((AkZ (p:=λv=>ZN (lF D.L (Dl R d)) v.Of) a (λk v acc hv hal=>?_) λacc=>?_).mono λx hx=>?_)
   .have hk:=(cr hv).1;unfold uh;simp only[eA hk,ax,au,hv,aL];grind [T.bind,T.mono,AkW,Sz,T.app,T.some]
   .grind [uh,eF]
   .subst hx;exact .some ⟨Ai1 ho (Aaj hR d) (Dl R d),z4,by simp;omega,hlf,LV (M0 _ _) a⟩
end
structure Rq (Q Q':Ad):Prop where
 c:∀d,Dl Q' d=Dl Q d
 i:∀d,Q'.in_.get d=Q.in_.get d
 w:∀d,Q'.was.get d=Q.was.get d
 n:Q'.was.es.length=Q.was.es.length
 m:∀k,Q'.members.get k=Q.members.get k
 b:Q'.back=Q.back
theorem Rq.rr{Q Q':Ad}{D:C7}(q:Rq Q Q')(h:Rr Q D):Rr Q' D where
 card d:=(q.c d).trans (h.card d)
 nd:=h.nd
 in_ d:=(q.i d).trans (h.in_ d)
 was d:=(q.w d).trans (h.was d)
 w0:=q.n.trans h.w0
 ln:=h.ln
 no m hm:=h.no m ((q.m m).symm.trans hm)
 mem m x hm:=h.mem m x ((q.m m).symm.trans hm)
 vou m x g hm hg:=by grind [Rr,m]
 vof v hv:=by grind [Rr.vof,m]
 vnd:=h.vnd
 back:=q.b.trans h.back
structure Go (R Q:Ad) (m:Int) (p:Bk):Prop where
 c:∀d,Dl Q d=Dl R d
 w:Q.was=R.was
 b:Q.back=R.back
 i:∀e,Q.in_.get e=if e∈p then none else R.in_.get e
 m1:p=[]\/(∃e v,Q.in_.get e=some v/\Dl R e=m)->∀k,Q.members.get k=R.members.get k
 m2:p≠[]->(∀e v,Q.in_.get e=some v->Dl R e≠m)->∀k,Q.members.get k=if k=m then none else R.members.get k
theorem Go.step{R Q:Ad}{m:Int}{p:Bk}{d:Int}(h:Go R Q m p)(hQ:Bh Q)(hp:d∉p)(hi:R.in_.get d=some true)(hm:Dl R d=m):Go R (G9 Q d) m (p++[d]):=by
 have hq:Q.in_.get d=some true:=by rw[h.i,BU hp,hi]
 have hin:O4 Q d=true:=by unfold O4;rw[hq];rfl
 have ho:∀e,(I5 Q d).in_.get e=if e∈p++[d]then none else R.in_.get e:=by grind [NP,Bh.ci,i]
 have hst:LS (I5 Q d) (Dl Q d)=true↔∃e v,(I5 Q d).in_.get e=some v/\Dl R e=m:=by
  unfold LS;rw[List.any_eq_true,h.c,hm];constructor
  .rintro⟨e,he,hc⟩;exact⟨e.1,e.2.1,(by grind [JH,UT,Bh.ci]),(h.c e.1).symm.trans (DS hc)⟩
  .rintro⟨e,v,hg,hc⟩;obtain⟨n,hn⟩:=GL hg;exact⟨_,hn,CM ((h.c e).trans hc)⟩
 have a:=h.m1 (.inr ⟨d,true,hq,hm⟩);unfold G9;rw[hin,ax];cases hs:LS (I5 Q d) (Dl Q d) with
 |true=>have hx:=hst.1 hs;exact⟨h.c,h.w,h.b,ho,λ_=>a,(by grind)⟩
 |false=>
  have hx:¬∃e v,(I5 Q d).in_.get e=some v/\Dl R e=m:=by grind
  refine⟨h.c,h.w,h.b,ho,λc=>?_,λ_ _ k=>?_⟩;all_goals grind [NP,Bh.cm,c]
theorem Go.fold{R:Ad}{m:Int}:∀{l p:Bk} {Q:Ad},Go R Q m p->Bh Q->(p++l).Nodup->(∀d∈l,R.in_.get d=some true/\Dl R d=m)->Go R (l.foldl G9 Q) m (p++l)
 |[],p,Q,h,_,_,_=>by rw[Md];exact h
 |d::r,p,Q,h,hQ,hn,hl=>by
  have hp:d∉p:=by grind
  have h1:=h.step hQ hp (hl d aC).1 (hl d aC).2;have:=Go.fold (l:=r) h1 (KE hQ d) (by rw[List.append_assoc];exact hn) (by grind);rw[List.append_assoc] at this;exact this
theorem TB{R:Ad}{m:Int}:∀{l:Bk} {Q:Ad},(∀d,Dl Q d=Dl R d)->l.foldl (S8 m) Q=(l.filter λd=>decide (Dl R d=m)).foldl G9 Q
 |[],Q,_=>rfl
 |d::r,Q,h=>by
  have hc:∀e,Dl (G9 Q d) e=Dl R e:=by grind [G9,Dl]
  have e:S8 m Q d=bif Dl R d=m then G9 Q d else Q:=by unfold S8;rw[h d]
  rw[List.foldl_cons,e];by_cases c:Dl R d=m
  .rw[CM c,ax,List.filter_cons_of_pos (p:=λd=>decide (Dl R d=m)) (CM c),List.foldl_cons];exact TB hc
  .rw[C5 c,AQ,List.filter_cons_of_neg (p:=λd=>decide (Dl R d=m)) (by simpa using c)];exact TB h
section
variable {R:Ad} {D:C7}
theorem Aio(l:Bk)(hl:l.length<=2000)(z:Sy D)(h:Rr R D)(hR:Bh R):T (AH (AT l) (D,0)) λD'=>Rr (l.foldl G9 R) D'/\Sy D':=by
 refine(T.forA l.length (λk D'=>Rr ((l.take k).foldl G9 R) D'/\Bh ((l.take k).foldl G9 R)/\Sy D') aa ⟨h,hR,z⟩ (λk D' hk hj=>?_) λD' hj=>?_)
 .obtain⟨x,hx,_⟩:=dk hk;unfold AT;simp only[eA hk,ax,au,hx,aL];refine .bind ((Ain hj.2.2 hj.1 hj.2.1 x).mono λa h2=> .some ⟨aq aa,?_⟩);rw[Rb hx,LX];grind [KE]
 .unfold AT;dsimp only;rw[eF,AQ];rw[DZ] at hj;exact .some ⟨hj.1,hj.2.2⟩
theorem AmF(z:Sy D)(o:Bi){st:Bk×Int->Option ((Bk×Int)⊕Bk)}(hst:st=Pj D o):AH st ([],0)=some (D.In.filter λx=>decide (XM D.Cards x=o.Member)):=by
 have a:=z.dev;subst hst;refine T.eq (T.forA D.In.length (λk acc=>acc=(D.In.take k).filter λx=>decide (XM D.Cards x=o.Member)) aa aC (λk acc hk hj=>?_) λacc hj=>?_)
 .obtain⟨x,hx,_⟩:=dk hk;have hal:acc.length<=k:=by grind
  unfold Pj;simp only[eA hk,ax,au,hx,aL,ofE z.z];have e:(D.In.take (k+1)).filter (λx=>decide (XM D.Cards x=o.Member))=acc++(if XM D.Cards x=o.Member then[x] else[]):=by rw[Rb hx,Nj,<-hj];grind
  refine .dec (λhc=>?_) λhc=>?_
  .rw[Bz hc] at e;exact .bind (.app cq (.some ⟨aq aa,e.symm⟩))
  .rw[BU hc,Md] at e;exact .some ⟨aq aa,e.symm⟩
 .unfold Pj;dsimp only;rw[eF,AQ];refine .some (show acc=_ from ?_);rw[hj,DZ]
theorem AmG(z:Sy D)(h:Rr R D)(hR:Bh R)(o:Bi):T (AH (AT (D.In.filter λx=>decide (XM D.Cards x=o.Member))) (D,0)) (Rr (Af7 R o)):=by
 have j:=z.dev;have hn:=(List.nodup_append.1 h.nd).1;refine(Aio _ (by grind) z h hR).mono λD' hD=>?_;unfold Af7;rw[TB λd=>rfl];obtain⟨m,f,_⟩:=LT hR;generalize hA:(D.In.filter λx=>decide (XM D.Cards x=o.Member))=A at hD;generalize hB:((GR R).filter λd=>decide (Dl R d=o.Member))=B;have hAB:∀e,e∈A↔e∈B:=λe=>by
  rw[<-hA,<-hB,GV,GV,f.mem_iff,h.card];refine and_congr ?_ Iff.rfl;have hi:=h.in_ e;constructor
  .grind [GL]
  .intro he;obtain⟨q,hq,rfl⟩:=Fl.1 he;have hg:=JH hR.ci (k:=q.1) (v:=q.2.1) (n:=q.2.2) hq;grind
 have hin:∀d∈A,R.in_.get d=some true/\Dl R d=o.Member:=by grind [Rr.in_]
 have h0:Go R R o.Member []:=by constructor<;>grind
 have gA:=Go.fold (l:=A) h0 hR (by rw[Nk,<-hA];exact hn.sublist List.filter_sublist) hin;have gB:=Go.fold (l:=B) h0 hR (by rw[Nk,<-hB];exact((f.nodup_iff.2 hR.ci.kd).sublist List.filter_sublist)) λd hd=>hin d ((hAB d).2 hd);rw[Nk] at gA gB;have hfin:∀{Q:Ad} {p:Bk},(∀e,e∈p↔e∈A)->Go R Q o.Member p->∀k,Q.members.get k=if A=[]then R.members.get k else if k=o.Member then none else R.members.get k:=λ{Q p} hp g k=>by
  by_cases c:A=[]
  .have hp0:p=[]:=by
    cases p with
    |nil=>rfl
    |cons a r=>have:=(hp a).1 aC;rw[c] at this;cases this
   grind [Go.m1]
  .rw[BU c];have hp0:p≠[]:=λe=>by
    cases hA':A with
    |nil=>exact c hA'
    |cons a r=>have:=(hp a).2 (by rw[hA'];simp);rw[e] at this;cases this
   refine g.m2 hp0 (λe v he hc=>?_) k;grind [Go.i,Rr.in_,Rr.card]
 have q:Rq (A.foldl G9 R) (B.foldl G9 R):=⟨(by grind [Go]),λd=>by rw[gA.i,gB.i];simp only[hAB],λd=>by rw[gA.w,gB.w],by rw[gA.w,gB.w],(by grind),by rw[gA.b,gB.b]⟩;exact q.rr hD.1
def NoG(R:Ad)(i:Ab):Prop:=∀q z g,R.members.get q=some z->z.guard=some g->g.id≠i
theorem Ai2{z:D5}(hz:z∈l.set k y'):z=y'\/∃j,j≠k/\l[j]?=some z:=by grind [He]
theorem Ai3(h:Rr R D){x:AA}{i:Ab}(hx:R.members.get m=some x)(hy:D.L[k]?=some y)(hn:y.N=m)(hn':y'.N=m)(hM:Mr x' y')(hg:x'.guard=some g)(hi:g.id=i)(he:∀q,g.vouches.get q=none)(hf:NoG R i):Rr (HE R m x') {D with L:=D.L.set k y',V:=D.V.filter λv=>ZN (D.L.set k y') v.Of} where
 card:=h.card
 nd:=h.nd
 in_:=h.in_
 was:=h.was
 w0:=h.w0
 ln:=Aez h hy hn hn'
 no q hq z hz:=AeA h hn' q hq z hz
 mem q z hq:=ZM h hy hn hn' hM q z hq
 vou q z g' hq hg':=by
  have hz:∃w∈D.L.set k y',w.N=q/\Mr z w:=ZM h hy hn hn' hM q z hq;have hq:(C6 R.members m x').get q=some z:=hq;intro b d a;rw[BA] at hq;split at hq
  .cases hq;rw[hg] at hg';cases hg';rw[he];constructor
   .intro c;cases c
   .rintro⟨v,hv,e1,_⟩;obtain⟨f,l,g2,k1,k2,k3⟩:=h.vof v (GV.1 hv).1;exact absurd (k3.symm.trans (e1.trans hi)) (hf f l g2 k1 k2)
  .rw[h.vou q z g' hq hg'];obtain⟨w,hw,_,hm⟩:=hz;have h1:=hm.gd g' hg';have hown:ZN (D.L.set k y') g'.id=true:=by grind [Po]
   constructor
   .rintro⟨v,hv,e1,e2⟩;exact⟨v,(by grind),e1,e2⟩
   .rintro⟨v,hv,e⟩;exact⟨v,(GV.1 hv).1,e⟩
 vof v hv:=by
  obtain⟨w,hw,h1,h2⟩:=Po.1 (GV.1 hv).2;obtain⟨f,l,g2,k1,k2,k3⟩:=h.vof v (GV.1 hv).1;rcases Ai2 hw with rfl|⟨j,hj,n⟩
  .have:=(hM.gd g hg).2.1;exact absurd (by grind) (hf f l g2 k1 k2)
  .obtain⟨z,hz,hm⟩:=h.of (bO n);have hne:w.N≠m:=λc=>by
    have e1:(D.L.map (·.N))[j]?=some m:=by grind
    have e2:(D.L.map (·.N))[k]?=some m:=by grind
    exact hj (MY h.ln e1 e2)
   cases hgd:z.guard with
   |none=>rw[hm.no hgd] at h1;cases h1
   |some o=>exact⟨w.N,z,o,by grind [BA],hgd,by grind [Mr.gd]⟩
 vnd:=h.vnd.sublist (List.filter_sublist.map _)
 back:=h.back
theorem AmI(z:Sy D)(h:Rr R D){i:Ab}(hf:NoG R i):T (o7 D o i) (Rr (Aao R o i)):=by
 have b:=z.l;have a:=z.v;have z4:=z.c;have d:=z.dev;unfold o7 Aao;rw[ofE z.z,aL,<-h.card];refine .bind ((XN z.z h (Dl R o.By)).mono λv hv=>?_);cases hx:R.members.get (Dl R o.By) with
 |none=>grind [T.some]
 |some x=>
  rw[hx] at hv;obtain⟨k,y,rfl,hy,hn,hM⟩:=hv;have hk:=(cr hy).1;rw[show decide ((k:Int)<0)=false from C5 aa,AQ,au,hy,aL,aL];unfold o6;refine .bind (.bind (.app cq (.bind (.set aa cq (.some ?_)))));rw[Nk,E0];refine .bind ((AkZ (p:=λv=>ZN (D.L.set k ⟨y.N,y.Role,true,i,o.Guards,o.Need,o.Wait,false,0⟩) v.Of) a (λj v acc hv hal=>?_) λacc=>?_).mono λq hq=>?_)
  .have hj:=(cr hv).1;unfold ni;simp only[eA hj,ax,au,hv,aL];grind [T.bind,T.mono,AkW,Sz,T.app,T.some]
  .grind [ni,eF]
  .subst hq;refine .some (Ai3 h hx hy hn hn ⟨hM.role,λc=>(by cases c),λg hg=>?_⟩ rfl rfl (λq=>rfl) hf);cases hg;exact⟨rfl,rfl,rfl,rfl,rfl,rfl,rfl⟩
def Jn(o:Bi)(v:Hb):Bool:=decide (v.Of=o.Of)&&(decide (v.By=o.By)&&decide (v.Device=o.Device))
theorem AeC{v:Hb}:Jn o v=true↔v.Of=o.Of/\v.By=o.By/\v.Device=o.Device:=by grind [Jn]
theorem AmJ(z:Sy D)(h:Rr R D)(o:Bi):T (AH (nj D o) (o.At,[],0)) λx=>x.2=D.V.filter (λv=> !Jn o v)/\((x.1=o.At/\∀v∈D.V,Jn o v=false)\/∃v∈D.V,Jn o v=true/\x.1=iI o.At v.At):=by
 have a:=z.v;refine T.loop (λs=>∃k:Nat,k<=D.V.length/\s.2.2=(k:Int)/\s.2.1=(D.V.take k).filter (λv=> !Jn o v)/\((s.1=o.At/\∀v∈D.V.take k,Jn o v=false)\/∃(j:Nat) (v:Hb),j<k/\D.V[j]?=some v/\Jn o v=true/\s.1=iI o.At v.At)) (λs=>D.V.length-s.2.2.toNat) (by grind) cq ?_;rintro⟨b,acc,i⟩ ⟨k,hk,rfl,ha,hm⟩;dsimp only at ha hm;subst ha;unfold nj;dsimp only;rcases HU k D.V.length with hlt|hge
 .obtain⟨v,hv,_⟩:=dk hlt;have hla:((D.V.take k).filter (λv=> !Jn o v)).length<=k:=by grind
  have ew:=aq (show k<2305843009213693952 by omega);have e:(D.V.take (k+1)).filter (λv=> !Jn o v)=(D.V.take k).filter (λv=> !Jn o v)++(if Jn o v=true then[] else[v]):=by rw[Rb hv,Nj];cases c:Jn o v<;>simp[c]
  simp only[eA hlt,ax,au,hv,aL];refine .bind (T.mono (Q:=λq=>q=Jn o v) (by grind [Jn,T.some]) λq hq=>?_)
  subst hq;cases c:Jn o v with
  |true=>
   rw[c,Bz rfl,Md] at e;rw[ax];refine .some ⟨⟨k+1,aa,ew,e.symm,.inr ⟨k,v,aa,hv,c,?_⟩⟩,by rw[ew];simp;omega⟩;rcases hm with⟨rfl,_⟩|⟨j,w,hj,hw,hc,_⟩
   .rfl
   .have kc:∀u:Hb,Jn o u=true->(u.Of,u.By,u.Device)=(o.Of,o.By,o.Device):=by grind [Jn]
    have e1:(D.V.map λv=>(v.Of,v.By,v.Device))[j]?=some (o.Of,o.By,o.Device):=by grind
    have e2:(D.V.map λv=>(v.Of,v.By,v.Device))[k]?=some (o.Of,o.By,o.Device):=by grind
    have:=MY h.vnd e1 e2;omega
  |false=>rw[c,BU aC] at e;rw[AQ];refine .bind (.app cq (.some ⟨⟨k+1,aa,ew,e.symm,?_⟩,by rw[ew];simp;omega⟩));grind [Rb]
 .obtain rfl:k=D.V.length:=aa;rw[eF,AQ];rw[DZ] at hm⊢;refine .some ⟨rfl,?_⟩;grind
theorem AeD(h:Rr R D)(hR:Bh R){x:AA}{g g2:CA}{a:Int}{M:FM Int AA}(hx:R.members.get m=some x)(hg:x.guard=some g)(hid:g.id=o.Of)(e2:∀y,Mr x y->Mr ⟨x.role,some g2⟩ y)(ei:g2.id=g.id)(hM:∀q,M.get q=if q=m then some ⟨x.role,some g2⟩else R.members.get q)(hv:∀q,g2.vouches.get q=if q=Wy o then some a else g.vouches.get q):Rr {R with members:=M} {D with V:=D.V.filter (λv=> !Jn o v)++[⟨o.Of,o.By,o.Device,a⟩]} where
 card:=h.card
 nd:=h.nd
 in_:=h.in_
 was:=h.was
 w0:=h.w0
 ln:=h.ln
 no q hq y hy:=by grind [Rr.no]
 mem q z hq:=by grind [Rr.mem]
 vou q z g' hq hg':=by
  have hq:M.get q=some z:=hq;intro b d c;have hkb:∀v:Hb,(!Jn o v)=true↔¬(v.Of=o.Of/\v.By=o.By/\v.Device=o.Device):=by grind [AeC]
  have hV:∀i,AgN (D.V.filter (λv=> !Jn o v)++[⟨o.Of,o.By,o.Device,a⟩]) i b d c↔(i=o.Of/\b=o.By/\d=o.Device/\c=a)\/(¬(i=o.Of/\b=o.By/\d=o.Device)/\AgN D.V i b d c):=λi=>by
   constructor
   .rintro⟨v,hv,e1,e2,e3,e4⟩;rcases Jo.1 hv with hv|hv
    .rw[GV,hkb,e1,e2,e3] at hv;exact .inr ⟨hv.2,v,hv.1,e1,e2,e3,e4⟩
    grind
   .rintro(⟨rfl,rfl,rfl,rfl⟩|⟨hne,v,hv,e1,e2,e3,e4⟩)
    .exact⟨_,Jo.2 (.inr (List.mem_singleton.2 rfl)),rfl,rfl,rfl,rfl⟩
    .exact⟨v,(by grind),e1,e2,e3,e4⟩
  show _↔AgN (D.V.filter (λv=> !Jn o v)++[⟨o.Of,o.By,o.Device,a⟩]) g'.id b d c;rw[hV];rw[hM] at hq;split at hq
  .grind [Rr.vou]
  .rename_i hne;rw[h.vou q z g' hq hg'];have hd:g'.id≠o.Of:=by grind [Bh]
   grind
 vof v e:=by grind [Rr.vof]
 vnd:=by show((D.V.filter (λv=> !Jn o v)++[(⟨o.Of,o.By,o.Device,a⟩:Hb)]).map λv=>(v.Of,v.By,v.Device)).Nodup;rw[List.map_append,Fa,List.map_nil,List.perm_append_comm.nodup_iff,List.singleton_append,LE];refine⟨λhh=>?_,h.vnd.sublist (List.filter_sublist.map _)⟩;grind [Jn]
 back:=h.back
theorem AmK(z:Sy D)(h:Rr R D)(hR:Bh R)(o:Bi):T (o8 D o) (Rr (XX R o)):=by
 have c:=z.v;unfold o8;refine .bind ((ZJ z.z h hR o).mono λv hv=>?_);rw[hv.1];cases hf:R.members.es.find? λe=>K3 e.2.1 o.Of with
 |none=>grind [Dd,XX,T.some]
 |some e=>
  obtain⟨hx,_⟩:=hR.mem (List.mem_of_find?_eq_some hf);have hge:K3 e.2.1 o.Of=true:=by have:=List.find?_some hf;exact this
  obtain⟨q,⟨role,gd⟩,n⟩:=e;dsimp only at hx hge;cases gd with
  |none=>cases hge
  |some g=>
  have hid:g.id=o.Of:=DS hge;have e1:Dd R o=bif g.guards.any (λy=>decide (o.By=y))then(q,0)else(0,14):=by unfold Dd;rw[hf]
  have e2:XX R o=bif(g.guards.any λy=>decide (o.By=y))&&Aan g o then HE R q ⟨role,some (Acw g o)⟩else R:=by unfold XX;rw[hf]
  rw[e1,e2];cases hb:g.guards.any λy=>decide (o.By=y) with
  |false=>exact .some h
  |true=>
  rw[ax,Bool.true_and];refine .bind ((AmJ z h o).mono λx hx2=>?_);obtain⟨b,V'⟩:=x;obtain⟨h1,h2⟩:=hx2;dsimp only at h1 h2;subst h1;have hfl:(D.V.filter λv=> !Jn o v).length<=D.V.length:=M0 _ _;refine .bind (.app cq (.some ?_));have key:∀a,g.vouches.get (Wy o)=some a↔∃v∈D.V,Jn o v=true/\v.At=a:=λa=>by
   rw[show Wy o=⟨o.By,o.Device⟩ from rfl,h.vou q _ g hx rfl];constructor
   .rintro⟨v,hv,k1,k2,k3,d⟩;grind [Jn]
   .rintro⟨v,hv,k1,k2⟩;unfold Jn at k1;simp only[bA,decide_eq_true_eq] at k1;exact⟨v,hv,k1.1.trans hid.symm,k1.2.1,k1.2.2,k2⟩
  have keep:g.vouches.get (Wy o)=some b->Rr R {D with V:=D.V.filter (λv=> !Jn o v)++[⟨o.Of,o.By,o.Device,b⟩]}:=λhk=>AeD (M:=R.members) (g2:=g) (a:=b) h hR hx rfl hid (λy hy=>hy) rfl (by grind) (by grind);have new:b=o.At->Rr (HE R q ⟨role,some (Acw g o)⟩) {D with V:=D.V.filter (λv=> !Jn o v)++[⟨o.Of,o.By,o.Device,b⟩]}:=λhk=>AeD (M:=C6 R.members q ⟨role,some (Acw g o)⟩) (g2:=Acw g o) (a:=b) h hR hx rfl hid (by grind [Mr]) rfl (λp=>by rw[BA]) (by grind [BA]);cases hg:g.vouches.get (Wy o) with
  |none=>
   have hN:Aan g o=true:=by unfold Aan;rw[hg]
   rw[hN];rcases h2 with⟨h2,_⟩|⟨v,hv,h3,h4⟩
   .exact new h2
   .have:=(key v.At).2 ⟨v,hv,h3,rfl⟩;rw[hg] at this;cases this
  |some a=>
   have hN:Aan g o=decide (o.At<a):=by unfold Aan;rw[hg]
   obtain⟨w,hw,k1,k2⟩:=(key a).1 hg;have hmn:b=iI o.At a:=by
    rcases h2 with⟨_,h2⟩|⟨v,hv,h3,h4⟩
    .rw[h2 w hw] at k1;cases k1
    .have:=(key v.At).2 ⟨v,hv,h3,rfl⟩;grind
   grind [iI]
theorem AmL(z:Sy D)(h:Rr R D)(hR:Bh R)(o:Bi):T ((bif 0<ah D.In then(some true)else(bif 0<ah D.Gone then(some true)else((gE D o.By).bind λa=>some (decide (a=0))))).bind λb=>bif b then(some D)else((nX D o.By 3).bind λc=>some ({c with Back:=o.Need}))) (Rr (AbA R o)):=by
 have hw:=h.w0;unfold AbA;rw[ofE z.z,<-h.card,aL];unfold ah;rcases Nat.eq_zero_or_pos D.In.length with c1|c1
 .rcases Nat.eq_zero_or_pos D.Gone.length with c2|c2
  .have hi:D.In=[]:=List.eq_nil_of_length_eq_zero c1;have hg:D.Gone=[]:=List.eq_nil_of_length_eq_zero c2;have hf:D3 R o.By=decide (0<Dl R o.By):=by grind [Rr.was,D3,Hf]
   rw[c1,c2,hw,c1,c2,hf];have h0:=(hR.c3 o.By).1;have h0:0<=Dl R o.By:=h0;rw[show decide ((0:Int)<((0:Nat):Int))=false from rfl,AQ,AQ,aL,show decide ((((0+0:Nat)):Int)=0)=true from rfl,Bool.true_and];by_cases c3:Dl R o.By=0
   .rw[CM c3,c3];exact .some h
   .rw[C5 c3,show decide (0<Dl R o.By)=true from CM aa,AQ,ax];refine .bind ((Ab0 z h hR o.By 3).mono λD' hD=> .some ?_);have h1:=hD.1;exact⟨h1.card,h1.nd,h1.in_,h1.was,h1.w0,h1.ln,h1.no,h1.mem,h1.vou,h1.vof,h1.vnd,rfl⟩
  grind [T.some]
 grind [T.some]
theorem AmM(z:Sy D)(h:Rr R D)(o:Bi){a:Int}(hv:match R.members.get (Dl R o.By) with
  |none=>a= -1
  |some x=>∃(k:Nat) (y:D5),a=(k:Int)/\D.L[k]?=some y/\y.N=Dl R o.By/\Mr x y):T ((bif 0<=a then((aS D.L (EZ a 0)).bind λc=>bif c.Is then((aS D.L (EZ a 0)).bind λd=>some (decide (d.ID=o.Of)))else(some false))else(some false)).bind λf=>bif f then((aS D.L a).bind λb=>(o6 D.L a ({b with Objected:=true,Last:=EZ b.Last o.At})).bind λi=>some ({D with L:=i}))else(some D)) (Rr (Wx R o)):=by
 have j:=z.l
 cases hx:R.members.get (Dl R o.By) with
 |none=>
  grind [Wx,T.some]
 |some x=>
  rw[hx] at hv
  obtain⟨k,y,rfl,hy,hn,hM⟩:=hv
  have hk:=(cr hy).1
  have hmx:EZ (k:Int) 0=(k:Int):=by unfold EZ;rw[BU aa]
  rw[show decide ((0:Int)<=(k:Int))=true from CM aa,ax,hmx,au,hy,aL,aL]
  obtain⟨role,gd⟩:=x
  cases gd with
  |none=>
   grind [Wx,Mr.no,T.some]
  |some g=>
   have h1:=hM.gd g rfl
   have e:Wx R o=bif g.id=o.Of then HE R (Dl R o.By) ⟨role,some {g with objected:=true,last:=EZ g.last o.At}⟩else R:=by unfold Wx;rw[hx]
   rw[e,h1.1,h1.2.1,ax,aL]
   cases decide (g.id=o.Of) with
   |false=>exact .some h
   |true=>
    rw[ax,ax,aL]
    unfold o6
    refine .bind (.bind (.app cq (.bind (.set aa cq (.some (.some ?_))))))
    rw[Nk,E0]
    refine AeB h hx hy hn hn (by grind [Mr]) (λm hg'=>?_) (by grind)
    all_goals grind
theorem AmN(z:Sy D)(hb:D.In.length+D.Gone.length<=1999/\D.L.length<=1999)(h:Rr R D)(hR:Bh R)(o:Bi):T ((jN D o.Of).bind λb=>(bif 0<=b then((fb D.In o.Old).bind λj=>bif j then((gE D o.Old).bind λm=>(aS D.L (EZ b 0)).bind λn=>bif m=n.N then((gE D o.Device).bind λp=>(aS D.L (EZ b 0)).bind λq=>some (decide (p=q.N)))else(some false))else(some false))else(some false)).bind λr=>bif r then((gE D o.Device).bind λd=>(se D d).bind λf=>(nX D o.Device f).bind λi=>(sh i o.Old).bind λa=>some a)else(some D)) (Rr (Aap R o)):=by
 refine .bind ((AkS z.z h hR o.Of).mono λv hv=>?_);have fin:T (bif Acx R o then((gE D o.Device).bind λd=>(se D d).bind λf=>(nX D o.Device f).bind λi=>(sh i o.Old).bind λa=>some a)else(some D)) (Rr (Aap R o)):=by
  unfold Aap;cases Acx R o with
  |false=>exact .some h
  |true=>rw[ax,ax,ofE z.z,aL,<-h.card,Aim z.z h,aL];refine .bind ((Ab0 z h hR _ _).mono λD' hD=>?_);have g1:=hD.2.dev;have g2:=hD.2.l;refine .bind (by grind [T.mono,Ain,Sy,Gw.c,Gw.v,I4,T.some])
 cases hf:R.members.es.find? λe=>K3 e.2.1 o.Of with
 |none=>grind [Acx,Hx]
 |some e=>
  rw[hf] at hv;obtain⟨k,y,g,rfl,hy,hn,_,_,_,hx⟩:=hv;have hw:Hx R o.Of=e.1:=by unfold Hx;rw[hf]
  have h3:=hR.m3 e (List.mem_of_find?_eq_some hf);have hB:Acx R o=bif O4 R o.Old then(bif Dl R o.Old=e.1 then decide (Dl R o.Device=e.1)else false)else false:=by grind [Acx]
  have hmx:EZ (k:Int) 0=(k:Int):=by unfold EZ;rw[BU aa]
  rw[show decide ((0:Int)<=(k:Int))=true from CM aa,ax,inE z.z h,aL,hmx,au,hy];grind [ofE,Sy.z,Rr.card]
theorem doE(z:Sy D)(hb:D.In.length+D.Gone.length<=1999/\D.L.length<=1999)(h:Rr R D)(hR:Bh R){o:Bi}{i:Ab}(hf:o.Kind=9->NoG R i):T (DM D o i) (Rr (U0 R o i)):=by
 unfold DM;refine .eqb (ofE z.z o.By) ?_;rw[<-h.card];refine .bind ((XN z.z h (Dl R o.By)).mono λa hv=>?_);unfold U0;refine .dec (λk1=>?_) λk1=>?_
 .grind [AmL]
 rw[BU k1];refine .dec (λk2=>?_) λk2=>?_
 .rw[Bz k2];exact .bind (by grind [T.mono,Ab0,T.some])
 rw[BU k2];refine .dec (λk3=>?_) λk3=>?_
 .rw[Bz k3];by_cases c:o.Device=0
  .rw[Bz c,CM c,ax,AmF z o rfl,aL,aL];exact .bind ((AmG z h hR o).mono λD' hD=> .some hD)
  .rw[BU c,C5 c,AQ,aL];exact .bind (by grind [T.mono,Aio,T.some])
 rw[BU k3];refine .dec (λk5=>?_) λk5=>?_
 .rw[Bz k5];exact AkV z h o
 rw[BU k5];refine .dec (λk9=>?_) λk9=>?_
 .grind [AmI]
 grind [AmK,T.some,AmM,AmN]
theorem Ak0(hc:∀d,Dl (Hl cs) d=XM cs d):T (AV cs) (Rr (Hl cs)):=by
 refine .some ⟨hc,.nil,λd=>?_,λd=>?_,rfl,.nil,(by grind),λm x hm=>(by cases hm),λm x g hm=>(by cases hm),λv hv=>(by cases hv),.nil,rfl⟩
 .rw[BU aC];rfl
 .rw[BU aC];rfl
end
theorem T.and{α:Type}{x:Option α}{P Q:α->Prop}(h1:T x P)(h2:T x Q):T x λv=>P v/\Q v:=by obtain⟨v,e,p⟩:=h1;obtain⟨w,e2,q⟩:=h2;rw[e] at e2;cases e2;exact⟨v,e,p,q⟩
def Gs(R:Ad)(S:A3):Prop:=∀q z g,R.members.get q=some z->z.guard=some g->g.id∈S
section
variable {R:Ad} {S:A3}
theorem Gs.up(h:Gs R S)(i:Ab):Gs R (S++[i]):=λq z g h1 h2=>by simp[h q z g h1 h2]
theorem Vb(h:Gs R S){M:FM Int AA}{k:Int}{x:AA}(hM:∀q,M.get q=if q=k then some x else R.members.get q)(hx:∀g,x.guard=some g->g.id∈S){Q:Ad}(hQ:Q.members=M):Gs Q S:=λq z g h1 h2=>by
 rw[hQ,hM] at h1;split at h1
 .cases h1;exact hx g h2
 .exact h q z g h1 h2
theorem Vc(h:Gs R S)(d role:Int):Gs (Jd R d role) S:=by
 unfold Jd;cases D3 R d with
 |false=>exact h
 |true=>
  cases hm:(R.members.get (Dl R d)).isSome with
  |true=>exact λq z g h1 h2=>h q z g (by grind) h2
  |false=>exact Vb h (M:=C6 R.members (Dl R d) ⟨role,none⟩) (λq=>BA _ q) (λg hg=>by cases hg) (by rw[ax];simp[hm])
theorem ZP(h:Gs R S)(hR:Bh R)(d:Int):Gs (G9 R d) S:=by
 unfold G9;cases O4 R d with
 |false=>exact h
 |true=>
  cases LS (I5 R d) (Dl R d) with
  |true=>exact h
  |false=>
   intro q z g h1 h2;have h1:(Si R.members (Dl R d)).get q=some z:=h1;rw[NP hR.cm] at h1;split at h1
   .cases h1
   .exact h q z g h1 h2
theorem Ai4(h:Gs R S)(hR:Bh R)(m:Int):∀l:Bk,Gs (l.foldl (S8 m) R) S:=λl=>by induction l generalizing R<;>grind [Adu,S8,ZP]
theorem Aip(h:Gs R S)(hR:Bh R)(o:Bi)(i:Ab):Gs (U0 R o i) (S++[i]):=by
 unfold U0;split
 .unfold AbA;cases decide ((R.was.es.length:Int)=0)&&D3 R o.By with
  |false=>exact h.up i
  |true=>exact(Vc h o.By 3).up i
 split
 .exact(Vc h _ _).up i
 split
 .split
  .exact(Ai4 h hR _ _).up i
  .exact(ZP h hR _).up i
 split
 .refine Gs.up ?_ i;unfold Uv;split
  .exact h
  .rename_i x hx;exact Vb h (x:=⟨o.Role,x.guard⟩) (λq=>BA _ q) (λg hg=>h _ x g hx hg) rfl
 split
 .unfold Aao;split
  .exact h.up i
  .exact Vb (h.up i) (λq=>BA _ q) (by grind) rfl
 split
 .refine Gs.up ?_ i;unfold XX;split
  .rename_i k role g n hf;have hx:=(hR.mem (List.mem_of_find?_eq_some hf)).1;cases(g.guards.any λy=>decide (o.By=y))&&Aan g o with
   |false=>exact h
   |true=>exact Vb h (λq=>BA _ q) (λa hg=>by cases hg;exact h _ _ g hx rfl) rfl
  .exact h
 split
 .refine Gs.up ?_ i;unfold Wx;split
  .rename_i role g hx;cases decide (g.id=o.Of) with
   |false=>exact h
   |true=>exact Vb h (λq=>BA _ q) (λa hg=>by cases hg;exact h _ _ g hx rfl) rfl
  .exact h
 grind [Gs.up,Aap,ZP,Vc,I4]
end
structure Pg (g:A7) (m:IX) (N:IH):Prop where
 w:Fo g
 p:Oo g m N
 od:∀(i:Nat) (o:Bi) (x:Ab),g.L[i]?=some o->g.IDs[i]?=some x->UE o x
 dv:∀(i:Nat) (o:Bi) (x:Ab),g.L[i]?=some o->g.IDs[i]?=some x->∃c∈g.Cards,c.Device=o.By
 cd:Aee g.Cards
 cn:(g.Cards.map (·.Device)).Nodup
section
variable {g:A7} {m:IX} {N:IH} (P:Pg g m N)
include P
theorem Pg.op{i:Nat}{o:Bi}{x:Ab}(ho:g.L[i]?=some o)(hx:g.IDs[i]?=some x):(Bx g m N).op x=some o/\(Bx g m N).o x=o:=by
 have e:(Bx g m N).op x=some o:=by rw[AiL P.w P.p,Ju P.w hx];exact ho
 grind [Gi.o]
theorem Pg.bef{i k:Nat}{x y:Ab}(hx:g.IDs[i]?=some x)(hy:g.IDs[k]?=some y):(Bx g m N).bef x y=O9 g k i:=by rw[Uf P.w P.p,Ju P.w hx,Ju P.w hy]
theorem Pg.new(d:Int):Dl (Hl g.Cards) d=XM g.Cards d:=by
 have key:∀(l:Mj) (M:FM Int DP),(l.map (·.Device)).Nodup->(∀c∈l,M.get c.Device=none)->(l.foldl (λm c=>C6 m c.Device c) M).get d=match l.find? λc=>decide (c.Device=d) with|some c=>some c|none=>M.get d:=by
  intro l;induction l with
  |nil=>exact λM _ _=>rfl
  |cons c r ih=>grind [BA]
 unfold Dl XM Hl AjS;rw[key g.Cards ⟨[],0⟩ P.cn λc _=>rfl];cases g.Cards.find? λc=>decide (c.Device=d)<;>rfl
theorem Ul{D:C7}(h:Ja g n D)(hn:n<=1000):Sy D:=by grind [Pg,Ja,Sy,Fo.nC]
theorem Ak1{l:Bk}(hi:EF g l)(hl:l.length<=1000)(hnd:(HR g l).Nodup){id:Ab}(hk:g.IDs[k]?=some id):T (Fg g l (k:Int)) λD=>Rr (NQ (Bx g m N) (HR g l) id) D/\Bh (NQ (Bx g m N) (HR g l) id)/\Ja g 1000 D:=by
 have w:=P.w;have nL:=w.nL;have nI:=w.nI;have hkl:k<g.L.length:=by grind
 obtain⟨d,e0,f⟩:=Ak0 (P.new);unfold Fg;rw[e0,aL];have hD0:d=⟨g.Cards,[],[],[],0,[]⟩:=(Bo e0).symm;subst hD0;refine .bind (T.mono (Q:=λD=>Rr (NQ (Bx g m N) (HR g l) id) D/\Bh (NQ (Bx g m N) (HR g l) id)/\Ja g 1000 D) (T.forA l.length (λj D=>(Rr (((HR g l).take j).foldl (RU (Bx g m N) id) (Hl g.Cards)) D/\Bh (((HR g l).take j).foldl (RU (Bx g m N) id) (Hl g.Cards))/\Gs (((HR g l).take j).foldl (RU (Bx g m N) id) (Hl g.Cards)) ((HR g l).take j))/\Ja g j D) aa ⟨⟨f,Lw P.cd.r,λq z g h=>by cases h⟩,Mv g⟩ (λj D hj hr=>?_) λD hr=>?_) λD hr=> .some hr)
 .obtain⟨y,hy,hm⟩:=dk hj;obtain⟨i,x,rfl,hil,hx,a⟩:=OP w hi hy;obtain⟨o,ho,so,t⟩:=w.op hil;obtain⟨row,b,hrow,hb⟩:=w.cell hkl hil;obtain⟨⟨h1,h2,h3⟩,h4⟩:=hr;have hod:=P.od i o x ho hx;have c:=(P.op ho hx).2;have hbf:(Bx g m N).bef x id=b:=by rw[P.bef hx hk];grind [O9]
  have et:((HR g l).take (j+1)).foldl (RU (Bx g m N) id) (Hl g.Cards)=bif b then U0 (((HR g l).take j).foldl (RU (Bx g m N) id) (Hl g.Cards)) o x else((HR g l).take j).foldl (RU (Bx g m N) id) (Hl g.Cards):=by rw[Rb a,LX,List.foldl_cons,List.foldl_nil];unfold RU;rw[hbf,c]
  have hxS:x∉(HR g l).take j:=by grind [He,MY]
  rw[et,Rb a];generalize ((HR g l).take j).foldl (RU (Bx g m N) id) (Hl g.Cards)=R at h1 h2 h3⊢;unfold xx;simp only[eA hj,ax,au,hy,ho,hx,hrow,hb,aL];have z:=Ul P h4 aa;have p:=h4.dev;have s:=h4.nL;cases b with
  |true=>exact .bind ((T.and (doE z ⟨aa,aa⟩ h1 h2 λ_ q z n k1 k2 e=>by have:=h3 q z n k1 k2;rw[e] at this;exact hxS this) (Gc w aa h4 so x)).mono λv hv=> .some (by constructor<;>grind [aq,R4,Aip]))
  |false=>exact .some (by constructor<;>grind [aq,Gs.up,Ja.up])
 .unfold xx;dsimp only;rw[eF,AQ];have hl2:(HR g l).length=l.length:=Hq ..;rw[<-hl2,DZ] at hr;exact .some ⟨hr.1.1,hr.1.2.1,hr.2.up aa⟩
end
structure Lr (g:A7) (dl:JP) (al:Bb):Prop where
 row:EF g dl.Row
 nm:HR g dl.Row=al.row
 nd:al.row.Nodup
 nr:dl.Row.length<=1000
 nv:dl.Void.length=g.L.length
 nc:dl.Decided.length=g.L.length
 fk:∀(p:Nat) (x:Ab),g.IDs[p]?=some x->dl.Fork[p]?=some (AB (al.fork.get x))
 vd:∀(p:Nat) (x:Ab),g.IDs[p]?=some x->dl.Void[p]?=some (AB (al.void.get x))
section
variable {g:A7} {m:IX} {N:IH} (P:Pg g m N)
include P
theorem AeE(h:Lr g dl al):T (Qi g dl) λr=>EF g r/\r.length<=1000/\HR g r=EA (Bx g m N) al/\(HR g r).Sublist al.row:=by
 have w:=P.w;have nL:=w.nL;have hr:=h.nr;unfold Qi EA;refine .bind (T.mono (Q:=λr=>EF g r/\r.length<=1000/\HR g r=al.row.foldl (Ha (Bx g m N) al.void) []/\(HR g r).Sublist al.row) (T.forA dl.Row.length (λj r=>EF g r/\r.length<=j/\HR g r=(al.row.take j).foldl (Ha (Bx g m N) al.void) []/\(HR g r).Sublist (al.row.take j)) aa ⟨.nil,aC,by simp[HR],by simp[HR]⟩ (λk acc hk hj=>?_) λr a=>?_) λr a=> .some a)
 .obtain⟨y,hy,hm⟩:=dk hk;obtain⟨i,x,rfl,hil,hx,b⟩:=OP w h.row hy;rw[h.nm] at b;obtain⟨o,ho,so,q⟩:=w.op hil;obtain⟨l,p,n,d⟩:=hj;have f:=(P.op ho hx).2;have hod:=P.od i o x ho hx;have hv:=h.vd i x hx;have hnd:(HR g acc).Nodup:=(h.nd.sublist (List.take_sublist k _)).sublist d;rw[Rb b,LX,List.foldl_cons,List.foldl_nil,<-n];unfold um;simp only[eA hk,ax,au,hy,ho,hx,hv,aL];have keep:(HR g acc).Sublist (al.row.take k++[x]):=d.trans (List.sublist_append_left _ _);unfold Ha;rw[f];cases hc:AB (al.void.get x) with
  |true=>exact .some (by constructor<;>grind [aq])
  |false=>
   rw[AQ,AQ];refine .bind ((Ak1 P l aa hnd hx).mono λD hD=>?_);rw[AiY (Ul P hD.2.2 aa).z hD.1 hD.2.1 hod.g x,aL];refine .dec (λc=>?_) λc=>?_
   .rw[CM c,ax];have e:HR g (acc++[(i:Int)])=HR g acc++[x]:=by simp[HR,hx]
    exact .bind (.app cq (.some ⟨aq aa,l.snoc hil,by simp;omega,e,e▸d.append (.refl _)⟩))
   .rw[C5 c,AQ];exact .some (by constructor<;>grind [aq])
 .unfold um;dsimp only;rw[eF,AQ];have hl2:al.row.length=dl.Row.length:=by rw[<-h.nm,Hq]
  rw[<-hl2,DZ] at a;exact .some ⟨a.1,aa,a.2.2.1,a.2.2.2⟩
theorem AgO(d:Int):nT g d=some (match(Bx g m N).card d with|some c=>c.Member|none=>0):=by have nC:=P.w.nC;unfold nT;rw[Cw aa,aL];unfold mZ;show _=some (match g.Cards.find? (λc=>decide (c.Device=d)) with|some c=>c.Member|none=>0);grind
theorem Pg.same{i k:Nat}{x y:Ab}(hx:g.IDs[i]?=some x)(hy:g.IDs[k]?=some y):x=y↔(i:Int)=(k:Int):=by grind [Pg,MY,Fo.nd]
theorem Ab1{y:Ab}(hi:i<g.L.length)(hk:k<g.L.length)(hx:g.IDs[i]?=some x)(hy:g.IDs[k]?=some y):n9 g (i:Int) (k:Int)=some (DG (Bx g m N) x y):=by
 have w:=P.w;obtain⟨a,ha,h,e⟩:=w.op hi;obtain⟨b,hb,f,j⟩:=w.op hk;obtain⟨row,u,hrow,hu⟩:=w.cell hi hk;obtain⟨d,v,c,hv⟩:=w.cell hk hi;have ea:=P.op ha hx;have eb:=P.op hb hy;have e1:(Bx g m N).bef y x=u:=by rw[P.bef hy hx];grind [O9]
 have e2:(Bx g m N).bef x y=v:=by rw[P.bef hx hy];grind [O9]
 have hby:=P.same hx hy;unfold n9 DG;simp only[au,ha,hb,hrow,hu,c,hv,aL,ea.1,eb.1,ea.2,eb.2,e1,e2,Option.isSome_some,Bool.true_and];have hd:decide (x=y)=decide ((i:Int)=(k:Int)):=decide_eq_decide.2 hby;rw[hd];cases decide ((i:Int)=(k:Int)) with
 |true=>rfl
 |false=>
 cases u with
 |true=>cases v<;>rfl
 |false=>
 cases v with
 |true=>rfl
 |false=>
 simp only[AQ,aL,Bool.not_false,Bool.true_and];unfold AhU Zb;rw[AgO P];by_cases k3:a.Kind=3
 .rw[k3];simp only[Int.reduceEq,decide_true,decide_false,ax,AQ];by_cases hD:a.Device=0
  .have hm:=T1 e.numbers|>.k3 k3;grind [C5]
  grind
 grind
theorem AeF(h:Lr g dl al){y:Ab}(hi:i<g.L.length)(hk:k<g.L.length)(hx:g.IDs[i]?=some x)(hy:g.IDs[k]?=some y):qW g dl (i:Int) (k:Int)=some (DQ (Bx g m N) al.row x y):=by
 have w:=P.w;have hr:=h.nr;have hby:=P.same hx hy;unfold qW DQ;rw[show decide (x=y)=decide ((i:Int)=(k:Int)) from decide_eq_decide.2 hby];cases decide ((i:Int)=(k:Int)) with
 |true=>rfl
 |false=>
 rw[AQ,Bool.not_false,Bool.true_and];refine T.eq (.bind ((T.search dl.Row (λz=>Ux (Bx g m N) x y ((g.IDs[z.toNat]?).getD ⟨0,0,0⟩)) (λk _=>true) aa (λj z hz hj=>?_) ?_).mono ?_))
 .obtain⟨q,v,rfl,a,hv,_⟩:=OP w h.row hz;obtain⟨row,u,hrow,hu⟩:=w.cell hi a;have e1:(Bx g m N).bef v x=u:=by rw[P.bef hv hx];grind [O9]
  have hvx:decide (v=x)=decide ((q:Int)=(i:Int)):=decide_eq_decide.2 (P.same hv hx);unfold qV Ux;rw[eA hj,ax,au,hz,aL,E0,hv,M1,aq aa,e1,hvx,Ab1 P hk a hy hv];grind [au]
 .unfold qV;rw[eF,AQ]
 .have hmap:∀z∈dl.Row,((g.IDs[z.toNat]?).getD ⟨0,0,0⟩)∈al.row:=by grind [Lr.nm]
  rintro r (⟨rfl,hn⟩|⟨j,z,hz,hp,rfl,hn⟩)
  .refine .some ?_;grind [Lr.nm]
  .refine .some ?_;grind
end
theorem Aa0(c:FF o)(h:Xc o=some d):1<=d/\d<=12:=by have f:=T1 c.numbers;grind [On,Xc]
theorem AeG(o:Bi):LJ o=some ((Xc o).getD 0):=by grind [LJ,Xc]
theorem Ak2{l:Bk}(hd:l.Nodup)(h:∀x∈l,1<=x/\x<=12):l.length<=12:=by
 have hs:∀x∈l.map Int.toNat,x∈List.range' 1 12:=by grind
 have hn:(l.map Int.toNat).Nodup:=ZL (g:=id) (by rw[List.map_id];exact hd) (by grind);have:=Q2 hn hs;rwa [Hq,List.length_range'] at this
theorem AcR{I:Gi}:∀{l:A3} {acc:Bk},acc.Nodup->(l.foldl (OJ I) acc).Nodup
 |[],acc,h=>h
 |x::r,acc,h=>by refine AcR (l:=r) ?_;grind [OJ]
theorem Aa1{I:Gi}{Q:Int->Prop}:∀{l:A3} {acc:Bk},(∀x∈l,∀d,Xc (I.o x)=some d->Q d)->(∀d∈acc,Q d)->∀d∈l.foldl (OJ I) acc,Q d
 |[],acc,_,h=>h
 |x::r,acc,hx,h=>by refine Aa1 (l:=r) (by grind) ?_;grind [OJ]
theorem AcS{m:FM Int Int}{s:Bk}(hn:s.Nodup){d:Int}:∀k,k<=s.length->(∀j:Nat,j<k->s[j]?=some d->(UF m s k).get d=some (j:Int))/\((∀j:Nat,j<k->s[j]?≠some d)->(UF m s k).get d=m.get d)
 |0,_=>⟨λj h=>aa,λ_=>rfl⟩
 |k+1,hk=>by
  have ih:=AcS (m:=m) hn (d:=d) k aa;obtain⟨x,hx,_⟩:=dk (l:=s) (k:=k) aa;have e:UF m s (k+1)=C6 (UF m s k) x (k:Int):=by show(match s[k]? with|some d=>_|none=>_)=_;rw[hx]
  rw[e,BA];refine⟨λj hj hd=>?_,λhne=>?_⟩
  .grind [MY]
  grind
theorem AcT{d:Int}:∀{cs:Mj} {m:FM Int Int},(∃c∈cs,c.Device=d)\/m.get d=some 12->(cs.foldl (λm c=>C6 m c.Device 12) m).get d=some 12
 |[],m,h=>by grind
 |c::r,m,h=>by refine AcT (cs:=r) ?_;grind [BA]
def snD(s:Bk)(d:Int):Int:=match bu d s with
 |some j=>(j:Int)
 |none=>(s.length:Int)
theorem ZQ(hn:s.length<=1000)(d:Int):oa s d=some (snD s d):=by
 unfold oa;refine T.eq (.bind ((T.search s (λx=>decide (x=d)) (λk _=>(k:Int)) aa (λk x hx hk=>?_) ?_).mono ?_))
 .grind [ph,eA,au,aq]
 .unfold ph;rw[eF,AQ]
 .rintro r (⟨rfl,h⟩|⟨k,x,hx,hp,rfl,h⟩)
  .have:bu d s=none:=by grind [jv]
   refine .some ?_;unfold snD;rw[this];rfl
  .have hp:=DS hp;subst hp;have:bu x s=some k:=by grind [y0]
   refine .some ?_;unfold snD;rw[this]
theorem Ai5(hn:s.Nodup)(hl:s.length<=12){e:Int}(hd:∃c∈cs,c.Device=d)(he:∃c∈cs,c.Device=e):decide (Sr (NR cs s) d<Sr (NR cs s) e)=decide (snD s d<snD s e):=by
 have at_:∀d,(∃c∈cs,c.Device=d)->(∃j:Nat,j<s.length/\Sr (NR cs s) d=(j:Int)/\snD s d=(j:Int))\/(Sr (NR cs s) d=12/\snD s d=(s.length:Int)):=λd hd=>by have h:=AcS (m:=Tk cs) hn (d:=d) s.length (Dx _);unfold Sr NR snD;grind [gb,jv,Tk,AcT]
 grind
section
variable {g:A7} {m:IX} {N:IH} (P:Pg g m N)
include P
theorem Aa2{ids row:A3}(ho:n8 g ids=some row)(hn:row.length<=1000)(hm:∀x∈row,x∈g.IDs):jn g ids=some (Mi (Bx g m N) row):=by
 have w:=P.w;have nL:=w.nL;have nI:=w.nI;unfold jn;rw[ho,aL];refine T.eq (.bind (T.mono (Q:=λr=>r=Mi (Bx g m N) row) (T.forA row.length (λk acc=>acc=(row.take k).foldl (OJ (Bx g m N)) []) aa rfl (λk acc hk hj=>?_) λacc hj=>?_) λr hr=> .some hr))
 .obtain⟨x,hx,hmx⟩:=dk hk;obtain⟨i,hi⟩:=He (hm x hmx);have hil:i<g.L.length:=by grind
  obtain⟨o,a,so,c⟩:=w.op hil;have hpz:gO g x=(i:Int):=by unfold gO;rw[Ju w hi]
  have b:=(P.op a hi).2;have hal:=Xd (I:=Bx g m N) (l:=row.take k) (acc:=[]);rw[LW,List.length_nil,<-hj] at hal;rw[Rb hx,LX,List.foldl_cons,List.foldl_nil,<-hj];unfold OJ;rw[b];unfold nk;simp only[eA hk,ax,au,hx,aL,qR,dC (show g.IDs.length<=1000000 by omega),hpz,a,AeG];cases hc:Xc o with
  |none=>exact .some ⟨aq aa,rfl⟩
  |some d=>
   have hd:=Aa0 c hc;rw[M1,show decide (0<d)=true from CM aa,ax,cX aa,aL];have hb:QF acc d=acc.any (λy=>decide (d=y)):=by grind [JB]
   rw[hb,aL];dsimp only;cases acc.any (λy=>decide (d=y)) with
   |true=>exact .some ⟨aq aa,rfl⟩
   |false=>exact .bind (.app cq (.some ⟨aq aa,rfl⟩))
 .unfold nk;dsimp only;rw[eF,AQ];refine .some (show acc=_ from ?_);rw[hj,DZ];rfl
end
def XP(lt:Ab->Ab->Bool)(b:Option Ab)(x:Ab):Option Ab:=match b with
 |none=>some x
 |some y=>bif lt x y then some x else some y
theorem AmP{I:Gi}{row l:A3}{sen:FM Int Int}(hl:l.length<=1000):T (AH (X9 I row l sen) (0,-1)) λr=>(∃(i:Nat) (x:Ab),r=(i:Int)/\l[i]?=some x/\(l.find? (λx=> !l.any (DQ I row x))=some x\/(l.find? (λx=> !l.any (DQ I row x))=none/\l.foldl (XP λx y=>decide (Sr sen x.By<Sr sen y.By)) none=some x)))\/(l=[]/\r= -1):=by
 refine T.loop (λs=>s.1<=l.length/\(∀y∈l.take s.1,(!l.any (DQ I row y))=false)/\((s.1=0/\s.2= -1)\/∃(i:Nat) (x:Ab),s.2=(i:Int)/\l[i]?=some x/\(l.take s.1).foldl (XP λx y=>decide (Sr sen x.By<Sr sen y.By)) none=some x)) (λs=>l.length-s.1) (by grind) (by show l.length-0<_;omega) ?_;rintro⟨k,b⟩ ⟨hk,hw,hb⟩;dsimp only at hk hw hb;unfold X9;dsimp only;cases hx:l[k]? with
 |none=>
  have hge:l.length<=k:=List.getElem?_eq_none_iff.1 hx;obtain rfl:k=l.length:=aa;rw[DZ] at hw hb;dsimp only;rw[Nat.beq_refl,ax];refine .some ?_;rcases hb with⟨h1,h2⟩|⟨i,x,h1,h2,h3⟩
  .exact .inr ⟨List.length_eq_zero_iff.1 h1,h2⟩
  .exact .inl (by grind)
 |some x=>
  have hlt:=(cr hx).1;dsimp only;refine .ite (λha=>?_) λha=> .some (.inl ⟨k,x,rfl,hx,.inl ?_⟩)
  .have hw':∀y∈l.take (k+1),(!l.any (DQ I row y))=false:=λy hy=>by rw[Rb hx] at hy;grind
   have ef:(l.take (k+1)).foldl (XP λx y=>decide (Sr sen x.By<Sr sen y.By)) none=XP (λx y=>decide (Sr sen x.By<Sr sen y.By)) ((l.take k).foldl (XP λx y=>decide (Sr sen x.By<Sr sen y.By)) none) x:=by rw[Rb hx,LX];rfl
   unfold upB;rcases hb with⟨rfl,rfl⟩|⟨i,y,rfl,hi,hf⟩
   .refine .some ⟨⟨aa,hw',.inr ⟨0,x,rfl,hx,?_⟩⟩,by show l.length-1<l.length-0;omega⟩;rw[ef];rfl
   .rw[hf] at ef;rw[show decide ((i:Int)<0)=false from C5 aa,AQ,au,hi,aL];cases hc:decide (Sr sen x.By<Sr sen y.By) with
    |true=>exact .some ⟨⟨by show k+1<=_;omega,hw',.inr ⟨k,x,rfl,hx,by rw[ef];show(bif Sr sen x.By<Sr sen y.By then some x else some y)=_;rw[hc];rfl⟩⟩,by grind⟩
    |false=>exact .some ⟨⟨by show k+1<=_;omega,hw',.inr ⟨i,y,rfl,hi,by rw[ef];show(bif Sr sen x.By<Sr sen y.By then some x else some y)=_;rw[hc];rfl⟩⟩,by grind⟩
  .rw[List.find?_eq_some_iff_getElem];obtain⟨h1,h2⟩:=cr hx;refine⟨by rw[ha];rfl,k,h1,h2,λj hj=>?_⟩;have hj':l[j]?=some (l[j]'aa):=Ef _;have:=hw _ (bO (i:=j) (by rw[List.getElem?_take,Bz hj];exact hj'));rw[this];simp
abbrev NxQ(g:A7)(m:IX)(N:IH)(al:Bb)(l:A3)(lt:Ab->Ab->Bool)(nx:Int):Prop:=(∃(p:Nat) (x:Ab),nx=(p:Int)/\g.IDs[p]?=some x/\x∈l/\(l.find? (λx=> !l.any (DQ (Bx g m N) al.row x))=some x\/(l.find? (λx=> !l.any (DQ (Bx g m N) al.row x))=none/\l.foldl (XP lt) none=some x)))\/(l=[]/\nx= -1)
section
variable {g:A7} {m:IX} {N:IH} (P:Pg g m N)
include P
theorem Ak3(h:Lr g dl al){l:A3}{lt:Ab->Ab->Bool}(hs:s.length<=1000)(hlf:l=al.row.filter λx=>decide (x∈l))(j:∀(p:Nat) (x:Ab),g.IDs[p]?=some x->x∈al.row->N7 g dl (p:Int)=some (decide (x∈l)))(hlt:∀x∈al.row,∀y∈al.row,lt x y=decide (snD s ((Bx g m N).o x).By<snD s ((Bx g m N).o y).By)):T (vL g dl s) λnx=>NxQ g m N al l lt nx:=by
 have w:=P.w;have hr:=h.nr;have inner:∀{i:Nat} {x:Ab},i<g.L.length->g.IDs[i]?=some x->AH (ut g dl (i:Int)) (true,0)=some (!l.any (DQ (Bx g m N) al.row x)):=λ{i x} hi hx=>by
  refine T.eq (T.forA dl.Row.length (λk b=>b= !((al.row.take k).any λy=>decide (y∈l)&&DQ (Bx g m N) al.row x y)) aa rfl (λk b hk hb=>?_) λb hb=>?_)
  .obtain⟨z,hz,_⟩:=dk hk;obtain⟨q,v,rfl,d,hv,a⟩:=OP w h.row hz;rw[h.nm] at a;unfold ut;simp only[eA hk,ax,au,hz,aL,j q v hv (bO a),AeF P h hi d hx hv];have e:((al.row.take (k+1)).any λy=>decide (y∈l)&&DQ (Bx g m N) al.row x y)=(((al.row.take k).any λy=>decide (y∈l)&&DQ (Bx g m N) al.row x y)||(decide (v∈l)&&DQ (Bx g m N) al.row x v)):=by rw[Rb a,List.any_append];simp
   rw[e];cases decide (v∈l) with
   |false=>exact .some ⟨aq aa,by simpa using hb⟩
   |true=>
    cases DQ (Bx g m N) al.row x v with
    |false=>exact .some ⟨aq aa,by simpa using hb⟩
    |true=>exact .some ⟨aq aa,aC⟩
  .unfold ut;dsimp only;rw[eF,AQ];refine .some (show b=_ from ?_);grind [Lr.nm,Hq]
 unfold vL;refine .bind ((T.forA (Q:=λr:Int⊕Int=>(∃(p:Nat) (x:Ab),r= .inr (p:Int)/\g.IDs[p]?=some x/\x∈l/\l.find? (λx=> !l.any (DQ (Bx g m N) al.row x))=some x)\/(∃(p:Nat) (x:Ab),r= .inl (p:Int)/\g.IDs[p]?=some x/\x∈l/\l.find? (λx=> !l.any (DQ (Bx g m N) al.row x))=none/\l.foldl (XP lt) none=some x)\/(l=[]/\r= .inl (-1))) dl.Row.length (λk b=>(∀y∈al.row.take k,y∈l->(!l.any (DQ (Bx g m N) al.row y))=false)/\((b= -1/\((al.row.take k).filter λx=>decide (x∈l))=[])\/∃(p:Nat) (x:Ab),b=(p:Int)/\p<g.L.length/\g.IDs[p]?=some x/\x∈l/\((al.row.take k).filter λx=>decide (x∈l)).foldl (XP lt) none=some x)) aa ⟨λy hy=>(by cases hy),.inl ⟨rfl,rfl⟩⟩ (λk b hk hb=>?_) λb hb=>?_).mono ?_)
 .obtain⟨z,hz,_⟩:=dk hk;obtain⟨q,v,rfl,d,hv,a⟩:=OP w h.row hz;rw[h.nm] at a;have n:=bO a;obtain⟨hb1,hb2⟩:=hb;have ef:(al.row.take (k+1)).filter (λx=>decide (x∈l))=(al.row.take k).filter (λx=>decide (x∈l))++(if v∈l then[v] else[]):=by rw[Rb a,Nj];grind
  unfold uu;simp only[eA hk,ax,au,hz,aL,j q v hv n];by_cases c:v∈l
  .rw[Bz c] at ef;rw[CM c,Bool.not_true,AQ,inner d hv,aL];cases hany:l.any (DQ (Bx g m N) al.row v) with
   |false=>
    refine .some (.inl ⟨q,v,rfl,hv,c,?_⟩);have hkl:(al.row.take k).filter (λx=>decide (x∈l))++[v]++(al.row.drop (k+1)).filter (λx=>decide (x∈l))=l:=by grind [Pp]
    have:l.find? (λx=> !l.any (DQ (Bx g m N) al.row x))=((al.row.take k).filter (λx=>decide (x∈l))++[v]++(al.row.drop (k+1)).filter (λx=>decide (x∈l))).find? (λx=> !l.any (DQ (Bx g m N) al.row x)):=by rw[hkl]
    rw[this,List.append_assoc,List.find?_append,List.find?_eq_none.2 λy hy=>by rw[GV] at hy;rw[hb1 y hy.1 (DS hy.2)];simp]
    rw[List.singleton_append,List.find?_cons,hany];rfl
   |true=>
    rw[Bool.not_true,AQ];have hb1':∀y∈al.row.take (k+1),y∈l->(!l.any (DQ (Bx g m N) al.row y))=false:=λy hy f=>by
     rw[Rb a] at hy;rcases Jo.1 hy with hy|hy
     .exact hb1 y hy f
     .simp at hy;subst hy;rw[hany];rfl
    obtain⟨o,ho,so,u⟩:=w.op d;rcases hb2 with⟨rfl,he⟩|⟨p,y,rfl,hpl,hp,f,hf⟩
    .rw[show decide ((-1:Int)<0)=true from rfl,ax,aL,ax];refine .some ⟨aq aa,hb1',.inr ⟨q,v,rfl,d,hv,c,?_⟩⟩;rw[ef,he];rfl
    .obtain⟨t,ho2,_⟩:=w.op hpl;have hmx:EZ (p:Int) 0=(p:Int):=by unfold EZ;rw[BU aa]
     have hyr:y∈al.row:=by grind
     rw[show decide ((p:Int)<0)=false from C5 aa,AQ,hmx];simp only[au,ho,ho2,aL,ZQ hs];have hl1:=hlt v n y hyr;rw[(P.op ho hv).2,(P.op ho2 hp).2] at hl1;rw[<-hl1];have ef2:((al.row.take (k+1)).filter λx=>decide (x∈l)).foldl (XP lt) none=XP lt (some y) v:=by rw[ef,LX,hf];rfl
     cases hc:lt v y with
     |true=>exact .some ⟨aq aa,hb1',.inr ⟨q,v,rfl,d,hv,c,by rw[ef2];show(bif lt v y then some v else some y)=_;rw[hc];rfl⟩⟩
     |false=>exact .some ⟨aq aa,hb1',.inr ⟨p,y,rfl,hpl,hp,f,by rw[ef2];show(bif lt v y then some v else some y)=_;rw[hc];rfl⟩⟩
  .rw[BU c,Md] at ef;rw[C5 c,Bool.not_false,ax];refine .some ⟨aq aa,λy hy f=>?_,by rw[ef];exact hb2⟩;rw[Rb a] at hy;grind
 .unfold uu;dsimp only;rw[eF,AQ];have hl2:al.row.length=dl.Row.length:=by rw[<-h.nm,Hq]
  rw[<-hl2,DZ,<-hlf] at hb;refine .some ?_;obtain⟨hb1,hb2⟩:=hb;rcases hb2 with⟨rfl,he⟩|⟨p,x,rfl,_,hp,hx,hf⟩
  .exact .inr (.inr ⟨he,rfl⟩)
  .refine .inr (.inl ⟨p,x,rfl,hp,hx,List.find?_eq_none.2 λy hy=>?_,hf⟩);have hyr:y∈al.row:=by rw[hlf] at hy;exact(GV.1 hy).1
   rw[hb1 y hyr hy];simp
 .rintro r (⟨p,x,rfl,hp,hx,h1⟩|⟨p,x,rfl,hp,hx,h1⟩|⟨h1,rfl⟩)
  .exact .some (.inl ⟨p,x,rfl,hp,hx,.inl h1⟩)
  .exact .some (.inl ⟨p,x,rfl,hp,hx,.inr h1⟩)
  .exact .some (.inr ⟨h1,rfl⟩)
end
theorem Ab2{α:Type}[DecidableEq α]:∀{l row:List α},l.Sublist row->row.Nodup->l=row.filter λx=>decide (x∈l)
 |_,_,.slnil,_=>rfl
 |l,_,.cons (l₂:=r) a h,hn=>by rw[LE] at hn;rw[List.filter_cons_of_neg (by grind)];exact Ab2 h hn.2
 |_,_,.cons_cons (l₁:=l) (l₂:=r) a h,hn=>by rw[LE] at hn;rw[List.filter_cons_of_pos aC];have e:=Ab2 h hn.2;grind [List.filter_congr]
theorem UJ:AB ((ofV vs).get x)=decide (x∈vs):=by
 have key:∀(l:A3) (M:FM Ab Bool),AB ((l.foldl (λm x=>C6 m x true) M).get x)=(AB (M.get x)||decide (x∈l)):=by intro l;induction l<;>grind [BA,AB]
 unfold ofV;rw[key];rfl
theorem AcU{I:Gi}{row left:A3}{x y:Ab}:∀{l:A3} {v:FM Ab Bool},AB ((l.foldl (vFu I row left x) v).get y)=(AB (v.get y)||(decide (y∈l)&&(DG I x y||(left.any (λz=>decide (y=z))&&DQ I row x y))))
 |[],v=>aC
 |a::r,v=>by
  rw[List.foldl_cons,AcU (l:=r)];have e:AB ((vFu I row left x v a).get y)=(AB (v.get y)||(decide (y=a)&&(DG I x y||(left.any (λz=>decide (y=z))&&DQ I row x y)))):=by unfold vFu;grind [BA,AB]
  grind
section
variable {g:A7} {m:IX} {N:IH} (P:Pg g m N)
include P
theorem Ak4(hi:DL g ids)(ho:n8 g ids=some row)(hrn:row.Nodup)(hr:row.length<=1000)(hrm:∀x∈row,x∈g.IDs)(hv:vJ ids=some vs)(d:vs.length<=1000)(hvm:∀x∈vs,x∈g.IDs):T (Aa g ids) λc=>Lr g c (LC ⟨g.Cards,m,N⟩ row vs)/\c.Decided=List.replicate g.L.length false:=by
 have w:=P.w;have nL:=w.nL;have nI:=w.nI;unfold Aa;rw[ho,aL];have hmk:rP 1 (false:Bool) (ah g.L)=some (List.replicate g.L.length false):=T.eq (.make (by unfold ah;omega) (by unfold ah;omega) (by unfold ah;omega) (by unfold ah;rw[E0]));rw[hmk,aL,aL,aL];have pz:∀x∈g.IDs,∃i:Nat,g.IDs[i]?=some x/\i<g.L.length/\fC g x=some (i:Int):=λx hx=>by obtain⟨i,hi⟩:=He hx;have:=(cr hi).1;exact⟨i,hi,aa,by rw[dC aa];unfold gO;rw[Ju w hi]⟩
 refine .bind ((T.forA row.length (λk acc=>EF g acc/\acc.length=k/\HR g acc=row.take k) aa ⟨.nil,rfl,rfl⟩ (λk acc hk hj=>?_) λacc hj=>?_).mono (Q:=λacc=>EF g acc/\acc.length=row.length/\HR g acc=row) λb h10=>?_)
 .obtain⟨x,hx,hmx⟩:=dk hk;obtain⟨i,hi,hil,hp⟩:=pz x (hrm x hmx);unfold uq;simp only[eA hk,ax,au,hx,aL,hp];refine .bind (.app cq (.some ⟨aq aa,hj.1.snoc hil,by simp;omega,?_⟩));grind [Rb]
 .unfold uq;dsimp only;rw[eF,AQ];rw[DZ] at hj;exact .some hj
 .rw[hv,aL];refine .bind ((T.loop (Q:=λr:List Bool×List Bool=>r.1.length=g.L.length/\∀(p:Nat) (x:Ab),g.IDs[p]?=some x->r.1[p]?=some (decide (x∈vs))/\r.2[p]?=some (decide (x∈vs))) (λs=>∃k:Nat,k<=vs.length/\s.2.2=(k:Int)/\s.1.length=g.L.length/\s.2.1.length=g.L.length/\∀(p:Nat) (x:Ab),g.IDs[p]?=some x->s.1[p]?=some (decide (x∈vs.take k))/\s.2.1[p]?=some (decide (x∈vs.take k))) (λs=>vs.length-s.2.2.toNat) ⟨0,aa,rfl,aC,aC,λp x hp=>?_⟩ cq ?_).mono λr a=>?_)
  .have:=(cr hp).1;show(List.replicate g.L.length false)[p]?=_/\(List.replicate g.L.length false)[p]?=_;rw[List.getElem?_replicate,Bz aa];simp
  .rintro⟨V,F,i⟩ ⟨k,hk,rfl,h1,h2,h3⟩;dsimp only at h1 h2 h3;unfold uo;dsimp only;rcases HU k vs.length with hlt|hge
   .obtain⟨x,hx,hmx⟩:=dk hlt;obtain⟨q,hq,e,hp⟩:=pz x (hvm x hmx);rw[eA hlt,ax,au,hx,aL,hp,aL];have ew:=aq (show k<2305843009213693952 by omega);refine .bind (.set aa aa (.bind (.set aa aa (.some ⟨⟨k+1,aa,ew,by simp;omega,by simp;omega,λp y hy=>?_⟩,by rw[ew];simp;omega⟩))));dsimp only;rw[E0,List.getElem?_set,List.getElem?_set,Rb hx];have:=h3 p y hy;grind [MY,Fo.nd]
   .obtain rfl:k=vs.length:=aa;rw[eF,AQ];rw[DZ] at h3;exact .some ⟨h1,h3⟩
  .refine .some ⟨⟨h10.1,h10.2.2,hrn,by show b.length<=1000;omega,a.1,aC,λp x hp=>?_,λp x hp=>?_⟩,rfl⟩
   .show r.2[p]?=some (AB ((ofV vs).get x));rw[UJ];exact(a.2 p x hp).2
   .show r.1[p]?=some (AB ((ofV vs).get x));rw[UJ];exact(a.2 p x hp).1
structure RDb (g:A7) (I:Gi) (dl:JP) (al:Bb) (a:A3×FM Ab Bool) (V D:List Bool):Prop where
 lr:Lr g {dl with Void:=V,Decided:=D} (wV al a.2)
 sub:a.1.Sublist al.row
 kil:∀x∈a.1,Gq (I.o x).Kind=true
 dec:∀(p:Nat) (x:Ab),g.IDs[p]?=some x->x∈al.row->Gq (I.o x).Kind=true->AB (a.2.get x)=false->D[p]?=some (!decide (x∈a.1))
structure RDc (g:A7) (I:Gi) (dl:JP) (al:Bb) (s:Bk) (a:A3×FM Ab Bool) (b:List Bool×List Bool×Int):Prop extends RDb g I dl al a b.1 b.2.1 where
 nx:vL g {dl with Void:=b.1,Decided:=b.2.1} s=some b.2.2
theorem Air(h:RDb g (Bx g m N) dl al a V D)(hp:g.IDs[p]?=some x)(hx:x∈al.row):N7 g {dl with Void:=V,Decided:=D} (p:Int)=some (decide (x∈a.1.filter λx=> !AB (a.2.get x))):=by
 have w:=P.w;have nI:=w.nI;have hpl:p<g.L.length:=by grind
 obtain⟨o,ho,so,c⟩:=w.op hpl;have b:=(P.op ho hp).2;have hv:=h.lr.vd p x hp;have hv:V[p]?=some (AB (a.2.get x)):=hv;have hdl:=h.lr.nc;grind [N7,au,Gq,RDb.kil,RDb.dec,Bo]
end
theorem AmQ{js:Bk}(hj:js.length<=1000)(hi:∀z∈js,∃q:Nat,z=(q:Int)/\q<V.length):T (AH (ng js) (V,0)) λW=>W.length=V.length/\∀(q:Nat) (b:Bool),V[q]?=some b->W[q]?=some (b||decide ((q:Int)∈js)):=by
 refine T.forA js.length (λk W=>W.length=V.length/\∀(q:Nat) (b:Bool),V[q]?=some b->W[q]?=some (b||decide ((q:Int)∈js.take k))) aa (by grind) (λk W hk a=>?_) λW a=>?_
 .obtain⟨z,hz,c⟩:=dk hk;obtain⟨p,rfl,hp⟩:=hi z c;unfold ng;simp only[eA hk,ax,au,hz,aL];refine .bind (.set aa (by rw[a.1];omega) (.some ⟨aq aa,by rw[List.length_set];exact a.1,λq b h=>?_⟩));rw[E0,List.getElem?_set,Rb hz];grind
 .unfold ng;dsimp only;rw[eF,AQ];rw[DZ] at a;exact .some a
theorem Aa3{σ1 σ2 ρ1 ρ2:Type}{s1:σ1->Option (σ1⊕ρ1)}{s2:σ2->Option (σ2⊕ρ2)}(R:σ1->σ2->Prop)(Q:ρ1->ρ2->Prop)(μ:σ1->Nat)(h:∀a b,R a b->∃u v,s1 a=some u/\s2 b=some v/\Sim (λa' b'=>R a' b'/\μ a'<μ a) Q u v):∀(n:Nat) (a:σ1) (b:σ2),μ a<n->R a b->∃q r,KN s1 n a=some q/\KN s2 n b=some r/\Q q r
 |0,a,b,hm,_=>absurd hm (Nat.not_lt_zero _)
 |n+1,a,b,hm,hR=>by
  obtain⟨u,v,e1,e2,hs⟩:=h a b hR;unfold KN;rw[e1,e2];cases u with
  |inl a'=>
   cases v with
   |inl b'=>exact Aa3 R Q μ h n a' b' (by have:=hs.2;omega) hs.1
   |inr b'=>exact hs.elim
  |inr a'=>
   cases v with
   |inl b'=>exact hs.elim
   |inr b'=>exact⟨_,_,rfl,rfl,hs⟩
section
variable {g:A7} {m:IX} {N:IH} (P:Pg g m N)
include P
theorem Ab3{l:Bk}(hi:EF g l)(hp:g.IDs[p]?=some x):(p:Int)∈l↔x∈HR g l:=by grind [He,OP,Pg.w,MY,Fo.nd]
theorem Ak6(h:RDc g (Bx g m N) dl al s a b){p:Nat}{x:Ab}(hp:g.IDs[p]?=some x)(hb:b.2.2=(p:Int)):AH (nh g dl b) ([],0)=some (dl.Row.filter λz=>(λy=>DG (Bx g m N) x y||(decide (y∈a.1.filter λx=> !AB (a.2.get x))&&DQ (Bx g m N) al.row x y)) ((g.IDs[z.toNat]?).getD ⟨0,0,0⟩)):=by
 have w:=P.w;have nI:=w.nI;have hr:dl.Row.length<=1000:=h.lr.nr;have hpl:p<g.L.length:=by grind
 generalize hf:(λy=>DG (Bx g m N) x y||(decide (y∈a.1.filter λx=> !AB (a.2.get x))&&DQ (Bx g m N) al.row x y))=f;refine T.eq (T.forA dl.Row.length (λk acc=>acc=(dl.Row.take k).filter λz=>f ((g.IDs[z.toNat]?).getD ⟨0,0,0⟩)) aa aC (λk acc hk hj=>?_) λacc hj=>?_)
 .obtain⟨z,hz,_⟩:=dk hk;have hrow:EF g dl.Row:=h.lr.row;obtain⟨q,y,rfl,d,hq,i⟩:=OP w hrow hz;have hnm:HR g dl.Row=al.row:=h.lr.nm;rw[hnm] at i;have hyr:=bO i;have hal:acc.length<=k:=by grind
  have e:(dl.Row.take (k+1)).filter (λz=>f ((g.IDs[z.toNat]?).getD ⟨0,0,0⟩))=acc++(if f y=true then[(q:Int)] else[]):=by rw[Rb hz,Nj,<-hj];cases hfy:f y<;>simp[hq,hfy]
  have hw:=AeF P h.lr hpl d hp hq;unfold nh;simp only[eA hk,ax,au,hz,aL,hb,Ab1 P hpl d hp hq,Air P h.toRDb hq hyr];refine .bind (T.mono (Q:=λc=>c=f y) ?_ λc hc=>?_)
  .rw[<-hf];dsimp only;cases DG (Bx g m N) x y<;>grind [T.some]
  .subst hc;cases hfy:f y with
   |true=>rw[hfy,Bz rfl] at e;exact .bind (.app cq (.some ⟨aq aa,e.symm⟩))
   |false=>rw[hfy,BU aC,Md] at e;exact .some ⟨aq aa,e.symm⟩
 .unfold nh;dsimp only;rw[eF,AQ];refine .some (show acc=_ from ?_);rw[hj,DZ]
theorem ltE(c:s.Nodup)(hsl:s.length<=12)(h:Lr g dl al):∀x∈al.row,∀y∈al.row,decide (Sr (NR g.Cards s) x.By<Sr (NR g.Cards s) y.By)=decide (snD s ((Bx g m N).o x).By<snD s ((Bx g m N).o y).By):=by
 have w:=P.w;have pos:∀x∈al.row,∃q:Nat,q<g.L.length/\g.IDs[q]?=some x:=λx hx=>by rw[<-h.nm] at hx;obtain⟨z,hz,e⟩:=Fl.1 hx;obtain⟨j,hj⟩:=He hz;obtain⟨n,y,rfl,hn,hy,_⟩:=OP w h.row hj;grind
 intro x hx y hy;obtain⟨p,hp,a⟩:=pos x hx;obtain⟨q,hq,b⟩:=pos y hy;obtain⟨o,ho,_⟩:=w.op hp;obtain⟨d,ho2,_⟩:=w.op hq;rw[(P.op ho a).2,(P.op ho2 b).2,<-(P.od p o x ho a).i,<-(P.od q d y ho2 b).i];refine Ai5 c hsl ?_ ?_
 .rw[(P.od p o x ho a).i];exact P.dv p o x ho a
 .rw[(P.od q d y ho2 b).i];exact P.dv q d y ho2 b
theorem nxE(b:s.Nodup)(hsl:s.length<=12)(h:RDb g (Bx g m N) dl al a V D):T (vL g {dl with Void:=V,Decided:=D} s) λnx=>NxQ g m N (wV al a.2) (a.1.filter λx=> !AB (a.2.get x)) (λx y=>decide (Sr (NR g.Cards s) x.By<Sr (NR g.Cards s) y.By)) nx:=Ak3 P h.lr (show s.length<=1000 by omega) (Ab2 (List.filter_sublist.trans h.sub) h.lr.nd) (λ_ _ hp hx=>Air P h hp hx) (ltE P b hsl h.lr)
theorem Ak7(j:s.Nodup)(hsl:s.length<=12)(h:RDc g (Bx g m N) dl al s a b):∃u v,Aem (Bx g m N) al (NR g.Cards s) a=some u/\tw g dl s b=some v/\Sim (λa' b'=>RDc g (Bx g m N) dl al s a' b'/\a'.1.length<a.1.length) (λ(v:FM Ab Bool) (r:List Bool×List Bool)=>Lr g {dl with Void:=r.1,Decided:=r.2} (wV al v)) u v:=by
 have w:=P.w;have nL:=w.nL;have nI:=w.nI;have hrow:EF g dl.Row:=h.lr.row;have hnm:HR g dl.Row=al.row:=h.lr.nm;have hnd:al.row.Nodup:=h.lr.nd;have hnr:dl.Row.length<=1000:=h.lr.nr;have hrl:al.row.length=dl.Row.length:=by rw[<-hnm,Hq]
 obtain⟨nx,e1,A⟩:=nxE P j hsl h.toRDb;obtain⟨v0,hv⟩:∃v0,tw g dl s b=v0:=⟨_,rfl⟩;rw[hv];have E:=M0 (λx=> !AB (a.2.get x)) a.1;have hkl:=λp x hp hb=>Ak6 P h (p:=p) (x:=x) hp hb;have hl1s:(a.1.filter λx=> !AB (a.2.get x)).Sublist al.row:=List.filter_sublist.trans h.sub;have hlen:a.1.length<=1000:=by have:=h.sub.length_le;omega
 have hmem:∀y,y∈(a.1.filter λx=> !AB (a.2.get x))↔y∈a.1/\AB (a.2.get y)=false:=by grind
 unfold Aem;rw[CM hlen,ax];dsimp only;generalize (a.1.filter λx=> !AB (a.2.get x))=l1 at*;have hl1n:l1.Nodup:=hnd.sublist hl1s;have hl1l:l1.length<=1000:=by have:=hl1s.length_le;omega
 rw[h.nx] at e1;obtain rfl:=Bo e1;obtain⟨r,e2,hr⟩:=AmP (I:=Bx g m N) (row:=al.row) (sen:=NR g.Cards s) hl1l;rw[e2];rcases A with⟨p,x,f,hp,hxl,hx⟩|⟨h0,hb⟩
 .obtain⟨i,J,rfl,hi,hx'⟩:=hr.resolve_right (by grind);obtain rfl:x=J:=by grind
  have hil:=(cr hi).1;have hxr:=hl1s.subset hxl;have hpl:p<g.L.length:=by grind
  rw[show decide (ah l1=0)=false from C5 (by unfold ah;omega),AQ,aL,au,hi,aL,E0];obtain⟨gd,e3,g1,g2,H,M⟩:=AeE P h.lr;have hgood:QF gd (p:Int)=(EA (Bx g m N) (wV al a.2)).any (λz=>decide (x=z)):=by rw[JB,Bool.eq_iff_iff,List.any_eq_true,decide_eq_true_iff,Ab3 P g1 hp,H];constructor<;>grind
  have hlp:∀y,y∈l1.eraseIdx i↔y∈l1/\y≠x:=λy=>by
   have hsp:l1=l1.take i++x::l1.drop (i+1):=by grind [List.drop_eq_getElem_cons,Pp]
   have B:=hl1n;rw[hsp,List.perm_middle.nodup_iff,LE] at B;rw[List.eraseIdx_eq_take_drop_succ];constructor
   .intro hy;constructor<;>grind [List.mem_of_mem_drop]
   .rintro⟨hy,hne⟩;rw[hsp] at hy;rcases Jo.1 hy with hy|hy
    .exact Jo.2 (.inl hy)
    grind
  have hvl:b.1.length=g.L.length:=h.lr.nv;have hdl:b.2.1.length=g.L.length:=h.lr.nc;have key:∀(t:Bk) (d:FM Ab Bool),t.length<=1000->(∀z∈t,∃q:Nat,z=(q:Int)/\q<b.1.length)->(∀(q:Nat) (y:Ab),g.IDs[q]?=some y->AB (d.get y)=(AB (a.2.get y)||decide ((q:Int)∈t)))->T ((ji b.2.1 b.2.2 true).bind λk=>(AH (ng t) (b.1,0)).bind λl=>(vL g ({dl with Void:=l,Decided:=k}) s).bind λC=>some (.inl (l,k,C))) λ(v:(List Bool×List Bool×Int)⊕(List Bool×List Bool))=>Sim (λa' b'=>RDc g (Bx g m N) dl al s a' b'/\a'.1.length<a.1.length) (λ(v:FM Ab Bool) (r:List Bool×List Bool)=>Lr g {dl with Void:=r.1,Decided:=r.2} (wV al v)) (.inl (l1.eraseIdx i,d)) v:=λt d hjl D n=>by
   rw[f];refine .bind (.set aa aa (.bind ((AmQ hjl D).mono λW F=>?_)));rw[E0];have hL:Lr g {dl with Void:=W,Decided:=b.2.1.set p true} (wV al d):=⟨hrow,hnm,hnd,hnr,F.1.trans hvl,by grind,h.lr.fk,λq y hq=>by show W[q]?=some (AB (d.get y));rw[n q y hq];exact F.2 q _ (h.lr.vd q y hq)⟩
   have hb:RDb g (Bx g m N) dl al (l1.eraseIdx i,d) W (b.2.1.set p true):=by
    refine⟨hL,(List.eraseIdx_sublist l1 i).trans hl1s,(by grind [RDb.kil,h.toRDb]),λq y hq hy hk o=>?_⟩;dsimp only at o⊢;rw[n q y hq] at o;have hvy1:AB (a.2.get y)=false:=by grind
    rw[List.getElem?_set];by_cases c:p=q
    .grind
    .have hne:y≠x:=λe=>c (by rw[e] at hq;exact MY w.nd hp hq);rw[BU c,h.dec q y hq hy hk hvy1];grind
   obtain⟨K,e4,_⟩:=nxE P j hsl hb;rw[e4,aL];exact .some ⟨⟨hb,e4⟩,by show(l1.eraseIdx i).length<_;rw[List.length_eraseIdx_of_lt hil];omega⟩
  unfold tw at hv;rw[f,show decide ((0:Int)<=(p:Int))=true from CM aa,ax,e3,aL,cX aa,aL,hkl p x hp f,aL,hgood] at hv;rw[<-f] at hv;cases hg:(EA (Bx g m N) (wV al a.2)).any (λz=>decide (x=z)) with
  |true=>
   rw[hg,Bool.not_true,AQ,aL] at hv;rw[ax];obtain⟨v',ev,hs⟩:=key (dl.Row.filter λz=>(λy=>DG (Bx g m N) x y||(decide (y∈l1)&&DQ (Bx g m N) al.row x y)) ((g.IDs[z.toNat]?).getD ⟨0,0,0⟩)) (vAl (Bx g m N) al.row (l1.eraseIdx i) x a.2) (LV (M0 _ _) hnr) (λz hz=>by
    obtain⟨q,e,hq⟩:=hrow.nat (GV.1 hz).1;exact⟨q,e,aa⟩) λq y hq=>by
    unfold vAl;rw[AcU];congr 1;have h1:decide ((q:Int)∈dl.Row.filter λz=>(λy=>DG (Bx g m N) x y||(decide (y∈l1)&&DQ (Bx g m N) al.row x y)) ((g.IDs[z.toNat]?).getD ⟨0,0,0⟩))=(decide (y∈al.row)&&(DG (Bx g m N) x y||(decide (y∈l1)&&DQ (Bx g m N) al.row x y))):=by rw[Bool.eq_iff_iff,decide_eq_true_iff,GV,bA,decide_eq_true_iff,Ab3 P hrow hq,hnm,E0,hq,M1]
    rw[h1];congr 2;have h2:(l1.eraseIdx i).any (λz=>decide (y=z))=decide (y∈l1/\y≠x):=by rw[Bool.eq_iff_iff,List.any_eq_true,decide_eq_true_iff,<-hlp];constructor<;>grind
    rw[h2];by_cases c:y=x
    .subst c;unfold DQ;simp
    .simp[c]
   exact⟨_,v',rfl,by rw[<-hv,ev],hs⟩
  |false=>
   rw[hg,Bool.not_false,ax,aL] at hv;rw[AQ];obtain⟨v',ev,hs⟩:=key [b.2.2] (C6 a.2 x true) aC (by grind) λq y hq=>by
    rw[BA,f];by_cases c:y=x
    .subst c;have:q=p:=MY w.nd hq hp;rw[Bz rfl,this];simp[AB]
    .have:¬((q:Int)=(p:Int)):=λe=>c (by have:q=p:=aa;grind)
     rw[BU c];simp[this]
   exact⟨_,v',rfl,by rw[<-hv,ev],hs⟩
 .rw[h0,show decide (ah ([]:A3)=0)=true from rfl,ax];unfold tw at hv;rw[hb,show decide ((0:Int)≤-1)=false from rfl,AQ] at hv;exact⟨_,_,rfl,hv.symm,h.lr⟩
include P
theorem AeH(hrm:∀x∈row,x∈g.IDs):(Mi (Bx g m N) row).Nodup/\(Mi (Bx g m N) row).length<=12:=by have h1:(Mi (Bx g m N) row).Nodup:=AcR .nil;refine⟨h1,Ak2 h1 ?_⟩;refine Aa1 (Q:=λd=>1<=d/\d<=12) (λx hx d hd=>?_) (by grind);obtain⟨i,hi⟩:=He (hrm x hx);have:=(cr hi).1;obtain⟨o,ho,so,a⟩:=P.w.op (i:=i) (by have:=P.w.nI;omega);rw[(P.op ho hi).2] at hd;exact Aa0 a hd
theorem Aa4(hi:DL g ids)(ho:n8 g ids=some row)(hrn:row.Nodup)(hr:row.length<=1000)(hrm:∀x∈row,x∈g.IDs)(hv:vJ ids=some vs)(b:vs.length<=1000)(hvm:∀x∈vs,x∈g.IDs):T (oR g ids) λc=>∃v,Yb (Bx g m N) (LC ⟨g.Cards,m,N⟩ row vs) (NR g.Cards (Mi (Bx g m N) row))=some v/\Lr g c (wV (LC ⟨g.Cards,m,N⟩ row vs) v):=by
 unfold oR;refine .bind ((Ak4 P hi ho hrn hr hrm hv b hvm).mono λv1 ⟨hL,hD⟩=>?_);rw[Aa2 P ho hr hrm,aL];obtain⟨s1,s2⟩:=AeH P hrm;have hR:RDb g (Bx g m N) v1 (LC ⟨g.Cards,m,N⟩ row vs) (row.filter (λx=> !!Gq ((Bx g m N).o x).Kind),(LC ⟨g.Cards,m,N⟩ row vs).void) v1.Void v1.Decided:=⟨hL,List.filter_sublist,(by grind),λp x hp hx hk _=>by have hpl:=(cr hp).1;have hm:x∈row.filter (λx=> !!Gq ((Bx g m N).o x).Kind):=GV.2 ⟨hx,by rw[hk];rfl⟩;grind [Lr]⟩
 obtain⟨nx,e3,_⟩:=nxE P s1 s2 hR;rw[show vL g v1 (Mi (Bx g m N) row)=some nx from e3,aL];obtain⟨v,r,h1,h2,h3⟩:=Aa3 (s1:=Aem (Bx g m N) (LC ⟨g.Cards,m,N⟩ row vs) (NR g.Cards (Mi (Bx g m N) row))) (s2:=tw g v1 (Mi (Bx g m N) row)) (RDc g (Bx g m N) v1 (LC ⟨g.Cards,m,N⟩ row vs) (Mi (Bx g m N) row)) (λ(v:FM Ab Bool) (r:List Bool×List Bool)=>Lr g {v1 with Void:=r.1,Decided:=r.2} (wV (LC ⟨g.Cards,m,N⟩ row vs) v)) (λa=>a.1.length) (by grind [Ak7]) FU _ (v1.Void,v1.Decided,nx) (by grind [FU]) ⟨hR,e3⟩;rw[show AH (tw g v1 (Mi (Bx g m N) row)) (v1.Void,v1.Decided,nx)=some r from h2,aL];exact .some ⟨v,h1,h3⟩
theorem Ak8{l:Bk}(hi:EF g l)(hl:l.length<=1000)(hnd:(HR g l).Nodup):T (AH (tQ g l) (⟨g.Cards,[],[],[],0,[]⟩,0)) λD=>Rr (Te (Bx g m N) (HR g l)) D/\Bh (Te (Bx g m N) (HR g l))/\Ja g 1000 D:=by
 have w:=P.w;have nI:=w.nI;obtain⟨b,e0,c⟩:=Ak0 (P.new);have hD0:b=⟨g.Cards,[],[],[],0,[]⟩:=(Bo e0).symm;subst hD0;refine T.forA l.length (λj D=>(Rr (((HR g l).take j).foldl (MT (Bx g m N)) (Hl g.Cards)) D/\Bh (((HR g l).take j).foldl (MT (Bx g m N)) (Hl g.Cards))/\Gs (((HR g l).take j).foldl (MT (Bx g m N)) (Hl g.Cards)) ((HR g l).take j))/\Ja g j D) aa ⟨⟨c,Lw P.cd.r,λq z g h=>by cases h⟩,Mv g⟩ (λj D hj hr=>?_) λD hr=>?_
 .obtain⟨y,hy,hm⟩:=dk hj;obtain⟨i,x,rfl,hil,hx,a⟩:=OP w hi hy;obtain⟨o,ho,so,p⟩:=w.op hil;obtain⟨⟨h1,h2,h3⟩,h4⟩:=hr;have hod:=P.od i o x ho hx;have d:=(P.op ho hx).2;have et:((HR g l).take (j+1)).foldl (MT (Bx g m N)) (Hl g.Cards)=U0 (((HR g l).take j).foldl (MT (Bx g m N)) (Hl g.Cards)) o x:=by rw[Rb a,LX,List.foldl_cons,List.foldl_nil];grind [MT]
  have hxS:x∉(HR g l).take j:=by grind [He,MY]
  rw[et,Rb a];generalize ((HR g l).take j).foldl (MT (Bx g m N)) (Hl g.Cards)=R at h1 h2 h3⊢;unfold tQ;simp only[eA hj,ax,au,hy,ho,hx,aL];have z:=Ul P h4 aa;have k:=h4.dev;have n:=h4.nL;exact .bind ((T.and (doE z (by grind) h1 h2 λ_ q z f k1 k2 e=>by have:=h3 q z f k1 k2;grind) (Gc w aa h4 so x)).mono λv hv=> .some (by constructor<;>grind [aq,R4,Aip]))
 .unfold tQ;dsimp only;rw[eF,AQ];have hl2:(HR g l).length=l.length:=Hq ..;rw[<-hl2,DZ] at hr;exact .some ⟨hr.1.1,hr.1.2.1,hr.2.up aa⟩
theorem Ak9{ids row vs:A3}(hi:DL g ids)(ho:n8 g ids=some row)(hrn:row.Nodup)(hr:row.length<=1000)(hrm:∀x∈row,x∈g.IDs)(hv:vJ ids=some vs)(a:vs.length<=1000)(hvm:∀x∈vs,x∈g.IDs):T (zY g ids) λD=>∃cs,Aen (Bx g m N) (LC ⟨g.Cards,m,N⟩ row vs) (Mi (Bx g m N) row)=some cs/\cs.Sublist row/\Rr (Te (Bx g m N) cs) D/\Bh (Te (Bx g m N) cs)/\Ja g 1000 D:=by
 unfold zY AV;rw[aL];refine .bind ((Aa4 P hi ho hrn hr hrm hv a hvm).mono λe hdl=>?_);obtain⟨v,h1,h2⟩:=hdl;refine .bind ((AeE P h2).mono λr b=>?_);obtain⟨g1,g2,d,c⟩:=b;have hcs:Aen (Bx g m N) (LC ⟨g.Cards,m,N⟩ row vs) (Mi (Bx g m N) row)=some (HR g r):=by unfold Aen;rw[show(Bx g m N).cards=g.Cards from rfl,h1,d];rfl
 refine .bind ((Ak8 P g1 g2 (hrn.sublist c)).mono λD hD=> .some ⟨HR g r,hcs,c,hD⟩)
end
theorem AgP{D:C7}(z:Sz D)(h:Rr R D)(hR:Bh R):lu D=some (GR R):=by
 obtain⟨a,b,_⟩:=LT hR;unfold lu;refine T.eq (.bind ((ZK z.i).mono λv hv=> .some ?_));refine U2 (hv.1.trans (List.Perm.trans ?_ b.symm)) hv.2 a;refine(List.perm_ext_iff_of_nodup (List.nodup_append.1 h.nd).1 hR.ci.kd).2 λe=>?_;have hi:=h.in_ e;constructor
 .grind [GL]
 .intro he;obtain⟨q,hq,rfl⟩:=Fl.1 he;have hg:=JH hR.ci (k:=q.1) (v:=q.2.1) (n:=q.2.2) hq;grind
theorem Us:fg prog 109=some true:=aH
theorem Nt:Ace prog gl Bu (λx=>[.agg (Bu x)]) 212:=λs f fi_f fa_f fc_f a=>
 cy func212 λK=>OY 1101 (λg=>sg [] []) (λs1=>sf [] [(7,iG (ah s)),(8,iG s1)]) [hc (a.im)] K (λg=>rv K) λs1 k5 h k6=>aF 9 (CD 14 Bg.ixZ 15 (Bg.ptZ Hs) λd=>ak λi e=>kV (λb=>aw [hz 16 [] (cS (a.cs (c:=0) e (aY (aG 20 (.agg (Bu d)) aH) (bf))) b)]<|aP c3 k6 []) λb=>aw [hz 16 [] (cS (a.cs (c:=0) e (aY (aG 20 (.agg (Bu d)) aH) (bf))) b)]<|cj k5 [hc (a.im)])<|aA c2 h []
theorem LR:Acf prog gl Bu (λx=>[.agg (Bu x)]) 115:=λs f fi_f fa_f fc_f a=>
 cy func115 λK=>ak λv1 e2=>aw [hz 7 [] (jf (c:=0) aH (Nt gl (a) e2) (aY (aG 20 (aE Bu s) aH) (aY (a.im) (bf))))]<|rv K
def JD(f:Bf)(a1:Bi):Fm:=
 (bif f.Device=a1.By then(some (decide (f.Seq<=a1.Seq)))else(some false)).bind λa=>some a
theorem UA{f a1}:DC prog gl (JD f a1) 117 [.agg (Bu f),.ptr (aJ a1) 0] bG:=
 cy func117 λK=>cN [1,0] (so [0] [(2,.ref 0 0)] [ob 0 165 (Bu f)] 1) []<|cC [1,0] (λa=>sk [] [(3,bG a)] [] 0) (λa=>rv K) λa k3=>aF 8 (rx k3)<|rx k3
def Aad(a:Ad)(device:Int):Fm:=
 some (Hf (a.in_.get device))
theorem UB{r_ device}:DC prog gl (Aad r_ device) 121 [.ptr (CB r_) 0,iG device] bG:=
 cy func121 λK=>aw [hm 10 (Sx r_.in_ device)]<|rv K
def SK(d:Int)(a1:Bk):Fm:=
 (Acg a1 d).bind λv1=>some (!v1)
theorem UC{d a1}:DC prog gl (SK d a1) 122 [iG d,.ptr [aE cZ a1] 0] bG:=
 cy func122 λK=>BW 6 (DH gl) λv1=>rv K
section
variable {gl:Cd}
abbrev InV(gl:Cd)(fi:FuncId)(a b:Bj)(p:Int->Bool):Prop:=R1 prog gl fi a b (λx:Int=>[iG x]) (λx:Bool=>bG x) (λk=>some (p k))
theorem Ade{p:Int->Bool}(hv:InV gl fi fa fc p){l:Bk}(hn:l.length<=1000000):iV prog gl 119 [aE cZ l,.clo (.func fi) fa fc] 3 (l.filter p).length ((l.filter p).flatMap cZ):=by
 refine OW func119 ?_;refine pN (λk:Nat=>(s0 23 gl [(1,.clo (.func fi) fa fc),(5,.rsl 0 0 ((l.take k).filter p).length),(8,aE cZ l),(9,iG (ah l)),(10,iG (k:Int))] [(0,JG ((l.take k).filter p))] 1 0)) 1110122 (Aau (n:=l.length) aa) [] [hc hv.im,hc (rZ.imm [])] (λB k w hs k5 a=>?_) [3] [(0,0)] [(0,.row)];unfold Aed at hs;split at hs
 .rename_i hlt;obtain rfl:=Bo hs;obtain⟨x,hx⟩:∃x,l[k]?=some x:=⟨_,Ef hlt⟩;have hz:=Bp hx;have k5:=k5 _ rfl;have hl:((l.take k).filter p).length<=k:=LV (M0 _ _) (by rw[LW];omega);rw[Hr,hx,Option.toList_some,Nj] at k5;generalize (l.take k).filter p=q at k5 hl⊢;have hcs:=hv.cs (c:=1) (x:=x) rfl (aY (aG 20 (iG x) aH) bf);cases hp:p x with
  |true=>rw[hp] at hcs;rw[List.filter_cons_of_pos hp,List.filter_nil] at k5;exact jw [hr 11 (C3 hx),Az 12 (rZ.ixZ hz),Az 13 (rZ.p1Z tZ hz),Go.Proofs.YtlijnaneopediaaGreatDoor.hz 16 [] hcs,Tn 20 rZ 8 q x aa,hbb 21 (Xl (q:=k) aa)] [hc hv.im,hc (el (q++[x])),hc (rZ.imm (q++[x]))] k5 [] [(0,2)] [(0,.row)]
  |false=>rw[hp] at hcs;rw[List.filter_cons_of_neg (by simp[hp]),List.filter_nil,Md] at k5;exact jw [hr 11 (C3 hx),Az 12 (rZ.ixZ hz),Az 13 (rZ.p1Z tZ hz),Go.Proofs.YtlijnaneopediaaGreatDoor.hz 16 [] hcs,hbb 21 (Xl (q:=k) aa)] [hc hv.im,hc (el q),hc (rZ.imm q)] k5 [] [(0,0)] [(0,.row)]
 .split at hs
  .rename_i he;subst he;rw[DZ];exact EI [hr 11 (D4 (s:=l))] (rZ.imm (l.filter p))
  .cases hs
end
def nmS(p:Nat->Bool)(N:IH):A3:=(N.zipIdx.filter λq=>p q.2).map (·.1.id)
theorem Afp{p:Nat->Bool}{x:CY}(h:N[k]?=some x):nmS p (N.take (k+1))=nmS p (N.take k)++bif p k then[x.id] else[]:=by grind [nmS,Hr]
theorem Adf{p:Nat->Bool}:(nmS p N).length<=N.length:=by grind [nmS,List.length_zipIdx]
section
variable {gl:Cd}
theorem Ahl(a b:Ab):ba prog gl 174 [.agg (aj a),.agg (aj b)] (iG (Hg a b)):=by
 have h1:=Tl (gl:=gl) a b;have h2:=Tl (gl:=gl) b a;unfold Hg;refine Gh func174 ?_;cases c1:dt a b with
 |true=>rw[c1] at h1;exact Ar [hf 8 h1] []
 |false=>
  rw[c1] at h1;cases c2:dt b a with
  |true=>rw[c2] at h2;exact Ar [hf 8 h1,hf 12 h2] []
  |false=>rw[c2] at h2;exact Ar [hf 8 h1,hf 12 h2] []
theorem Ajy:CmV gl 174 [] [] Hg:=⟨aH,bf,bf,(by grind [Ahl])⟩
abbrev NmV(gl:Cd)(fi:FuncId)(a b:Bj)(p:Nat->Bool):Prop:=R1 prog gl fi a b (λx:Nat=>[iG (x:Int)]) (λx:Bool=>bG x) (λk=>bif k<200 then some (p k)else none)
theorem Afq(hn:gg.nodes.length<=14){p:Nat->Bool}(hv:NmV gl fi fa fc p){r:A3}(h:RW Hg (nmS p gg.nodes)=some r)(hle:r.length=(nmS p gg.nodes).length):iV prog gl 85 [.ptr (Ag gg) 0,.clo (.func fi) fa fc] 36 r.length (r.flatMap aj):=by
 rw[hle];refine OW func85 ?_;refine Za (l:=gg.nodes) aa (λk:Nat=>(s0 30 gl [(1,.clo (.func fi) fa fc),(5,.rsl 0 0 (nmS p (gg.nodes.take k)).length),(11,aE d7 gg.nodes),(12,iG (ah gg.nodes)),(13,iG (k:Int))] [(0,Bt (nmS p (gg.nodes.take k)))] 1 0)) 1110122 [] [hc hv.im,hc (ac.imm [])] (λB k x hx hz k5=>?_) (λB=>?_)
 .have hlt:=(cr hx).1;have hl:(nmS p (gg.nodes.take k)).length<=k:=by grind [Adf]
  rw[Afp hx] at k5;generalize nmS p (gg.nodes.take k)=l at k5 hl⊢;have hcs:=hv.cs (c:=2) (x:=k) (by rw[CM (by grind)];rfl) (aY (aG 20 (iG (k:Int)) aH) bf);cases hp:p k with
  |true=>rw[hp] at k5 hcs;exact jw [hr 14 (C3 hx),Az 16 (az.ixZ hz),Az 17 (az.ptZ Us hz),Go.Proofs.YtlijnaneopediaaGreatDoor.hz 20 [] hcs,Tn 25 ac 24 l x.id aa,hbb 26 (Xl (q:=k) aa)] [hc hv.im,hc (el (l++[x.id])),hc (ac.imm (l++[x.id]))] k5
  |false=>rw[hp] at k5 hcs;rw[AQ,Md] at k5;exact jw [hr 14 (C3 hx),Az 16 (az.ixZ hz),Az 17 (az.ptZ Us hz),Go.Proofs.YtlijnaneopediaaGreatDoor.hz 20 [] hcs,hbb 26 (Xl (q:=k) aa)] [hc hv.im,hc (el l),hc (ac.imm l)] k5
 .rw[DZ];exact EI [hr 14 (D4 (s:=gg.nodes)),hso (gl:=gl) 28 1 Ajy (LV Adf hn) h] (ac.imm r)
def Rh(gg:Aj)(l:A3):OR:=l.foldl (λs x=>match M7 gg x with|some y=>Rf s y.past|none=>s) z4
theorem Afr(hg:Uc gg)(hn:ids.length<=1000000):ba prog gl 177 [.ptr (Ag gg) 0,aE aj ids] (.agg (FSq (Rh gg ids))):=by
 refine Gh func177 ?_;refine Za (l:=ids) aa (λk:Nat=>(s0 37 gl [(0,.ptr (Ag gg) 0),(4,.ref 0 0),(5,.ref 1 0),(10,aE aj ids),(11,iG (ah ids)),(12,iG (k:Int))] [(0,oA z4),(1,oA (Rh gg (ids.take k)))] 2 0)) 1110122 [] [] (λB k x hx hz k5=>?_) (λB=>?_) [] [(0,0),(1,1)] []
 .have hlt:=(cr hx).1;have e:Rh gg (ids.take (k+1))=match M7 gg x with|some y=>Rf (Rh gg (ids.take k)) y.past|none=>Rh gg (ids.take k):=by unfold Rh;rw[Hr,hx,Option.toList_some,LX];rfl
  rw[e] at k5;generalize Rh gg (ids.take k)=s at k5⊢;have hk:=H7 gg.at_ x;cases em:gg.at_.get x with
  |none=>rw[em] at hk;rw[WE em] at k5;exact jw [hr 13 (C3 hx),Az 14 (ac.ixZ hz),Az 15 (ac.ptZ aW hz),hm 22 hk,hbb 35 (Xl (q:=k) aa)] [] k5 [] [(0,0),(1,1)] []
  |some n=>rw[em] at hk;obtain⟨j,y,rfl,hy,e2,_⟩:=Ud hg em;rw[e2] at k5;exact jw [hr 13 (C3 hx),Az 14 (ac.ixZ hz),Az 15 (ac.ptZ aW hz),hm 22 hk,Az 31 (az.ixZ hy),Az 33 (az.fsZ aap aaq 30 B5 hy),tN 34 [1] 3 [(1,oA s)] [.ref 1 0,.agg (FSq y.past)] [(0,oA (Rf s y.past))] (TX gl s y.past) ⟨⟨rfl,.inl rfl⟩,trivial⟩ ⟨⟨rfl,.inl rfl⟩,trivial⟩,hbb 35 (Xl (q:=k) aa)] [] k5 [] [(0,0),(1,1)] []
 .rw[DZ];exact Ar [hr 13 (D4 (s:=ids))] []
theorem Ahm(s:OR)(hn:n<256):ba prog gl 65 [.ptr (FSq s) 0,iG (n:Int)] (bG (gW s n)):=by
 have h:=Xa (s:=s) hn;generalize gW s n=r at h⊢;have hm:u9 (n:Int) 64=some ((n%64:Nat):Int):=by grind [u9]
 have hcn:wJ ((n%64:Nat):Int)=some (n%64):=by grind [wJ]
 have hq:∀q:Nat,n/64=q->Gg (n:Int) 64=some (q:Int):=by grind [Gg,Mx]
 have hd:wI (Int.tdiv (n:Int) 64)=((n/64:Nat):Int):=by grind [bM]
 have ht:Int.tmod (n:Int) 64=((n%64:Nat):Int):=by grind
 unfold iX at h;rw[hd,ht,hcn] at h;refine Gh func65 ?_;have h4:n/64=0\/n/64=1\/n/64=2\/n/64=3:=aa;rcases h4 with e|e|e|e
 .rw[e] at h;obtain rfl:=Bo h;exact Ar [hbb 7 (Tt (hq 0 e)),hbb 12 (KO hm),hV 13 (Am (P:=prog) (t:=34) s.a0 hcn),hV 14 (ju (P:=prog) (t:=34) (Jq s.a0 (n%64)) 1)] []
 .rw[e] at h;obtain rfl:=Bo h;exact Ar [hbb 7 (Tt (hq 1 e)),hbb 12 (KO hm),hV 13 (Am (P:=prog) (t:=34) s.a1 hcn),hV 14 (ju (P:=prog) (t:=34) (Jq s.a1 (n%64)) 1)] []
 .rw[e] at h;obtain rfl:=Bo h;exact Ar [hbb 7 (Tt (hq 2 e)),hbb 12 (KO hm),hV 13 (Am (P:=prog) (t:=34) s.a2 hcn),hV 14 (ju (P:=prog) (t:=34) (Jq s.a2 (n%64)) 1)] []
 .rw[e] at h;obtain rfl:=Bo h;exact Ar [hbb 7 (Tt (hq 3 e)),hbb 12 (KO hm),hV 13 (Am (P:=prog) (t:=34) s.a3 hcn),hV 14 (ju (P:=prog) (t:=34) (Jq s.a3 (n%64)) 1)] []
theorem Ahn(s:OR):NmV gl 65 [.ptr (FSq s) 0] [] (gW s):=⟨aH,aY (aG 20 _ aH) bf,bf,(by grind [Ahm])⟩
theorem Adg(hg:Uc gg)(hn:gg.nodes.length<=14){ids r:A3}(hi:ids.length<=1000000)(h:RW Hg (nmS (gW (Rh gg ids)) gg.nodes)=some r)(hle:r.length=(nmS (gW (Rh gg ids)) gg.nodes).length):iV prog gl 88 [.ptr (Ag gg) 0,aE aj ids] 36 r.length (r.flatMap aj):=by refine OW func88 ?_;exact EI [hf 8 (Afr (gl:=gl) hg hi),ho 11 [.ptr (Ag gg) 0,.clo (.func 65) [.ptr (FSq (Rh gg ids)) 0] []] [] (Afq (gl:=gl) hn (Ahn _) h hle) (kF r)] (ac.imm r)
theorem Afs{l:A3}{x:Ab}{i c:Nat}(hn:l.length<=100000):oJ prog gl 180 [.rsl i 0 l.length,.agg (aj x)] [(i,Bt l)] c (bG (l.any λy=>decide (x=y))) [] c:=
 Ou aH (Jm gl (Uw aa x)) (lR _) rfl λst h j y z h1 h2=>by
  match j with
  |0=>grind [AaF]
  |1=>cases h1;cases h2;exact jB (aG 20 (.agg (aj x)) aH)
  |j+2=>cases h1
def K0(I:Gi)(p l:A3):A3:=l.foldl (λr x=>bif 0<I.lev x then bif r.any λy=>decide (x=y)then r else r++[x]else r) p
theorem Abq{I:Gi}:∀{l p:A3},(K0 I p l).length<=p.length+l.length
 |[],p=>Dx _
 |x::l,p=>by have a:K0 I p (x::l)=K0 I (bif 0<I.lev x then bif p.any λy=>decide (x=y)then p else p++[x]else p) l:=rfl;rw[a];refine LV Abq ?_;grind
theorem Aft(h:O8 gl gg I){p:A3}(hp:iV prog gl 88 [.ptr (Ag gg) 0,aE aj o.Past] 36 p.length (p.flatMap aj))(hn:p.length+o.Past.length<=100000):iV prog gl 114 [.ptr (Ag gg) 0,.agg (aJ o)] 36 (K0 I p o.Past).length ((K0 I p o.Past).flatMap aj):=by
 refine OW func114 ?_;refine Za (l:=o.Past) aa (λk:Nat=>(s0 35 gl [(0,.ptr (Ag gg) 0),(5,.rsl 0 0 (K0 I p (o.Past.take k)).length),(13,aE aj o.Past),(14,iG (ah o.Past)),(15,iG (k:Int))] [(0,Bt (K0 I p (o.Past.take k)))] 1 0)) 1110122 [ho 11 [.ptr (Ag gg) 0,aE aj o.Past] [] hp (kF p)] [hc (el p),hc (ac.imm p)] (λB k x hx hz k5=>?_) (λB=>?_)
 .have hlt:=(cr hx).1;have hl:(K0 I p (o.Past.take k)).length<=100000:=by grind [Abq]
  have e:K0 I p (o.Past.take (k+1))=bif 0<I.lev x then bif(K0 I p (o.Past.take k)).any λy=>decide (x=y)then K0 I p (o.Past.take k)else K0 I p (o.Past.take k)++[x]else K0 I p (o.Past.take k):=by grind [K0,Hr,Option.toList_some]
  rw[e] at k5;generalize K0 I p (o.Past.take k)=l at k5 hl⊢;have b:=h.lev x;cases c1:decide (0<I.lev x) with
  |false=>rw[c1] at k5;exact jw [hr 16 (C3 hx),Az 17 (ac.ixZ hz),Az 18 (ac.ptZ aW hz),hf 21 b,hr 22 c1,hbb 33 (Xl (q:=k) aa)] [hc (el l),hc (ac.imm l)] k5
  |true=>
   rw[c1] at k5;have a:=Afs (gl:=gl) (l:=l) (x:=x) (i:=0) (c:=2) hl;cases c2:(l.any λy=>decide (x=y)) with
   |true=>rw[c2] at k5 a;exact jw [hr 16 (C3 hx),Az 17 (ac.ixZ hz),Az 18 (ac.ptZ aW hz),hf 21 b,hr 22 c1,Go.Proofs.YtlijnaneopediaaGreatDoor.hz 26 [0] a,hbb 33 (Xl (q:=k) aa)] [hc (el l),hc (ac.imm l)] k5
   |false=>rw[c2] at k5 a;exact jw [hr 16 (C3 hx),Az 17 (ac.ixZ hz),Az 18 (ac.ptZ aW hz),hf 21 b,hr 22 c1,Go.Proofs.YtlijnaneopediaaGreatDoor.hz 26 [0] a,Tn 32 ac 24 l x aa,hbb 33 (Xl (q:=k) aa)] [hc (el (l++[x])),hc (ac.imm (l++[x]))] k5
 .rw[DZ];exact EI [hr 16 (D4 (s:=o.Past))] (ac.imm (K0 I p o.Past))
end
abbrev haS(R:Ad)(sen:Bk):Bk:=sen.filter (O4 R)
abbrev Abr(l:Bk)(d:Int):Bool:= !(l.any λy=>decide (d=y))
def AdZ(fk:Bool)(R:Ad)(o:Bi)(i:Ab)(sen:Bk):Bk:=bif fk then[]else bif K4 R o≠0 then[]else haS (U0 R o i) sen++(GR (U0 R o i)).filter (Abr (haS (U0 R o i) sen))
theorem Aho(gl:Cd)(R:Ad):InV gl 121 [.ptr (CB R) 0] [] (O4 R):=⟨aH,aY (aG 20 (.ptr (CB R) 0) aH) bf,bf,λk r e=>by cases e;exact UB gl rfl⟩
theorem Ahp(gl:Cd){l:Bk}(hl:l.length<=1000000):InV gl 122 [] [.ptr [aE cZ l] 0] (Abr l):=⟨aH,bf,aY (aG 20 (.ptr [aE cZ l] 0) aH) bf,λk r e=>by cases e;exact UC gl (by grind [SK,Uw])⟩
theorem Acm{gl:Cd}(hR:Bh R){l:Bk}(hl:l.length<=1000000){f:Nat->Nat}{c:Nat}(hnd:(Xi f).Nodup):oJ prog gl 119 [aE cZ l,.clo (.func 121) [.ref (f 0) 0] []] (BG f R) c (.rsl c 0 (haS R l).length) [(c,some ⟨3,(haS R l).flatMap cZ,none⟩)] (c+1):=
 AdC aH (Ade (Aho gl R) hl) (lZ _) rfl λst h i x y h1 h2=>by
  have hs:Rls f R st.σ:=λk ob ho=>h _ _ (by rw[Hw,LA (by grind [Acu]) (List.mem_range.2 (DY ho))];exact ho)
  match i with
  |0=>cases h1;cases h2;exact jB (aG 20 (aE cZ l) aH)
  |1=>cases h1;cases h2;refine SX rfl rfl (λj g d a b=>?_) (by grind);grind [AfC]
  |i+2=>cases h1
section
variable {gg:Aj} {I:Gi} (h:O8 fI gg I) {o:Bi} {i:Ab} {s:A3} (hS:iV prog fI 114 [.ptr (Ag gg) 0,.agg (aJ o)] 36 s.length (s.flatMap aj)) {fr:List Bf} (hF:ba prog fI 116 [.ptr (Ag gg) 0,aE aj s] (aE Bu fr)) {fk:Bool} (hK:Abf fr (λf=>JD f o)=some fk) {R:Ad} (hR:Bh R) (hRl:SE prog fI 24 [.ptr (Ag gg) 0,aE aj s] [] 0 0 (.ref 0 0) (BG f0 R)) (hi:ba prog fI 79 [.agg (aJ o)] (.agg (aj i))) (hg:o.Guards.length<=1000000) (hp:K4 R o=0->UE o i) {sen:Bk} (hN:ba prog fI 120 [.ptr (Ag gg) 0,aE aj s] (aE cZ sen)) (hn:sen.length<=1000)
include hS hF hK hR hRl hi hg hp hN hn
theorem Afu:iV prog fI 58 [.ptr (Ag gg) 0,.agg (aJ o)] 3 (AdZ fk R o i sen).length ((AdZ fk R o i sen).flatMap cZ):=by
 have a:=hS.fn ac.sz (ac.len _) (ac.imm _);have b:=LR fI (fi_f:=117) (fa_f:=[]) (fc_f:=[.ptr (aJ o) 0]) ⟨aH,bf,aY (aG 20 (.ptr (aJ o) 0) aH) bf,λf r e=>UA fI e⟩ hK;refine OW func58 ?_;unfold AdZ;cases fk with
 |true=>exact EI [hf 11 a,hf 14 hF,hq 16 [aE Bu fr,.clo (.func 117) [] [.ptr (aJ o) 0]] [] b] (rZ.imm [])
 |false=>
 rw[AQ];have hM:=AcH hR (o:=o) (i:=i) hg;generalize K4 R o=mm at hM hp⊢;cases cm:decide (mm≠0) with
 |true=>exact EI [hf 11 a,hf 14 hF,hq 16 [aE Bu fr,.clo (.func 117) [] [.ptr (aJ o) 0]] [] b,hrn 19 2 [.ptr (Ag gg) 0,aE aj s] hR hRl,hf 21 hi,hrr 25 (O6 2) 16 [.agg (aJ o),.agg (aj i)] hR hM,hr 26 cm] (rZ.imm [])
 |false=>
  rw[AQ];have hp:=hp (Decidable.of_not_not (Lq cm));have hD:=Af8 fI hR hp;have hQ:=R4 hR hp;generalize U0 R o i=Q at hD hQ⊢;have hdl:(GR Q).length<=1000:=by grind [List.Perm.length_eq,LT,Hq,Bh.len]
  have hv:=OI fI hQ;have hl:(haS Q sen).length<=1000:=by grind
  have d:=Ade (Ahp fI (l:=haS Q sen) aa) (l:=GR Q) aa;have hap:aT 8 (haS Q sen) ((GR Q).filter (Abr (haS Q sen)))=some (haS Q sen++(GR Q).filter (Abr (haS Q sen))):=Bz (by grind);have g:=Acm (gl:=fI) hQ (l:=sen) aa (f:=f0) (c:=14) B5;refine pO 1111110 (s0 43 fI [(0,.ptr (Ag gg) 0),(3,.ptr (aJ o) 0),(5,aE aj s),(6,.ref 0 0),(7,.ref 14 0)] (BG f0 R++[(14,Xj i)]) 15 0) [hf 11 a,hf 14 hF,hq 16 [aE Bu fr,.clo (.func 117) [] [.ptr (aJ o) 0]] [] b,hrn 19 2 [.ptr (Ag gg) 0,aE aj s] hR hRl,hf 21 hi,hrr 25 (O6 2) 16 [.agg (aJ o),.agg (aj i)] hR hM,hr 26 cm] (hc (eB (gs:=aJ o) aH)::rlB (Gf (O6 2)++[(14,1)]) (O6 2) hR) ?_ (ρ:=Gf (O6 2)++[(14,1)]) (kd:=N3);refine pO 11111110 (s0 43 fI [(0,.ptr (Ag gg) 0),(5,aE aj s),(6,.ref 0 0)] (BG f0 Q) 14 0) [hrw 30 f0 15 [.agg (aJ o),.agg (aj i)] hR hQ hD] (rlB (Gf (fW f0 15)) (fW f0 15) hQ) ?_ (ρ:=Gf (fW f0 15)) (kd:=N3);refine pO 111111110 (s0 43 fI [(6,.ref 0 0),(8,.ref 14 0)] (BG f0 Q++[ob 14 22 [.rsl 15 0 (haS Q sen).length],(15,JG (haS Q sen))]) 16 0) [hf 33 hN,hz 36 (Xi f0) g] (rlB (Gf f0++[(14,15),(15,14)]) f0 hQ++[hc (el (haS Q sen)),hc (rZ.imm (haS Q sen))]) ?_ (ρ:=Gf f0++[(14,15),(15,14)]) (kd:=N3++[(15,.row)]);exact EI [hrr 39 f0 17 [] hQ hv,ho 41 [aE cZ (GR Q),.clo (.func 122) [] [.ptr [aE cZ (haS Q sen)] 0]] [hc (rZ.al (haS Q sen))] d (lZ _),dg 42 rZ hap] (rZ.imm _)
end
section
section
variable {P:Br}
section
variable {ops:Array Oper} {K:St->Prop} {ty:Bn} {pos:String} {af:Array Edge} {rest:Iu} {n:Nat} {gl:Cd} {fr:Fr} {σ:aQ} {c p d j:Nat} {bars:Bq} {rr:Bool}
theorem Alr{op:Op}{gq:Option (Nat×Bool)}(hw:ce ⟨n,gl,fr,σ,c,p,rr⟩ ops ⟨some d,op,ty,pos,af,gq⟩=some false)(hd:d<n)(h:D8 P ops K rest ⟨n,gl,(d,.lit undef)::fr,σ,c,p,rr⟩):D8 P ops K (⟨some d,op,ty,pos,af,gq⟩::rest) ⟨n,gl,fr,σ,c,p,rr⟩:=by unfold D8;exact .inr ⟨hw,(by grind),h⟩
end
end
section
variable {P:Br} {ops:Array Oper} {K:St->Prop} {op:Op} {ty:Bn} {pos:String} {af:Array Edge} {rest:Iu} {n:Nat} {gl:Cd} {fr:Fr} {σ:aQ} {c p d j:Nat} {bars:Bq} {rr:Bool} {gq:Option (Nat×Bool)}
theorem zn(h:D8 P ops K rest ⟨n,gl,(d,.lit undef)::fr,σ,c,p,rr⟩)(hw:ce ⟨n,gl,fr,σ,c,p,rr⟩ ops ⟨some d,op,ty,pos,af,gq⟩=some false:=by kernel_rfl)(hd:d<n:=by decide):D8 P ops K (⟨some d,op,ty,pos,af,gq⟩::rest) ⟨n,gl,fr,σ,c,p,rr⟩:=Alr hw hd h
end
end
theorem Anc:bw prog 63=some 27:=aH
theorem Ajz(l:Mj):∀g∈l.flatMap bv,∃v,g= .lit v:=by grind [bv]
section
def I3(g:Aj)(a:Ab):Option (Bi×Bool):=
 bif(!((g.at_.get a).isSome))then(some (⟨0,0,0,0,[],0,0,0,0,[],⟨0,0,0⟩,0,[],[],⟨0,0,0⟩,[],0,0,[],0,[],⟨0,0⟩⟩,false))else((aS g.nodes (FR (g.at_.get a))).bind λb=>(pG b.o).bind λe=>some (e,true))
theorem Nu{g id_}:DC prog gl (I3 g id_) 57 [.ptr (Ag g) 0,.agg (aj id_)] (λr=> .tup [.agg (aJ r.1),bG r.2]):=
 cy func57 λK=>aw [hm 14 (H7 g.at_ id_)]<|aF 18 (rv K)<|CD 25 az.ixZ 27 (az.fsZ GN Anc 0 B5) λa=>BW 28 (Ds gl) λb=>rv K
def JW(g:Aj):Option Mj:=
 (Fj g.cards).bind λv1=>some v1
theorem RG{g}:LP prog gl (JW g) 67 [.ptr (Ag g) 0] 127 bv:=
 gc func67 λK=>ak λv1 e2=>aw [ho 7 [aE bv g.cards] [] (tn gl e2) (Ajz v1)]<|mr c0 K (bT.imm _)
end
theorem sP(a:Ab):dt a a=false:=by grind [ye]
theorem Ad0{a b:Ab}(h1:dt a b=false)(h2:dt b a=false):a=b:=by
 have n1:¬dt a b=true:=by rw[h1];simp
 have n2:¬dt b a=true:=by rw[h2];simp
 rw[ye] at n1 n2;obtain⟨a1,a2,a3⟩:=a;obtain⟨b1,b2,b3⟩:=b;grind
theorem Afv(hn:gg.cards.length<=1000)(d:Int):hY gg d=some (((gg.cards.find? λc=>decide (c.Device=d)).getD WA),(gg.cards.find? λc=>decide (c.Device=d)).isSome):=by
 unfold hY;refine T.eq (.bind (T.forA gg.cards.length (λk acc=>∀(j:Nat) (c:DP),j<k->gg.cards[j]?=some c->c.Device≠d) aa (by grind) (λk acc hk hj=>?_) λacc hj=>?_))
 .obtain⟨x,hx⟩:∃x,gg.cards[k]?=some x:=⟨_,Ef hk⟩;unfold ij;dsimp only;rw[eA hk,ax,au,hx,aL];refine .dec (λe=> .some (.some ?_)) λe=> .some ⟨aq aa,λj c' a b=>?_⟩
  .grind [List.find?_eq_some_iff_getElem]
  grind
 .unfold ij;dsimp only;rw[eF,AQ];have hf:gg.cards.find? (λc=>decide (c.Device=d))=none:=by grind [He]
  rw[hf];exact .some (.some rfl)
theorem Ahq{i:Int}{x:CY}(hx:aS N i=some x)(hn:n<256){r:Bool}(h:iX x.past (n:Int)=some r):ba prog fI 65 [.ptr (N.flatMap d7) (i.toNat*35+30),iG (n:Int)] (bG r):=by
 have hm:u9 (n:Int) 64=some ((n%64:Nat):Int):=by grind [u9]
 have hcn:wJ ((n%64:Nat):Int)=some (n%64):=by grind [wJ]
 have hq:∀q:Nat,n/64=q->Gg (n:Int) 64=some (q:Int):=by grind [Gg,Mx]
 have hd:wI (Int.tdiv (n:Int) 64)=((n/64:Nat):Int):=by grind [bM]
 have ht:Int.tmod (n:Int) 64=((n%64:Nat):Int):=by rw[Int.tmod_eq_emod_of_nonneg aa];rfl
 unfold iX at h;rw[hd,ht,hcn] at h;refine Gh func65 ?_;have h4:n/64=0\/n/64=1\/n/64=2\/n/64=3:=aa;rcases h4 with e|e|e|e
 .rw[e] at h;obtain rfl:=Bo h;exact Ar [hbb 7 (Tt (hq 0 e)),Az 10 (az.fdZ tW 30 hx),hbb 12 (KO hm),hV 13 (Am (P:=prog) (t:=34) x.past.a0 hcn),hV 14 (ju (P:=prog) (t:=34) (Jq x.past.a0 (n%64)) 1)] []
 .rw[e] at h;obtain rfl:=Bo h;exact Ar [hbb 7 (Tt (hq 1 e)),Az 10 (az.fdZ tW 31 hx),hbb 12 (KO hm),hV 13 (Am (P:=prog) (t:=34) x.past.a1 hcn),hV 14 (ju (P:=prog) (t:=34) (Jq x.past.a1 (n%64)) 1)] []
 .rw[e] at h;obtain rfl:=Bo h;exact Ar [hbb 7 (Tt (hq 2 e)),Az 10 (az.fdZ tW 32 hx),hbb 12 (KO hm),hV 13 (Am (P:=prog) (t:=34) x.past.a2 hcn),hV 14 (ju (P:=prog) (t:=34) (Jq x.past.a2 (n%64)) 1)] []
 .rw[e] at h;obtain rfl:=Bo h;exact Ar [hbb 7 (Tt (hq 3 e)),Az 10 (az.fdZ tW 33 hx),hbb 12 (KO hm),hV 13 (Am (P:=prog) (t:=34) x.past.a3 hcn),hV 14 (ju (P:=prog) (t:=34) (Jq x.past.a3 (n%64)) 1)] []
theorem SM(h:Uc gg):O8 fI gg (PP gg) where
 op x:=by
  cases e:gg.at_.get x with
  |none=>
   have hr:I3 gg x=some ((PP gg).o x,((PP gg).op x).isSome):=by grind [I3,Gi.o,PP,WE]
   exact Nu fI hr
  |some n=>
   obtain⟨k,y,rfl,hz,hn,hk,hm⟩:=Ud h e;have hr:I3 gg x=some ((PP gg).o x,((PP gg).op x).isSome):=by grind [I3,Gi.o,PP,FR,Option.isSome_some,Uc.cl]
   exact Nu fI hr
 bef x y:=by
  refine Gh func23 ?_;refine pO [1,0] (s0 44 fI [(0,.ptr (Ag gg) 0),(4,.ref 0 0),(5,.ref 1 0)] [(0,Xj x),(1,Xj y)] 2 0) [] [] ?_ [] [(0,0),(1,1)];show Gp _ _ (tH _ _ (bG (Agj gg x y))) _ _ _ _;unfold Agj;have h1:=H7 gg.at_ x;have h2:=H7 gg.at_ y;unfold FR at h1 h2;cases e1:gg.at_.get x with
  |none=>rw[e1] at h1;exact Ar [hm 17 h1,hm 26 h2] []
  |some n=>
   rw[e1] at h1;cases e2:gg.at_.get y with
   |none=>rw[e2] at h2;rw[WE e2];exact Ar [hm 17 h1,hm 26 h2] []
   |some q=>rw[e2] at h2;obtain⟨k,b,rfl,hz,hn,hk,hmm⟩:=Ud h e2;obtain⟨j,a,rfl,_,_,hj,_⟩:=Ud h e1;rw[hn];exact Ar [hm 17 h1,hm 26 h2,Az 39 (az.ixZ hz),hf 42 (Ahq hz hj (Xa hj))] []
 lev x:=by
  refine HD fI ?_;unfold Fe FR;cases e:gg.at_.get x with
  |none=>show _=some (match M7 gg x with|some y=>y.level|none=>0);rw[WE e];rfl
  |some n=>obtain⟨k,y,rfl,hz,hn,hk,hm⟩:=Ud h e;show _=some (match M7 gg x with|some y=>y.level|none=>0);grind
 cards:=by
  have hr:JW gg=some gg.cards:=by grind [JW,Fj,aT,Uc.nc]
  exact(RG fI hr).fn aH (bT.len _) (bT.imm _)
 card d:=uN fI (Afv h.nc d)
section
section
variable {g:A7} {m:IX} {N:IH}
theorem PJ(w:Fo g)(p:Oo g m N):Uc ⟨g.Cards,m,N⟩ where
 pos x n e:=by have e:m.get x=some n:=e;rw[p.get] at e;cases hk:bu x g.IDs<;>grind [AbJ]
 cl y hy:=by grind [Oo,He,RM,Fo.ops]
 nc:=w.nC
end
end
section
theorem Y1(a:Ab):¬Hg a a<0:=by grind [Q6,sP]
theorem SN{a b:Ab}:Nf I a b<0↔I.lev a<I.lev b\/(I.lev a=I.lev b/\dt a b=true):=by grind [Nf,Q6,AbK]
theorem Nv(a:Ab):¬Nf I a a<0:=by grind [SN,sP]
theorem Ut(I:Gi):OrN (Nf I) λ_=>True:=by grind [OrN,SN,dt,EX]
section
variable {gl:Cd}
end
end
theorem Acn(hl:ids.length<=1000000)(d s:Int):z9 ids d s=some (Ng ids ⟨d,s⟩:Int):=by
 refine T.eq ?_;unfold z9;refine .bind ((T.forA ids.length (λk n=>n=(Ng (ids.take k) ⟨d,s⟩:Int)) aa rfl (λk n hk hn=>?_) λn hn=>?_).mono (Q:=λn:Int=>n=(Ng ids ⟨d,s⟩:Int)) λn hn=> .some hn)
 .obtain⟨y,hy,_⟩:=dk hk;unfold uf;simp only[eA hk,ax,au,hy,aL];have h1:=LU (ids.take k) y ⟨d,s⟩;have h2:=AgC (ids.take k) ⟨d,s⟩;rw[LW] at h2;rw[<-Rb hy] at h1;simp only[Bf.mk.injEq] at h1;have yes:y.By=d->y.Seq=s->wI (n+1)=(Ng (ids.take (k+1)) ⟨d,s⟩:Int):=by grind [bM]
  have no:¬(y.By=d/\y.Seq=s)->n=(Ng (ids.take (k+1)) ⟨d,s⟩:Int):=by grind
  by_cases c1:y.By=d
  .by_cases c2:y.Seq=s
   .simp only[c1,c2,decide_true,ax,aL];exact .some ⟨aq aa,yes c1 c2⟩
   .simp only[c1,c2,decide_true,decide_false,ax,AQ,aL];exact .some ⟨aq aa,no λc=>c2 c.2⟩
  .simp only[c1,decide_false,AQ,aL];exact .some ⟨aq aa,no λc=>c1 c.1⟩
 .unfold uf;dsimp only;rw[eF,AQ];refine .some (show n=_ from ?_);rw[hn,DZ]
def FsI(ids p:A3)(d v:Int):Prop:=(v=0/\∀y∈p,y.By=d->¬2<=Ng ids ⟨d,y.Seq⟩)\/(∃y∈p,y.By=d/\y.Seq=v/\2<=Ng ids ⟨d,v⟩/\∀z∈p,z.By=d->2<=Ng ids ⟨d,z.Seq⟩->v<=z.Seq)
theorem Uu{ids:A3}(hl:ids.length<=1000000)(hs:∀x∈ids,1<=x.Seq)(d:Int):T (qN ids d) (FsI ids ids d):=by
 unfold qN;refine .bind ((T.forA ids.length (λk v=>FsI ids (ids.take k) d v) aa (.inl ⟨rfl,λy hy=>by cases hy⟩) (λk v hk hv=>?_) λv hv=>?_).mono (Q:=FsI ids ids d) λv hv=> .some hv)
 .obtain⟨y,hy,hm⟩:=dk hk;unfold qM;simp only[eA hk,ax,au,hy,aL,Acn hl];have a:=hs y hm;have keep:(y.By=d->2<=Ng ids ⟨d,y.Seq⟩->v≠0/\v<=y.Seq)->FsI ids (ids.take (k+1)) d v:=λh=>by
   rw[Rb hy];rcases hv with⟨h1,h2⟩|⟨z,h1,h2,h3,h4,h5⟩
   .refine .inl ⟨h1,λz hz hb hc=>?_⟩;rcases Jo.1 hz with hz|hz
    .exact h2 z hz hb hc
    .simp at hz;subst hz;exact(h hb hc).1 h1
   .refine .inr ⟨z,by simp[h1],h2,h3,h4,λw hw hb hc=>?_⟩;rcases Jo.1 hw with hw|hw
    .exact h5 w hw hb hc
    .simp at hw;subst hw;exact(h hb hc).2
  have new:y.By=d->2<=Ng ids ⟨d,y.Seq⟩->(v=0\/y.Seq<v)->FsI ids (ids.take (k+1)) d y.Seq:=λhb hc h=>by
   rw[Rb hy];refine .inr ⟨y,aC,hb,rfl,hc,λw hw hb' b=>?_⟩;rcases Jo.1 hw with hw|hw
   .rcases hv with⟨h1,h2⟩|⟨z,h1,h2,h3,h4,h5⟩
    all_goals grind
   grind
  by_cases c1:y.By=d
  .by_cases c2:2<=Ng ids ⟨d,y.Seq⟩
   .have c2':(1:Int)<(Ng ids ⟨d,y.Seq⟩:Int):=aa;by_cases c3:v=0
    .simp only[c1,c2',c3,decide_true,ax,aL];exact .some ⟨aq aa,new c1 c2 (.inl c3)⟩
    .by_cases c4:y.Seq<v
     .simp only[c1,c2',c3,c4,decide_true,decide_false,ax,AQ,aL];exact .some ⟨aq aa,new c1 c2 (.inr c4)⟩
     .simp only[c1,c2',c3,c4,decide_true,decide_false,ax,AQ,aL];exact .some ⟨aq aa,keep λ_ _=>⟨c3,aa⟩⟩
   .have c2':¬(1:Int)<(Ng ids ⟨d,y.Seq⟩:Int):=aa;simp only[c1,c2',decide_true,decide_false,ax,AQ,aL];exact .some ⟨aq aa,keep λ_ h=>absurd h c2⟩
  .simp only[c1,decide_false,AQ,aL];exact .some ⟨aq aa,keep λh=>absurd h c1⟩
 .unfold qM;dsimp only;rw[eF,AQ];rw[DZ] at hv;exact .some hv
theorem Ad1(hs:∀x∈ids,1<=x.Seq){y:Ab}{v:Int}(h:FsI ids ids y.By v):Uk ids y=(decide (0<v)&&decide (v<=y.Seq)):=by
 rw[Bool.eq_iff_iff];unfold Uk;rw[List.any_eq_true];simp only[bA,decide_eq_true_eq];refine⟨λ⟨z,hz,h1,h2,h3⟩=>?_,λ⟨h1,h2⟩=>?_⟩
 .rcases h with⟨_,h5⟩|⟨w,k1,k2,k3,a,k5⟩
  all_goals grind
 .rcases h with⟨h5,_⟩|⟨w,k1,k2,k3,a,k5⟩
  all_goals grind
theorem Se{ids:A3}(hl:ids.length<=100000)(hd:ids.Nodup)(hs:∀x∈ids,1<=x.Seq):T (vJ ids) λr=>r.Perm (ids.filter (Uk ids))/\r.Pairwise λx y=>Hg x y<0:=by
 unfold vJ;refine .bind ((T.forA ids.length (λk acc=>acc=(ids.take k).filter (Uk ids)) aa aC (λk acc hk hj=>?_) λacc hj=>?_).mono (Q:=λacc=>acc=ids.filter (Uk ids)) λx hx=> .bind ((kg ?_).mono λv hv=> .some ?_))
 .obtain⟨y,hy,hm⟩:=dk hk;unfold un;simp only[eA hk,ax,au,hy,aL];have hla:acc.length<=k:=by grind
  have e:(ids.take (k+1)).filter (Uk ids)=acc++(if Uk ids y then[y] else[]):=by rw[Rb hy,Nj,<-hj];cases hp:Uk ids y<;>simp[hp]
  refine .bind ((Uu aa hs y.By).mono λv hv=>?_);have hq:=Ad1 hs hv;by_cases c1:0<v
  .by_cases c2:v<=y.Seq
   .simp only[c1,c2,decide_true,ax,aL];rw[hq,CM c1,CM c2] at e;exact .bind (.app cq (.some ⟨aq aa,by rw[e];rfl⟩))
   .simp only[c1,c2,decide_true,decide_false,ax,AQ,aL];rw[hq,CM c1,C5 c2] at e;exact .some ⟨aq aa,by rw[e];simp⟩
  .simp only[c1,decide_false,AQ,aL];rw[hq,C5 c1] at e;exact .some ⟨aq aa,by rw[e];simp⟩
 .unfold un;dsimp only;rw[eF,AQ];refine .some (show acc=_ from ?_);rw[hj,DZ]
 .grind
 .refine⟨hx▸hv.1,?_⟩;have hn:v.Nodup:=by grind
  refine(hv.2.and hn).imp λ{a b} h=>Q6.2 ?_;cases h1:dt a b with
  |true=>rfl
  |false=>exact absurd (Ad0 h1 h.1) h.2
section
section
variable {g:A7} {m:IX} {N:IH}
theorem VX(w:Fo g)(p:Oo g m N)(h:g.IDs[i]?=some x):∃y,N[i]?=some y/\(Bx g m N).lev x=y.level/\0<=y.level/\y.level<=(i:Int)+1:=by obtain⟨y,h1,h2,h3⟩:=AbJ w p (Ju w h);refine⟨y,h1,?_,(p.nd i y h1).2.2.2⟩;show(match M7 ⟨g.Cards,m,N⟩ x with|some y=>y.level|none=>0)=_;rw[Ue w p,Ju w h];grind
theorem Ad2(w:Fo g)(p:Oo g m N):nZ g=some (N.map (·.level)):=by
 have nL:=w.nL;have nU:=w.nU;have pl:=p.len;refine T.eq ?_;unfold nZ;refine .bind (T.mono (Q:=λr=>r=N.map (·.level)) (T.forA g.L.length (λk acc=>acc=(N.take k).map (·.level)) aa aC (λk acc hk hj=>?_) λacc hj=>?_) λx hx=> .some hx)
 .obtain⟨u,hu,_⟩:=dk (l:=g.Up) (k:=k) aa;obtain⟨y,hy,_⟩:=dk (l:=N) (k:=k) aa;obtain⟨u1,e⟩:=w.up k u hu;have b:=p.lv k y u hy hu;unfold pd;dsimp only;rw[eA hk,ax];have hla:acc.length=k:=by grind
  have hin:AH (iP g (acc,(k:Int))) (1,0)=some y.level:=by
   refine T.eq ?_;refine T.loop (λs=>∃j:Nat,j<=u.length/\s.2=(j:Int)/\s.1=lvF N (u.take j)) (λs=>u.length-s.2.toNat) ⟨0,aa,rfl,rfl⟩ cq ?_;rintro⟨a,i⟩ ⟨j,f,rfl,rfl⟩;unfold iP;simp only[au,hu,aL];rcases HU j u.length with hlt|hge
   .obtain⟨z,hz,hm⟩:=dk hlt;obtain⟨h,o⟩:=e z hm;obtain⟨n,rfl⟩:∃n:Nat,z=(n:Int):=⟨z.toNat,aa⟩;obtain⟨v,hv,_⟩:=dk (l:=N) (k:=n) aa;have hb:=(p.nd n v hv).2.2.2;have ha:acc[n]?=some v.level:=by grind
    rw[eA hlt,ax,hz,aL,au,ha,aL,bM aa aa];refine .some ⟨⟨j+1,aa,aq aa,?_⟩,?_⟩
    .rw[Rb hz,Abp];grind [lvN]
    grind [aq]
   .obtain rfl:j=u.length:=aa;rw[eF,AQ,DZ];exact .some b.symm
  rw[hin,aL];refine .bind (.app cq (.some ⟨aq aa,?_⟩));rw[Rb hy,List.map_append,hj];rfl
 .unfold pd;dsimp only;rw[eF,AQ];refine .some (show acc=_ from ?_);rw[hj,<-pl,DZ]
theorem Sa(w:Fo g)(p:Oo g m N){y:Ab}(hx:g.IDs[i]?=some x)(hy:g.IDs[k]?=some y):vI g (N.map (·.level)) (i:Int) (k:Int)=some (decide (Nf (Bx g m N) x y<0)):=by
 obtain⟨a,h1,h2,_⟩:=VX w p hx;obtain⟨b,h3,h4,_⟩:=VX w p hy;have e1:(N.map (·.level))[i]?=some a.level:=by rw[Nl,h1];rfl
 have e2:(N.map (·.level))[k]?=some b.level:=by rw[Nl,h3];rfl
 grind [vI,au,pJ,SN]
theorem AjB{α:Type}{cmp:α->α->Int}(hO:OrN cmp λ_=>True){l:List α}{x:α}(hp:l.Pairwise λa b=>cmp a b<0)(h1:∀i y,i<j->l[i]?=some y->cmp y x<0)(h2:∀y,l[j]?=some y->¬cmp y x<0)(hx:x∉l):(l.take j++[x]++l.drop j).Pairwise λa b=>cmp a b<0:=by
 have hpj:(l.take j++l.drop j).Pairwise λa b=>cmp a b<0:=by rw[Pp];exact hp
 rw[List.pairwise_append] at hpj;have hlt:∀a∈l.take j,cmp a x<0:=by grind [He]
 have hgt:∀b∈l.drop j,cmp x b<0:=by grind [OrN,List.drop_eq_nil_of_le,List.drop_eq_getElem_cons,List.pairwise_cons]
 grind
theorem MH(w:Fo g)(p:Oo g m N)(hl:ids.length<=1000)(hd:ids.Nodup)(hm:∀x∈ids,x∈g.IDs):T (n8 g ids) λr=>r.Perm ids/\r.Pairwise λx y=>Nf (Bx g m N) x y<0:=by
 have nL:=w.nL;have nI:=w.nI;unfold n8;rw[Ad2 w p,aL];refine .bind (T.mono (Q:=λx:Bk=>EF g x/\(HR g x).Perm ids/\(HR g x).Pairwise λx y=>Nf (Bx g m N) x y<0) (T.forA ids.length (λk acc=>EF g acc/\(HR g acc).Perm (ids.take k)/\(HR g acc).Pairwise λx y=>Nf (Bx g m N) x y<0) aa ⟨.nil,by simp[HR],.nil⟩ (λk acc hk hj=>?_) λacc hj=>?_) λf h4=>?_)
 .obtain⟨y,hy,l⟩:=dk hk;obtain⟨b,u,o⟩:=hj;obtain⟨i,hi⟩:=He (hm y l);have hil:i<g.IDs.length:=(cr hi).1;have hpz:gO g y=(i:Int):=by unfold gO;rw[Ju w hi]
  have hal:acc.length<=k:=by grind [List.Perm.length_eq,Hq,LW]
  have hny:y∉HR g acc:=by grind [He,MY]
  unfold qU;simp only[eA hk,ax,au,hy,aL,qR,dC (show g.IDs.length<=1000000 by omega),hpz];rw[show decide ((i:Int)<0)=false from C5 aa,AQ];refine .bind (T.mono (Q:=λn:Int=>∃j:Nat,n=(j:Int)/\j<=acc.length/\(∀q z,q<j->(HR g acc)[q]?=some z->Nf (Bx g m N) z y<0)/\∀z,(HR g acc)[j]?=some z->¬Nf (Bx g m N) z y<0) (T.forI acc.length (λj=>∀q z,q<j->(HR g acc)[q]?=some z->Nf (Bx g m N) z y<0) aa (λq z h=>aa) (λj hjl hq=>?_) λhq=>?_) λn hn=>?_)
  .obtain⟨z,hz,s⟩:=dk hjl;obtain⟨B,zn,rfl,t,a,hzz⟩:=OP w b hz;unfold qT;simp only[eA hjl,ax,au,hz,aL,Sa w p a hi];refine .dec (λhc=> .some ⟨aq aa,λq C v hz'=>?_⟩) λhc=> .some ⟨j,rfl,aa,hq,λC hz'=>?_⟩;all_goals grind
  .unfold qT;dsimp only;rw[eF,AQ,aL,AQ];refine .some ⟨acc.length,rfl,Dx _,hq,λz hz=>?_⟩;grind
  .obtain⟨j,rfl,hjl,q1,A⟩:=hn;refine .bind (.pre aa aa (.bind (.app cq (.bind (.app cq (.bind (.suf aa aa (.bind (.app cq (.some ⟨aq aa,?_,?_⟩))))))))))
   .intro x hx;have:x∈acc++[(i:Int)]:=by grind
    exact b.snoc aa x this
   .have e:HR g ([]++acc.take (j:Int).toNat++[(i:Int)]++acc.drop (j:Int).toNat)=(HR g acc).take j++[y]++(HR g acc).drop j:=by grind [E0,List.map_take,List.map_drop]
    rw[e];refine⟨?_,AjB (Ut _) o q1 A hny⟩;grind [Rb,Cy]
 .unfold qU;dsimp only;rw[eF,AQ];rw[DZ] at hj;exact .some hj
 .obtain⟨h1,h2,h3⟩:=h4;refine .bind (T.mono (Q:=λr:A3=>r=HR g f) (T.forA f.length (λk acc=>acc=(HR g f).take k) (by grind [List.Perm.length_eq,Hq]) aC (λk acc hk hj=>?_) λacc hj=>?_) (by grind [T.some]))
  .obtain⟨z,hz,s⟩:=dk hk;obtain⟨B,zn,rfl,t,a,hzz⟩:=OP w h1 hz;have hxl:f.length<=1000:=by grind [List.Perm.length_eq]
   have hal:acc.length<=k:=by rw[hj,LW];omega
   unfold qS;simp only[eA hk,ax,au,hz,a,aL];refine .bind (.app cq (.some ⟨aq aa,?_⟩));rw[Rb hzz,hj]
  .unfold qS;dsimp only;rw[eF,AQ];refine .some (show acc=_ from ?_);grind [Hq]
end
end
section
theorem Ahr{u:Bk}:1<=lvF N u:=by
 have key:∀(l:Bk) (a:Int),1<=a->1<=l.foldl (λa j=>EZ a (lvN N j+1)) a:=by intro l;induction l<;>grind [EZ]
 exact key u 1 (Int.le_refl _)
theorem Abs{a b:A3}(h:a.Perm b)(f:Bf):Ng a f=Ng b f:=(h.filter _).length_eq
theorem Afw{a b:A3}(h:a.Perm b)(x:Ab):Uk a x=Uk b x:=by grind [Uk,Abs]
section
variable {g:A7} {m:IX} {N:IH} (P:Pg g m N)
include P
end
end
theorem Adh{gg:Aj}{j:Nat}:∀(l:A3) (s:OR),gW (l.foldl (λs x=>match M7 gg x with|some y=>Rf s y.past|none=>s) s) j=(gW s j||l.any λx=>match M7 gg x with|some y=>gW y.past j|none=>false)
 |[],s=>aC
 |x::l,s=>by rw[List.foldl_cons,Adh l,List.any_cons];grind [RP]
theorem Adi{p:Nat->Bool}{N:IH}:x∈nmS p N↔∃(k:Nat) (y:CY),N[k]?=some y/\p k=true/\y.id=x:=by unfold nmS;simp only[Fl,GV,List.mem_zipIdx_iff_getElem?,Prod.exists];grind
theorem Adj{p:Nat->Bool}{N:IH}:(nmS p N).Sublist (N.map (·.id)):=by
 have h:(N.zipIdx.map (·.1.id))=N.map (·.id):=by rw[show(λq:CY×Nat=>q.1.id)=(λy:CY=>y.id)∘Prod.fst from rfl,<-It,List.zipIdx_map_fst]
 rw[<-h];exact List.filter_sublist.map _
theorem Adk{I:Gi}{x:Ab}:∀{l p:A3},x∈K0 I p l↔x∈p\/x∈l/\0<I.lev x
 |[],p=>by simp[K0]
 |y::l,p=>by have a:K0 I p (y::l)=K0 I (bif 0<I.lev y then bif p.any λz=>decide (y=z)then p else p++[y]else p) l:=rfl;rw[a,Adk];grind
theorem Afx{I:Gi}:∀{l p:A3},p.Nodup->(K0 I p l).Nodup
 |[],p,h=>h
 |y::l,p,h=>by have a:K0 I p (y::l)=K0 I (bif 0<I.lev y then bif p.any λz=>decide (y=z)then p else p++[y]else p) l:=rfl;rw[a];refine Afx ?_;grind
section
variable {g:A7} {m:IX} {N:IH} (P:Pg g m N)
include P
theorem Afy:N.map (·.id)=g.IDs:=by
 refine List.ext_getElem? λk=>?_;have pl:=P.p.len;have nI:=P.w.nI;rw[Nl];cases hy:N[k]? with
 |none=>grind
 |some y=>rw[(P.p.nd k y hy).2.1];rfl
theorem UR{l:A3}(hj:j<256):gW (Rh ⟨g.Cards,m,N⟩ l) j=true↔uX g l j:=by
 have z:gW z4 j=false:=by unfold gW z4;split<;>simp
 rw[show gW (Rh ⟨g.Cards,m,N⟩ l) j=_ from Adh l z4,z,Bool.false_or,List.any_eq_true];unfold uX;refine⟨λ⟨x,hx,h⟩=>⟨x,hx,?_⟩,λ⟨x,hx,n,h1,h2⟩=>⟨x,hx,?_⟩⟩
 .rw[Ue P.w P.p] at h;cases hk:bu x g.IDs with
  |none=>rw[hk] at h;simp at h
  |some n=>
   rw[hk,aL] at h;cases hy:N[n]? with
   |none=>rw[hy] at h;simp at h
   |some y=>rw[hy] at h;exact⟨n,rfl,((P.p.nd n y hy).2.2.1 j hj).symm.trans h⟩
 .have hn:=(cr (gb h1).1).1;have pl:=P.p.len;have nI:=P.w.nI;obtain⟨y,hy⟩:∃y,N[n]?=some y:=⟨_,Ef aa⟩;rw[Ue P.w P.p,h1,aL,hy];exact((P.p.nd n y hy).2.2.1 j hj).trans h2
theorem Ahs:0<(Bx g m N).lev x↔x∈g.IDs:=by
 have pl:=P.p.len;have nI:=P.w.nI;cases hk:bu x g.IDs with
 |none=>
  have:(Bx g m N).lev x=0:=by show(match M7 ⟨g.Cards,m,N⟩ x with|some y=>y.level|none=>0)=_;rw[Ue P.w P.p,hk];rfl
  grind [jv]
 |some k=>have hid:=(gb hk).1;obtain⟨y,a,c,_⟩:=VX P.w P.p hid;have hkl:=(cr hid).1;obtain⟨u,hu,_⟩:=dk (l:=g.Up) (k:=k) (by have:=P.w.nU;omega);have b:=P.p.lv k y u a hu;grind [Ahr]
theorem Als(c:g.L.length<=14){l:A3}(hl:l.length<=1000):∃v p,Lm g l=some v/\DL g v/\v.Nodup/\RW Hg (nmS (gW (Rh ⟨g.Cards,m,N⟩ l)) N)=some p/\p.length=(nmS (gW (Rh ⟨g.Cards,m,N⟩ l)) N).length/\p.length<=14/\(K0 (Bx g m N) p l).Perm v:=by
 have pl:=P.p.len;have nI:=P.w.nI;obtain⟨v,e,v1,b,d,f⟩:=yf P.w (ids:=l) aa;have hs:=Adj (p:=gW (Rh ⟨g.Cards,m,N⟩ l)) (N:=N);rw[Afy P] at hs;have hle:=hs.length_le;obtain⟨p,e2,a,h⟩:=Uh NS (P.w.nd.sublist hs) aa;have hpl:=a.length_eq;refine⟨v,p,e,v1,b,e2,hpl,aa,(List.perm_ext_iff_of_nodup (Afx (a.nodup_iff.2 (P.w.nd.sublist hs))) b).2 λx=>?_⟩;rw[Adk,d,a.mem_iff,Adi,Ahs P];refine or_congr_left ⟨λ⟨k,y,h1,h2,h3⟩=>?_,λ⟨k,h1,h2⟩=>?_⟩
 .have hk:=(cr h1).1;exact⟨k,h3▸(P.p.nd k y h1).2.1,(UR P aa).1 h2⟩
 .have hk:=(cr h1).1;obtain⟨y,hy⟩:∃y,N[k]?=some y:=⟨_,Ef aa⟩;have:=(P.p.nd k y hy).2.1;grind [UR]
end
end Go.Proofs.YtlijnaneopediaaGreatDoor
