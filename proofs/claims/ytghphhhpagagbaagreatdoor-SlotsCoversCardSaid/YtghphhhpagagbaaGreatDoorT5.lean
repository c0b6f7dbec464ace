/- Texts. -/
import Derived.Test.YtghphhhpagagbaaGreatDoorZI
namespace Go.Proofs.YtghphhhpagagbaaGreatDoor
set_option linter.unusedSectionVars false
set_option linter.unusedVariables false
set_option linter.unusedSimpArgs false
open Go.RowKit Tryz
attribute [local irreducible] Tr dz Gp
variable (gl:CM)
variable {l s:Bb}{d m:Int}{i j k n p:Nat}{x:Ab}{g:CB}{o:Bp}{y y':EA}{x':Az}{cs:Mi}{D V:List Bool}{dl:JV}{al:A3}{ids r row vs:Ba}{a:Ba×FM Ab Bool}{b:List Bool×List Bool×Int}{R:Ad}{N:Ja}{gg:Aj}{I:Gi}
theorem AeK(hl:l.length<=3000):N8 l d=some ((OR (l.length+1) l).filter λs=>decide (d∈s)).reverse:=by
 obtain⟨e0,hn⟩:=aac (l.length+1) l aa aa;obtain⟨v,e1,_,hy⟩:=u6 (l.length+1) l aa aa;rw[e0] at e1;obtain rfl:=Bj e1;unfold N8 z0;rw[e0,aL];generalize OR (l.length+1) l=b at hn hy;have e:wI (ah b-1)=ah b-1:=by grind [bM,ah]
 rw[e];refine T.eq (.bind (T.mono (T.loop (Q:=λr:JX=>r=(b.filter λs=>decide (d∈s)).reverse) (λs=> -1<=s.2/\s.2<(b.length:Int)/\s.1=((b.drop (s.2+1).toNat).filter λs=>decide (d∈s)).reverse) (λs=>(s.2+1).toNat) ⟨by unfold ah;omega,by unfold ah;omega,?_⟩ (by grind [ah]) ?_) λ_ h=> .some h))
 .grind [List.drop_eq_nil_of_le,ah]
 rintro⟨a,i⟩ ⟨i1,f,c⟩;simp only at i1 f c;unfold AF;refine .dec (λh0=>?_) λh0=> .some (show a=_ from ?_)
 .replace h0:0<=i:=h0;obtain⟨k,rfl⟩:=Int.eq_ofNat_of_zero_le h0;have hk:k<b.length:=aa;have hw:wI ((k:Int)-1)=(k:Int)-1:=bM aa aa;have hz:aS b (k:Int)=some (b[k]'hk):=Be (DS hk);have ha:a.length<=6000:=by grind
  dsimp only;rw[hz,aL,cX (by grind),aL,JH,hw];have ed:b.drop k=b[k]'hk::b.drop (k+1):=List.drop_eq_getElem_cons hk;rw[show((k:Int)+1).toNat=k+1 by omega] at c;by_cases hd:d∈b[k]'hk
  .rw[C3 hd,ax,aL];refine .bind (.app (by grind) (.some ⟨⟨by show-1<=(k:Int)-1;omega,by show(k:Int)-1<_;omega,?_⟩,by show((k:Int)-1+1).toNat<((k:Int)+1).toNat;omega⟩));show a++[b[k]'hk]=((b.drop ((k:Int)-1+1).toNat).filter _).reverse;rw[show((k:Int)-1+1).toNat=k by omega,ed,List.filter_cons_of_pos (by simp[hd]),List.reverse_cons,c]
  .rw[C6 hd,A9];refine .some ⟨⟨by show-1<=(k:Int)-1;omega,by show(k:Int)-1<_;omega,?_⟩,by show((k:Int)-1+1).toNat<((k:Int)+1).toNat;omega⟩;show a=((b.drop ((k:Int)-1+1).toNat).filter _).reverse;rw[show((k:Int)-1+1).toNat=k by omega,ed,List.filter_cons_of_neg (by simp[hd]),c]
 .replace h0:¬0<=i:=h0;rw[c,show(i+1).toNat=0 by omega,List.drop_zero]
theorem Vc(d:Int):∀(n:Nat) (l:Bb),l.length<n->l.length<=1000000->(Ya d n l).length<=l.length+1
 |0,_,h,_=>(by grind)
 |n+1,l,h,hl=>by
  unfold Ya;split
  .simp
  .obtain⟨_,k1,k2⟩:=UB (n:=l.length) aa hl;have a:=Vc d n (l.take (LV l.length)) cq cq;have b:=Vc d n (l.drop (LV l.length)) cq cq;grind
theorem AeL(d:Int):∀(n:Nat) (l:Bb),l.length<n->l.length<=1000000->d∈l->l.Nodup->(∀s∈Ya d n l,d∈s/\s.length<=l.length/\s.Nodup)/\((Ya d n l).Pairwise λa b=>b.length<a.length)/\(Ya d n l).getLast?=some [d]
 |0,_,h,_,_,_=>(by grind)
 |n+1,l,h,hl,hd,hn=>by
  unfold Ya;split
  .match l,hd,hn with
   |[a],hd,hn=>simp_all
   |a::b::r,_,_=>simp at*
  .obtain⟨_,k1,k2⟩:=UB (n:=l.length) aa hl;have hx:d∈l.take (LV l.length)\/d∈l.drop (LV l.length):=by grind [Pm]
   have key:∀q:Bb,q.length<l.length->d∈q->q.Nodup->(∀s∈l::Ya d n q,d∈s/\s.length<=l.length/\s.Nodup)/\((l::Ya d n q).Pairwise λa b=>b.length<a.length)/\(l::Ya d n q).getLast?=some [d]:=λq h1 h2 h3=>by obtain⟨a,b,c⟩:=AeL d n q aa aa h2 h3;refine⟨λs hs=>?_,(by grind [List.pairwise_cons]),by grind⟩;grind
   split
   .grind
   grind
def tpL(d:Int)(l:Bb):JX:=if d∈l then(Ya d (l.length+1) l).reverse else[]
structure Uk (d:Int) (ss:JX):Prop where
 n:ss.length<=3000
 m:∀s∈ss,d∈s/\s.length<=3000/\s.Nodup
 p:ss.Pairwise λa b=>a.length<b.length
 f:∀s,ss[0]?=some s->s=[d]
theorem aae:Uk d []:=⟨aC,aC,.nil,aC⟩
theorem Ai2(hl:l.length<=2000)(hn:l.Nodup):Uk d (tpL d l):=by
 unfold tpL;split
 .rename_i hd;obtain⟨a,b,c⟩:=AeL d (l.length+1) l aa aa hd hn;have:=Vc d (l.length+1) l aa aa;constructor<;>grind
 .exact aae
theorem AeM(hl:l.length<=3000)(hn:l.Nodup):N8 l d=some (tpL d l):=by grind [AeK,aad,tpL]
theorem AeN{gl:CM}(hl:l.length<=3000):ba prog gl 26 [aE cZ l,iG d] (aE Jc (tpL d l)):=by
 unfold tpL;by_cases hd:d∈l
 .grind [AgK,Vc,AcX,AeJ]
 .rw[Bt hd];refine AcX (a:=[]) (b:=[]) ?_ aC (by grind [AeJ]) rfl;grind [PB,Td]
theorem AiC{x:Int}(hp:PL l)(h1:∀i y,i<j->l[i]?=some y->y<=x)(h2:∀y,l[j]?=some y->x<=y):PL (l.take j++[x]++l.drop j):=by
 have hpj:(l.take j++l.drop j).Pairwise λa b=>a<=b:=by rw[Pm];exact hp
 rw[List.pairwise_append] at hpj;have hlt:∀a∈l.take j,a<=x:=by grind [Hd]
 have hgt:∀b∈l.drop j,x<=b:=λb hb=>by cases hc:l[j]? <;>grind [List.drop_eq_nil_of_le,List.drop_eq_getElem_cons,List.pairwise_cons]
 grind [PL]
theorem Aei(hl:l.length<=1000000):T (lg l) λr=>r.Perm l/\PL r:=by
 unfold lg;refine .bind (T.mono (Q:=λr:Bb=>r.Perm l/\PL r) (T.forA l.length (λk acc=>acc.Perm (l.take k)/\PL acc) aa ⟨aC,.nil⟩ (λk acc hk hj=>?_) λacc hj=>?_) λx hx=> .some hx)
 .obtain⟨y,hy,hm⟩:=dk hk;have hal:acc.length=k:=by rw[hj.1.length_eq,MH];omega
  unfold pb;simp only[eA hk,ax,au,hy,aL];refine .bind (T.mono (Q:=λn:Int=>∃j:Nat,n=(j:Int)/\j<=acc.length/\(∀i z,i<j->acc[i]?=some z->z<=y)/\∀z,acc[j]?=some z->y<=z) (T.forI acc.length (λj=>∀i z,i<j->acc[i]?=some z->z<=y) aa (λi z h=>aa) (λj hjl hq=>?_) λhq=>?_) λn hn=>?_)
  .obtain⟨z,hz,a⟩:=dk hjl;unfold pa;simp only[eA hjl,ax,au,hz,hy,aL];refine .dec (λhc=> .some ⟨aq aa,λi b hi hz'=>?_⟩) λhc=> .some ⟨j,rfl,aa,hq,λb hz'=>?_⟩;all_goals grind
  .unfold pa;dsimp only;rw[eF,A9,aL,A9];refine .some ⟨acc.length,rfl,Dx _,hq,λz hz=>?_⟩;grind
  .obtain⟨j,rfl,hjl,q1,c⟩:=hn;refine .bind (.pre aa aa (.bind (.app cq (.bind (.app cq (.bind (.suf aa aa (.bind (.app cq (.some ⟨aq aa,?_⟩))))))))));rw[MJ,FF];constructor<;>grind [AiC,Rb,Cy]
 .unfold pb;dsimp only;rw[eF,A9];rw[EZ] at hj;exact .some hj
theorem AaS{a b:Bb}(hp:a.Perm b)(h1:PL a)(h2:PL b):a=b:=List.Perm.eq_of_pairwise (le:=λa b=>a<=b) (by grind) h1 h2 hp
theorem ZN{α β γ:Type}{f:α->β}{g:α->γ}:∀{l:List α},(l.map g).Nodup->(∀x∈l,∀y∈l,f x=f y->g x=g y)->(l.map f).Nodup
 |[],_,_=> .nil
 |a::r,hd,h=>by rw[Fi,MI] at hd⊢;refine⟨λhm=>?_,ZN hd.2 (by grind)⟩;grind
section
variable {R:Ad} {D:Dk}
abbrev atV(V:List Hb)(i:Ab)(d:Int):Bb:=(V.filter λv=>decide (v.Of=i)&&decide (v.Device=d)).map (·.At)
theorem Akw(h:Rr R D)(hR:Bn R){x:Az}(hx:R.members.get m=some x)(hg:x.guard=some g)(d:Int):(atV D.V g.id d).Perm (dvE d g.vouches.es):=by
 have hv:=hR.cv _ _ g hx hg;have hp:((D.V.filter λv=>decide (v.Of=g.id)&&decide (v.Device=d)).map λv=>(v.By,v.At)).Perm ((g.vouches.es.filter λe=>decide (e.1.device=d)).map λe=>(e.1.by_,e.2.1)):=by
  refine(List.perm_ext_iff_of_nodup ?_ ?_).2 λ⟨b,a⟩=>?_
  .refine ZN (g:=λv:Hb=>(v.Of,v.By,v.Device)) (h.vnd.sublist (List.filter_sublist.map _)) λp hp q hq e=>?_;grind
  .refine ZN (g:=λe:C4×Int×Nat=>e.1) (hv.kd.sublist (List.filter_sublist.map _)) λp hp q hq e=>?_;rw[HC] at hp hq;have h1:=DR hp.2;have h2:=DR hq.2;simp only[Gq] at e;cases hp1:p.1;cases i:q.1;grind
  .have hb:=h.vou m x g hx hg b d a;constructor
   .intro hm;obtain⟨v,hv1,hv2⟩:=Fq.1 hm;rw[HC] at hv1;have h1:v.Of=g.id/\v.Device=d:=by simpa using hv1.2
    simp only[Gq] at hv2;obtain⟨n,hn⟩:=Hr (hb.2 ⟨v,hv1.1,h1.1,hv2.1,h1.2,hv2.2⟩);exact Fq.2 ⟨_,HC.2 ⟨hn,C3 rfl⟩,rfl⟩
   .intro hm;obtain⟨e,c,f⟩:=Fq.1 hm;rw[HC] at c;have h1:=DR c.2;simp only[Gq] at f;have hge:=JL hv (k:=e.1) (v:=e.2.1) (n:=e.2.2) c.1;have hk:e.1=⟨b,d⟩:=by cases hq:e.1;grind
    rw[hk,f.2] at hge;obtain⟨v,k1,k2,k3,j,k5⟩:=hb.1 hge;grind
 have:=hp.map Prod.snd;rw[IH,IH] at this;exact this
theorem atT(z:Sz D)(d:Int)(y:EA):AB (PR D d y) ([],0)=some (atV D.V y.ID d):=by
 have:=z.v;refine T.eq (T.forA D.V.length (λk acc=>acc=atV (D.V.take k) y.ID d) aa (by simp[atV]) (λk acc hk hj=>?_) λacc hj=>?_)
 .obtain⟨v,hv,_⟩:=dk hk;have hal:acc.length<=k:=by grind
  have e:atV (D.V.take (k+1)) y.ID d=acc++(if v.Of=y.ID/\v.Device=d then[v.At] else[]):=by unfold atV;rw[Rb hv,Re,List.map_append];grind
  unfold PR;simp only[eA hk,ax,au,hv,aL];by_cases c1:v.Of=y.ID
  .by_cases c2:v.Device=d
   .simp only[c1,c2,decide_true,ax,aL];rw[Bu ⟨c1,c2⟩] at e;exact .bind (.app cq (.some ⟨aq aa,e.symm⟩))
   .simp only[c1,c2,decide_true,decide_false,ax,A9,aL];rw[Bt λc=>c2 c.2,KY] at e;exact .some ⟨aq aa,e.symm⟩
  .simp only[c1,decide_false,A9,aL];rw[Bt λc=>c1 c.1,KY] at e;exact .some ⟨aq aa,e.symm⟩
 .unfold PR;dsimp only;rw[eF,A9];refine .some (show acc=_ from ?_);rw[hj,EZ]
theorem Amq(z:Sz D)(h:Rr R D)(hR:Bn R)(m d:Int):Ff D m d=some (YB R m d):=by
 unfold Ff;refine T.eq (.bind ((X3 z h m).mono λv hv=>?_));unfold YB;cases hx:R.members.get m with
 |none=>grind [T.some]
 |some x=>
  rw[hx] at hv;obtain⟨k,y,rfl,hy,_,hm⟩:=hv;rw[show decide ((k:Int)<0)=false from C6 aa,A9,au,hy,aL];dsimp only;cases hg:x.guard with
  |none=>grind [Mr.no,T.some]
  |some g=>
   have h1:=hm.gd g hg;have hv:=hR.cv _ _ g hx hg;have hb:=hR.vb _ _ g hx hg;have hn:=hR.gN _ _ g hx hg;have h6:=Aaq hv.kd hb (List.Pairwise.of_map (λx=>x.1) (by grind) hv.kd) (λe he=>he) d;obtain⟨srt,e1,p1,s1⟩:=Adh (l:=dvE d g.vouches.es) aa;have hda:Acu g d=srt:=by unfold Acu;rw[e1];rfl
   have hp:=Akw h hR hx hg d;rw[h1.1,atT z d y,aL];simp only[Bool.not_true,A9];rw[hda,h1.2.1];refine .bind ((Aei (by rw[hp.length_eq];omega)).mono λv hv=>?_);obtain rfl:v=srt:=AaS (hv.1.trans (hp.trans p1.symm)) hv.2 s1;rw[h1.2.2.2.1,h1.2.2.2.2.1,h1.2.2.2.2.2.1,h1.2.2.2.2.2.2];refine .dec (by grind [T.some]) λhc=>?_;rw[C6 hc,A9];have hc2:g.need<=(v.length:Int):=by unfold ah at hc;omega
   have hz0:aS v 0=some (v.getD 0 0):=by grind [au]
   have hz1:aS v (wI (g.need-1))=some (v.getD (g.need.toNat-1) 0):=by grind [bM,au]
   grind [T.some]
theorem Aej(z:Sz D)(h:Rr R D)(o:Bp)(m:Int):o9 D o m (decide (M2 R m=3))=some (Ad0 R o m):=by
 unfold o9 Ad0 Je;rw[inE z h,ofE z,h.card,aL,aL];cases decide (o.Device≠0) with
 |true=>grind
 |false=>refine T.eq (.bind ((X3 z h o.Member).mono λv hv=>?_));grind [T.some]
theorem Amr(z:Sz D)(h:Rr R D)(hR:Bn R)(hk:o.Kind=11):mB D o=some (Ad1 R o):=by
 unfold mB Ad1;refine T.eq (.bind ((ZM z h hR o).mono λv hv=>?_));rw[hv.1];cases c0:decide ((Dd R o).2≠0) with
 |true=>exact .some rfl
 |false=>
  have c1:(Dd R o).2=0:=by simpa using c0
  obtain⟨k,y,x,g,hv1,hy,a,hx,hm,hgd,hid⟩:=hv.2 c1;rw[A9,hv1,au,hy,aL,ofE z,ZL z h,h.card,a,hk];grind [T.some]
theorem Ams(z:Sz D)(h:Rr R D)(hR:Bn R)(hk:o.Kind=13):mB D o=some (Ad2 R o):=by
 unfold mB Ad2 Ajx;refine T.eq (.bind ((ZM z h hR o).mono λv hv=>?_));rw[hv.1];cases c0:decide ((Dd R o).2≠0) with
 |true=>exact .some rfl
 |false=>
  have c1:(Dd R o).2=0:=by simpa using c0
  obtain⟨k,y,x,g,hv1,hy,a,hx,hm,hgd,hid⟩:=hv.2 c1;rw[A9,hv1,au,hy,aL,ofE z,ofE z,ZL z h,inE z h,h.card,h.card,a,hk,Amq z h hR];simp only[Int.reduceEq,decide_true,decide_false,ax,A9,aL];generalize YB R (Dd R o).1 o.Device=q;cases Qs R o.Old with
  |false=>exact .some rfl
  |true=>simp only[Bool.not_true,A9,ax];cases decide (XX D.Cards o.Old≠(Dd R o).1)<;>grind [T.some]
theorem Akx(z:Sz D)(h:Rr R D)(hR:Bn R)(hgl:o.Guards.length<=1000000)(i:Ab):AX D o i=some (Uo R o):=by
 have e:=z.dev;unfold AX;rw[ofE z,aL,<-h.card];unfold Uo;by_cases k1:o.Kind=1
 .grind [Rr.w0,ah]
 rw[Bt k1,C6 k1,A9,inE z h,aL];cases Qs R o.By with
 |false=>rfl
 |true=>
 rw[Bool.not_true,A9,ax,Ah2 z h,aL];unfold Acv;by_cases k2:o.Kind=2
 .grind [ZL,ofE,AfN,Je,Rr.card]
 rw[Bt k2,C6 k2,A9];by_cases k3:o.Kind=3
 .grind [Aej]
 rw[Bt k3,C6 k3,A9];by_cases k5:o.Kind=5
 .rw[Bu k5,C3 k5,ax];unfold AfO Je;cases decide (M2 R (DE R o.By)=3) with
  |false=>rfl
  |true=>simp only[Bool.not_true,A9,ax];refine T.eq (.bind ((X3 z h o.Member).mono λv hv=>?_));grind [T.some]
 rw[Bt k5,C6 k5,A9];by_cases k6:o.Kind=6
 .grind [AfP]
 rw[Bt k6,C6 k6,A9];by_cases k8:o.Kind=8
 .grind [ofE,AfQ,Je,Rr.card]
 rw[Bt k8,C6 k8,A9];by_cases k9:o.Kind=9
 .rw[Bu k9,C3 k9,ax];unfold AfS;refine T.eq (.bind ((T.search o.Guards (λx=> !Qs R x) (λk _=>(17:Int)) aa (λk x hx hk=>?_) ?_).mono ?_))
  .grind [Ub,eA,au,inE,aq]
  .unfold Ub;rw[eF,A9]
  .rintro r (⟨rfl,hn⟩|⟨k,x,hx,hp,rfl,hn⟩)
   .refine .some ?_;grind
   .refine .some ?_;grind
 rw[Bt k9,C6 k9,A9];have hO:T ((dS D (DE R o.By)).bind λa=>bif a<0 then(some 25)else(((aS D.L a).bind λb=>bif(!b.Is)then(some true)else((aS D.L a).bind λc=>some (!decide (c.ID=o.Of)))).bind λd=>bif d then(some 25)else(some 0))) λw=>w=Abx R o (DE R o.By):=by
  refine .bind ((X3 z h (DE R o.By)).mono λv hv=>?_);unfold Abx;cases hx:R.members.get (DE R o.By) with
  |none=>grind [T.some]
  |some x=>rw[hx] at hv;grind [au,Mr.no,T.some,Mr.gd]
 grind [T.eq,Amr,Ams]
end
theorem Amt{K V:Type}[DecidableEq K]{m:FM K V}{k:K}{p:V}:(C5 m k p).es.length=if(m.get k).isSome then m.es.length else m.es.length+1:=by
 unfold C5;cases hk:bu k (m.es.map (·.1)) with
 |none=>rw[Tl hk];simp
 |some j=>obtain⟨e,_,_,h⟩:=M3 hk;rw[h];simp
structure Sy (D:Dk):Prop where
 c:D.Cards.length<=1000
 dev:D.In.length+D.Gone.length<=2000
 l:D.L.length<=2000
 v:D.V.length<=2000
structure Gw (D D':Dk):Prop where
 c:D'.Cards=D.Cards
 dev:D'.In.length+D'.Gone.length<=D.In.length+D.Gone.length+1
 l:D'.L.length<=D.L.length+1
 v:D'.V=D.V
theorem Gw.rfl'{D:Dk}:Gw D D:=by grind [Gw]
theorem Sy.z{D:Dk}(h:Sy D):Sz D:=by grind [Sy,Sz]
section
variable {R:Ad} {D:Dk}
theorem Aky(h:Rr R D)(h1:d∉D.In)(h2:d∉D.Gone):Rr {R with in_:=C5 R.in_ d true,was:=C5 R.was d true} {D with In:=D.In++[d]} where
 card:=h.card
 nd:=by show(D.In++[d]++D.Gone).Nodup;rw[List.append_assoc,List.singleton_append,List.perm_middle.nodup_iff,MI];grind [Rr.nd]
 in_ e:=by grind [BB,Rr.in_]
 was e:=by grind [BB,Rr.was]
 w0:=by grind [Rr.was,Amt,Rr.w0]
 ln:=h.ln
 no:=h.no
 mem:=h.mem
 vou:=h.vou
 vof:=h.vof
 vnd:=h.vnd
 back:=h.back
theorem AiD(h:Rr R D){m role:Int}(hm:R.members.get m=none):Rr {R with members:=C5 R.members m ⟨role,none⟩} {D with L:=D.L++[⟨m,role,false,⟨0,0,0⟩,[],0,0,false,0⟩]} where
 card:=h.card
 nd:=h.nd
 in_:=h.in_
 was:=h.was
 w0:=h.w0
 ln:=by show((D.L++[(⟨m,role,false,⟨0,0,0⟩,[],0,0,false,0⟩:EA)]).map (·.N)).Nodup;rw[List.map_append,Fi,List.map_nil,List.perm_append_comm.nodup_iff,List.singleton_append,MI];grind [Rr.ln,Rr.no]
 no k hk y hy:=by grind [BB,Rr.no]
 mem k x hk:=by
  have hk:(C5 R.members m ⟨role,none⟩).get k=some x:=hk;rw[BB] at hk;split at hk
  .rename_i e;cases hk;exact⟨_,I9.2 (.inr (List.mem_singleton.2 rfl)),e.symm,rfl,λ_=>rfl,λg hg=>by cases hg⟩
  grind [Rr.mem]
 vou k x g hk hg:=by grind [BB,Rr.vou]
 vof v hv:=by obtain⟨k,x,g,hk,hg,e⟩:=h.vof v hv;refine⟨k,x,g,?_,hg,e⟩;grind [BB]
 vnd:=h.vnd
 back:=h.back
theorem AbR(z:Sy D)(h:Rr R D)(hR:Bn R)(d role:Int):T (nX D d role) λD'=>Rr (Jd R d role) D'/\Gw D D':=by
 have a:=z.dev;have b:=z.l;unfold nX Jd;rw[ZL z.z h,aL];cases hf:D5 R d with
 |false=>exact .some ⟨h,.rfl'⟩
 |true=>
  rw[Bool.not_true,A9,ax];have hw:R.was.get d=none:=by grind [Rr.was,D5,Hx]
  have hnd:d∉D.In/\d∉D.Gone:=by grind [Rr.was]
  refine .bind (.app cq (.bind (.app cq ?_)));rw[MJ];have h':=Aky h hnd.1 hnd.2;rw[show gE {D with In:=D.In++[d]} d=gE D d from rfl,ofE z.z,aL,<-h.card];rw[show dS {D with In:=D.In++[d]} (DE R d)=dS D (DE R d) from rfl];refine .bind ((X3 z.z h (DE R d)).mono λv hv=>?_);cases hx:R.members.get (DE R d) with
  |none=>rw[hx] at hv;subst hv;rw[show decide ((-1:Int)<0)=true from rfl,ax];refine .bind (.bind (.app cq (.bind (.app cq (.some ?_)))));rw[MJ];exact .some ⟨AiD (role:=role) h' hx,rfl,by simp;omega,aC,rfl⟩
  |some x=>rw[hx] at hv;obtain⟨k,y,rfl,_⟩:=hv;rw[show decide ((k:Int)<0)=false from C6 aa,A9];exact .some ⟨h',rfl,by simp;omega,aC,rfl⟩
theorem Aek(h:Rr R D)(hy:D.L[k]?=some y)(hn:y.N=m)(a:y'.N=m):((D.L.set k y').map (·.N)).Nodup:=by grind [List.map_set,Rr.ln]
theorem Ael(h:Rr R D)(a:y'.N=m)(q:Int)(hq:(C5 R.members m x').get q=none)(z:EA)(hz:z∈D.L.set k y'):z.N≠q:=by grind [BB,Rr.no]
theorem ZO(h:Rr R D)(hy:D.L[k]?=some y)(hn:y.N=m)(a:y'.N=m)(hM:Mr x' y')(q:Int)(z:Az)(hq:(C5 R.members m x').get q=some z):∃y∈D.L.set k y',y.N=q/\Mr z y:=by
 rw[BB] at hq;split at hq
 .rename_i e;cases hq;exact⟨y',bO (i:=k) (by grind),a.trans e.symm,hM⟩
 .rename_i hne;obtain⟨w,hw,b,c⟩:=h.mem q z hq;obtain⟨j,hj⟩:=Hd hw;have hkj:¬k=j:=by grind
  exact⟨w,bO (i:=j) (by grind),b,c⟩
theorem Aem(h:Rr R D){x:Az}(hx:R.members.get m=some x)(hy:D.L[k]?=some y)(hn:y.N=m)(b:y'.N=m)(hM:Mr x' y')(h1:∀a,x'.guard=some a->∃g,x.guard=some g/\a.id=g.id/\a.vouches=g.vouches)(h2:∀g,x.guard=some g->∃a,x'.guard=some a/\a.id=g.id):Rr (Iu R m x') {D with L:=D.L.set k y'} where
 card:=h.card
 nd:=h.nd
 in_:=h.in_
 was:=h.was
 w0:=h.w0
 ln:=Aek h hy hn b
 no q hq z hz:=Ael h b q hq z hz
 mem q z hq:=ZO h hy hn b hM q z hq
 vou q z a hq hg':=by grind [BB,Rr.vou]
 vof v hv:=by
  obtain⟨q,z,g,hq,hg,e⟩:=h.vof v hv;by_cases c:q=m
  .subst c;rw[hx] at hq;cases hq;obtain⟨a,e1,e2⟩:=h2 g hg;exact⟨q,x',a,by grind [BB],e1,e.trans e2.symm⟩
  .exact⟨q,z,g,by grind [BB],hg,e⟩
 vnd:=h.vnd
 back:=h.back
theorem Akz(z:Sy D)(h:Rr R D)(o:Bp):T ((dS D o.Member).bind λa=>bif 0<=a then((aS D.L a).bind λb=>(o6 D.L a ({b with Role:=o.Role})).bind λc=>some ({D with L:=c}))else(some D)) (Rr (UI R o)):=by
 have d:=z.l;refine .bind ((X3 z.z h o.Member).mono λv hv=>?_);unfold UI;cases hx:R.members.get o.Member with
 |none=>grind [T.some]
 |some x=>rw[hx] at hv;obtain⟨k,y,rfl,hy,hn,hM⟩:=hv;have hk:=(cr hy).1;rw[show decide ((0:Int)<=(k:Int))=true from C3 aa,ax,au,hy,aL];unfold o6;refine .bind (.bind (.app cq (.bind (.set aa cq (.some (.some ?_))))));rw[MJ,FF];grind [Aem,Mr]
abbrev inF(l:Bb)(d:Int):Bb:=l.filter λx=>decide (x≠d)
abbrev lF(l:List EA)(m:Int):List EA:=l.filter λy=>decide (y.N≠m)
def ZP(l:List EA)(i:Ab):Bool:=l.any λy=>y.Is&&decide (y.ID=i)
theorem Pl{l:List EA}{i:Ab}:ZP l i=true↔∃y∈l,y.Is=true/\y.ID=i:=by grind [ZP]
theorem AkA(z:Sz D)(i:Ab):T (jN D i) λv=>decide (0<=v)=ZP D.L i:=by grind [T.mono,Aku,Pl]
theorem ZQ:∀{l:Bb} {d:Int},l.Nodup->d∈l->(inF l d).length+1=l.length
 |[],d,_,h=>by cases h
 |x::r,d,hn,h=>by
  rw[MI] at hn;by_cases e:x=d
  .grind [List.filter_eq_self]
  .have:=ZQ hn.2 ((EQ.1 h).resolve_left λc=>e c.symm);grind
theorem AiE(h:Rr R D)(hR:Bn R)(hd:d∈D.In):Rr (I4 R d) {D with In:=inF D.In d,Gone:=D.Gone++[d]} where
 card:=h.card
 nd:=by show(inF D.In d++(D.Gone++[d])).Nodup;have h1:=List.nodup_append.1 h.nd;grind
 in_ e:=by grind [N3,Bn.ci,Rr.in_]
 was e:=by grind [Rr.was]
 w0:=by grind [ZQ,Rr.nd,Rr.w0]
 ln:=h.ln
 no:=h.no
 mem:=h.mem
 vou:=h.vou
 vof:=h.vof
 vnd:=h.vnd
 back:=h.back
theorem AiF(h:Rr R D)(hR:Bn R)(m:Int):Rr (Sm R m) {D with L:=lF D.L m,V:=D.V.filter λv=>ZP (lF D.L m) v.Of}:=by
 have hg:∀k,(Sm R m).members.get k=if k=m then none else R.members.get k:=λk=>N3 hR.cm k
 have hmem:∀y,y∈lF D.L m↔y∈D.L/\y.N≠m:=by grind
 constructor<;>try grind [Rr.nd,Rr.in_,Rr.was,Rr.w0,Rr.ln,Rr.of,Rr.vnd,Rr.back]
 .exact h.card
 .exact(by grind [Rr.mem])
 .exact λk x g hk hgd b d a=>by
   rw[hg] at hk;split at hk
   .cases hk
   .rename_i hne;rw[h.vou k x g hk hgd b d a];obtain⟨y,hy,hn,hm⟩:=h.mem k x hk;have h1:=hm.gd g hgd;have hown:ZP (lF D.L m) g.id=true:=by grind [Pl]
    constructor
    .rintro⟨v,hv,e1,e2⟩;exact⟨v,(by grind),e1,e2⟩
    .rintro⟨v,hv,e⟩;exact⟨v,(HC.1 hv).1,e⟩
 .exact λv hv=>by obtain⟨y,hy,h1,h2⟩:=Pl.1 (HC.1 hv).2;have c:=(hmem y).1 hy;obtain⟨x,hx,hm⟩:=h.of c.1;cases hgd:x.guard<;>grind [Mr.no,Mr.gd]
theorem AkB(z:Sy D)(d f:Int):T (AB (uj D d f) ([],false,0)) λx=>x=(inF D.In d,(inF D.In d).any λx=>decide (XX D.Cards x=f)):=by
 have hd:=z.dev;refine T.loop (λs=>∃k:Nat,k<=D.In.length/\s.2.2=(k:Int)/\s.1=inF (D.In.take k) d/\s.2.1=(inF (D.In.take k) d).any λx=>decide (XX D.Cards x=f)) (λs=>D.In.length-s.2.2.toNat) (by grind) cq ?_;rintro⟨a,b,i⟩ ⟨k,hk,rfl,ha,hb⟩;dsimp only at ha hb;subst ha;unfold uj;dsimp only;rcases HB k D.In.length with hlt|hge
 .obtain⟨x,hx,_⟩:=dk hlt;have hla:(inF (D.In.take k) d).length<=k:=by grind
  simp only[eA hlt,ax,au,hx,aL,ofE z.z];have ew:=aq (show k<2305843009213693952 by omega);have e:inF (D.In.take (k+1)) d=inF (D.In.take k) d++(if x≠d then[x] else[]):=by unfold inF;rw[Rb hx,Re];by_cases c:x=d<;>simp[c]
  refine .dec (λhc=>?_) λhc=>?_
  .rw[Bu hc] at e;refine .bind (.app cq (.bind (x:=bif b then some true else some (decide (XX D.Cards x=f))) (T.mono (Q:=λq=>q=(b||decide (XX D.Cards x=f))) (by cases b<;>exact .some rfl) λq hq=> .some ⟨⟨k+1,aa,ew,e.symm,?_⟩,?_⟩)));all_goals grind
  .rw[Bt hc,KY] at e;refine .some ⟨(by grind),?_⟩;rw[ew];simp;omega
 .obtain rfl:k=D.In.length:=aa;rw[eF,A9];refine .some (show(_,_)=_ from ?_);rw[hb,EZ]
theorem AkC(z:Sy D)(m:Int):T (AB (ui D m) ([],[],0)) λx=>x=(lF D.L m,[]):=by
 have hd:=z.l;refine T.loop (λs=>∃k:Nat,k<=D.L.length/\s.2.2=(k:Int)/\s.1=lF (D.L.take k) m/\s.2.1=[]) (λs=>D.L.length-s.2.2.toNat) (by grind) cq ?_;rintro⟨a,b,i⟩ ⟨k,hk,rfl,ha,hb⟩;dsimp only at ha hb;subst ha;subst hb;unfold ui;dsimp only;rcases HB k D.L.length with hlt|hge
 .obtain⟨x,hx,_⟩:=dk hlt;have hla:(lF (D.L.take k) m).length<=k:=by grind
  simp only[eA hlt,ax,au,hx,aL];have ew:=aq (show k<2305843009213693952 by omega);have e:lF (D.L.take (k+1)) m=lF (D.L.take k) m++(if x.N≠m then[x] else[]):=by unfold lF;rw[Rb hx,Re];grind
  refine .dec (λhc=>?_) λhc=>?_
  .rw[Bu hc] at e;refine .bind (.app cq (.some ⟨(by grind),?_⟩));rw[ew];simp;omega
  .rw[Bt hc,KY] at e;refine .some ⟨(by grind),?_⟩;rw[ew];simp;omega
 .obtain rfl:k=D.L.length:=aa;rw[eF,A9];refine .some (show(_,_)=_ from ?_);rw[EZ]
theorem AkD{step:List Hb×Int->Option ((List Hb×Int)⊕List Hb)}{V:List Hb}{p:Hb->Bool}(hn:V.length<=2000)(hs:∀(k:Nat) (v:Hb) (acc:List Hb),V[k]?=some v->acc.length<=2000->T (step (acc,(k:Int))) λq=>q= .inl (if p v then acc++[v]else acc,wI ((k:Int)+1)))(he:∀acc,step (acc,(V.length:Int))=some (.inr acc)):T (AB step ([],0)) λx=>x=V.filter p:=by
 refine T.forA V.length (λk acc=>acc=(V.take k).filter p) aa aC (λk acc hk hj=>?_) λacc hj=>?_
 .obtain⟨v,hv,_⟩:=dk hk;have hal:acc.length<=k:=by grind
  refine(hs k v acc hv aa).mono λq hq=>?_;subst hq;refine⟨aq aa,?_⟩;dsimp only;rw[Rb hv,Re,<-hj];cases hp:p v<;>simp[hp]
 .rw[he];refine .some (show acc=_ from ?_);rw[hj,EZ]
theorem Ah3(z:Sy D)(h:Rr R D)(hR:Bn R)(d:Int):T (sh D d) λD'=>Rr (Ha R d) D'/\Sy D':=by
 have f:=z.dev;have b:=z.l;have a:=z.v;have z4:=z.c;unfold sh Ha;rw[inE z.z h,aL];cases hi:Qs R d with
 |false=>exact .some ⟨h,z⟩
 |true=>
  have hd:d∈D.In:=by grind [Rr.ins]
  rw[Bool.not_true,A9,ax,ofE z.z,aL,<-h.card];refine .bind ((AkB z d (DE R d)).mono λx hx=>?_);subst hx;have ho:=AiE h hR hd;have hlen:=ZQ (List.nodup_append.1 h.nd).1 hd;have hst:Mh (I4 R d) (DE R d)=(inF D.In d).any λx=>decide (XX D.Cards x=DE R d):=by
   unfold Mh;rw[Bool.eq_iff_iff,List.any_eq_true,List.any_eq_true];constructor
   .rintro⟨e,he,hc⟩;have hg:=JL (Vp hR.ci) (k:=e.1) (v:=e.2.1) (n:=e.2.2) he;have hge:=ho.in_ e.1;grind [Rr]
   .rintro⟨x,hx,hc⟩;have hge:=ho.in_ x;rw[Bu hx] at hge;obtain⟨n,hn⟩:=Hr hge;grind [Rr]
  refine .bind (.app cq (.bind (.app cq ?_)));rw[MJ];dsimp only;rw[hst];cases hb:(inF D.In d).any λx=>decide (XX D.Cards x=DE R d) with
  |true=>grind [Sy,T.some]
  |false=>
   rw[A9,A9];refine .bind ((AkC z (DE R d)).mono λx hx=>?_);subst hx;have hlf:(lF D.L (DE R d)).length<=2000:=MG (Np _ _) b;have hif:(inF D.In d).length<=D.In.length:=Np _ _;refine .bind ((AkD (p:=λv=>ZP (lF D.L (DE R d)) v.Of) a (λk v acc hv hal=>?_) λacc=>?_).mono λx hx=>?_)
   .have hk:=(cr hv).1;unfold uh;simp only[eA hk,ax,au,hv,aL];grind [T.bind,T.mono,AkA,Sz,T.app,T.some]
   .grind [uh,eF]
   .subst hx;exact .some ⟨AiF ho (Aaf hR d) (DE R d),z4,by simp;omega,hlf,MG (Np _ _) a⟩
end
structure Rq (Q Q':Ad):Prop where
 c:∀d,DE Q' d=DE Q d
 i:∀d,Q'.in_.get d=Q.in_.get d
 w:∀d,Q'.was.get d=Q.was.get d
 n:Q'.was.es.length=Q.was.es.length
 m:∀k,Q'.members.get k=Q.members.get k
 b:Q'.back=Q.back
theorem Rq.rr{Q Q':Ad}{D:Dk}(q:Rq Q Q')(h:Rr Q D):Rr Q' D where
 card d:=(q.c d).trans (h.card d)
 nd:=h.nd
 in_ d:=(q.i d).trans (h.in_ d)
 was d:=(q.w d).trans (h.was d)
 w0:=q.n.trans h.w0
 ln:=h.ln
 no m hm:=h.no m ((q.m m).symm.trans hm)
 mem m x hm:=h.mem m x ((q.m m).symm.trans hm)
 vou m x g hm hg:=by grind [Rr,m]
 vof v hv:=by grind [Rr.vof,m]
 vnd:=h.vnd
 back:=q.b.trans h.back
structure Go (R Q:Ad) (m:Int) (p:Bb):Prop where
 c:∀d,DE Q d=DE R d
 w:Q.was=R.was
 b:Q.back=R.back
 i:∀e,Q.in_.get e=if e∈p then none else R.in_.get e
 m1:p=[]\/(∃e v,Q.in_.get e=some v/\DE R e=m)->∀k,Q.members.get k=R.members.get k
 m2:p≠[]->(∀e v,Q.in_.get e=some v->DE R e≠m)->∀k,Q.members.get k=if k=m then none else R.members.get k
theorem Go.step{R Q:Ad}{m:Int}{p:Bb}{d:Int}(h:Go R Q m p)(hQ:Bn Q)(hp:d∉p)(hi:R.in_.get d=some true)(hm:DE R d=m):Go R (Ha Q d) m (p++[d]):=by
 have hq:Q.in_.get d=some true:=by rw[h.i,Bt hp,hi]
 have hin:Qs Q d=true:=by unfold Qs;rw[hq];rfl
 have ho:∀e,(I4 Q d).in_.get e=if e∈p++[d]then none else R.in_.get e:=by grind [N3,Bn.ci,i]
 have hst:Mh (I4 Q d) (DE Q d)=true↔∃e v,(I4 Q d).in_.get e=some v/\DE R e=m:=by
  unfold Mh;rw[List.any_eq_true,h.c,hm];constructor
  .rintro⟨e,he,hc⟩;exact⟨e.1,e.2.1,(by grind [JL,Vp,Bn.ci]),(h.c e.1).symm.trans (DR hc)⟩
  .rintro⟨e,v,hg,hc⟩;obtain⟨n,hn⟩:=Hr hg;exact⟨_,hn,C3 ((h.c e).trans hc)⟩
 have a:=h.m1 (.inr ⟨d,true,hq,hm⟩);unfold Ha;rw[hin,ax];cases hs:Mh (I4 Q d) (DE Q d) with
 |true=>have hx:=hst.1 hs;exact⟨h.c,h.w,h.b,ho,λ_=>a,(by grind)⟩
 |false=>
  have hx:¬∃e v,(I4 Q d).in_.get e=some v/\DE R e=m:=by grind
  refine⟨h.c,h.w,h.b,ho,λc=>?_,λ_ _ k=>?_⟩;all_goals grind [N3,Bn.cm,c]
theorem Go.fold{R:Ad}{m:Int}:∀{l p:Bb} {Q:Ad},Go R Q m p->Bn Q->(p++l).Nodup->(∀d∈l,R.in_.get d=some true/\DE R d=m)->Go R (l.foldl Ha Q) m (p++l)
 |[],p,Q,h,_,_,_=>by rw[KY];exact h
 |d::r,p,Q,h,hQ,hn,hl=>by
  have hp:d∉p:=by grind
  have h1:=h.step hQ hp (hl d aC).1 (hl d aC).2;have:=Go.fold (l:=r) h1 (KJ hQ d) (by rw[List.append_assoc];exact hn) (by grind);rw[List.append_assoc] at this;exact this
theorem Uc{R:Ad}{m:Int}:∀{l:Bb} {Q:Ad},(∀d,DE Q d=DE R d)->l.foldl (Tz m) Q=(l.filter λd=>decide (DE R d=m)).foldl Ha Q
 |[],Q,_=>rfl
 |d::r,Q,h=>by
  have hc:∀e,DE (Ha Q d) e=DE R e:=by grind [Ha,DE]
  have e:Tz m Q d=bif DE R d=m then Ha Q d else Q:=by unfold Tz;rw[h d]
  rw[List.foldl_cons,e];by_cases c:DE R d=m
  .rw[C3 c,ax,List.filter_cons_of_pos (p:=λd=>decide (DE R d=m)) (C3 c),List.foldl_cons];exact Uc hc
  .rw[C6 c,A9,List.filter_cons_of_neg (p:=λd=>decide (DE R d=m)) (by simpa using c)];exact Uc h
section
variable {R:Ad} {D:Dk}
theorem Ah4(l:Bb)(hl:l.length<=2000)(z:Sy D)(h:Rr R D)(hR:Bn R):T (AB (AT l) (D,0)) λD'=>Rr (l.foldl Ha R) D'/\Sy D':=by
 refine(T.forA l.length (λk D'=>Rr ((l.take k).foldl Ha R) D'/\Bn ((l.take k).foldl Ha R)/\Sy D') aa ⟨h,hR,z⟩ (λk D' hk hj=>?_) λD' hj=>?_)
 .obtain⟨x,hx,_⟩:=dk hk;unfold AT;simp only[eA hk,ax,au,hx,aL];refine .bind ((Ah3 hj.2.2 hj.1 hj.2.1 x).mono λa h2=> .some ⟨aq aa,?_⟩);rw[Rb hx,O0];grind [KJ]
 .unfold AT;dsimp only;rw[eF,A9];rw[EZ] at hj;exact .some ⟨hj.1,hj.2.2⟩
theorem Amu(z:Sy D)(o:Bp){st:Bb×Int->Option ((Bb×Int)⊕Bb)}(hst:st=Pj D o):AB st ([],0)=some (D.In.filter λx=>decide (XX D.Cards x=o.Member)):=by
 have a:=z.dev;subst hst;refine T.eq (T.forA D.In.length (λk acc=>acc=(D.In.take k).filter λx=>decide (XX D.Cards x=o.Member)) aa aC (λk acc hk hj=>?_) λacc hj=>?_)
 .obtain⟨x,hx,_⟩:=dk hk;have hal:acc.length<=k:=by grind
  unfold Pj;simp only[eA hk,ax,au,hx,aL,ofE z.z];have e:(D.In.take (k+1)).filter (λx=>decide (XX D.Cards x=o.Member))=acc++(if XX D.Cards x=o.Member then[x] else[]):=by rw[Rb hx,Re,<-hj];grind
  refine .dec (λhc=>?_) λhc=>?_
  .rw[Bu hc] at e;exact .bind (.app cq (.some ⟨aq aa,e.symm⟩))
  .rw[Bt hc,KY] at e;exact .some ⟨aq aa,e.symm⟩
 .unfold Pj;dsimp only;rw[eF,A9];refine .some (show acc=_ from ?_);rw[hj,EZ]
theorem Amv(z:Sy D)(h:Rr R D)(hR:Bn R)(o:Bp):T (AB (AT (D.In.filter λx=>decide (XX D.Cards x=o.Member))) (D,0)) (Rr (AfK R o)):=by
 have j:=z.dev;have hn:=(List.nodup_append.1 h.nd).1;refine(Ah4 _ (by grind) z h hR).mono λD' hD=>?_;unfold AfK;rw[Uc λd=>rfl];obtain⟨m,f,_⟩:=OJ hR;generalize hA:(D.In.filter λx=>decide (XX D.Cards x=o.Member))=A at hD;generalize hB:((JN R).filter λd=>decide (DE R d=o.Member))=B;have hAB:∀e,e∈A↔e∈B:=λe=>by
  rw[<-hA,<-hB,HC,HC,f.mem_iff,h.card];refine and_congr ?_ Iff.rfl;have hi:=h.in_ e;constructor
  .grind [Hr]
  .intro he;obtain⟨q,hq,rfl⟩:=Fq.1 he;have hg:=JL hR.ci (k:=q.1) (v:=q.2.1) (n:=q.2.2) hq;grind
 have hin:∀d∈A,R.in_.get d=some true/\DE R d=o.Member:=by grind [Rr.in_]
 have h0:Go R R o.Member []:=by constructor<;>grind
 have gA:=Go.fold (l:=A) h0 hR (by rw[MJ,<-hA];exact hn.sublist List.filter_sublist) hin;have gB:=Go.fold (l:=B) h0 hR (by rw[MJ,<-hB];exact((f.nodup_iff.2 hR.ci.kd).sublist List.filter_sublist)) λd hd=>hin d ((hAB d).2 hd);rw[MJ] at gA gB;have hfin:∀{Q:Ad} {p:Bb},(∀e,e∈p↔e∈A)->Go R Q o.Member p->∀k,Q.members.get k=if A=[]then R.members.get k else if k=o.Member then none else R.members.get k:=λ{Q p} hp g k=>by
  by_cases c:A=[]
  .have hp0:p=[]:=by
    cases p with
    |nil=>rfl
    |cons a r=>have:=(hp a).1 aC;rw[c] at this;cases this
   grind [Go.m1]
  .rw[Bt c];have hp0:p≠[]:=λe=>by
    cases hA':A with
    |nil=>exact c hA'
    |cons a r=>have:=(hp a).2 (by rw[hA'];simp);rw[e] at this;cases this
   refine g.m2 hp0 (λe v he hc=>?_) k;grind [Go.i,Rr.in_,Rr.card]
 have q:Rq (A.foldl Ha R) (B.foldl Ha R):=⟨(by grind [Go]),λd=>by rw[gA.i,gB.i];simp only[hAB],λd=>by rw[gA.w,gB.w],by rw[gA.w,gB.w],(by grind),by rw[gA.b,gB.b]⟩;exact q.rr hD.1
def NoG(R:Ad)(i:Ab):Prop:=∀q z g,R.members.get q=some z->z.guard=some g->g.id≠i
theorem AiG{l:List EA}{z:EA}(hz:z∈l.set k y'):z=y'\/∃j,j≠k/\l[j]?=some z:=by grind [Hd]
theorem AiH(h:Rr R D){x:Az}{i:Ab}(hx:R.members.get m=some x)(hy:D.L[k]?=some y)(hn:y.N=m)(f:y'.N=m)(hM:Mr x' y')(hg:x'.guard=some g)(hi:g.id=i)(he:∀q,g.vouches.get q=none)(hf:NoG R i):Rr (Iu R m x') {D with L:=D.L.set k y',V:=D.V.filter λv=>ZP (D.L.set k y') v.Of} where
 card:=h.card
 nd:=h.nd
 in_:=h.in_
 was:=h.was
 w0:=h.w0
 ln:=Aek h hy hn f
 no q hq z hz:=Ael h f q hq z hz
 mem q z hq:=ZO h hy hn f hM q z hq
 vou q z g' hq hg':=by
  have hz:∃w∈D.L.set k y',w.N=q/\Mr z w:=ZO h hy hn f hM q z hq;have hq:(C5 R.members m x').get q=some z:=hq;intro b d a;rw[BB] at hq;split at hq
  .cases hq;rw[hg] at hg';cases hg';rw[he];constructor
   .intro c;cases c
   .rintro⟨v,hv,e1,_⟩;obtain⟨l,n,g2,k1,k2,k3⟩:=h.vof v (HC.1 hv).1;exact absurd (k3.symm.trans (e1.trans hi)) (hf l n g2 k1 k2)
  .rw[h.vou q z g' hq hg'];obtain⟨w,hw,_,hm⟩:=hz;have h1:=hm.gd g' hg';have hown:ZP (D.L.set k y') g'.id=true:=by grind [Pl]
   constructor
   .rintro⟨v,hv,e1,e2⟩;exact⟨v,(by grind),e1,e2⟩
   .rintro⟨v,hv,e⟩;exact⟨v,(HC.1 hv).1,e⟩
 vof v hv:=by
  obtain⟨w,hw,h1,h2⟩:=Pl.1 (HC.1 hv).2;obtain⟨l,n,g2,k1,k2,k3⟩:=h.vof v (HC.1 hv).1;rcases AiG hw with rfl|⟨j,hj,o⟩
  .have:=(hM.gd g hg).2.1;exact absurd (by grind) (hf l n g2 k1 k2)
  .obtain⟨z,hz,hm⟩:=h.of (bO o);have hne:w.N≠m:=λc=>by
    have e1:(D.L.map (·.N))[j]?=some m:=by grind
    have e2:(D.L.map (·.N))[k]?=some m:=by grind
    exact hj (M4 h.ln e1 e2)
   cases hgd:z.guard with
   |none=>rw[hm.no hgd] at h1;cases h1
   |some p=>exact⟨w.N,z,p,by grind [BB],hgd,by grind [Mr.gd]⟩
 vnd:=h.vnd.sublist (List.filter_sublist.map _)
 back:=h.back
theorem Amx(z:Sy D)(h:Rr R D){i:Ab}(hf:NoG R i):T (o7 D o i) (Rr (Aak R o i)):=by
 have b:=z.l;have a:=z.v;have z4:=z.c;have d:=z.dev;unfold o7 Aak;rw[ofE z.z,aL,<-h.card];refine .bind ((X3 z.z h (DE R o.By)).mono λv hv=>?_);cases hx:R.members.get (DE R o.By) with
 |none=>grind [T.some]
 |some x=>
  rw[hx] at hv;obtain⟨k,y,rfl,hy,hn,hM⟩:=hv;have hk:=(cr hy).1;rw[show decide ((k:Int)<0)=false from C6 aa,A9,au,hy,aL,aL];unfold o6;refine .bind (.bind (.app cq (.bind (.set aa cq (.some ?_)))));rw[MJ,FF];refine .bind ((AkD (p:=λv=>ZP (D.L.set k ⟨y.N,y.Role,true,i,o.Guards,o.Need,o.Wait,false,0⟩) v.Of) a (λj v acc hv hal=>?_) λacc=>?_).mono λq hq=>?_)
  .have hj:=(cr hv).1;unfold ni;simp only[eA hj,ax,au,hv,aL];grind [T.bind,T.mono,AkA,Sz,T.app,T.some]
  .grind [ni,eF]
  .subst hq;refine .some (AiH h hx hy hn hn ⟨hM.role,λc=>(by cases c),λg hg=>?_⟩ rfl rfl (λq=>rfl) hf);cases hg;exact⟨rfl,rfl,rfl,rfl,rfl,rfl,rfl⟩
def Jt(o:Bp)(v:Hb):Bool:=decide (v.Of=o.Of)&&(decide (v.By=o.By)&&decide (v.Device=o.Device))
theorem Aen{v:Hb}:Jt o v=true↔v.Of=o.Of/\v.By=o.By/\v.Device=o.Device:=by grind [Jt]
theorem Amy(z:Sy D)(h:Rr R D)(o:Bp):T (AB (nj D o) (o.At,[],0)) λx=>x.2=D.V.filter (λv=> !Jt o v)/\((x.1=o.At/\∀v∈D.V,Jt o v=false)\/∃v∈D.V,Jt o v=true/\x.1=iI o.At v.At):=by
 have a:=z.v;refine T.loop (λs=>∃k:Nat,k<=D.V.length/\s.2.2=(k:Int)/\s.2.1=(D.V.take k).filter (λv=> !Jt o v)/\((s.1=o.At/\∀v∈D.V.take k,Jt o v=false)\/∃(j:Nat) (v:Hb),j<k/\D.V[j]?=some v/\Jt o v=true/\s.1=iI o.At v.At)) (λs=>D.V.length-s.2.2.toNat) (by grind) cq ?_;rintro⟨b,acc,i⟩ ⟨k,hk,rfl,ha,hm⟩;dsimp only at ha hm;subst ha;unfold nj;dsimp only;rcases HB k D.V.length with hlt|hge
 .obtain⟨v,hv,_⟩:=dk hlt;have hla:((D.V.take k).filter (λv=> !Jt o v)).length<=k:=by grind
  have ew:=aq (show k<2305843009213693952 by omega);have e:(D.V.take (k+1)).filter (λv=> !Jt o v)=(D.V.take k).filter (λv=> !Jt o v)++(if Jt o v=true then[] else[v]):=by rw[Rb hv,Re];cases c:Jt o v<;>simp[c]
  simp only[eA hlt,ax,au,hv,aL];refine .bind (T.mono (Q:=λq=>q=Jt o v) (by grind [Jt,T.some]) λq hq=>?_)
  subst hq;cases c:Jt o v with
  |true=>
   rw[c,Bu rfl,KY] at e;rw[ax];refine .some ⟨⟨k+1,aa,ew,e.symm,.inr ⟨k,v,aa,hv,c,?_⟩⟩,by rw[ew];simp;omega⟩;rcases hm with⟨rfl,_⟩|⟨j,w,hj,hw,hc,_⟩
   .rfl
   .have kc:∀u:Hb,Jt o u=true->(u.Of,u.By,u.Device)=(o.Of,o.By,o.Device):=by grind [Jt]
    have e1:(D.V.map λv=>(v.Of,v.By,v.Device))[j]?=some (o.Of,o.By,o.Device):=by grind
    have e2:(D.V.map λv=>(v.Of,v.By,v.Device))[k]?=some (o.Of,o.By,o.Device):=by grind
    have:=M4 h.vnd e1 e2;omega
  |false=>rw[c,Bt aC] at e;rw[A9];refine .bind (.app cq (.some ⟨⟨k+1,aa,ew,e.symm,?_⟩,by rw[ew];simp;omega⟩));grind [Rb]
 .obtain rfl:k=D.V.length:=aa;rw[eF,A9];rw[EZ] at hm⊢;refine .some ⟨rfl,?_⟩;grind
theorem Aeo(h:Rr R D)(hR:Bn R){x:Az}{g g2:CB}{a:Int}{M:FM Int Az}(hx:R.members.get m=some x)(hg:x.guard=some g)(hid:g.id=o.Of)(e2:∀y,Mr x y->Mr ⟨x.role,some g2⟩ y)(ei:g2.id=g.id)(hM:∀q,M.get q=if q=m then some ⟨x.role,some g2⟩else R.members.get q)(hv:∀q,g2.vouches.get q=if q=WY o then some a else g.vouches.get q):Rr {R with members:=M} {D with V:=D.V.filter (λv=> !Jt o v)++[⟨o.Of,o.By,o.Device,a⟩]} where
 card:=h.card
 nd:=h.nd
 in_:=h.in_
 was:=h.was
 w0:=h.w0
 ln:=h.ln
 no q hq y hy:=by grind [Rr.no]
 mem q z hq:=by grind [Rr.mem]
 vou q z g' hq hg':=by
  have hq:M.get q=some z:=hq;intro b d c;have hkb:∀v:Hb,(!Jt o v)=true↔¬(v.Of=o.Of/\v.By=o.By/\v.Device=o.Device):=by grind [Aen]
  have hV:∀i,Agx (D.V.filter (λv=> !Jt o v)++[⟨o.Of,o.By,o.Device,a⟩]) i b d c↔(i=o.Of/\b=o.By/\d=o.Device/\c=a)\/(¬(i=o.Of/\b=o.By/\d=o.Device)/\Agx D.V i b d c):=λi=>by
   constructor
   .rintro⟨v,hv,e1,e2,e3,e4⟩;rcases I9.1 hv with hv|hv
    .rw[HC,hkb,e1,e2,e3] at hv;exact .inr ⟨hv.2,v,hv.1,e1,e2,e3,e4⟩
    grind
   .rintro(⟨rfl,rfl,rfl,rfl⟩|⟨hne,v,hv,e1,e2,e3,e4⟩)
    .exact⟨_,I9.2 (.inr (List.mem_singleton.2 rfl)),rfl,rfl,rfl,rfl⟩
    .exact⟨v,(by grind),e1,e2,e3,e4⟩
  show _↔Agx (D.V.filter (λv=> !Jt o v)++[⟨o.Of,o.By,o.Device,a⟩]) g'.id b d c;rw[hV];rw[hM] at hq;split at hq
  .grind [Rr.vou]
  .rename_i hne;rw[h.vou q z g' hq hg'];have hd:g'.id≠o.Of:=by grind [Bn]
   grind
 vof v e:=by grind [Rr.vof]
 vnd:=by show((D.V.filter (λv=> !Jt o v)++[(⟨o.Of,o.By,o.Device,a⟩:Hb)]).map λv=>(v.Of,v.By,v.Device)).Nodup;rw[List.map_append,Fi,List.map_nil,List.perm_append_comm.nodup_iff,List.singleton_append,MI];refine⟨λhh=>?_,h.vnd.sublist (List.filter_sublist.map _)⟩;grind [Jt]
 back:=h.back
theorem Amz(z:Sy D)(h:Rr R D)(hR:Bn R)(o:Bp):T (o8 D o) (Rr (Ye R o)):=by
 have c:=z.v;unfold o8;refine .bind ((ZM z.z h hR o).mono λv hv=>?_);rw[hv.1];cases hf:R.members.es.find? λe=>Ly e.2.1 o.Of with
 |none=>grind [Dd,Ye,T.some]
 |some e=>
  obtain⟨hx,_⟩:=hR.mem (List.mem_of_find?_eq_some hf);have hge:Ly e.2.1 o.Of=true:=by have:=List.find?_some hf;exact this
  obtain⟨q,⟨role,gd⟩,n⟩:=e;dsimp only at hx hge;cases gd with
  |none=>cases hge
  |some g=>
  have hid:g.id=o.Of:=DR hge;have e1:Dd R o=bif g.guards.any (λy=>decide (o.By=y))then(q,0)else(0,14):=by unfold Dd;rw[hf]
  have e2:Ye R o=bif(g.guards.any λy=>decide (o.By=y))&&Aaj g o then Iu R q ⟨role,some (Ack g o)⟩else R:=by unfold Ye;rw[hf]
  rw[e1,e2];cases hb:g.guards.any λy=>decide (o.By=y) with
  |false=>exact .some h
  |true=>
  rw[ax,Bool.true_and];refine .bind ((Amy z h o).mono λx hx2=>?_);obtain⟨b,V'⟩:=x;obtain⟨h1,h2⟩:=hx2;dsimp only at h1 h2;subst h1;have hfl:(D.V.filter λv=> !Jt o v).length<=D.V.length:=Np _ _;refine .bind (.app cq (.some ?_));have key:∀a,g.vouches.get (WY o)=some a↔∃v∈D.V,Jt o v=true/\v.At=a:=λa=>by
   rw[show WY o=⟨o.By,o.Device⟩ from rfl,h.vou q _ g hx rfl];constructor
   .rintro⟨v,hv,k1,k2,k3,d⟩;grind [Jt]
   .rintro⟨v,hv,k1,k2⟩;unfold Jt at k1;simp only[bA,decide_eq_true_eq] at k1;exact⟨v,hv,k1.1.trans hid.symm,k1.2.1,k1.2.2,k2⟩
  have keep:g.vouches.get (WY o)=some b->Rr R {D with V:=D.V.filter (λv=> !Jt o v)++[⟨o.Of,o.By,o.Device,b⟩]}:=λhk=>Aeo (M:=R.members) (g2:=g) (a:=b) h hR hx rfl hid (λy hy=>hy) rfl (by grind) (by grind);have new:b=o.At->Rr (Iu R q ⟨role,some (Ack g o)⟩) {D with V:=D.V.filter (λv=> !Jt o v)++[⟨o.Of,o.By,o.Device,b⟩]}:=λhk=>Aeo (M:=C5 R.members q ⟨role,some (Ack g o)⟩) (g2:=Ack g o) (a:=b) h hR hx rfl hid (by grind [Mr]) rfl (λp=>by rw[BB]) (by grind [BB]);cases hg:g.vouches.get (WY o) with
  |none=>
   have hN:Aaj g o=true:=by unfold Aaj;rw[hg]
   rw[hN];rcases h2 with⟨h2,_⟩|⟨v,hv,h3,h4⟩
   .exact new h2
   .have:=(key v.At).2 ⟨v,hv,h3,rfl⟩;rw[hg] at this;cases this
  |some a=>
   have hN:Aaj g o=decide (o.At<a):=by unfold Aaj;rw[hg]
   obtain⟨w,hw,k1,k2⟩:=(key a).1 hg;have hmn:b=iI o.At a:=by
    rcases h2 with⟨_,h2⟩|⟨v,hv,h3,h4⟩
    .rw[h2 w hw] at k1;cases k1
    .have:=(key v.At).2 ⟨v,hv,h3,rfl⟩;grind
   grind [iI]
theorem AmA(z:Sy D)(h:Rr R D)(hR:Bn R)(o:Bp):T ((bif 0<ah D.In then(some true)else(bif 0<ah D.Gone then(some true)else((gE D o.By).bind λa=>some (decide (a=0))))).bind λb=>bif b then(some D)else((nX D o.By 3).bind λc=>some ({c with Back:=o.Need}))) (Rr (Abr R o)):=by
 have hw:=h.w0;unfold Abr;rw[ofE z.z,<-h.card,aL];unfold ah;rcases Nat.eq_zero_or_pos D.In.length with c1|c1
 .rcases Nat.eq_zero_or_pos D.Gone.length with c2|c2
  .have hi:D.In=[]:=List.eq_nil_of_length_eq_zero c1;have hg:D.Gone=[]:=List.eq_nil_of_length_eq_zero c2;have hf:D5 R o.By=decide (0<DE R o.By):=by grind [Rr.was,D5,Hx]
   rw[c1,c2,hw,c1,c2,hf];have h0:=(hR.c3 o.By).1;have h0:0<=DE R o.By:=h0;rw[show decide ((0:Int)<((0:Nat):Int))=false from rfl,A9,A9,aL,show decide ((((0+0:Nat)):Int)=0)=true from rfl,Bool.true_and];by_cases c3:DE R o.By=0
   .rw[C3 c3,c3];exact .some h
   .rw[C6 c3,show decide (0<DE R o.By)=true from C3 aa,A9,ax];refine .bind ((AbR z h hR o.By 3).mono λD' hD=> .some ?_);have h1:=hD.1;exact⟨h1.card,h1.nd,h1.in_,h1.was,h1.w0,h1.ln,h1.no,h1.mem,h1.vou,h1.vof,h1.vnd,rfl⟩
  grind [T.some]
 grind [T.some]
theorem AmB(z:Sy D)(h:Rr R D)(o:Bp){a:Int}(hv:match R.members.get (DE R o.By) with
  |none=>a= -1
  |some x=>∃(k:Nat) (y:EA),a=(k:Int)/\D.L[k]?=some y/\y.N=DE R o.By/\Mr x y):T ((bif 0<=a then((aS D.L (E0 a 0)).bind λc=>bif c.Is then((aS D.L (E0 a 0)).bind λd=>some (decide (d.ID=o.Of)))else(some false))else(some false)).bind λf=>bif f then((aS D.L a).bind λb=>(o6 D.L a ({b with Objected:=true,Last:=E0 b.Last o.At})).bind λi=>some ({D with L:=i}))else(some D)) (Rr (WG R o)):=by
 have j:=z.l
 cases hx:R.members.get (DE R o.By) with
 |none=>
  grind [WG,T.some]
 |some x=>
  rw[hx] at hv
  obtain⟨k,y,rfl,hy,hn,hM⟩:=hv
  have hk:=(cr hy).1
  have hmx:E0 (k:Int) 0=(k:Int):=by unfold E0;rw[Bt aa]
  rw[show decide ((0:Int)<=(k:Int))=true from C3 aa,ax,hmx,au,hy,aL,aL]
  obtain⟨role,gd⟩:=x
  cases gd with
  |none=>
   grind [WG,Mr.no,T.some]
  |some g=>
   have h1:=hM.gd g rfl
   have e:WG R o=bif g.id=o.Of then Iu R (DE R o.By) ⟨role,some {g with objected:=true,last:=E0 g.last o.At}⟩else R:=by unfold WG;rw[hx]
   rw[e,h1.1,h1.2.1,ax,aL]
   cases decide (g.id=o.Of) with
   |false=>exact .some h
   |true=>
    rw[ax,ax,aL]
    unfold o6
    refine .bind (.bind (.app cq (.bind (.set aa cq (.some (.some ?_))))))
    rw[MJ,FF]
    refine Aem h hx hy hn hn (by grind [Mr]) (λm hg'=>?_) (by grind)
    all_goals grind
theorem AmC(z:Sy D)(hb:D.In.length+D.Gone.length<=1999/\D.L.length<=1999)(h:Rr R D)(hR:Bn R)(o:Bp):T ((jN D o.Of).bind λb=>(bif 0<=b then((fb D.In o.Old).bind λj=>bif j then((gE D o.Old).bind λm=>(aS D.L (E0 b 0)).bind λn=>bif m=n.N then((gE D o.Device).bind λp=>(aS D.L (E0 b 0)).bind λq=>some (decide (p=q.N)))else(some false))else(some false))else(some false)).bind λr=>bif r then((gE D o.Device).bind λd=>(se D d).bind λf=>(nX D o.Device f).bind λi=>(sh i o.Old).bind λa=>some a)else(some D)) (Rr (Aal R o)):=by
 refine .bind ((Akv z.z h hR o.Of).mono λv hv=>?_);have fin:T (bif Acl R o then((gE D o.Device).bind λd=>(se D d).bind λf=>(nX D o.Device f).bind λi=>(sh i o.Old).bind λa=>some a)else(some D)) (Rr (Aal R o)):=by
  unfold Aal;cases Acl R o with
  |false=>exact .some h
  |true=>rw[ax,ax,ofE z.z,aL,<-h.card,Ah2 z.z h,aL];refine .bind ((AbR z h hR _ _).mono λD' hD=>?_);have g1:=hD.2.dev;have g2:=hD.2.l;refine .bind (by grind [T.mono,Ah3,Sy,Gw.c,Gw.v,I3,T.some])
 cases hf:R.members.es.find? λe=>Ly e.2.1 o.Of with
 |none=>grind [Acl,Hq]
 |some e=>
  rw[hf] at hv;obtain⟨k,y,g,rfl,hy,hn,_,_,_,hx⟩:=hv;have hw:Hq R o.Of=e.1:=by unfold Hq;rw[hf]
  have h3:=hR.m3 e (List.mem_of_find?_eq_some hf);have hB:Acl R o=bif Qs R o.Old then(bif DE R o.Old=e.1 then decide (DE R o.Device=e.1)else false)else false:=by grind [Acl]
  have hmx:E0 (k:Int) 0=(k:Int):=by unfold E0;rw[Bt aa]
  rw[show decide ((0:Int)<=(k:Int))=true from C3 aa,ax,inE z.z h,aL,hmx,au,hy];grind [ofE,Sy.z,Rr.card]
theorem doE(z:Sy D)(hb:D.In.length+D.Gone.length<=1999/\D.L.length<=1999)(h:Rr R D)(hR:Bn R){o:Bp}{i:Ab}(hf:o.Kind=9->NoG R i):T (DM D o i) (Rr (Vr R o i)):=by
 unfold DM;refine .eqb (ofE z.z o.By) ?_;rw[<-h.card];refine .bind ((X3 z.z h (DE R o.By)).mono λa hv=>?_);unfold Vr;refine .dec (λk1=>?_) λk1=>?_
 .grind [AmA]
 rw[Bt k1];refine .dec (λk2=>?_) λk2=>?_
 .rw[Bu k2];exact .bind (by grind [T.mono,AbR,T.some])
 rw[Bt k2];refine .dec (λk3=>?_) λk3=>?_
 .rw[Bu k3];by_cases c:o.Device=0
  .rw[Bu c,C3 c,ax,Amu z o rfl,aL,aL];exact .bind ((Amv z h hR o).mono λD' hD=> .some hD)
  .rw[Bt c,C6 c,A9,aL];exact .bind (by grind [T.mono,Ah4,T.some])
 rw[Bt k3];refine .dec (λk5=>?_) λk5=>?_
 .rw[Bu k5];exact Akz z h o
 rw[Bt k5];refine .dec (λk9=>?_) λk9=>?_
 .grind [Amx]
 grind [Amz,T.some,AmB,AmC]
theorem AkE(hc:∀d,DE (Hh cs) d=XX cs d):T (AV cs) (Rr (Hh cs)):=by
 refine .some ⟨hc,.nil,λd=>?_,λd=>?_,rfl,.nil,(by grind),λm x hm=>(by cases hm),λm x g hm=>(by cases hm),λv hv=>(by cases hv),.nil,rfl⟩
 .rw[Bt aC];rfl
 .rw[Bt aC];rfl
end
theorem T.and{α:Type}{x:Option α}{P Q:α->Prop}(h1:T x P)(h2:T x Q):T x λv=>P v/\Q v:=by obtain⟨v,e,p⟩:=h1;obtain⟨w,e2,q⟩:=h2;rw[e] at e2;cases e2;exact⟨v,e,p,q⟩
def Gs(R:Ad)(S:Ba):Prop:=∀q z g,R.members.get q=some z->z.guard=some g->g.id∈S
section
variable {R:Ad} {S:Ba}
theorem Gs.up(h:Gs R S)(i:Ab):Gs R (S++[i]):=λq z g h1 h2=>by simp[h q z g h1 h2]
theorem Vv(h:Gs R S){M:FM Int Az}{k:Int}{x:Az}(hM:∀q,M.get q=if q=k then some x else R.members.get q)(hx:∀g,x.guard=some g->g.id∈S){Q:Ad}(hQ:Q.members=M):Gs Q S:=λq z g h1 h2=>by
 rw[hQ,hM] at h1;split at h1
 .cases h1;exact hx g h2
 .exact h q z g h1 h2
theorem Vx(h:Gs R S)(d role:Int):Gs (Jd R d role) S:=by
 unfold Jd;cases D5 R d with
 |false=>exact h
 |true=>
  cases hm:(R.members.get (DE R d)).isSome with
  |true=>exact λq z g h1 h2=>h q z g (by grind) h2
  |false=>exact Vv h (M:=C5 R.members (DE R d) ⟨role,none⟩) (λq=>BB _ q) (λg hg=>by cases hg) (by rw[ax];simp[hm])
theorem ZR(h:Gs R S)(hR:Bn R)(d:Int):Gs (Ha R d) S:=by
 unfold Ha;cases Qs R d with
 |false=>exact h
 |true=>
  cases Mh (I4 R d) (DE R d) with
  |true=>exact h
  |false=>
   intro q z g h1 h2;have h1:(Sp R.members (DE R d)).get q=some z:=h1;rw[N3 hR.cm] at h1;split at h1
   .cases h1
   .exact h q z g h1 h2
theorem AiI(h:Gs R S)(hR:Bn R)(m:Int):∀l:Bb,Gs (l.foldl (Tz m) R) S:=λl=>by induction l generalizing R<;>grind [Adl,Tz,ZR]
theorem Ah5(h:Gs R S)(hR:Bn R)(o:Bp)(i:Ab):Gs (Vr R o i) (S++[i]):=by
 unfold Vr;split
 .unfold Abr;cases decide ((R.was.es.length:Int)=0)&&D5 R o.By with
  |false=>exact h.up i
  |true=>exact(Vx h o.By 3).up i
 split
 .exact(Vx h _ _).up i
 split
 .split
  .exact(AiI h hR _ _).up i
  .exact(ZR h hR _).up i
 split
 .refine Gs.up ?_ i;unfold UI;split
  .exact h
  .rename_i x hx;exact Vv h (x:=⟨o.Role,x.guard⟩) (λq=>BB _ q) (λg hg=>h _ x g hx hg) rfl
 split
 .unfold Aak;split
  .exact h.up i
  .exact Vv (h.up i) (λq=>BB _ q) (by grind) rfl
 split
 .refine Gs.up ?_ i;unfold Ye;split
  .rename_i k role g n hf;have hx:=(hR.mem (List.mem_of_find?_eq_some hf)).1;cases(g.guards.any λy=>decide (o.By=y))&&Aaj g o with
   |false=>exact h
   |true=>exact Vv h (λq=>BB _ q) (λa hg=>by cases hg;exact h _ _ g hx rfl) rfl
  .exact h
 split
 .refine Gs.up ?_ i;unfold WG;split
  .rename_i role g hx;cases decide (g.id=o.Of) with
   |false=>exact h
   |true=>exact Vv h (λq=>BB _ q) (λa hg=>by cases hg;exact h _ _ g hx rfl) rfl
  .exact h
 grind [Gs.up,Aal,ZR,Vx,I3]
end
structure Pg (g:AQ) (m:Jq) (N:Ja):Prop where
 w:Fs g
 p:Ou g m N
 od:∀(i:Nat) (o:Bp) (x:Ab),g.L[i]?=some o->g.IDs[i]?=some x->Xd o x
 dv:∀(i:Nat) (o:Bp) (x:Ab),g.L[i]?=some o->g.IDs[i]?=some x->∃c∈g.Cards,c.Device=o.By
 cd:AdZ g.Cards
 cn:(g.Cards.map (·.Device)).Nodup
section
variable {g:AQ} {m:Jq} {N:Ja} (P:Pg g m N)
include P
theorem Pg.op{i:Nat}{o:Bp}{x:Ab}(ho:g.L[i]?=some o)(hx:g.IDs[i]?=some x):(Cd g m N).op x=some o/\(Cd g m N).o x=o:=by
 have e:(Cd g m N).op x=some o:=by rw[Af5 P.w P.p,M5 P.w hx];exact ho
 grind [Gi.o]
theorem Pg.bef{i k:Nat}{x y:Ab}(hx:g.IDs[i]?=some x)(hy:g.IDs[k]?=some y):(Cd g m N).bef x y=Rh g k i:=by rw[AcB P.w P.p,M5 P.w hx,M5 P.w hy]
theorem Pg.new(d:Int):DE (Hh g.Cards) d=XX g.Cards d:=by
 have key:∀(l:Mi) (M:FM Int DQ),(l.map (·.Device)).Nodup->(∀c∈l,M.get c.Device=none)->(l.foldl (λm c=>C5 m c.Device c) M).get d=match l.find? λc=>decide (c.Device=d) with|some c=>some c|none=>M.get d:=by
  intro l;induction l with
  |nil=>exact λM _ _=>rfl
  |cons c r ih=>grind [BB]
 unfold DE XX Hh Aju;rw[key g.Cards ⟨[],0⟩ P.cn λc _=>rfl];cases g.Cards.find? λc=>decide (c.Device=d)<;>rfl
theorem AaT{D:Dk}(h:JB g n D)(hn:n<=1000):Sy D:=by grind [Pg,JB,Sy,Fs.nC]
theorem AmE(hi:EF g l)(hl:l.length<=1000)(hnd:(I6 g l).Nodup){id:Ab}(hk:g.IDs[k]?=some id):T (Fg g l (k:Int)) λD=>Rr (Xf (Cd g m N) (I6 g l) id) D/\Bn (Xf (Cd g m N) (I6 g l) id)/\JB g 1000 D:=by
 have w:=P.w;have nL:=w.nL;have nI:=w.nI;have hkl:k<g.L.length:=by grind
 obtain⟨d,e0,f⟩:=AkE (P.new);unfold Fg;rw[e0,aL];have hD0:d=⟨g.Cards,[],[],[],0,[]⟩:=(Bj e0).symm;subst hD0;refine .bind (T.mono (Q:=λD=>Rr (Xf (Cd g m N) (I6 g l) id) D/\Bn (Xf (Cd g m N) (I6 g l) id)/\JB g 1000 D) (T.forA l.length (λj D=>(Rr (((I6 g l).take j).foldl (TD (Cd g m N) id) (Hh g.Cards)) D/\Bn (((I6 g l).take j).foldl (TD (Cd g m N) id) (Hh g.Cards))/\Gs (((I6 g l).take j).foldl (TD (Cd g m N) id) (Hh g.Cards)) ((I6 g l).take j))/\JB g j D) aa ⟨⟨f,LD P.cd.r,λq z g h=>by cases h⟩,Mv g⟩ (λj D hj hr=>?_) λD hr=>?_) λD hr=> .some hr)
 .obtain⟨y,hy,hm⟩:=dk hj;obtain⟨i,x,rfl,hil,hx,a⟩:=Pa w hi hy;obtain⟨o,ho,so,t⟩:=w.op hil;obtain⟨row,b,hrow,hb⟩:=w.cell hkl hil;obtain⟨⟨h1,h2,h3⟩,h4⟩:=hr;have hod:=P.od i o x ho hx;have c:=(P.op ho hx).2;have hbf:(Cd g m N).bef x id=b:=by rw[P.bef hx hk];grind [Rh]
  have et:((I6 g l).take (j+1)).foldl (TD (Cd g m N) id) (Hh g.Cards)=bif b then Vr (((I6 g l).take j).foldl (TD (Cd g m N) id) (Hh g.Cards)) o x else((I6 g l).take j).foldl (TD (Cd g m N) id) (Hh g.Cards):=by rw[Rb a,O0,List.foldl_cons,List.foldl_nil];unfold TD;rw[hbf,c]
  have hxS:x∉(I6 g l).take j:=by grind [Hd,M4]
  rw[et,Rb a];generalize ((I6 g l).take j).foldl (TD (Cd g m N) id) (Hh g.Cards)=R at h1 h2 h3⊢;unfold xx;simp only[eA hj,ax,au,hy,ho,hx,hrow,hb,aL];have z:=AaT P h4 aa;have p:=h4.dev;have s:=h4.nL;cases b with
  |true=>exact .bind ((T.and (doE z ⟨aa,aa⟩ h1 h2 λ_ q z n k1 k2 e=>by have:=h3 q z n k1 k2;rw[e] at this;exact hxS this) (Gc w aa h4 so x)).mono λv hv=> .some (by constructor<;>grind [aq,R4,Ah5]))
  |false=>exact .some (by constructor<;>grind [aq,Gs.up,JB.up])
 .unfold xx;dsimp only;rw[eF,A9];have hl2:(I6 g l).length=l.length:=Hv ..;rw[<-hl2,EZ] at hr;exact .some ⟨hr.1.1,hr.1.2.1,hr.2.up aa⟩
end
structure Lr (g:AQ) (dl:JV) (al:A3):Prop where
 row:EF g dl.Row
 nm:I6 g dl.Row=al.row
 nd:al.row.Nodup
 nr:dl.Row.length<=1000
 nv:dl.Void.length=g.L.length
 nc:dl.Decided.length=g.L.length
 vd:∀(p:Nat) (x:Ab),g.IDs[p]?=some x->dl.Void[p]?=some (Bf (al.void.get x))
section
variable {g:AQ} {m:Jq} {N:Ja} (P:Pg g m N)
include P
theorem Ah6(h:Lr g dl al):T (Sx g dl) λr=>EF g r/\r.length<=1000/\I6 g r=JU (Cd g m N) al/\(I6 g r).Sublist al.row:=by
 have w:=P.w;have nL:=w.nL;have hr:=h.nr;unfold Sx JU;refine .bind (T.mono (Q:=λr=>EF g r/\r.length<=1000/\I6 g r=al.row.foldl (LA (Cd g m N) al.void) []/\(I6 g r).Sublist al.row) (T.forA dl.Row.length (λj r=>EF g r/\r.length<=j/\I6 g r=(al.row.take j).foldl (LA (Cd g m N) al.void) []/\(I6 g r).Sublist (al.row.take j)) aa ⟨.nil,aC,by simp[I6],by simp[I6]⟩ (λk acc hk hj=>?_) λr a=>?_) λr a=> .some a)
 .obtain⟨y,hy,hm⟩:=dk hk;obtain⟨i,x,rfl,hil,hx,b⟩:=Pa w h.row hy;rw[h.nm] at b;obtain⟨o,ho,so,q⟩:=w.op hil;obtain⟨l,p,n,d⟩:=hj;have f:=(P.op ho hx).2;have hod:=P.od i o x ho hx;have hv:=h.vd i x hx;have hnd:(I6 g acc).Nodup:=(h.nd.sublist (List.take_sublist k _)).sublist d;rw[Rb b,O0,List.foldl_cons,List.foldl_nil,<-n];unfold um;simp only[eA hk,ax,au,hy,ho,hx,hv,aL];have keep:(I6 g acc).Sublist (al.row.take k++[x]):=d.trans (List.sublist_append_left _ _);unfold LA;rw[f];cases hc:Bf (al.void.get x) with
  |true=>exact .some (by constructor<;>grind [aq])
  |false=>
   rw[A9,A9];refine .bind ((AmE P l aa hnd hx).mono λD hD=>?_);rw[Akx (AaT P hD.2.2 aa).z hD.1 hD.2.1 hod.g x,aL];refine .dec (λc=>?_) λc=>?_
   .rw[C3 c,ax];have e:I6 g (acc++[(i:Int)])=I6 g acc++[x]:=by simp[I6,hx]
    exact .bind (.app cq (.some ⟨aq aa,l.snoc hil,by simp;omega,e,e▸d.append (.refl _)⟩))
   .rw[C6 c,A9];exact .some (by constructor<;>grind [aq])
 .unfold um;dsimp only;rw[eF,A9];have hl2:al.row.length=dl.Row.length:=by rw[<-h.nm,Hv]
  rw[<-hl2,EZ] at a;exact .some ⟨a.1,aa,a.2.2.1,a.2.2.2⟩
theorem Agy(d:Int):nT g d=some (match(Cd g m N).card d with|some c=>c.Member|none=>0):=by have nC:=P.w.nC;unfold nT;rw[Cw aa,aL];unfold mZ;show _=some (match g.Cards.find? (λc=>decide (c.Device=d)) with|some c=>c.Member|none=>0);grind
theorem Pg.same{i k:Nat}{x y:Ab}(hx:g.IDs[i]?=some x)(hy:g.IDs[k]?=some y):x=y↔(i:Int)=(k:Int):=by grind [Pg,M4,Fs.nd]
theorem Aep{y:Ab}(hi:i<g.L.length)(hk:k<g.L.length)(hx:g.IDs[i]?=some x)(hy:g.IDs[k]?=some y):n9 g (i:Int) (k:Int)=some (Jk (Cd g m N) x y):=by
 have w:=P.w;obtain⟨a,ha,j,f⟩:=w.op hi;obtain⟨b,hb,h,l⟩:=w.op hk;obtain⟨row,u,hrow,hu⟩:=w.cell hi hk;obtain⟨e,v,c,hv⟩:=w.cell hk hi;have ea:=P.op ha hx;have eb:=P.op hb hy;have e1:(Cd g m N).bef y x=u:=by rw[P.bef hy hx];grind [Rh]
 have e2:(Cd g m N).bef x y=v:=by rw[P.bef hx hy];grind [Rh]
 have d:=P.same hx hy;unfold n9 Jk;simp only[au,ha,hb,hrow,hu,c,hv,aL,ea.1,eb.1,ea.2,eb.2,e1,e2,Option.isSome_some,Bool.true_and];have hd:decide (x=y)=decide ((i:Int)=(k:Int)):=decide_eq_decide.2 d;rw[hd];cases decide ((i:Int)=(k:Int)) with
 |true=>rfl
 |false=>
 cases u with
 |true=>cases v<;>rfl
 |false=>
 cases v with
 |true=>rfl
 |false=>
 simp only[A9,aL,Bool.not_false,Bool.true_and];unfold Ajy Aby;rw[Agy P];by_cases k3:a.Kind=3
 .rw[k3];simp only[Int.reduceEq,decide_true,decide_false,ax,A9];by_cases hD:a.Device=0
  .have hm:=T1 f.numbers|>.k3 k3;grind [C6]
  grind
 grind
theorem Aeq(h:Lr g dl al){y:Ab}(hi:i<g.L.length)(hk:k<g.L.length)(hx:g.IDs[i]?=some x)(hy:g.IDs[k]?=some y):qW g dl (i:Int) (k:Int)=some (D4 (Cd g m N) al.row x y):=by
 have w:=P.w;have hr:=h.nr;have b:=P.same hx hy;unfold qW D4;rw[show decide (x=y)=decide ((i:Int)=(k:Int)) from decide_eq_decide.2 b];cases decide ((i:Int)=(k:Int)) with
 |true=>rfl
 |false=>
 rw[A9,Bool.not_false,Bool.true_and];refine T.eq (.bind ((T.search dl.Row (λz=>Xh (Cd g m N) x y ((g.IDs[z.toNat]?).getD ⟨0,0,0⟩)) (λk _=>true) aa (λj z hz hj=>?_) ?_).mono ?_))
 .obtain⟨q,v,rfl,a,hv,_⟩:=Pa w h.row hz;obtain⟨row,u,hrow,hu⟩:=w.cell hi a;have e1:(Cd g m N).bef v x=u:=by rw[P.bef hv hx];grind [Rh]
  have hvx:decide (v=x)=decide ((q:Int)=(i:Int)):=decide_eq_decide.2 (P.same hv hx);unfold qV Xh;rw[eA hj,ax,au,hz,aL,FF,hv,Nr,aq aa,e1,hvx,Aep P hk a hy hv];grind [au]
 .unfold qV;rw[eF,A9]
 .have hmap:∀z∈dl.Row,((g.IDs[z.toNat]?).getD ⟨0,0,0⟩)∈al.row:=by grind [Lr.nm]
  rintro r (⟨rfl,hn⟩|⟨j,z,hz,hp,rfl,hn⟩)
  .refine .some ?_;grind [Lr.nm]
  .refine .some ?_;grind
end
theorem AaU(c:Fp o)(h:AbD o=some d):1<=d/\d<=12:=by have f:=T1 c.numbers;grind [Ot,AbD]
theorem Aer(o:Bp):LJ o=some ((AbD o).getD 0):=by grind [LJ,AbD]
theorem AmF(hd:l.Nodup)(h:∀x∈l,1<=x/\x<=12):l.length<=12:=by
 have hs:∀x∈l.map Int.toNat,x∈List.range' 1 12:=by grind
 have hn:(l.map Int.toNat).Nodup:=ZN (g:=id) (by rw[List.map_id];exact hd) (by grind);have:=QN hn hs;rwa [Hv,List.length_range'] at this
theorem AcJ{I:Gi}:∀{l:Ba} {acc:Bb},acc.Nodup->(l.foldl (TG I) acc).Nodup
 |[],acc,h=>h
 |x::r,acc,h=>by refine AcJ (l:=r) ?_;grind [TG]
theorem AaV{I:Gi}{Q:Int->Prop}:∀{l:Ba} {acc:Bb},(∀x∈l,∀d,AbD (I.o x)=some d->Q d)->(∀d∈acc,Q d)->∀d∈l.foldl (TG I) acc,Q d
 |[],acc,_,h=>h
 |x::r,acc,hx,h=>by refine AaV (l:=r) (by grind) ?_;grind [TG]
theorem AcK{m:FM Int Int}{s:Bb}(hn:s.Nodup){d:Int}:∀k,k<=s.length->(∀j:Nat,j<k->s[j]?=some d->(UU m s k).get d=some (j:Int))/\((∀j:Nat,j<k->s[j]?≠some d)->(UU m s k).get d=m.get d)
 |0,_=>⟨λj h=>aa,λ_=>rfl⟩
 |k+1,hk=>by
  have ih:=AcK (m:=m) hn (d:=d) k aa;obtain⟨x,hx,_⟩:=dk (l:=s) (k:=k) aa;have e:UU m s (k+1)=C5 (UU m s k) x (k:Int):=by show(match s[k]? with|some d=>_|none=>_)=_;rw[hx]
  rw[e,BB];refine⟨λj hj hd=>?_,λhne=>?_⟩
  .grind [M4]
  grind
theorem AcL{d:Int}:∀{cs:Mi} {m:FM Int Int},(∃c∈cs,c.Device=d)\/m.get d=some 12->(cs.foldl (λm c=>C5 m c.Device 12) m).get d=some 12
 |[],m,h=>by grind
 |c::r,m,h=>by refine AcL (cs:=r) ?_;grind [BB]
def snD(s:Bb)(d:Int):Int:=match bu d s with
 |some j=>(j:Int)
 |none=>(s.length:Int)
theorem ZW(hn:s.length<=1000)(d:Int):oa s d=some (snD s d):=by
 unfold oa;refine T.eq (.bind ((T.search s (λx=>decide (x=d)) (λk _=>(k:Int)) aa (λk x hx hk=>?_) ?_).mono ?_))
 .grind [ph,eA,au,aq]
 .unfold ph;rw[eF,A9]
 .rintro r (⟨rfl,h⟩|⟨k,x,hx,hp,rfl,h⟩)
  .have:bu d s=none:=by grind [jv]
   refine .some ?_;unfold snD;rw[this];rfl
  .have hp:=DR hp;subst hp;have:bu x s=some k:=by grind [y0]
   refine .some ?_;unfold snD;rw[this]
theorem AiJ(hn:s.Nodup)(hl:s.length<=12){e:Int}(hd:∃c∈cs,c.Device=d)(he:∃c∈cs,c.Device=e):decide (Su (O5 cs s) d<Su (O5 cs s) e)=decide (snD s d<snD s e):=by
 have at_:∀d,(∃c∈cs,c.Device=d)->(∃j:Nat,j<s.length/\Su (O5 cs s) d=(j:Int)/\snD s d=(j:Int))\/(Su (O5 cs s) d=12/\snD s d=(s.length:Int)):=λd hd=>by have h:=AcK (m:=TF cs) hn (d:=d) s.length (Dx _);unfold Su O5 snD;grind [gb,jv,TF,AcL]
 grind
section
variable {g:AQ} {m:Jq} {N:Ja} (P:Pg g m N)
include P
theorem AaW{ids row:Ba}(ho:n8 g ids=some row)(hn:row.length<=1000)(hm:∀x∈row,x∈g.IDs):jn g ids=some (ON (Cd g m N) row):=by
 have w:=P.w;have nL:=w.nL;have nI:=w.nI;unfold jn;rw[ho,aL];refine T.eq (.bind (T.mono (Q:=λr=>r=ON (Cd g m N) row) (T.forA row.length (λk acc=>acc=(row.take k).foldl (TG (Cd g m N)) []) aa rfl (λk acc hk hj=>?_) λacc hj=>?_) λr hr=> .some hr))
 .obtain⟨x,hx,hmx⟩:=dk hk;obtain⟨i,hi⟩:=Hd (hm x hmx);have hil:i<g.L.length:=by grind
  obtain⟨o,a,so,c⟩:=w.op hil;have hpz:gO g x=(i:Int):=by unfold gO;rw[M5 w hi]
  have b:=(P.op a hi).2;have hal:=XJ (I:=Cd g m N) (l:=row.take k) (acc:=[]);rw[MH,List.length_nil,<-hj] at hal;rw[Rb hx,O0,List.foldl_cons,List.foldl_nil,<-hj];unfold TG;rw[b];unfold nk;simp only[eA hk,ax,au,hx,aL,qR,dC (show g.IDs.length<=1000000 by omega),hpz,a,Aer];cases hc:AbD o with
  |none=>exact .some ⟨aq aa,rfl⟩
  |some d=>
   have hd:=AaU c hc;rw[Nr,show decide (0<d)=true from C3 aa,ax,cX aa,aL];have hb:QF acc d=acc.any (λy=>decide (d=y)):=by grind [JH]
   rw[hb,aL];dsimp only;cases acc.any (λy=>decide (d=y)) with
   |true=>exact .some ⟨aq aa,rfl⟩
   |false=>exact .bind (.app cq (.some ⟨aq aa,rfl⟩))
 .unfold nk;dsimp only;rw[eF,A9];refine .some (show acc=_ from ?_);rw[hj,EZ];rfl
end
def X5(lt:Ab->Ab->Bool)(b:Option Ab)(x:Ab):Option Ab:=match b with
 |none=>some x
 |some y=>bif lt x y then some x else some y
theorem AmG{I:Gi}{row l:Ba}{sen:FM Int Int}(hl:l.length<=1000):T (AB (AfZ I row l sen) (0,-1)) λr=>(∃(i:Nat) (x:Ab),r=(i:Int)/\l[i]?=some x/\(l.find? (λx=> !l.any (D4 I row x))=some x\/(l.find? (λx=> !l.any (D4 I row x))=none/\l.foldl (X5 λx y=>decide (Su sen x.By<Su sen y.By)) none=some x)))\/(l=[]/\r= -1):=by
 refine T.loop (λs=>s.1<=l.length/\(∀y∈l.take s.1,(!l.any (D4 I row y))=false)/\((s.1=0/\s.2= -1)\/∃(i:Nat) (x:Ab),s.2=(i:Int)/\l[i]?=some x/\(l.take s.1).foldl (X5 λx y=>decide (Su sen x.By<Su sen y.By)) none=some x)) (λs=>l.length-s.1) (by grind) (by show l.length-0<_;omega) ?_;rintro⟨k,b⟩ ⟨hk,hw,hb⟩;dsimp only at hk hw hb;unfold AfZ;dsimp only;cases hx:l[k]? with
 |none=>
  have hge:l.length<=k:=List.getElem?_eq_none_iff.1 hx;obtain rfl:k=l.length:=aa;rw[EZ] at hw hb;dsimp only;rw[Nat.beq_refl,ax];refine .some ?_;rcases hb with⟨h1,h2⟩|⟨i,x,h1,h2,h3⟩
  .exact .inr ⟨List.length_eq_zero_iff.1 h1,h2⟩
  .exact .inl (by grind)
 |some x=>
  have hlt:=(cr hx).1;dsimp only;refine .ite (λha=>?_) λha=> .some (.inl ⟨k,x,rfl,hx,.inl ?_⟩)
  .have hw':∀y∈l.take (k+1),(!l.any (D4 I row y))=false:=λy hy=>by rw[Rb hx] at hy;grind
   have ef:(l.take (k+1)).foldl (X5 λx y=>decide (Su sen x.By<Su sen y.By)) none=X5 (λx y=>decide (Su sen x.By<Su sen y.By)) ((l.take k).foldl (X5 λx y=>decide (Su sen x.By<Su sen y.By)) none) x:=by rw[Rb hx,O0];rfl
   unfold upB;rcases hb with⟨rfl,rfl⟩|⟨i,y,rfl,hi,hf⟩
   .refine .some ⟨⟨aa,hw',.inr ⟨0,x,rfl,hx,?_⟩⟩,by show l.length-1<l.length-0;omega⟩;rw[ef];rfl
   .rw[hf] at ef;rw[show decide ((i:Int)<0)=false from C6 aa,A9,au,hi,aL];cases hc:decide (Su sen x.By<Su sen y.By) with
    |true=>exact .some ⟨⟨by show k+1<=_;omega,hw',.inr ⟨k,x,rfl,hx,by rw[ef];show(bif Su sen x.By<Su sen y.By then some x else some y)=_;rw[hc];rfl⟩⟩,by grind⟩
    |false=>exact .some ⟨⟨by show k+1<=_;omega,hw',.inr ⟨i,y,rfl,hi,by rw[ef];show(bif Su sen x.By<Su sen y.By then some x else some y)=_;rw[hc];rfl⟩⟩,by grind⟩
  .rw[List.find?_eq_some_iff_getElem];obtain⟨h1,h2⟩:=cr hx;refine⟨by rw[ha];rfl,k,h1,h2,λj hj=>?_⟩;have hj':l[j]?=some (l[j]'aa):=DS _;have:=hw _ (bO (i:=j) (by rw[List.getElem?_take,Bu hj];exact hj'));rw[this];simp
abbrev NxQ(g:AQ)(m:Jq)(N:Ja)(al:A3)(l:Ba)(lt:Ab->Ab->Bool)(nx:Int):Prop:=(∃(p:Nat) (x:Ab),nx=(p:Int)/\g.IDs[p]?=some x/\x∈l/\(l.find? (λx=> !l.any (D4 (Cd g m N) al.row x))=some x\/(l.find? (λx=> !l.any (D4 (Cd g m N) al.row x))=none/\l.foldl (X5 lt) none=some x)))\/(l=[]/\nx= -1)
section
variable {g:AQ} {m:Jq} {N:Ja} (P:Pg g m N)
include P
theorem AkF(h:Lr g dl al){l:Ba}{lt:Ab->Ab->Bool}(hs:s.length<=1000)(hlf:l=al.row.filter λx=>decide (x∈l))(j:∀(p:Nat) (x:Ab),g.IDs[p]?=some x->x∈al.row->Oa g dl (p:Int)=some (decide (x∈l)))(hlt:∀x∈al.row,∀y∈al.row,lt x y=decide (snD s ((Cd g m N).o x).By<snD s ((Cd g m N).o y).By)):T (vL g dl s) λnx=>NxQ g m N al l lt nx:=by
 have w:=P.w;have hr:=h.nr;have inner:∀{i:Nat} {x:Ab},i<g.L.length->g.IDs[i]?=some x->AB (ut g dl (i:Int)) (true,0)=some (!l.any (D4 (Cd g m N) al.row x)):=λ{i x} hi hx=>by
  refine T.eq (T.forA dl.Row.length (λk b=>b= !((al.row.take k).any λy=>decide (y∈l)&&D4 (Cd g m N) al.row x y)) aa rfl (λk b hk hb=>?_) λb hb=>?_)
  .obtain⟨z,hz,_⟩:=dk hk;obtain⟨q,v,rfl,d,hv,a⟩:=Pa w h.row hz;rw[h.nm] at a;unfold ut;simp only[eA hk,ax,au,hz,aL,j q v hv (bO a),Aeq P h hi d hx hv];have e:((al.row.take (k+1)).any λy=>decide (y∈l)&&D4 (Cd g m N) al.row x y)=(((al.row.take k).any λy=>decide (y∈l)&&D4 (Cd g m N) al.row x y)||(decide (v∈l)&&D4 (Cd g m N) al.row x v)):=by rw[Rb a,List.any_append];simp
   rw[e];cases decide (v∈l) with
   |false=>exact .some ⟨aq aa,by simpa using hb⟩
   |true=>
    cases D4 (Cd g m N) al.row x v with
    |false=>exact .some ⟨aq aa,by simpa using hb⟩
    |true=>exact .some ⟨aq aa,aC⟩
  .unfold ut;dsimp only;rw[eF,A9];refine .some (show b=_ from ?_);grind [Lr.nm,Hv]
 unfold vL;refine .bind ((T.forA (Q:=λr:Int⊕Int=>(∃(p:Nat) (x:Ab),r= .inr (p:Int)/\g.IDs[p]?=some x/\x∈l/\l.find? (λx=> !l.any (D4 (Cd g m N) al.row x))=some x)\/(∃(p:Nat) (x:Ab),r= .inl (p:Int)/\g.IDs[p]?=some x/\x∈l/\l.find? (λx=> !l.any (D4 (Cd g m N) al.row x))=none/\l.foldl (X5 lt) none=some x)\/(l=[]/\r= .inl (-1))) dl.Row.length (λk b=>(∀y∈al.row.take k,y∈l->(!l.any (D4 (Cd g m N) al.row y))=false)/\((b= -1/\((al.row.take k).filter λx=>decide (x∈l))=[])\/∃(p:Nat) (x:Ab),b=(p:Int)/\p<g.L.length/\g.IDs[p]?=some x/\x∈l/\((al.row.take k).filter λx=>decide (x∈l)).foldl (X5 lt) none=some x)) aa ⟨λy hy=>(by cases hy),.inl ⟨rfl,rfl⟩⟩ (λk b hk hb=>?_) λb hb=>?_).mono ?_)
 .obtain⟨z,hz,_⟩:=dk hk;obtain⟨q,v,rfl,d,hv,a⟩:=Pa w h.row hz;rw[h.nm] at a;have n:=bO a;obtain⟨hb1,hb2⟩:=hb;have ef:(al.row.take (k+1)).filter (λx=>decide (x∈l))=(al.row.take k).filter (λx=>decide (x∈l))++(if v∈l then[v] else[]):=by rw[Rb a,Re];grind
  unfold uu;simp only[eA hk,ax,au,hz,aL,j q v hv n];by_cases c:v∈l
  .rw[Bu c] at ef;rw[C3 c,Bool.not_true,A9,inner d hv,aL];cases hany:l.any (D4 (Cd g m N) al.row v) with
   |false=>
    refine .some (.inl ⟨q,v,rfl,hv,c,?_⟩);have hkl:(al.row.take k).filter (λx=>decide (x∈l))++[v]++(al.row.drop (k+1)).filter (λx=>decide (x∈l))=l:=by grind [Pm]
    have:l.find? (λx=> !l.any (D4 (Cd g m N) al.row x))=((al.row.take k).filter (λx=>decide (x∈l))++[v]++(al.row.drop (k+1)).filter (λx=>decide (x∈l))).find? (λx=> !l.any (D4 (Cd g m N) al.row x)):=by rw[hkl]
    rw[this,List.append_assoc,List.find?_append,List.find?_eq_none.2 λy hy=>by rw[HC] at hy;rw[hb1 y hy.1 (DR hy.2)];simp]
    rw[List.singleton_append,List.find?_cons,hany];rfl
   |true=>
    rw[Bool.not_true,A9];have hb1':∀y∈al.row.take (k+1),y∈l->(!l.any (D4 (Cd g m N) al.row y))=false:=λy hy f=>by
     rw[Rb a] at hy;rcases I9.1 hy with hy|hy
     .exact hb1 y hy f
     .simp at hy;subst hy;rw[hany];rfl
    obtain⟨o,ho,so,u⟩:=w.op d;rcases hb2 with⟨rfl,he⟩|⟨p,y,rfl,hpl,hp,f,hf⟩
    .rw[show decide ((-1:Int)<0)=true from rfl,ax,aL,ax];refine .some ⟨aq aa,hb1',.inr ⟨q,v,rfl,d,hv,c,?_⟩⟩;rw[ef,he];rfl
    .obtain⟨t,ho2,_⟩:=w.op hpl;have hmx:E0 (p:Int) 0=(p:Int):=by unfold E0;rw[Bt aa]
     have hyr:y∈al.row:=by grind
     rw[show decide ((p:Int)<0)=false from C6 aa,A9,hmx];simp only[au,ho,ho2,aL,ZW hs];have hl1:=hlt v n y hyr;rw[(P.op ho hv).2,(P.op ho2 hp).2] at hl1;rw[<-hl1];have ef2:((al.row.take (k+1)).filter λx=>decide (x∈l)).foldl (X5 lt) none=X5 lt (some y) v:=by rw[ef,O0,hf];rfl
     cases hc:lt v y with
     |true=>exact .some ⟨aq aa,hb1',.inr ⟨q,v,rfl,d,hv,c,by rw[ef2];show(bif lt v y then some v else some y)=_;rw[hc];rfl⟩⟩
     |false=>exact .some ⟨aq aa,hb1',.inr ⟨p,y,rfl,hpl,hp,f,by rw[ef2];show(bif lt v y then some v else some y)=_;rw[hc];rfl⟩⟩
  .rw[Bt c,KY] at ef;rw[C6 c,Bool.not_false,ax];refine .some ⟨aq aa,λy hy f=>?_,by rw[ef];exact hb2⟩;rw[Rb a] at hy;grind
 .unfold uu;dsimp only;rw[eF,A9];have hl2:al.row.length=dl.Row.length:=by rw[<-h.nm,Hv]
  rw[<-hl2,EZ,<-hlf] at hb;refine .some ?_;obtain⟨hb1,hb2⟩:=hb;rcases hb2 with⟨rfl,he⟩|⟨p,x,rfl,_,hp,hx,hf⟩
  .exact .inr (.inr ⟨he,rfl⟩)
  .refine .inr (.inl ⟨p,x,rfl,hp,hx,List.find?_eq_none.2 λy hy=>?_,hf⟩);have hyr:y∈al.row:=by rw[hlf] at hy;exact(HC.1 hy).1
   rw[hb1 y hyr hy];simp
 .rintro r (⟨p,x,rfl,hp,hx,h1⟩|⟨p,x,rfl,hp,hx,h1⟩|⟨h1,rfl⟩)
  .exact .some (.inl ⟨p,x,rfl,hp,hx,.inl h1⟩)
  .exact .some (.inl ⟨p,x,rfl,hp,hx,.inr h1⟩)
  .exact .some (.inr ⟨h1,rfl⟩)
end
theorem AbS{α:Type}[DecidableEq α]:∀{l row:List α},l.Sublist row->row.Nodup->l=row.filter λx=>decide (x∈l)
 |_,_,.slnil,_=>rfl
 |l,_,.cons (l₂:=r) a h,hn=>by rw[MI] at hn;rw[List.filter_cons_of_neg (by grind)];exact AbS h hn.2
 |_,_,.cons_cons (l₁:=l) (l₂:=r) a h,hn=>by rw[MI] at hn;rw[List.filter_cons_of_pos aC];have e:=AbS h hn.2;grind [List.filter_congr]
theorem Agz:Bf ((ofV vs).get x)=decide (x∈vs):=by
 have key:∀(l:Ba) (M:FM Ab Bool),Bf ((l.foldl (λm x=>C5 m x true) M).get x)=(Bf (M.get x)||decide (x∈l)):=by intro l;induction l<;>grind [BB,Bf]
 unfold ofV;rw[key];rfl
theorem AcM{I:Gi}{row left:Ba}{x y:Ab}:∀{l:Ba} {v:FM Ab Bool},Bf ((l.foldl (vFu I row left x) v).get y)=(Bf (v.get y)||(decide (y∈l)&&(Jk I x y||(left.any (λz=>decide (y=z))&&D4 I row x y))))
 |[],v=>aC
 |a::r,v=>by
  rw[List.foldl_cons,AcM (l:=r)];have e:Bf ((vFu I row left x v a).get y)=(Bf (v.get y)||(decide (y=a)&&(Jk I x y||(left.any (λz=>decide (y=z))&&D4 I row x y)))):=by unfold vFu;grind [BB,Bf]
  grind
section
variable {g:AQ} {m:Jq} {N:Ja} (P:Pg g m N)
include P
theorem AkG(hi:GL g ids)(ho:n8 g ids=some row)(hrn:row.Nodup)(hr:row.length<=1000)(hrm:∀x∈row,x∈g.IDs)(hv:vJ ids=some vs)(d:vs.length<=1000)(hvm:∀x∈vs,x∈g.IDs):T (Aa g ids) λc=>Lr g c (XT ⟨g.Cards,m,N⟩ row vs)/\c.Decided=List.replicate g.L.length false:=by
 have w:=P.w;have nL:=w.nL;have nI:=w.nI;unfold Aa;rw[ho,aL];have hmk:rP 1 (false:Bool) (ah g.L)=some (List.replicate g.L.length false):=T.eq (.make (by unfold ah;omega) (by unfold ah;omega) (by unfold ah;omega) (by unfold ah;rw[FF]));rw[hmk,aL,aL,aL];have pz:∀x∈g.IDs,∃i:Nat,g.IDs[i]?=some x/\i<g.L.length/\fC g x=some (i:Int):=λx hx=>by obtain⟨i,hi⟩:=Hd hx;have:=(cr hi).1;exact⟨i,hi,aa,by rw[dC aa];unfold gO;rw[M5 w hi]⟩
 refine .bind ((T.forA row.length (λk acc=>EF g acc/\acc.length=k/\I6 g acc=row.take k) aa ⟨.nil,rfl,rfl⟩ (λk acc hk hj=>?_) λacc hj=>?_).mono (Q:=λacc=>EF g acc/\acc.length=row.length/\I6 g acc=row) λb h10=>?_)
 .obtain⟨x,hx,hmx⟩:=dk hk;obtain⟨i,hi,hil,hp⟩:=pz x (hrm x hmx);unfold uq;simp only[eA hk,ax,au,hx,aL,hp];refine .bind (.app cq (.some ⟨aq aa,hj.1.snoc hil,by simp;omega,?_⟩));grind [Rb]
 .unfold uq;dsimp only;rw[eF,A9];rw[EZ] at hj;exact .some hj
 .rw[hv,aL];refine .bind ((T.loop (Q:=λr:List Bool×List Bool=>r.1.length=g.L.length/\∀(p:Nat) (x:Ab),g.IDs[p]?=some x->r.1[p]?=some (decide (x∈vs))) (λs=>∃k:Nat,k<=vs.length/\s.2.2=(k:Int)/\s.1.length=g.L.length/\s.2.1.length=g.L.length/\∀(p:Nat) (x:Ab),g.IDs[p]?=some x->s.1[p]?=some (decide (x∈vs.take k))) (λs=>vs.length-s.2.2.toNat) ⟨0,aa,rfl,aC,aC,λp x hp=>?_⟩ cq ?_).mono λr a=>?_)
  .have:=(cr hp).1;show(List.replicate g.L.length false)[p]?=_;rw[List.getElem?_replicate,Bu aa];simp
  .rintro⟨V,F,i⟩ ⟨k,hk,rfl,h1,h2,h3⟩;dsimp only at h1 h2 h3;unfold uo;dsimp only;rcases HB k vs.length with hlt|hge
   .obtain⟨x,hx,hmx⟩:=dk hlt;obtain⟨q,hq,e,hp⟩:=pz x (hvm x hmx);rw[eA hlt,ax,au,hx,aL,hp,aL];have ew:=aq (show k<2305843009213693952 by omega);refine .bind (.set aa aa (.bind (.set aa aa (.some ⟨⟨k+1,aa,ew,by simp;omega,by simp;omega,λp y hy=>?_⟩,by rw[ew];simp;omega⟩))));dsimp only;rw[FF,List.getElem?_set,Rb hx];grind [M4,Fs.nd]
   .obtain rfl:k=vs.length:=aa;rw[eF,A9];rw[EZ] at h3;exact .some ⟨h1,h3⟩
  .refine .some ⟨⟨h10.1,h10.2.2,hrn,by show b.length<=1000;omega,a.1,aC,λp x hp=>?_⟩,rfl⟩;show r.1[p]?=some (Bf ((ofV vs).get x));rw[Agz];exact a.2 p x hp
structure RDb (g:AQ) (I:Gi) (dl:JV) (al:A3) (a:Ba×FM Ab Bool) (V D:List Bool):Prop where
 lr:Lr g {dl with Void:=V,Decided:=D} (wV al a.2)
 sub:a.1.Sublist al.row
 kil:∀x∈a.1,JM (I.o x).Kind=true
 dec:∀(p:Nat) (x:Ab),g.IDs[p]?=some x->x∈al.row->JM (I.o x).Kind=true->Bf (a.2.get x)=false->D[p]?=some (!decide (x∈a.1))
structure RDc (g:AQ) (I:Gi) (dl:JV) (al:A3) (s:Bb) (a:Ba×FM Ab Bool) (b:List Bool×List Bool×Int):Prop extends RDb g I dl al a b.1 b.2.1 where
 nx:vL g {dl with Void:=b.1,Decided:=b.2.1} s=some b.2.2
theorem Ah8(h:RDb g (Cd g m N) dl al a V D)(hp:g.IDs[p]?=some x)(hx:x∈al.row):Oa g {dl with Void:=V,Decided:=D} (p:Int)=some (decide (x∈a.1.filter λx=> !Bf (a.2.get x))):=by
 have w:=P.w;have nI:=w.nI;have hpl:p<g.L.length:=by grind
 obtain⟨o,ho,so,c⟩:=w.op hpl;have b:=(P.op ho hp).2;have hv:=h.lr.vd p x hp;have hv:V[p]?=some (Bf (a.2.get x)):=hv;have hdl:=h.lr.nc;grind [Oa,au,JM,RDb.kil,RDb.dec,Bj]
end
theorem AmH{js:Bb}(hj:js.length<=1000)(hi:∀z∈js,∃q:Nat,z=(q:Int)/\q<V.length):T (AB (ng js) (V,0)) λW=>W.length=V.length/\∀(q:Nat) (b:Bool),V[q]?=some b->W[q]?=some (b||decide ((q:Int)∈js)):=by
 refine T.forA js.length (λk W=>W.length=V.length/\∀(q:Nat) (b:Bool),V[q]?=some b->W[q]?=some (b||decide ((q:Int)∈js.take k))) aa (by grind) (λk W hk a=>?_) λW a=>?_
 .obtain⟨z,hz,c⟩:=dk hk;obtain⟨p,rfl,hp⟩:=hi z c;unfold ng;simp only[eA hk,ax,au,hz,aL];refine .bind (.set aa (by rw[a.1];omega) (.some ⟨aq aa,by rw[List.length_set];exact a.1,λq b h=>?_⟩));rw[FF,List.getElem?_set,Rb hz];grind
 .unfold ng;dsimp only;rw[eF,A9];rw[EZ] at a;exact .some a
theorem AaX{σ1 σ2 ρ1 ρ2:Type}{s1:σ1->Option (σ1⊕ρ1)}{s2:σ2->Option (σ2⊕ρ2)}(R:σ1->σ2->Prop)(Q:ρ1->ρ2->Prop)(μ:σ1->Nat)(h:∀a b,R a b->∃u v,s1 a=some u/\s2 b=some v/\Sim (λa' b'=>R a' b'/\μ a'<μ a) Q u v):∀(n:Nat) (a:σ1) (b:σ2),μ a<n->R a b->∃q r,KN s1 n a=some q/\KN s2 n b=some r/\Q q r
 |0,a,b,hm,_=>absurd hm (Nat.not_lt_zero _)
 |n+1,a,b,hm,hR=>by
  obtain⟨u,v,e1,e2,hs⟩:=h a b hR;unfold KN;rw[e1,e2];cases u with
  |inl a'=>
   cases v with
   |inl b'=>exact AaX R Q μ h n a' b' (by have:=hs.2;omega) hs.1
   |inr b'=>exact hs.elim
  |inr a'=>
   cases v with
   |inl b'=>exact hs.elim
   |inr b'=>exact⟨_,_,rfl,rfl,hs⟩
section
variable {g:AQ} {m:Jq} {N:Ja} (P:Pg g m N)
include P
theorem Aes(hi:EF g l)(hp:g.IDs[p]?=some x):(p:Int)∈l↔x∈I6 g l:=by grind [Hd,Pa,Pg.w,M4,Fs.nd]
theorem AkI(h:RDc g (Cd g m N) dl al s a b){p:Nat}{x:Ab}(hp:g.IDs[p]?=some x)(hb:b.2.2=(p:Int)):AB (nh g dl b) ([],0)=some (dl.Row.filter λz=>(λy=>Jk (Cd g m N) x y||(decide (y∈a.1.filter λx=> !Bf (a.2.get x))&&D4 (Cd g m N) al.row x y)) ((g.IDs[z.toNat]?).getD ⟨0,0,0⟩)):=by
 have w:=P.w;have nI:=w.nI;have hr:dl.Row.length<=1000:=h.lr.nr;have hpl:p<g.L.length:=by grind
 generalize hf:(λy=>Jk (Cd g m N) x y||(decide (y∈a.1.filter λx=> !Bf (a.2.get x))&&D4 (Cd g m N) al.row x y))=f;refine T.eq (T.forA dl.Row.length (λk acc=>acc=(dl.Row.take k).filter λz=>f ((g.IDs[z.toNat]?).getD ⟨0,0,0⟩)) aa aC (λk acc hk hj=>?_) λacc hj=>?_)
 .obtain⟨z,hz,_⟩:=dk hk;have hrow:EF g dl.Row:=h.lr.row;obtain⟨q,y,rfl,d,hq,i⟩:=Pa w hrow hz;have hnm:I6 g dl.Row=al.row:=h.lr.nm;rw[hnm] at i;have hyr:=bO i;have hal:acc.length<=k:=by grind
  have e:(dl.Row.take (k+1)).filter (λz=>f ((g.IDs[z.toNat]?).getD ⟨0,0,0⟩))=acc++(if f y=true then[(q:Int)] else[]):=by rw[Rb hz,Re,<-hj];cases hfy:f y<;>simp[hq,hfy]
  have hw:=Aeq P h.lr hpl d hp hq;unfold nh;simp only[eA hk,ax,au,hz,aL,hb,Aep P hpl d hp hq,Ah8 P h.toRDb hq hyr];refine .bind (T.mono (Q:=λc=>c=f y) ?_ λc hc=>?_)
  .rw[<-hf];dsimp only;cases Jk (Cd g m N) x y<;>grind [T.some]
  .subst hc;cases hfy:f y with
   |true=>rw[hfy,Bu rfl] at e;exact .bind (.app cq (.some ⟨aq aa,e.symm⟩))
   |false=>rw[hfy,Bt aC,KY] at e;exact .some ⟨aq aa,e.symm⟩
 .unfold nh;dsimp only;rw[eF,A9];refine .some (show acc=_ from ?_);rw[hj,EZ]
theorem ltE(hsn:s.Nodup)(hsl:s.length<=12)(h:Lr g dl al):∀x∈al.row,∀y∈al.row,decide (Su (O5 g.Cards s) x.By<Su (O5 g.Cards s) y.By)=decide (snD s ((Cd g m N).o x).By<snD s ((Cd g m N).o y).By):=by
 have w:=P.w;have pos:∀x∈al.row,∃q:Nat,q<g.L.length/\g.IDs[q]?=some x:=λx hx=>by rw[<-h.nm] at hx;obtain⟨z,hz,e⟩:=Fq.1 hx;obtain⟨j,hj⟩:=Hd hz;obtain⟨n,y,rfl,hn,hy,_⟩:=Pa w h.row hj;grind
 intro x hx y hy;obtain⟨p,hp,a⟩:=pos x hx;obtain⟨q,hq,b⟩:=pos y hy;obtain⟨o,ho,_⟩:=w.op hp;obtain⟨c,ho2,_⟩:=w.op hq;rw[(P.op ho a).2,(P.op ho2 b).2,<-(P.od p o x ho a).i,<-(P.od q c y ho2 b).i];refine AiJ hsn hsl ?_ ?_
 .rw[(P.od p o x ho a).i];exact P.dv p o x ho a
 .rw[(P.od q c y ho2 b).i];exact P.dv q c y ho2 b
theorem nxE(hsn:s.Nodup)(hsl:s.length<=12)(h:RDb g (Cd g m N) dl al a V D):T (vL g {dl with Void:=V,Decided:=D} s) λnx=>NxQ g m N (wV al a.2) (a.1.filter λx=> !Bf (a.2.get x)) (λx y=>decide (Su (O5 g.Cards s) x.By<Su (O5 g.Cards s) y.By)) nx:=AkF P h.lr (show s.length<=1000 by omega) (AbS (List.filter_sublist.trans h.sub) h.lr.nd) (λ_ _ hp hx=>Ah8 P h hp hx) (ltE P hsn hsl h.lr)
theorem AkJ(hsn:s.Nodup)(hsl:s.length<=12)(h:RDc g (Cd g m N) dl al s a b):∃u v,Af6 (Cd g m N) al (O5 g.Cards s) a=some u/\tw g dl s b=some v/\Sim (λa' b'=>RDc g (Cd g m N) dl al s a' b'/\a'.1.length<a.1.length) (λ(v:FM Ab Bool) (r:List Bool×List Bool)=>Lr g {dl with Void:=r.1,Decided:=r.2} (wV al v)) u v:=by
 have w:=P.w;have nL:=w.nL;have nI:=w.nI;have hrow:EF g dl.Row:=h.lr.row;have hnm:I6 g dl.Row=al.row:=h.lr.nm;have hnd:al.row.Nodup:=h.lr.nd;have hnr:dl.Row.length<=1000:=h.lr.nr;have hrl:al.row.length=dl.Row.length:=by rw[<-hnm,Hv]
 obtain⟨nx,e1,t⟩:=nxE P hsn hsl h.toRDb;obtain⟨v0,hv⟩:∃v0,tw g dl s b=v0:=⟨_,rfl⟩;rw[hv];have D:=Np (λx=> !Bf (a.2.get x)) a.1;have hkl:=λp x hp hb=>AkI P h (p:=p) (x:=x) hp hb;have hl1s:(a.1.filter λx=> !Bf (a.2.get x)).Sublist al.row:=List.filter_sublist.trans h.sub;have hlen:a.1.length<=1000:=by have:=h.sub.length_le;omega
 have hmem:∀y,y∈(a.1.filter λx=> !Bf (a.2.get x))↔y∈a.1/\Bf (a.2.get y)=false:=by grind
 unfold Af6;rw[C3 hlen,ax];dsimp only;generalize (a.1.filter λx=> !Bf (a.2.get x))=l1 at*;have hl1n:l1.Nodup:=hnd.sublist hl1s;have hl1l:l1.length<=1000:=by have:=hl1s.length_le;omega
 rw[h.nx] at e1;obtain rfl:=Bj e1;obtain⟨r,e2,hr⟩:=AmG (I:=Cd g m N) (row:=al.row) (sen:=O5 g.Cards s) hl1l;rw[e2];rcases t with⟨p,x,f,hp,hxl,hx⟩|⟨h0,hb⟩
 .obtain⟨i,J,rfl,hi,hx'⟩:=hr.resolve_right (by grind);obtain rfl:x=J:=by grind
  have hil:=(cr hi).1;have F:=hl1s.subset hxl;have hpl:p<g.L.length:=by grind
  rw[show decide (ah l1=0)=false from C6 (by unfold ah;omega),A9,aL,au,hi,aL,FF];obtain⟨gd,e3,g1,g2,H,M⟩:=Ah6 P h.lr;have hgood:QF gd (p:Int)=(JU (Cd g m N) (wV al a.2)).any (λz=>decide (x=z)):=by rw[JH,Bool.eq_iff_iff,List.any_eq_true,decide_eq_true_iff,Aes P g1 hp,H];constructor<;>grind
  have hlp:∀y,y∈l1.eraseIdx i↔y∈l1/\y≠x:=λy=>by
   have hsp:l1=l1.take i++x::l1.drop (i+1):=by grind [List.drop_eq_getElem_cons,Pm]
   have A:=hl1n;rw[hsp,List.perm_middle.nodup_iff,MI] at A;rw[List.eraseIdx_eq_take_drop_succ];constructor
   .intro hy;constructor<;>grind [List.mem_of_mem_drop]
   .rintro⟨hy,hne⟩;rw[hsp] at hy;rcases I9.1 hy with hy|hy
    .exact I9.2 (.inl hy)
    grind
  have hvl:b.1.length=g.L.length:=h.lr.nv;have hdl:b.2.1.length=g.L.length:=h.lr.nc;have key:∀(o:Bb) (d:FM Ab Bool),o.length<=1000->(∀z∈o,∃q:Nat,z=(q:Int)/\q<b.1.length)->(∀(q:Nat) (y:Ab),g.IDs[q]?=some y->Bf (d.get y)=(Bf (a.2.get y)||decide ((q:Int)∈o)))->T ((ji b.2.1 b.2.2 true).bind λj=>(AB (ng o) (b.1,0)).bind λk=>(vL g ({dl with Void:=k,Decided:=j}) s).bind λB=>some (.inl (k,j,B))) λ(v:(List Bool×List Bool×Int)⊕(List Bool×List Bool))=>Sim (λa' b'=>RDc g (Cd g m N) dl al s a' b'/\a'.1.length<a.1.length) (λ(v:FM Ab Bool) (r:List Bool×List Bool)=>Lr g {dl with Void:=r.1,Decided:=r.2} (wV al v)) (.inl (l1.eraseIdx i,d)) v:=λo d hjl C l=>by
   rw[f];refine .bind (.set aa aa (.bind ((AmH hjl C).mono λW E=>?_)));rw[FF];have hL:Lr g {dl with Void:=W,Decided:=b.2.1.set p true} (wV al d):=⟨hrow,hnm,hnd,hnr,E.1.trans hvl,by grind,λq y hq=>by show W[q]?=some (Bf (d.get y));rw[l q y hq];exact E.2 q _ (h.lr.vd q y hq)⟩
   have hb:RDb g (Cd g m N) dl al (l1.eraseIdx i,d) W (b.2.1.set p true):=by
    refine⟨hL,(List.eraseIdx_sublist l1 i).trans hl1s,(by grind [RDb.kil,h.toRDb]),λq y hq hy hk n=>?_⟩;dsimp only at n⊢;rw[l q y hq] at n;have hvy1:Bf (a.2.get y)=false:=by grind
    rw[List.getElem?_set];by_cases c:p=q
    .grind
    .have hne:y≠x:=λe=>c (by rw[e] at hq;exact M4 w.nd hp hq);rw[Bt c,h.dec q y hq hy hk hvy1];grind
   obtain⟨K,e4,_⟩:=nxE P hsn hsl hb;rw[e4,aL];exact .some ⟨⟨hb,e4⟩,by show(l1.eraseIdx i).length<_;rw[List.length_eraseIdx_of_lt hil];omega⟩
  unfold tw at hv;rw[f,show decide ((0:Int)<=(p:Int))=true from C3 aa,ax,e3,aL,cX aa,aL,hkl p x hp f,aL,hgood] at hv;rw[<-f] at hv;cases hg:(JU (Cd g m N) (wV al a.2)).any (λz=>decide (x=z)) with
  |true=>
   rw[hg,Bool.not_true,A9,aL] at hv;rw[ax];obtain⟨v',ev,hs⟩:=key (dl.Row.filter λz=>(λy=>Jk (Cd g m N) x y||(decide (y∈l1)&&D4 (Cd g m N) al.row x y)) ((g.IDs[z.toNat]?).getD ⟨0,0,0⟩)) (vAl (Cd g m N) al.row (l1.eraseIdx i) x a.2) (MG (Np _ _) hnr) (λz hz=>by
    obtain⟨q,e,hq⟩:=hrow.nat (HC.1 hz).1;exact⟨q,e,aa⟩) λq y hq=>by
    unfold vAl;rw[AcM];congr 1;have h1:decide ((q:Int)∈dl.Row.filter λz=>(λy=>Jk (Cd g m N) x y||(decide (y∈l1)&&D4 (Cd g m N) al.row x y)) ((g.IDs[z.toNat]?).getD ⟨0,0,0⟩))=(decide (y∈al.row)&&(Jk (Cd g m N) x y||(decide (y∈l1)&&D4 (Cd g m N) al.row x y))):=by rw[Bool.eq_iff_iff,decide_eq_true_iff,HC,bA,decide_eq_true_iff,Aes P hrow hq,hnm,FF,hq,Nr]
    rw[h1];congr 2;have h2:(l1.eraseIdx i).any (λz=>decide (y=z))=decide (y∈l1/\y≠x):=by rw[Bool.eq_iff_iff,List.any_eq_true,decide_eq_true_iff,<-hlp];constructor<;>grind
    rw[h2];by_cases c:y=x
    .subst c;unfold D4;simp
    .simp[c]
   exact⟨_,v',rfl,by rw[<-hv,ev],hs⟩
  |false=>
   rw[hg,Bool.not_false,ax,aL] at hv;rw[A9];obtain⟨v',ev,hs⟩:=key [b.2.2] (C5 a.2 x true) aC (by grind) λq y hq=>by
    rw[BB,f];by_cases c:y=x
    .subst c;have:q=p:=M4 w.nd hq hp;rw[Bu rfl,this];simp[Bf]
    .have:¬((q:Int)=(p:Int)):=λe=>c (by have:q=p:=aa;grind)
     rw[Bt c];simp[this]
   exact⟨_,v',rfl,by rw[<-hv,ev],hs⟩
 .rw[h0,show decide (ah ([]:Ba)=0)=true from rfl,ax];unfold tw at hv;rw[hb,show decide ((0:Int)≤-1)=false from rfl,A9] at hv;exact⟨_,_,rfl,hv.symm,h.lr⟩
include P
theorem Ah9(hrm:∀x∈row,x∈g.IDs):(ON (Cd g m N) row).Nodup/\(ON (Cd g m N) row).length<=12:=by have h1:(ON (Cd g m N) row).Nodup:=AcJ .nil;refine⟨h1,AmF h1 ?_⟩;refine AaV (Q:=λd=>1<=d/\d<=12) (λx hx d hd=>?_) (by grind);obtain⟨i,hi⟩:=Hd (hrm x hx);have:=(cr hi).1;obtain⟨o,ho,so,a⟩:=P.w.op (i:=i) (by have:=P.w.nI;omega);rw[(P.op ho hi).2] at hd;exact AaU a hd
theorem Aet(hi:GL g ids)(ho:n8 g ids=some row)(hrn:row.Nodup)(hr:row.length<=1000)(hrm:∀x∈row,x∈g.IDs)(hv:vJ ids=some vs)(c:vs.length<=1000)(hvm:∀x∈vs,x∈g.IDs):T (oR g ids) λd=>∃v,Af7 (Cd g m N) (XT ⟨g.Cards,m,N⟩ row vs) (O5 g.Cards (ON (Cd g m N) row))=some v/\Lr g d (wV (XT ⟨g.Cards,m,N⟩ row vs) v):=by
 unfold oR;refine .bind ((AkG P hi ho hrn hr hrm hv c hvm).mono λb ⟨hL,hD⟩=>?_);rw[AaW P ho hr hrm,aL];obtain⟨s1,s2⟩:=Ah9 P hrm;have hR:RDb g (Cd g m N) b (XT ⟨g.Cards,m,N⟩ row vs) (row.filter (λx=> !!JM ((Cd g m N).o x).Kind),(XT ⟨g.Cards,m,N⟩ row vs).void) b.Void b.Decided:=⟨hL,List.filter_sublist,(by grind),λp x hp hx hk _=>by have hpl:=(cr hp).1;have hm:x∈row.filter (λx=> !!JM ((Cd g m N).o x).Kind):=HC.2 ⟨hx,by rw[hk];rfl⟩;grind [Lr]⟩
 obtain⟨nx,e3,_⟩:=nxE P s1 s2 hR;rw[show vL g b (ON (Cd g m N) row)=some nx from e3,aL];obtain⟨v,r,h1,h2,h3⟩:=AaX (s1:=Af6 (Cd g m N) (XT ⟨g.Cards,m,N⟩ row vs) (O5 g.Cards (ON (Cd g m N) row))) (s2:=tw g b (ON (Cd g m N) row)) (RDc g (Cd g m N) b (XT ⟨g.Cards,m,N⟩ row vs) (ON (Cd g m N) row)) (λ(v:FM Ab Bool) (r:List Bool×List Bool)=>Lr g {b with Void:=r.1,Decided:=r.2} (wV (XT ⟨g.Cards,m,N⟩ row vs) v)) (λa=>a.1.length) (by grind [AkJ]) FU _ (b.Void,b.Decided,nx) (by grind [FU]) ⟨hR,e3⟩;rw[show AB (tw g b (ON (Cd g m N) row)) (b.Void,b.Decided,nx)=some r from h2,aL];exact .some ⟨v,h1,h3⟩
theorem AkK(hi:EF g l)(hl:l.length<=1000)(hnd:(I6 g l).Nodup):T (AB (tQ g l) (⟨g.Cards,[],[],[],0,[]⟩,0)) λD=>Rr (ZI (Cd g m N) (I6 g l)) D/\Bn (ZI (Cd g m N) (I6 g l))/\JB g 1000 D:=by
 have w:=P.w;have nI:=w.nI;obtain⟨b,e0,c⟩:=AkE (P.new);have hD0:b=⟨g.Cards,[],[],[],0,[]⟩:=(Bj e0).symm;subst hD0;refine T.forA l.length (λj D=>(Rr (((I6 g l).take j).foldl (N4 (Cd g m N)) (Hh g.Cards)) D/\Bn (((I6 g l).take j).foldl (N4 (Cd g m N)) (Hh g.Cards))/\Gs (((I6 g l).take j).foldl (N4 (Cd g m N)) (Hh g.Cards)) ((I6 g l).take j))/\JB g j D) aa ⟨⟨c,LD P.cd.r,λq z g h=>by cases h⟩,Mv g⟩ (λj D hj hr=>?_) λD hr=>?_
 .obtain⟨y,hy,hm⟩:=dk hj;obtain⟨i,x,rfl,hil,hx,a⟩:=Pa w hi hy;obtain⟨o,ho,so,p⟩:=w.op hil;obtain⟨⟨h1,h2,h3⟩,h4⟩:=hr;have hod:=P.od i o x ho hx;have d:=(P.op ho hx).2;have et:((I6 g l).take (j+1)).foldl (N4 (Cd g m N)) (Hh g.Cards)=Vr (((I6 g l).take j).foldl (N4 (Cd g m N)) (Hh g.Cards)) o x:=by rw[Rb a,O0,List.foldl_cons,List.foldl_nil];grind [N4]
  have hxS:x∉(I6 g l).take j:=by grind [Hd,M4]
  rw[et,Rb a];generalize ((I6 g l).take j).foldl (N4 (Cd g m N)) (Hh g.Cards)=R at h1 h2 h3⊢;unfold tQ;simp only[eA hj,ax,au,hy,ho,hx,aL];have z:=AaT P h4 aa;have k:=h4.dev;have n:=h4.nL;exact .bind ((T.and (doE z (by grind) h1 h2 λ_ q z f k1 k2 e=>by have:=h3 q z f k1 k2;grind) (Gc w aa h4 so x)).mono λv hv=> .some (by constructor<;>grind [aq,R4,Ah5]))
 .unfold tQ;dsimp only;rw[eF,A9];have hl2:(I6 g l).length=l.length:=Hv ..;rw[<-hl2,EZ] at hr;exact .some ⟨hr.1.1,hr.1.2.1,hr.2.up aa⟩
theorem AmJ{ids row vs:Ba}(hi:GL g ids)(ho:n8 g ids=some row)(hrn:row.Nodup)(hr:row.length<=1000)(hrm:∀x∈row,x∈g.IDs)(hv:vJ ids=some vs)(a:vs.length<=1000)(hvm:∀x∈vs,x∈g.IDs):T (zY g ids) λD=>∃cs,Aga (Cd g m N) (XT ⟨g.Cards,m,N⟩ row vs) (ON (Cd g m N) row)=some cs/\cs.Sublist row/\Rr (ZI (Cd g m N) cs) D/\Bn (ZI (Cd g m N) cs)/\JB g 1000 D:=by
 unfold zY AV;rw[aL];refine .bind ((Aet P hi ho hrn hr hrm hv a hvm).mono λe hdl=>?_);obtain⟨v,h1,h2⟩:=hdl;refine .bind ((Ah6 P h2).mono λr b=>?_);obtain⟨g1,g2,d,c⟩:=b;have hcs:Aga (Cd g m N) (XT ⟨g.Cards,m,N⟩ row vs) (ON (Cd g m N) row)=some (I6 g r):=by unfold Aga;rw[show(Cd g m N).cards=g.Cards from rfl,h1,d];rfl
 refine .bind ((AkK P g1 g2 (hrn.sublist c)).mono λD hD=> .some ⟨I6 g r,hcs,c,hD⟩)
end
theorem AkL{D:Dk}(z:Sz D)(h:Rr R D)(hR:Bn R):lu D=some (JN R):=by
 obtain⟨a,b,_⟩:=OJ hR;unfold lu;refine T.eq (.bind ((Aei z.i).mono λv hv=> .some ?_));refine AaS (hv.1.trans (List.Perm.trans ?_ b.symm)) hv.2 a;refine(List.perm_ext_iff_of_nodup (List.nodup_append.1 h.nd).1 hR.ci.kd).2 λe=>?_;have hi:=h.in_ e;constructor
 .grind [Hr]
 .intro he;obtain⟨q,hq,rfl⟩:=Fq.1 he;have hg:=JL hR.ci (k:=q.1) (v:=q.2.1) (n:=q.2.2) hq;grind
theorem UE:fg prog 115=some true:=aH
theorem Nz:Aa1 prog gl Bv (λx=>[.agg (Bv x)]) 134:=λs f fi_f fa_f fc_f a=>
 cy func134 λK=>Nw 1101 (λg=>sg [] []) (λs1=>sf [] [(7,iG (ah s)),(8,iG s1)]) [hc (a.im)] K (λg=>rv K) λs1 k5 h k6=>aF 9 (CA 14 Bi.ixZ 15 (Bi.ptZ Hl) λd=>ak λi e=>kV (λb=>aw [hz 16 [] (cS (a.cs (c:=0) e (aY (aG 20 (.agg (Bv d)) aH) (bf))) b)]<|aP c3 k6 []) λb=>aw [hz 16 [] (cS (a.cs (c:=0) e (aY (aG 20 (.agg (Bv d)) aH) (bf))) b)]<|cj k5 [hc (a.im)])<|aA c2 h []
theorem Md:AbY prog gl Bv (λx=>[.agg (Bv x)]) 67:=λs f fi_f fa_f fc_f a=>
 cy func67 λK=>ak λb e2=>aw [hz 7 [] (jf (c:=0) aH (Nz gl (a) e2) (aY (aG 20 (aE Bv s) aH) (aY (a.im) (bf))))]<|rv K
def JJ(f:Bh)(a1:Bp):Fo:=
 (bif f.Device=a1.By then(some (decide (f.Seq<=a1.Seq)))else(some false)).bind λa=>some a
theorem UQ{f a1}:DG prog gl (JJ f a1) 69 [.agg (Bv f),.ptr (aJ a1) 0] bG:=
 cy func69 λK=>cN [1,0] (so [0] [(2,.ref 0 0)] [ob 0 123 (Bv f)] 1) []<|cC [1,0] (λa=>sk [] [(3,bG a)] [] 0) (λa=>rv K) λa k3=>aF 8 (rx k3)<|rx k3
def Aab(a:Ad)(device:Int):Fo:=
 some (Hx (a.in_.get device))
theorem UR{r_ device}:DG prog gl (Aab r_ device) 75 [.ptr (CD r_) 0,iG device] bG:=
 cy func75 λK=>aw [hm 10 (SD r_.in_ device)]<|rv K
def S7(d:Int)(a1:Bb):Fo:=
 (AbZ a1 d).bind λa=>some (!a)
theorem US{d a1}:DG prog gl (S7 d a1) 76 [iG d,.ptr [aE cZ a1] 0] bG:=
 cy func76 λK=>BA 6 (Dq gl) λa=>rv K
section
variable {gl:CM}
abbrev InV(gl:CM)(fi:FuncId)(fa fc:Bk)(p:Int->Bool):Prop:=Ue prog gl fi fa fc (λx:Int=>[iG x]) (λx:Bool=>bG x) (λk=>some (p k))
theorem Ac4{p:Int->Bool}{fi:FuncId}{fa fc:Bk}(hv:InV gl fi fa fc p){l:Bb}(hn:l.length<=1000000):iV prog gl 73 [aE cZ l,.clo (.func fi) fa fc] 3 (l.filter p).length ((l.filter p).flatMap cZ):=by
 refine OW func73 ?_;refine pN (λk:Nat=>(s0 23 gl [(1,.clo (.func fi) fa fc),(5,.rsl 0 0 ((l.take k).filter p).length),(8,aE cZ l),(9,iG (ah l)),(10,iG (k:Int))] [(0,KS ((l.take k).filter p))] 1 0)) 1110122 (Fw (n:=l.length) aa) [] [hc hv.im,hc (rZ.imm [])] (λB k w hs k5 a=>?_) [3] [(0,0)] [(0,.row)];unfold LC at hs;split at hs
 .rename_i hlt;obtain rfl:=Bj hs;obtain⟨x,hx⟩:∃x,l[k]?=some x:=⟨_,DS hlt⟩;have hz:=Be hx;have k5:=k5 _ rfl;have hl:((l.take k).filter p).length<=k:=MG (Np _ _) (by rw[MH];omega);rw[JI,hx,Option.toList_some,Re] at k5;generalize (l.take k).filter p=q at k5 hl⊢;have hcs:=hv.cs (c:=1) (x:=x) rfl (aY (aG 20 (iG x) aH) bf);cases hp:p x with
  |true=>rw[hp] at hcs;rw[List.filter_cons_of_pos hp,List.filter_nil] at k5;exact jw [hr 11 (Dl hx),AA 12 (rZ.ixZ hz),AA 13 (rZ.p1Z tZ hz),Go.Proofs.YtghphhhpagagbaaGreatDoor.hz 16 [] hcs,Tn 20 rZ 8 q x aa,hbb 21 (Xl (q:=k) aa)] [hc hv.im,hc (el (q++[x])),hc (rZ.imm (q++[x]))] k5 [] [(0,2)] [(0,.row)]
  |false=>rw[hp] at hcs;rw[List.filter_cons_of_neg (by simp[hp]),List.filter_nil,KY] at k5;exact jw [hr 11 (Dl hx),AA 12 (rZ.ixZ hz),AA 13 (rZ.p1Z tZ hz),Go.Proofs.YtghphhhpagagbaaGreatDoor.hz 16 [] hcs,hbb 21 (Xl (q:=k) aa)] [hc hv.im,hc (el q),hc (rZ.imm q)] k5 [] [(0,0)] [(0,.row)]
 .split at hs
  .rename_i he;subst he;rw[EZ];exact EI [hr 11 (Ef (s:=l))] (rZ.imm (l.filter p))
  .cases hs
end
def Vn(p:Nat->Bool)(N:Ja):Ba:=(N.zipIdx.filter λq=>p q.2).map (·.1.id)
theorem Ae1{p:Nat->Bool}{x:CY}(h:N[k]?=some x):Vn p (N.take (k+1))=Vn p (N.take k)++bif p k then[x.id] else[]:=by grind [Vn,JI]
theorem Ac5{p:Nat->Bool}:(Vn p N).length<=N.length:=by grind [Vn,List.length_zipIdx]
section
variable {gl:CM}
theorem AgT(a b:Ab):ba prog gl 123 [.agg (aj a),.agg (aj b)] (iG (GR a b)):=by
 have h1:=TH (gl:=gl) a b;have h2:=TH (gl:=gl) b a;unfold GR;refine Gh func123 ?_;cases c1:dt a b with
 |true=>rw[c1] at h1;exact Ar [hf 8 h1] []
 |false=>
  rw[c1] at h1;cases c2:dt b a with
  |true=>rw[c2] at h2;exact Ar [hf 8 h1,hf 12 h2] []
  |false=>rw[c2] at h2;exact Ar [hf 8 h1,hf 12 h2] []
theorem Ai9:CmV gl 123 [] [] GR:=⟨aH,bf,bf,(by grind [AgT])⟩
abbrev NmV(gl:CM)(fi:FuncId)(fa fc:Bk)(p:Nat->Bool):Prop:=Ue prog gl fi fa fc (λx:Nat=>[iG (x:Int)]) (λx:Bool=>bG x) (λk=>bif k<200 then some (p k)else none)
theorem Abe(hn:gg.nodes.length<=14){p:Nat->Bool}{fi:FuncId}{fa fc:Bk}(hv:NmV gl fi fa fc p)(h:O6 GR (Vn p gg.nodes)=some r)(hle:r.length=(Vn p gg.nodes).length):iV prog gl 61 [.ptr (Ag gg) 0,.clo (.func fi) fa fc] 25 r.length (r.flatMap aj):=by
 rw[hle];refine OW func61 ?_;refine pN (λk:Nat=>(s0 30 gl [(1,.clo (.func fi) fa fc),(5,.rsl 0 0 (Vn p (gg.nodes.take k)).length),(11,aE d7 gg.nodes),(12,iG (ah gg.nodes)),(13,iG (k:Int))] [(0,Bz (Vn p (gg.nodes.take k)))] 1 0)) 1110122 (Fw (n:=gg.nodes.length) aa) [] [hc hv.im,hc (ac.imm [])] (λB k w hs k5 a=>?_) [25] [(0,0)] [(0,.row)];unfold LC at hs;split at hs
 .rename_i hlt;obtain rfl:=Bj hs;obtain⟨x,hx⟩:∃x,gg.nodes[k]?=some x:=by simp_all
  have hz:=Be hx;have k5:=k5 _ rfl;have hl:(Vn p (gg.nodes.take k)).length<=k:=by grind [Ac5]
  rw[Ae1 hx] at k5;generalize Vn p (gg.nodes.take k)=l at k5 hl⊢;have hcs:=hv.cs (c:=2) (x:=k) (by rw[C3 (by grind)];rfl) (aY (aG 20 (iG (k:Int)) aH) bf);cases hp:p k with
  |true=>rw[hp] at k5 hcs;exact jw [hr 14 (Dl hx),AA 16 (az.ixZ hz),AA 17 (az.ptZ UE hz),Go.Proofs.YtghphhhpagagbaaGreatDoor.hz 20 [] hcs,Tn 25 ac 24 l x.id aa,hbb 26 (Xl (q:=k) aa)] [hc hv.im,hc (el (l++[x.id])),hc (ac.imm (l++[x.id]))] k5 [] [(0,3)] [(0,.row)]
  |false=>rw[hp] at k5 hcs;rw[A9,KY] at k5;exact jw [hr 14 (Dl hx),AA 16 (az.ixZ hz),AA 17 (az.ptZ UE hz),Go.Proofs.YtghphhhpagagbaaGreatDoor.hz 20 [] hcs,hbb 26 (Xl (q:=k) aa)] [hc hv.im,hc (el l),hc (ac.imm l)] k5 [] [(0,0)] [(0,.row)]
 .split at hs
  .rename_i he;subst he;rw[EZ];exact EI [hr 14 (Ef (s:=gg.nodes)),hso (gl:=gl) 28 1 Ai9 (MG Ac5 hn) h] (ac.imm r)
  .cases hs
theorem AgU(k:Nat):ba prog gl 62 [iG (k:Int)] (bG true):=by refine Gh func62 ?_;exact Ar [] []
theorem AgV{gg:Aj}(hn:gg.nodes.length<=14)(h:O6 GR (Vn (λ_=>true) gg.nodes)=some r)(hle:r.length=(Vn (λ_=>true) gg.nodes).length):ba prog gl 24 [.ptr (Ag gg) 0] (aE aj r):=by have hN:=(Abe (gl:=gl) hn (fi:=62) (fa:=[]) (fc:=[]) ⟨aH,bf,bf,(by grind [AgU])⟩ h hle).fn ac.sz (ac.len _) (ac.imm _);refine Gh func24 ?_;exact Ar [hf 4 hN] []
def Se(gg:Aj)(l:Ba):OP:=l.foldl (λs x=>match Nj gg x with|some y=>RT s y.past|none=>s) z4
theorem Ae2(hg:Uq gg)(hn:ids.length<=1000000):ba prog gl 83 [.ptr (Ag gg) 0,aE aj ids] (.agg (FSq (Se gg ids))):=by
 refine Gh func83 ?_;refine pN (λk:Nat=>(s0 37 gl [(0,.ptr (Ag gg) 0),(4,.ref 0 0),(5,.ref 1 0),(10,aE aj ids),(11,iG (ah ids)),(12,iG (k:Int))] [(0,oA z4),(1,oA (Se gg (ids.take k)))] 2 0)) 1110122 (Fw (n:=ids.length) aa) [] [] (λB k w hs k5 a=>?_) [] [(0,0),(1,1)] [];unfold LC at hs;split at hs
 .rename_i hlt;obtain rfl:=Bj hs;obtain⟨x,hx⟩:∃x,ids[k]?=some x:=by simp_all
  have hz:=Be hx;have k5:=k5 _ rfl;have e:Se gg (ids.take (k+1))=match Nj gg x with|some y=>RT (Se gg (ids.take k)) y.past|none=>Se gg (ids.take k):=by unfold Se;rw[JI,hx,Option.toList_some,O0];rfl
  rw[e] at k5;generalize Se gg (ids.take k)=s at k5⊢;have hk:=H7 gg.at_ x;cases em:gg.at_.get x with
  |none=>rw[em] at hk;rw[Xi em] at k5;exact jw [hr 13 (Dl hx),AA 14 (ac.ixZ hz),AA 15 (ac.ptZ aW hz),hm 22 hk,hbb 35 (Xl (q:=k) aa)] [] k5 [] [(0,0),(1,1)] []
  |some n=>rw[em] at hk;obtain⟨j,y,rfl,hy,e2,_⟩:=Ur hg em;rw[e2] at k5;exact jw [hr 13 (Dl hx),AA 14 (ac.ixZ hz),AA 15 (ac.ptZ aW hz),hm 22 hk,AA 31 (az.ixZ hy),AA 33 (az.fsZ aap aaq 30 B5 hy),tN 34 [1] 3 [(1,oA s)] [.ref 1 0,.agg (FSq y.past)] [(0,oA (RT s y.past))] (TX gl s y.past) ⟨⟨rfl,.inl rfl⟩,trivial⟩ ⟨⟨rfl,.inl rfl⟩,trivial⟩,hbb 35 (Xl (q:=k) aa)] [] k5 [] [(0,0),(1,1)] []
 .split at hs
  .rename_i he;subst he;rw[EZ];exact Ar [hr 13 (Ef (s:=ids))] []
  .cases hs
theorem AgW(s:OP)(hn:n<256):ba prog gl 84 [.ptr (FSq s) 0,iG (n:Int)] (bG (gW s n)):=by
 have h:=Xa (s:=s) hn;generalize gW s n=r at h⊢;have hm:u9 (n:Int) 64=some ((n%64:Nat):Int):=by grind [u9]
 have hcn:wJ ((n%64:Nat):Int)=some (n%64):=by grind [wJ]
 have hq:∀q:Nat,n/64=q->Gg (n:Int) 64=some (q:Int):=by grind [Gg,Mx]
 have hd:wI (Int.tdiv (n:Int) 64)=((n/64:Nat):Int):=by grind [bM]
 have ht:Int.tmod (n:Int) 64=((n%64:Nat):Int):=by grind
 unfold iX at h;rw[hd,ht,hcn] at h;refine Gh func84 ?_;have h4:n/64=0\/n/64=1\/n/64=2\/n/64=3:=aa;rcases h4 with e|e|e|e
 .rw[e] at h;obtain rfl:=Bj h;exact Ar [hbb 7 (Tt (hq 0 e)),hbb 12 (KO hm),hV 13 (Am (P:=prog) (t:=23) s.a0 hcn),hV 14 (ju (P:=prog) (t:=23) (Ju s.a0 (n%64)) 1)] []
 .rw[e] at h;obtain rfl:=Bj h;exact Ar [hbb 7 (Tt (hq 1 e)),hbb 12 (KO hm),hV 13 (Am (P:=prog) (t:=23) s.a1 hcn),hV 14 (ju (P:=prog) (t:=23) (Ju s.a1 (n%64)) 1)] []
 .rw[e] at h;obtain rfl:=Bj h;exact Ar [hbb 7 (Tt (hq 2 e)),hbb 12 (KO hm),hV 13 (Am (P:=prog) (t:=23) s.a2 hcn),hV 14 (ju (P:=prog) (t:=23) (Ju s.a2 (n%64)) 1)] []
 .rw[e] at h;obtain rfl:=Bj h;exact Ar [hbb 7 (Tt (hq 3 e)),hbb 12 (KO hm),hV 13 (Am (P:=prog) (t:=23) s.a3 hcn),hV 14 (ju (P:=prog) (t:=23) (Ju s.a3 (n%64)) 1)] []
theorem AgX(s:OP):NmV gl 84 [.ptr (FSq s) 0] [] (gW s):=⟨aH,aY (aG 20 _ aH) bf,bf,(by grind [AgW])⟩
theorem AgY(hg:Uq gg)(hn:gg.nodes.length<=14){ids r:Ba}(hi:ids.length<=1000000)(h:O6 GR (Vn (gW (Se gg ids)) gg.nodes)=some r)(hle:r.length=(Vn (gW (Se gg ids)) gg.nodes).length):iV prog gl 31 [.ptr (Ag gg) 0,aE aj ids] 25 r.length (r.flatMap aj):=by refine OW func31 ?_;exact EI [hf 8 (Ae2 (gl:=gl) hg hi),ho 11 [.ptr (Ag gg) 0,.clo (.func 84) [.ptr (FSq (Se gg ids)) 0] []] [] (Abe (gl:=gl) hn (AgX _) h hle) (kF r)] (ac.imm r)
theorem Ae3{l:Ba}{x:Ab}{i c:Nat}(hn:l.length<=100000):oJ prog gl 133 [.rsl i 0 l.length,.agg (aj x)] [(i,Bz l)] c (bG (l.any λy=>decide (x=y))) [] c:=
 PG aH (Jo gl (Td aa x)) (lR _) rfl λst h j y z h1 h2=>by
  match j with
  |0=>grind [Aav]
  |1=>cases h1;cases h2;exact jB (aG 20 (.agg (aj x)) aH)
  |j+2=>cases h1
def Lx(I:Gi)(p l:Ba):Ba:=l.foldl (λr x=>bif 0<I.lev x then bif r.any λy=>decide (x=y)then r else r++[x]else r) p
theorem Abf{I:Gi}:∀{l p:Ba},(Lx I p l).length<=p.length+l.length
 |[],p=>Dx _
 |x::l,p=>by have a:Lx I p (x::l)=Lx I (bif 0<I.lev x then bif p.any λy=>decide (x=y)then p else p++[x]else p) l:=rfl;rw[a];refine MG Abf ?_;grind
theorem Ae4(h:RX gl gg I){p:Ba}(hp:iV prog gl 31 [.ptr (Ag gg) 0,aE aj o.Past] 25 p.length (p.flatMap aj))(hn:p.length+o.Past.length<=100000):iV prog gl 66 [.ptr (Ag gg) 0,.agg (aJ o)] 25 (Lx I p o.Past).length ((Lx I p o.Past).flatMap aj):=by
 refine OW func66 ?_;refine pN (λk:Nat=>(s0 35 gl [(0,.ptr (Ag gg) 0),(5,.rsl 0 0 (Lx I p (o.Past.take k)).length),(13,aE aj o.Past),(14,iG (ah o.Past)),(15,iG (k:Int))] [(0,Bz (Lx I p (o.Past.take k)))] 1 0)) 1110122 (Fw (n:=o.Past.length) aa) [ho 11 [.ptr (Ag gg) 0,aE aj o.Past] [] hp (kF p)] [hc (el p),hc (ac.imm p)] (λB k w hs k5 d=>?_) [] [(0,1)] [(0,.row)];unfold LC at hs;split at hs
 .rename_i hlt;obtain rfl:=Bj hs;obtain⟨x,hx⟩:∃x,o.Past[k]?=some x:=by simp_all
  have hz:=Be hx;have k5:=k5 _ rfl;have hl:(Lx I p (o.Past.take k)).length<=100000:=by grind [Abf]
  have e:Lx I p (o.Past.take (k+1))=bif 0<I.lev x then bif(Lx I p (o.Past.take k)).any λy=>decide (x=y)then Lx I p (o.Past.take k)else Lx I p (o.Past.take k)++[x]else Lx I p (o.Past.take k):=by grind [Lx,JI,Option.toList_some]
  rw[e] at k5;generalize Lx I p (o.Past.take k)=l at k5 hl⊢;have b:=h.lev x;cases c1:decide (0<I.lev x) with
  |false=>rw[c1] at k5;exact jw [hr 16 (Dl hx),AA 17 (ac.ixZ hz),AA 18 (ac.ptZ aW hz),hf 21 b,hr 22 c1,hbb 33 (Xl (q:=k) aa)] [hc (el l),hc (ac.imm l)] k5 [] [(0,0)] [(0,.row)]
  |true=>
   rw[c1] at k5;have a:=Ae3 (gl:=gl) (l:=l) (x:=x) (i:=0) (c:=2) hl;cases c2:(l.any λy=>decide (x=y)) with
   |true=>rw[c2] at k5 a;exact jw [hr 16 (Dl hx),AA 17 (ac.ixZ hz),AA 18 (ac.ptZ aW hz),hf 21 b,hr 22 c1,Go.Proofs.YtghphhhpagagbaaGreatDoor.hz 26 [0] a,hbb 33 (Xl (q:=k) aa)] [hc (el l),hc (ac.imm l)] k5 [] [(0,0)] [(0,.row)]
   |false=>rw[c2] at k5 a;exact jw [hr 16 (Dl hx),AA 17 (ac.ixZ hz),AA 18 (ac.ptZ aW hz),hf 21 b,hr 22 c1,Go.Proofs.YtghphhhpagagbaaGreatDoor.hz 26 [0] a,Tn 32 ac 24 l x aa,hbb 33 (Xl (q:=k) aa)] [hc (el (l++[x])),hc (ac.imm (l++[x]))] k5 [] [(0,3)] [(0,.row)]
 .split at hs
  .rename_i he;subst he;rw[EZ];exact EI [hr 16 (Ef (s:=o.Past))] (ac.imm (Lx I p o.Past))
  .cases hs
end
abbrev haS(R:Ad)(sen:Bb):Bb:=sen.filter (Qs R)
abbrev Ac6(l:Bb)(d:Int):Bool:= !(l.any λy=>decide (d=y))
def Ae5(fk:Bool)(R:Ad)(o:Bp)(i:Ab)(sen:Bb):Bb:=bif fk then[]else bif Uo R o≠0 then[]else haS (Vr R o i) sen++(JN (Vr R o i)).filter (Ac6 (haS (Vr R o i) sen))
theorem AgZ(gl:CM)(R:Ad):InV gl 75 [.ptr (CD R) 0] [] (Qs R):=⟨aH,aY (aG 20 (.ptr (CD R) 0) aH) bf,bf,λk r e=>by cases e;exact UR gl rfl⟩
theorem Ag0(gl:CM){l:Bb}(hl:l.length<=1000000):InV gl 76 [] [.ptr [aE cZ l] 0] (Ac6 l):=⟨aH,bf,aY (aG 20 (.ptr [aE cZ l] 0) aH) bf,λk r e=>by cases e;exact US gl (by grind [S7,Td])⟩
theorem Ab9{gl:CM}(hR:Bn R){l:Bb}(hl:l.length<=1000000){f:Nat->Nat}{c:Nat}(hnd:(XR f).Nodup):oJ prog gl 73 [aE cZ l,.clo (.func 75) [.ref (f 0) 0] []] (BX f R) c (.rsl c 0 (haS R l).length) [(c,some ⟨3,(haS R l).flatMap cZ,none⟩)] (c+1):=
 Ads aH (Ac4 (AgZ gl R) hl) (lZ _) rfl λst h i x y h1 h2=>by
  have hs:Rls f R st.σ:=λk ob ho=>h _ _ (by rw[Hp,LO (by grind [Aci]) (List.mem_range.2 (D3 ho))];exact ho)
  match i with
  |0=>cases h1;cases h2;exact jB (aG 20 (aE cZ l) aH)
  |1=>cases h1;cases h2;refine SX rfl rfl (λj g d a b=>?_) (by grind);grind [Aff]
  |i+2=>cases h1
section
variable {gg:Aj} {I:Gi} (h:RX fI gg I) {o:Bp} {i:Ab} {s:Ba} (hS:iV prog fI 66 [.ptr (Ag gg) 0,.agg (aJ o)] 25 s.length (s.flatMap aj)) {fr:List Bh} (hF:ba prog fI 68 [.ptr (Ag gg) 0,aE aj s] (aE Bv fr)) {fk:Bool} (hK:Aa2 fr (λf=>JJ f o)=some fk) {R:Ad} (hR:Bn R) (hRl:UM prog fI 30 [.ptr (Ag gg) 0,aE aj s] [] 0 0 (.ref 0 0) (BX f0 R)) (hi:ba prog fI 70 [.agg (aJ o)] (.agg (aj i))) (hg:o.Guards.length<=1000000) (hp:Uo R o=0->Xd o i) {sen:Bb} (hN:ba prog fI 74 [.ptr (Ag gg) 0,aE aj s] (aE cZ sen)) (hn:sen.length<=1000)
include hS hF hK hR hRl hi hg hp hN hn
theorem Ae6:iV prog fI 27 [.ptr (Ag gg) 0,.agg (aJ o)] 3 (Ae5 fk R o i sen).length ((Ae5 fk R o i sen).flatMap cZ):=by
 have a:=hS.fn ac.sz (ac.len _) (ac.imm _);have b:=Md fI (fi_f:=69) (fa_f:=[]) (fc_f:=[.ptr (aJ o) 0]) ⟨aH,bf,aY (aG 20 (.ptr (aJ o) 0) aH) bf,λf r e=>UQ fI e⟩ hK;refine OW func27 ?_;unfold Ae5;cases fk with
 |true=>exact EI [hf 11 a,hf 14 hF,hq 16 [aE Bv fr,.clo (.func 69) [] [.ptr (aJ o) 0]] [] b] (rZ.imm [])
 |false=>
 rw[A9];have hM:=AfT hR (o:=o) (i:=i) hg;generalize Uo R o=mm at hM hp⊢;cases cm:decide (mm≠0) with
 |true=>exact EI [hf 11 a,hf 14 hF,hq 16 [aE Bv fr,.clo (.func 69) [] [.ptr (aJ o) 0]] [] b,hrn 19 2 [.ptr (Ag gg) 0,aE aj s] hR hRl,hf 21 hi,hrr 25 (Q1 2) 16 [.agg (aJ o),.agg (aj i)] hR hM,hr 26 cm] (rZ.imm [])
 |false=>
  rw[A9];have hp:=hp (Decidable.of_not_not (Mj cm));have hD:=AfL fI hR hp;have hQ:=R4 hR hp;generalize Vr R o i=Q at hD hQ⊢;have hdl:(JN Q).length<=1000:=by grind [List.Perm.length_eq,OJ,Hv,Bn.len]
  have hv:=Xc fI hQ;have hl:(haS Q sen).length<=1000:=by grind
  have d:=Ac4 (Ag0 fI (l:=haS Q sen) aa) (l:=JN Q) aa;have hap:aT 8 (haS Q sen) ((JN Q).filter (Ac6 (haS Q sen)))=some (haS Q sen++(JN Q).filter (Ac6 (haS Q sen))):=Bu (by grind);have g:=Ab9 (gl:=fI) hQ (l:=sen) aa (f:=f0) (c:=14) B5;refine pO 1111110 (s0 43 fI [(0,.ptr (Ag gg) 0),(3,.ptr (aJ o) 0),(5,aE aj s),(6,.ref 0 0),(7,.ref 14 0)] (BX f0 R++[(14,XS i)]) 15 0) [hf 11 a,hf 14 hF,hq 16 [aE Bv fr,.clo (.func 69) [] [.ptr (aJ o) 0]] [] b,hrn 19 2 [.ptr (Ag gg) 0,aE aj s] hR hRl,hf 21 hi,hrr 25 (Q1 2) 16 [.agg (aJ o),.agg (aj i)] hR hM,hr 26 cm] (hc (eB (gs:=aJ o) aH)::rlB (GE (Q1 2)++[(14,1)]) (Q1 2) hR) ?_ (ρ:=GE (Q1 2)++[(14,1)]) (kd:=N7);refine pO 11111110 (s0 43 fI [(0,.ptr (Ag gg) 0),(5,aE aj s),(6,.ref 0 0)] (BX f0 Q) 14 0) [hrw 30 f0 15 [.agg (aJ o),.agg (aj i)] hR hQ hD] (rlB (GE (fW f0 15)) (fW f0 15) hQ) ?_ (ρ:=GE (fW f0 15)) (kd:=N7);refine pO 111111110 (s0 43 fI [(6,.ref 0 0),(8,.ref 14 0)] (BX f0 Q++[ob 14 22 [.rsl 15 0 (haS Q sen).length],(15,KS (haS Q sen))]) 16 0) [hf 33 hN,hz 36 (XR f0) g] (rlB (GE f0++[(14,15),(15,14)]) f0 hQ++[hc (el (haS Q sen)),hc (rZ.imm (haS Q sen))]) ?_ (ρ:=GE f0++[(14,15),(15,14)]) (kd:=N7++[(15,.row)]);exact EI [hrr 39 f0 17 [] hQ hv,ho 41 [aE cZ (JN Q),.clo (.func 76) [] [.ptr [aE cZ (haS Q sen)] 0]] [hc (rZ.al (haS Q sen))] d (lZ _),dg 42 rZ hap] (rZ.imm _)
end
section
section
variable {P:Br}
section
variable {ops:Array Oper} {K:St->Prop} {ty:Bo} {pos:String} {af:Array Edge} {rest:HD} {n:Nat} {gl:CM} {fr:Fr} {σ:aQ} {c p d j:Nat} {bars:Bq} {rr:Bool}
theorem AkZ{op:Op}{gq:Option (Nat×Bool)}(hw:ce ⟨n,gl,fr,σ,c,p,rr⟩ ops ⟨some d,op,ty,pos,af,gq⟩=some false)(hd:d<n)(h:D8 P ops K rest ⟨n,gl,(d,.lit undef)::fr,σ,c,p,rr⟩):D8 P ops K (⟨some d,op,ty,pos,af,gq⟩::rest) ⟨n,gl,fr,σ,c,p,rr⟩:=by unfold D8;exact .inr ⟨hw,(by grind),h⟩
end
end
section
variable {P:Br} {ops:Array Oper} {K:St->Prop} {op:Op} {ty:Bo} {pos:String} {af:Array Edge} {rest:HD} {n:Nat} {gl:CM} {fr:Fr} {σ:aQ} {c p d j:Nat} {bars:Bq} {rr:Bool} {gq:Option (Nat×Bool)}
theorem zn(h:D8 P ops K rest ⟨n,gl,(d,.lit undef)::fr,σ,c,p,rr⟩)(hw:ce ⟨n,gl,fr,σ,c,p,rr⟩ ops ⟨some d,op,ty,pos,af,gq⟩=some false:=by kernel_rfl)(hd:d<n:=by decide):D8 P ops K (⟨some d,op,ty,pos,af,gq⟩::rest) ⟨n,gl,fr,σ,c,p,rr⟩:=AkZ hw hd h
end
end
theorem Am7:bw prog 64=some 27:=aH
theorem Aja(l:Mi):∀g∈l.flatMap bv,∃v,g= .lit v:=by grind [bv]
section
def I1(g:Aj)(a:Ab):Option (Bp×Bool):=
 bif(!((g.at_.get a).isSome))then(some (⟨0,0,0,0,[],0,0,0,0,[],⟨0,0,0⟩,0,[],[],⟨0,0,0⟩,[],0,0,[],0,[],⟨0,0⟩⟩,false))else((aS g.nodes (FR (g.at_.get a))).bind λb=>(pG b.o).bind λe=>some (e,true))
theorem NN{g id_}:DG prog gl (I1 g id_) 25 [.ptr (Ag g) 0,.agg (aj id_)] (λr=> .tup [.agg (aJ r.1),bG r.2]):=
 cy func25 λK=>aw [hm 14 (H7 g.at_ id_)]<|aF 18 (rv K)<|CA 25 az.ixZ 27 (az.fsZ GN Am7 0 B5) λa=>BA 28 (Ds gl) λb=>rv K
def KF(g:Aj):Option Mi:=
 (Fl g.cards).bind λa=>some a
theorem RU{g}:LK prog gl (KF g) 81 [.ptr (Ag g) 0] 78 bv:=
 gc func81 λK=>ak λa e2=>aw [ho 7 [aE bv g.cards] [] (tn gl e2) (Aja a)]<|mr c0 K (bT.imm _)
end
theorem sP(a:Ab):dt a a=false:=by grind [ye]
theorem AdL{a b:Ab}(h1:dt a b=false)(h2:dt b a=false):a=b:=by
 have n1:¬dt a b=true:=by rw[h1];simp
 have n2:¬dt b a=true:=by rw[h2];simp
 rw[ye] at n1 n2;obtain⟨a1,a2,a3⟩:=a;obtain⟨b1,b2,b3⟩:=b;grind
theorem Ae7(hn:gg.cards.length<=1000)(d:Int):hY gg d=some (((gg.cards.find? λc=>decide (c.Device=d)).getD TC),(gg.cards.find? λc=>decide (c.Device=d)).isSome):=by
 unfold hY;refine T.eq (.bind (T.forA gg.cards.length (λk acc=>∀(j:Nat) (c:DQ),j<k->gg.cards[j]?=some c->c.Device≠d) aa (by grind) (λk acc hk hj=>?_) λacc hj=>?_))
 .obtain⟨x,hx⟩:∃x,gg.cards[k]?=some x:=⟨_,DS hk⟩;unfold ij;dsimp only;rw[eA hk,ax,au,hx,aL];refine .dec (λe=> .some (.some ?_)) λe=> .some ⟨aq aa,λj c' a b=>?_⟩
  .grind [List.find?_eq_some_iff_getElem]
  grind
 .unfold ij;dsimp only;rw[eF,A9];have hf:gg.cards.find? (λc=>decide (c.Device=d))=none:=by grind [Hd]
  rw[hf];exact .some (.some rfl)
theorem Ag1{i:Int}{x:CY}(hx:aS N i=some x)(hn:n<256){r:Bool}(h:iX x.past (n:Int)=some r):ba prog fI 84 [.ptr (N.flatMap d7) (i.toNat*35+30),iG (n:Int)] (bG r):=by
 have hm:u9 (n:Int) 64=some ((n%64:Nat):Int):=by grind [u9]
 have hcn:wJ ((n%64:Nat):Int)=some (n%64):=by grind [wJ]
 have hq:∀q:Nat,n/64=q->Gg (n:Int) 64=some (q:Int):=by grind [Gg,Mx]
 have hd:wI (Int.tdiv (n:Int) 64)=((n/64:Nat):Int):=by grind [bM]
 have ht:Int.tmod (n:Int) 64=((n%64:Nat):Int):=by rw[Int.tmod_eq_emod_of_nonneg aa];rfl
 unfold iX at h;rw[hd,ht,hcn] at h;refine Gh func84 ?_;have h4:n/64=0\/n/64=1\/n/64=2\/n/64=3:=aa;rcases h4 with e|e|e|e
 .rw[e] at h;obtain rfl:=Bj h;exact Ar [hbb 7 (Tt (hq 0 e)),AA 10 (az.fdZ tW 30 hx),hbb 12 (KO hm),hV 13 (Am (P:=prog) (t:=23) x.past.a0 hcn),hV 14 (ju (P:=prog) (t:=23) (Ju x.past.a0 (n%64)) 1)] []
 .rw[e] at h;obtain rfl:=Bj h;exact Ar [hbb 7 (Tt (hq 1 e)),AA 10 (az.fdZ tW 31 hx),hbb 12 (KO hm),hV 13 (Am (P:=prog) (t:=23) x.past.a1 hcn),hV 14 (ju (P:=prog) (t:=23) (Ju x.past.a1 (n%64)) 1)] []
 .rw[e] at h;obtain rfl:=Bj h;exact Ar [hbb 7 (Tt (hq 2 e)),AA 10 (az.fdZ tW 32 hx),hbb 12 (KO hm),hV 13 (Am (P:=prog) (t:=23) x.past.a2 hcn),hV 14 (ju (P:=prog) (t:=23) (Ju x.past.a2 (n%64)) 1)] []
 .rw[e] at h;obtain rfl:=Bj h;exact Ar [hbb 7 (Tt (hq 3 e)),AA 10 (az.fdZ tW 33 hx),hbb 12 (KO hm),hV 13 (Am (P:=prog) (t:=23) x.past.a3 hcn),hV 14 (ju (P:=prog) (t:=23) (Ju x.past.a3 (n%64)) 1)] []
theorem Abh(h:Uq gg):RX fI gg (RY gg) where
 op x:=by
  cases e:gg.at_.get x with
  |none=>
   have hr:I1 gg x=some ((RY gg).o x,((RY gg).op x).isSome):=by grind [I1,Gi.o,RY,Xi]
   exact NN fI hr
  |some n=>
   obtain⟨k,y,rfl,hz,hn,hk,hm⟩:=Ur h e;have hr:I1 gg x=some ((RY gg).o x,((RY gg).op x).isSome):=by grind [I1,Gi.o,RY,FR,Option.isSome_some,Uq.cl]
   exact NN fI hr
 bef x y:=by
  refine Gh func36 ?_;refine pO [1,0] (s0 44 fI [(0,.ptr (Ag gg) 0),(4,.ref 0 0),(5,.ref 1 0)] [(0,XS x),(1,XS y)] 2 0) [] [] ?_ [] [(0,0),(1,1)];show Gp _ _ (tH _ _ (bG (Af1 gg x y))) _ _ _ _;unfold Af1;have h1:=H7 gg.at_ x;have h2:=H7 gg.at_ y;unfold FR at h1 h2;cases e1:gg.at_.get x with
  |none=>rw[e1] at h1;exact Ar [hm 17 h1,hm 26 h2] []
  |some n=>
   rw[e1] at h1;cases e2:gg.at_.get y with
   |none=>rw[e2] at h2;rw[Xi e2];exact Ar [hm 17 h1,hm 26 h2] []
   |some q=>rw[e2] at h2;obtain⟨k,b,rfl,hz,hn,hk,hmm⟩:=Ur h e2;obtain⟨j,a,rfl,_,_,hj,_⟩:=Ur h e1;rw[hn];exact Ar [hm 17 h1,hm 26 h2,AA 39 (az.ixZ hz),hf 42 (Ag1 hz hj (Xa hj))] []
 lev x:=by
  refine HE fI ?_;unfold Fj FR;cases e:gg.at_.get x with
  |none=>show _=some (match Nj gg x with|some y=>y.level|none=>0);rw[Xi e];rfl
  |some n=>obtain⟨k,y,rfl,hz,hn,hk,hm⟩:=Ur h e;show _=some (match Nj gg x with|some y=>y.level|none=>0);grind
 cards:=by
  have hr:KF gg=some gg.cards:=by grind [KF,Fl,aT,Uq.nc]
  exact(RU fI hr).fn aH (bT.len _) (bT.imm _)
 card d:=uN fI (Ae7 h.nc d)
section
section
variable {g:AQ} {m:Jq} {N:Ja}
theorem Y4(w:Fs g)(p:Ou g m N):Uq ⟨g.Cards,m,N⟩ where
 pos x n e:=by have e:m.get x=some n:=e;rw[p.get] at e;cases hk:bu x g.IDs<;>grind [AbA]
 cl y hy:=by grind [Ou,Hd,RM,Fs.ops]
 nc:=w.nC
end
end
section
theorem AdM(a:Ab):¬GR a a<0:=by grind [Q5,sP]
theorem S8{a b:Ab}:Nk I a b<0↔I.lev a<I.lev b\/(I.lev a=I.lev b/\dt a b=true):=by grind [Nk,Q5,AbB]
theorem PE(a:Ab):¬Nk I a a<0:=by grind [S8,sP]
theorem UF(I:Gi):OrN (Nk I) λ_=>True:=by grind [OrN,S8,dt,EX]
section
variable {gl:CM}
end
end
theorem Aca(hl:ids.length<=1000000)(d s:Int):z9 ids d s=some (OY ids ⟨d,s⟩:Int):=by
 refine T.eq ?_;unfold z9;refine .bind ((T.forA ids.length (λk n=>n=(OY (ids.take k) ⟨d,s⟩:Int)) aa rfl (λk n hk hn=>?_) λn hn=>?_).mono (Q:=λn:Int=>n=(OY ids ⟨d,s⟩:Int)) λn hn=> .some hn)
 .obtain⟨y,hy,_⟩:=dk hk;unfold uf;simp only[eA hk,ax,au,hy,aL];have h1:=T9 (ids.take k) y ⟨d,s⟩;have h2:=Agm (ids.take k) ⟨d,s⟩;rw[MH] at h2;rw[<-Rb hy] at h1;simp only[Bh.mk.injEq] at h1;have yes:y.By=d->y.Seq=s->wI (n+1)=(OY (ids.take (k+1)) ⟨d,s⟩:Int):=by grind [bM]
  have no:¬(y.By=d/\y.Seq=s)->n=(OY (ids.take (k+1)) ⟨d,s⟩:Int):=by grind
  by_cases c1:y.By=d
  .by_cases c2:y.Seq=s
   .simp only[c1,c2,decide_true,ax,aL];exact .some ⟨aq aa,yes c1 c2⟩
   .simp only[c1,c2,decide_true,decide_false,ax,A9,aL];exact .some ⟨aq aa,no λc=>c2 c.2⟩
  .simp only[c1,decide_false,A9,aL];exact .some ⟨aq aa,no λc=>c1 c.1⟩
 .unfold uf;dsimp only;rw[eF,A9];refine .some (show n=_ from ?_);rw[hn,EZ]
def FsI(ids p:Ba)(d v:Int):Prop:=(v=0/\∀y∈p,y.By=d->¬2<=OY ids ⟨d,y.Seq⟩)\/(∃y∈p,y.By=d/\y.Seq=v/\2<=OY ids ⟨d,v⟩/\∀z∈p,z.By=d->2<=OY ids ⟨d,z.Seq⟩->v<=z.Seq)
theorem UG{ids:Ba}(hl:ids.length<=1000000)(hs:∀x∈ids,1<=x.Seq)(d:Int):T (qN ids d) (FsI ids ids d):=by
 unfold qN;refine .bind ((T.forA ids.length (λk v=>FsI ids (ids.take k) d v) aa (.inl ⟨rfl,λy hy=>by cases hy⟩) (λk v hk hv=>?_) λv hv=>?_).mono (Q:=FsI ids ids d) λv hv=> .some hv)
 .obtain⟨y,hy,hm⟩:=dk hk;unfold qM;simp only[eA hk,ax,au,hy,aL,Aca hl];have a:=hs y hm;have keep:(y.By=d->2<=OY ids ⟨d,y.Seq⟩->v≠0/\v<=y.Seq)->FsI ids (ids.take (k+1)) d v:=λh=>by
   rw[Rb hy];rcases hv with⟨h1,h2⟩|⟨z,h1,h2,h3,h4,h5⟩
   .refine .inl ⟨h1,λz hz hb hc=>?_⟩;rcases I9.1 hz with hz|hz
    .exact h2 z hz hb hc
    .simp at hz;subst hz;exact(h hb hc).1 h1
   .refine .inr ⟨z,by simp[h1],h2,h3,h4,λw hw hb hc=>?_⟩;rcases I9.1 hw with hw|hw
    .exact h5 w hw hb hc
    .simp at hw;subst hw;exact(h hb hc).2
  have new:y.By=d->2<=OY ids ⟨d,y.Seq⟩->(v=0\/y.Seq<v)->FsI ids (ids.take (k+1)) d y.Seq:=λhb hc h=>by
   rw[Rb hy];refine .inr ⟨y,aC,hb,rfl,hc,λw hw hb' b=>?_⟩;rcases I9.1 hw with hw|hw
   .rcases hv with⟨h1,h2⟩|⟨z,h1,h2,h3,h4,h5⟩
    all_goals grind
   grind
  by_cases c1:y.By=d
  .by_cases c2:2<=OY ids ⟨d,y.Seq⟩
   .have c2':(1:Int)<(OY ids ⟨d,y.Seq⟩:Int):=aa;by_cases c3:v=0
    .simp only[c1,c2',c3,decide_true,ax,aL];exact .some ⟨aq aa,new c1 c2 (.inl c3)⟩
    .by_cases c4:y.Seq<v
     .simp only[c1,c2',c3,c4,decide_true,decide_false,ax,A9,aL];exact .some ⟨aq aa,new c1 c2 (.inr c4)⟩
     .simp only[c1,c2',c3,c4,decide_true,decide_false,ax,A9,aL];exact .some ⟨aq aa,keep λ_ _=>⟨c3,aa⟩⟩
   .have c2':¬(1:Int)<(OY ids ⟨d,y.Seq⟩:Int):=aa;simp only[c1,c2',decide_true,decide_false,ax,A9,aL];exact .some ⟨aq aa,keep λ_ h=>absurd h c2⟩
  .simp only[c1,decide_false,A9,aL];exact .some ⟨aq aa,keep λh=>absurd h c1⟩
 .unfold qM;dsimp only;rw[eF,A9];rw[EZ] at hv;exact .some hv
theorem AdN(hs:∀x∈ids,1<=x.Seq){y:Ab}{v:Int}(h:FsI ids ids y.By v):voP ids y=(decide (0<v)&&decide (v<=y.Seq)):=by
 rw[Bool.eq_iff_iff];unfold voP;rw[List.any_eq_true];simp only[bA,decide_eq_true_eq];refine⟨λ⟨z,hz,h1,h2,h3⟩=>?_,λ⟨h1,h2⟩=>?_⟩
 .rcases h with⟨_,h5⟩|⟨w,k1,k2,k3,a,k5⟩
  all_goals grind
 .rcases h with⟨h5,_⟩|⟨w,k1,k2,k3,a,k5⟩
  all_goals grind
theorem Acb{ids:Ba}(hl:ids.length<=100000)(hd:ids.Nodup)(hs:∀x∈ids,1<=x.Seq):T (vJ ids) λr=>r.Perm (ids.filter (voP ids))/\r.Pairwise λx y=>GR x y<0:=by
 unfold vJ;refine .bind ((T.forA ids.length (λk acc=>acc=(ids.take k).filter (voP ids)) aa aC (λk acc hk hj=>?_) λacc hj=>?_).mono (Q:=λacc=>acc=ids.filter (voP ids)) λx hx=> .bind ((kg ?_).mono λv hv=> .some ?_))
 .obtain⟨y,hy,hm⟩:=dk hk;unfold un;simp only[eA hk,ax,au,hy,aL];have hla:acc.length<=k:=by grind
  have e:(ids.take (k+1)).filter (voP ids)=acc++(if voP ids y then[y] else[]):=by rw[Rb hy,Re,<-hj];cases hp:voP ids y<;>simp[hp]
  refine .bind ((UG aa hs y.By).mono λv hv=>?_);have hq:=AdN hs hv;by_cases c1:0<v
  .by_cases c2:v<=y.Seq
   .simp only[c1,c2,decide_true,ax,aL];rw[hq,C3 c1,C3 c2] at e;exact .bind (.app cq (.some ⟨aq aa,by rw[e];rfl⟩))
   .simp only[c1,c2,decide_true,decide_false,ax,A9,aL];rw[hq,C3 c1,C6 c2] at e;exact .some ⟨aq aa,by rw[e];simp⟩
  .simp only[c1,decide_false,A9,aL];rw[hq,C6 c1] at e;exact .some ⟨aq aa,by rw[e];simp⟩
 .unfold un;dsimp only;rw[eF,A9];refine .some (show acc=_ from ?_);rw[hj,EZ]
 .grind
 .refine⟨hx▸hv.1,?_⟩;have hn:v.Nodup:=by grind
  refine(hv.2.and hn).imp λ{a b} h=>Q5.2 ?_;cases h1:dt a b with
  |true=>rfl
  |false=>exact absurd (AdL h1 h.1) h.2
section
section
variable {g:AQ} {m:Jq} {N:Ja}
theorem Ww(w:Fs g)(p:Ou g m N)(h:g.IDs[i]?=some x):∃y,N[i]?=some y/\(Cd g m N).lev x=y.level/\0<=y.level/\y.level<=(i:Int)+1:=by obtain⟨y,h1,h2,h3⟩:=AbA w p (M5 w h);refine⟨y,h1,?_,(p.nd i y h1).2.2.2⟩;show(match Nj ⟨g.Cards,m,N⟩ x with|some y=>y.level|none=>0)=_;rw[Us w p,M5 w h];grind
theorem AdO(w:Fs g)(p:Ou g m N):nZ g=some (N.map (·.level)):=by
 have nL:=w.nL;have nU:=w.nU;have pl:=p.len;refine T.eq ?_;unfold nZ;refine .bind (T.mono (Q:=λr=>r=N.map (·.level)) (T.forA g.L.length (λk acc=>acc=(N.take k).map (·.level)) aa aC (λk acc hk hj=>?_) λacc hj=>?_) λx hx=> .some hx)
 .obtain⟨u,hu,_⟩:=dk (l:=g.Up) (k:=k) aa;obtain⟨y,hy,_⟩:=dk (l:=N) (k:=k) aa;obtain⟨u1,e⟩:=w.up k u hu;have b:=p.lv k y u hy hu;unfold pd;dsimp only;rw[eA hk,ax];have hla:acc.length=k:=by grind
  have hin:AB (iP g (acc,(k:Int))) (1,0)=some y.level:=by
   refine T.eq ?_;refine T.loop (λs=>∃j:Nat,j<=u.length/\s.2=(j:Int)/\s.1=lvF N (u.take j)) (λs=>u.length-s.2.toNat) ⟨0,aa,rfl,rfl⟩ cq ?_;rintro⟨a,i⟩ ⟨j,f,rfl,rfl⟩;unfold iP;simp only[au,hu,aL];rcases HB j u.length with hlt|hge
   .obtain⟨z,hz,hm⟩:=dk hlt;obtain⟨h,o⟩:=e z hm;obtain⟨n,rfl⟩:∃n:Nat,z=(n:Int):=⟨z.toNat,aa⟩;obtain⟨v,hv,_⟩:=dk (l:=N) (k:=n) aa;have hb:=(p.nd n v hv).2.2.2;have ha:acc[n]?=some v.level:=by grind
    rw[eA hlt,ax,hz,aL,au,ha,aL,bM aa aa];refine .some ⟨⟨j+1,aa,aq aa,?_⟩,?_⟩
    .rw[Rb hz,Abd];grind [lvN]
    grind [aq]
   .obtain rfl:j=u.length:=aa;rw[eF,A9,EZ];exact .some b.symm
  rw[hin,aL];refine .bind (.app cq (.some ⟨aq aa,?_⟩));rw[Rb hy,List.map_append,hj];rfl
 .unfold pd;dsimp only;rw[eF,A9];refine .some (show acc=_ from ?_);rw[hj,<-pl,EZ]
theorem Sa(w:Fs g)(p:Ou g m N){y:Ab}(hx:g.IDs[i]?=some x)(hy:g.IDs[k]?=some y):vI g (N.map (·.level)) (i:Int) (k:Int)=some (decide (Nk (Cd g m N) x y<0)):=by
 obtain⟨a,h1,h2,_⟩:=Ww w p hx;obtain⟨b,h3,h4,_⟩:=Ww w p hy;have e1:(N.map (·.level))[i]?=some a.level:=by rw[M7,h1];rfl
 have e2:(N.map (·.level))[k]?=some b.level:=by rw[M7,h3];rfl
 grind [vI,au,pJ,S8]
theorem Ajc{α:Type}{cmp:α->α->Int}(hO:OrN cmp λ_=>True){l:List α}{x:α}(hp:l.Pairwise λa b=>cmp a b<0)(h1:∀i y,i<j->l[i]?=some y->cmp y x<0)(h2:∀y,l[j]?=some y->¬cmp y x<0)(hx:x∉l):(l.take j++[x]++l.drop j).Pairwise λa b=>cmp a b<0:=by
 have hpj:(l.take j++l.drop j).Pairwise λa b=>cmp a b<0:=by rw[Pm];exact hp
 rw[List.pairwise_append] at hpj;have hlt:∀a∈l.take j,cmp a x<0:=by grind [Hd]
 have hgt:∀b∈l.drop j,cmp x b<0:=by grind [OrN,List.drop_eq_nil_of_le,List.drop_eq_getElem_cons,List.pairwise_cons]
 grind
theorem UH(w:Fs g)(p:Ou g m N)(hl:ids.length<=1000)(hd:ids.Nodup)(hm:∀x∈ids,x∈g.IDs):T (n8 g ids) λr=>r.Perm ids/\r.Pairwise λx y=>Nk (Cd g m N) x y<0:=by
 have nL:=w.nL;have nI:=w.nI;unfold n8;rw[AdO w p,aL];refine .bind (T.mono (Q:=λx:Bb=>EF g x/\(I6 g x).Perm ids/\(I6 g x).Pairwise λx y=>Nk (Cd g m N) x y<0) (T.forA ids.length (λk acc=>EF g acc/\(I6 g acc).Perm (ids.take k)/\(I6 g acc).Pairwise λx y=>Nk (Cd g m N) x y<0) aa ⟨.nil,by simp[I6],.nil⟩ (λk acc hk hj=>?_) λacc hj=>?_) λf h4=>?_)
 .obtain⟨y,hy,l⟩:=dk hk;obtain⟨b,u,o⟩:=hj;obtain⟨i,hi⟩:=Hd (hm y l);have hil:i<g.IDs.length:=(cr hi).1;have hpz:gO g y=(i:Int):=by unfold gO;rw[M5 w hi]
  have hal:acc.length<=k:=by grind [List.Perm.length_eq,Hv,MH]
  have hny:y∉I6 g acc:=by grind [Hd,M4]
  unfold qU;simp only[eA hk,ax,au,hy,aL,qR,dC (show g.IDs.length<=1000000 by omega),hpz];rw[show decide ((i:Int)<0)=false from C6 aa,A9];refine .bind (T.mono (Q:=λn:Int=>∃j:Nat,n=(j:Int)/\j<=acc.length/\(∀q z,q<j->(I6 g acc)[q]?=some z->Nk (Cd g m N) z y<0)/\∀z,(I6 g acc)[j]?=some z->¬Nk (Cd g m N) z y<0) (T.forI acc.length (λj=>∀q z,q<j->(I6 g acc)[q]?=some z->Nk (Cd g m N) z y<0) aa (λq z h=>aa) (λj hjl hq=>?_) λhq=>?_) λn hn=>?_)
  .obtain⟨z,hz,s⟩:=dk hjl;obtain⟨B,zn,rfl,t,a,hzz⟩:=Pa w b hz;unfold qT;simp only[eA hjl,ax,au,hz,aL,Sa w p a hi];refine .dec (λhc=> .some ⟨aq aa,λq C v hz'=>?_⟩) λhc=> .some ⟨j,rfl,aa,hq,λC hz'=>?_⟩;all_goals grind
  .unfold qT;dsimp only;rw[eF,A9,aL,A9];refine .some ⟨acc.length,rfl,Dx _,hq,λz hz=>?_⟩;grind
  .obtain⟨j,rfl,hjl,q1,A⟩:=hn;refine .bind (.pre aa aa (.bind (.app cq (.bind (.app cq (.bind (.suf aa aa (.bind (.app cq (.some ⟨aq aa,?_,?_⟩))))))))))
   .intro x hx;have:x∈acc++[(i:Int)]:=by grind
    exact b.snoc aa x this
   .have e:I6 g ([]++acc.take (j:Int).toNat++[(i:Int)]++acc.drop (j:Int).toNat)=(I6 g acc).take j++[y]++(I6 g acc).drop j:=by grind [FF,List.map_take,List.map_drop]
    rw[e];refine⟨?_,Ajc (UF _) o q1 A hny⟩;grind [Rb,Cy]
 .unfold qU;dsimp only;rw[eF,A9];rw[EZ] at hj;exact .some hj
 .obtain⟨h1,h2,h3⟩:=h4;refine .bind (T.mono (Q:=λr:Ba=>r=I6 g f) (T.forA f.length (λk acc=>acc=(I6 g f).take k) (by grind [List.Perm.length_eq,Hv]) aC (λk acc hk hj=>?_) λacc hj=>?_) (by grind [T.some]))
  .obtain⟨z,hz,s⟩:=dk hk;obtain⟨B,zn,rfl,t,a,hzz⟩:=Pa w h1 hz;have hxl:f.length<=1000:=by grind [List.Perm.length_eq]
   have hal:acc.length<=k:=by rw[hj,MH];omega
   unfold qS;simp only[eA hk,ax,au,hz,a,aL];refine .bind (.app cq (.some ⟨aq aa,?_⟩));rw[Rb hzz,hj]
  .unfold qS;dsimp only;rw[eF,A9];refine .some (show acc=_ from ?_);grind [Hv]
end
end
section
theorem Ag2{u:Bb}:1<=lvF N u:=by
 have key:∀(l:Bb) (a:Int),1<=a->1<=l.foldl (λa j=>E0 a (lvN N j+1)) a:=by intro l;induction l<;>grind [E0]
 exact key u 1 (Int.le_refl _)
theorem Abi{a b:Ba}(h:a.Perm b)(f:Bh):OY a f=OY b f:=(h.filter _).length_eq
theorem Ae8{a b:Ba}(h:a.Perm b)(x:Ab):voP a x=voP b x:=by grind [voP,Abi]
section
variable {g:AQ} {m:Jq} {N:Ja} (P:Pg g m N)
include P
end
end
end Go.Proofs.YtghphhhpagagbaaGreatDoor
