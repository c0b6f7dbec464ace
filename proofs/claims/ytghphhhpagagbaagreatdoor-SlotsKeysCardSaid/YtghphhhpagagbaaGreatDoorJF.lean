/- Texts. -/
import Derived.LaidHandle
import Derived.LaidMore
import Derived.OpenShut
import Derived.ProofKit
import Derived.Test.YtghphhhpagagbaaGreatDoorRows
import Derived.Test.YtghphhhpagagbaaGreatDoorT4
namespace Go.Proofs.YtghphhhpagagbaaGreatDoor
set_option linter.unusedSectionVars false
set_option linter.unusedVariables false
set_option linter.unusedSimpArgs false
open Go.RowKit Go.Proofs.Tryz Go.ChangeShapes Go.WideShapes Go.ChangeAt
attribute [local irreducible] Tr dz Gp
variable (gl:CD)
variable {α:Type}{V:List Bool}{l u:Be}{x y:Ab}{dl:JS}{al:AQ}{a:Bc×FM Ab Bool}{cs ids r row:Bc}{R:Ad}{D:Dl}{f fi:FuncId}{fa fc:Bn}{N:JD}{base j k n:Nat}{gg:Aj}{I:Gi}{o:Bp}{v:Value}{g:A7}{ss:Ly}{W w:World}{t:TypeId}
theorem AmD{js:Be}(hj:js.length<=1000)(hi:∀z∈js,∃q:Nat,z=(q:Int)/\q<V.length):T (AB (ng js) (V,0)) λW=>W.length=V.length/\∀(q:Nat) (b:Bool),V[q]?=some b->W[q]?=some (b||decide ((q:Int)∈js)):=by
 refine T.forA js.length (λk W=>W.length=V.length/\∀(q:Nat) (b:Bool),V[q]?=some b->W[q]?=some (b||decide ((q:Int)∈js.take k))) aa (by grind) (λk W hk a=>?_) λW a=>?_
 .obtain⟨z,hz,c⟩:=dk hk;obtain⟨p,rfl,hp⟩:=hi z c;unfold ng;simp only[eA hk,ax,au,hz,aL];refine .bind (.set aa (by rw[a.1];omega) (.some ⟨aq aa,by rw[List.length_set];exact a.1,λq b h=>?_⟩));rw[Fv,List.getElem?_set,Rb hz];grind
 .unfold ng;dsimp only;rw[eF,A9];rw[EQ] at a;exact .some a
theorem AaW{σ1 σ2 ρ1 ρ2:Type}{s1:σ1->Option (σ1⊕ρ1)}{s2:σ2->Option (σ2⊕ρ2)}(R:σ1->σ2->Prop)(Q:ρ1->ρ2->Prop)(μ:σ1->Nat)(h:∀a b,R a b->∃u v,s1 a=some u/\s2 b=some v/\Sim (λa' b'=>R a' b'/\μ a'<μ a) Q u v):∀(n:Nat) (a:σ1) (b:σ2),μ a<n->R a b->∃q r,KN s1 n a=some q/\KN s2 n b=some r/\Q q r
 |0,a,b,hm,_=>absurd hm (Nat.not_lt_zero _)
 |n+1,a,b,hm,hR=>by
  obtain⟨u,v,e1,e2,hs⟩:=h a b hR;unfold KN;rw[e1,e2];cases u with
  |inl a'=>
   cases v with
   |inl b'=>exact AaW R Q μ h n a' b' (by have:=hs.2;omega) hs.1
   |inr b'=>exact hs.elim
  |inr a'=>
   cases v with
   |inl b'=>exact hs.elim
   |inr b'=>exact⟨_,_,rfl,rfl,hs⟩
section
variable {g:A7} {m:JJ} {N:JD} (P:Pg g m N)
include P
theorem Aen(hi:EF g l){p:Nat}(hp:g.IDs[p]?=some x):(p:Int)∈l↔x∈I4 g l:=by grind [G9,O4,Pg.w,MH,Fq.nd]
theorem AkG{s:Be}{b:List Bool×List Bool×Int}(h:RDc g (BX g m N) dl al s a b){p:Nat}{x:Ab}(hp:g.IDs[p]?=some x)(hb:b.2.2=(p:Int)):AB (nh g dl b) ([],0)=some (dl.Row.filter λz=>(λy=>Jb (BX g m N) x y||(decide (y∈a.1.filter λx=> !Bb (a.2.get x))&&DZ (BX g m N) al.row x y)) ((g.IDs[z.toNat]?).getD ⟨0,0,0⟩)):=by
 have w:=P.w;have nI:=w.nI;have hr:dl.Row.length<=1000:=h.lr.nr;have hpl:p<g.L.length:=by grind
 generalize hf:(λy=>Jb (BX g m N) x y||(decide (y∈a.1.filter λx=> !Bb (a.2.get x))&&DZ (BX g m N) al.row x y))=f;refine T.eq (T.forA dl.Row.length (λk acc=>acc=(dl.Row.take k).filter λz=>f ((g.IDs[z.toNat]?).getD ⟨0,0,0⟩)) aa aC (λk acc hk hj=>?_) λacc hj=>?_)
 .obtain⟨z,hz,_⟩:=dk hk;have hrow:EF g dl.Row:=h.lr.row;obtain⟨q,y,rfl,d,hq,i⟩:=O4 w hrow hz;have hnm:I4 g dl.Row=al.row:=h.lr.nm;rw[hnm] at i;have hyr:=bO i;have hal:acc.length<=k:=by grind
  have e:(dl.Row.take (k+1)).filter (λz=>f ((g.IDs[z.toNat]?).getD ⟨0,0,0⟩))=acc++(if f y=true then[(q:Int)] else[]):=by rw[Rb hz,Q1,<-hj];cases hfy:f y<;>simp[hq,hfy]
  have hw:=Ael P h.lr hpl d hp hq;unfold nh;simp only[eA hk,ax,au,hz,aL,hb,Aek P hpl d hp hq,Ah4 P h.toRDb hq hyr];refine .bind (T.mono (Q:=λc=>c=f y) ?_ λc hc=>?_)
  .rw[<-hf];dsimp only;cases Jb (BX g m N) x y<;>grind [T.some]
  .subst hc;cases hfy:f y with
   |true=>rw[hfy,Bx rfl] at e;exact .bind (.app cq (.some ⟨aq aa,e.symm⟩))
   |false=>rw[hfy,BA aC,MT] at e;exact .some ⟨aq aa,e.symm⟩
 .unfold nh;dsimp only;rw[eF,A9];refine .some (show acc=_ from ?_);rw[hj,EQ]
theorem ltE{s:Be}(hsn:s.Nodup)(hsl:s.length<=12)(h:Lr g dl al):∀x∈al.row,∀y∈al.row,decide (Sg (OR g.Cards s) x.By<Sg (OR g.Cards s) y.By)=decide (snD s ((BX g m N).o x).By<snD s ((BX g m N).o y).By):=by
 have w:=P.w;have pos:∀x∈al.row,∃q:Nat,q<g.L.length/\g.IDs[q]?=some x:=λx hx=>by rw[<-h.nm] at hx;obtain⟨z,hz,e⟩:=Fm.1 hx;obtain⟨j,hj⟩:=G9 hz;obtain⟨n,y,rfl,hn,hy,_⟩:=O4 w h.row hj;grind
 intro x hx y hy;obtain⟨p,hp,a⟩:=pos x hx;obtain⟨q,hq,b⟩:=pos y hy;obtain⟨o,ho,_⟩:=w.op hp;obtain⟨c,ho2,_⟩:=w.op hq;rw[(P.op ho a).2,(P.op ho2 b).2,<-(P.od p o x ho a).i,<-(P.od q c y ho2 b).i];refine AiG hsn hsl ?_ ?_
 .rw[(P.od p o x ho a).i];exact P.dv p o x ho a
 .rw[(P.od q c y ho2 b).i];exact P.dv q c y ho2 b
theorem nxE{s:Be}(hsn:s.Nodup)(hsl:s.length<=12){D:List Bool}(h:RDb g (BX g m N) dl al a V D):T (vL g {dl with Void:=V,Decided:=D} s) λnx=>NxQ g m N (wV al a.2) (a.1.filter λx=> !Bb (a.2.get x)) (λx y=>decide (Sg (OR g.Cards s) x.By<Sg (OR g.Cards s) y.By)) nx:=AkD P h.lr (show s.length<=1000 by omega) (AbT (List.filter_sublist.trans h.sub) h.lr.nd) (λ_ _ hp hx=>Ah4 P h hp hx) (ltE P hsn hsl h.lr)
theorem AkH{s:Be}{b:List Bool×List Bool×Int}(hsn:s.Nodup)(hsl:s.length<=12)(h:RDc g (BX g m N) dl al s a b):∃u v,Af1 (BX g m N) al (OR g.Cards s) a=some u/\tw g dl s b=some v/\Sim (λa' b'=>RDc g (BX g m N) dl al s a' b'/\a'.1.length<a.1.length) (λ(v:FM Ab Bool) (r:List Bool×List Bool)=>Lr g {dl with Void:=r.1,Decided:=r.2} (wV al v)) u v:=by
 have w:=P.w;have nL:=w.nL;have nI:=w.nI;have hrow:EF g dl.Row:=h.lr.row;have hnm:I4 g dl.Row=al.row:=h.lr.nm;have hnd:al.row.Nodup:=h.lr.nd;have hnr:dl.Row.length<=1000:=h.lr.nr;have hrl:al.row.length=dl.Row.length:=by rw[<-hnm,Hi]
 obtain⟨nx,e1,t⟩:=nxE P hsn hsl h.toRDb;obtain⟨v0,hv⟩:∃v0,tw g dl s b=v0:=⟨_,rfl⟩;rw[hv];have D:=NS (λx=> !Bb (a.2.get x)) a.1;have hkl:=λp x hp hb=>AkG P h (p:=p) (x:=x) hp hb;have hl1s:(a.1.filter λx=> !Bb (a.2.get x)).Sublist al.row:=List.filter_sublist.trans h.sub;have hlen:a.1.length<=1000:=by have:=h.sub.length_le;omega
 have hmem:∀y,y∈(a.1.filter λx=> !Bb (a.2.get x))↔y∈a.1/\Bb (a.2.get y)=false:=by grind
 unfold Af1;rw[C3 hlen,ax];dsimp only;generalize (a.1.filter λx=> !Bb (a.2.get x))=l1 at*;have hl1n:l1.Nodup:=hnd.sublist hl1s;have hl1l:l1.length<=1000:=by have:=hl1s.length_le;omega
 rw[h.nx] at e1;obtain rfl:=Bj e1;obtain⟨r,e2,hr⟩:=AmC (I:=BX g m N) (row:=al.row) (sen:=OR g.Cards s) hl1l;rw[e2];rcases t with⟨p,x,f,hp,hxl,hx⟩|⟨h0,hb⟩
 .obtain⟨i,J,rfl,hi,hx'⟩:=hr.resolve_right (by grind);obtain rfl:x=J:=by grind
  have hil:=(cr hi).1;have F:=hl1s.subset hxl;have hpl:p<g.L.length:=by grind
  rw[show decide (ah l1=0)=false from C6 (by unfold ah;omega),A9,aL,au,hi,aL,Fv];obtain⟨gd,e3,g1,g2,H,M⟩:=Ah2 P h.lr;have hgood:QF gd (p:Int)=(JR (BX g m N) (wV al a.2)).any (λz=>decide (x=z)):=by rw[JB,Bool.eq_iff_iff,List.any_eq_true,decide_eq_true_iff,Aen P g1 hp,H];constructor<;>grind
  have hlp:∀y,y∈l1.eraseIdx i↔y∈l1/\y≠x:=λy=>by
   have hsp:l1=l1.take i++x::l1.drop (i+1):=by grind [List.drop_eq_getElem_cons,O6]
   have A:=hl1n;rw[hsp,List.perm_middle.nodup_iff,LV] at A;rw[List.eraseIdx_eq_take_drop_succ];constructor
   .intro hy;constructor<;>grind [List.mem_of_mem_drop]
   .rintro⟨hy,hne⟩;rw[hsp] at hy;rcases I5.1 hy with hy|hy
    .exact I5.2 (.inl hy)
    grind
  have hvl:b.1.length=g.L.length:=h.lr.nv;have hdl:b.2.1.length=g.L.length:=h.lr.nc;have key:∀(o:Be) (d:FM Ab Bool),o.length<=1000->(∀z∈o,∃q:Nat,z=(q:Int)/\q<b.1.length)->(∀(q:Nat) (y:Ab),g.IDs[q]?=some y->Bb (d.get y)=(Bb (a.2.get y)||decide ((q:Int)∈o)))->T ((ji b.2.1 b.2.2 true).bind λj=>(AB (ng o) (b.1,0)).bind λk=>(vL g ({dl with Void:=k,Decided:=j}) s).bind λB=>some (.inl (k,j,B))) λ(v:(List Bool×List Bool×Int)⊕(List Bool×List Bool))=>Sim (λa' b'=>RDc g (BX g m N) dl al s a' b'/\a'.1.length<a.1.length) (λ(v:FM Ab Bool) (r:List Bool×List Bool)=>Lr g {dl with Void:=r.1,Decided:=r.2} (wV al v)) (.inl (l1.eraseIdx i,d)) v:=λo d hjl C l=>by
   rw[f];refine .bind (.set aa aa (.bind ((AmD hjl C).mono λW E=>?_)));rw[Fv];have hL:Lr g {dl with Void:=W,Decided:=b.2.1.set p true} (wV al d):=⟨hrow,hnm,hnd,hnr,E.1.trans hvl,by grind,λq y hq=>by show W[q]?=some (Bb (d.get y));rw[l q y hq];exact E.2 q _ (h.lr.vd q y hq)⟩
   have hb:RDb g (BX g m N) dl al (l1.eraseIdx i,d) W (b.2.1.set p true):=by
    refine⟨hL,(List.eraseIdx_sublist l1 i).trans hl1s,(by grind [RDb.kil,h.toRDb]),λq y hq hy hk n=>?_⟩;dsimp only at n⊢;rw[l q y hq] at n;have hvy1:Bb (a.2.get y)=false:=by grind
    rw[List.getElem?_set];by_cases c:p=q
    .grind
    .have hne:y≠x:=λe=>c (by rw[e] at hq;exact MH w.nd hp hq);rw[BA c,h.dec q y hq hy hk hvy1];grind
   obtain⟨K,e4,_⟩:=nxE P hsn hsl hb;rw[e4,aL];exact .some ⟨⟨hb,e4⟩,by show(l1.eraseIdx i).length<_;rw[List.length_eraseIdx_of_lt hil];omega⟩
  unfold tw at hv;rw[f,show decide ((0:Int)<=(p:Int))=true from C3 aa,ax,e3,aL,cX aa,aL,hkl p x hp f,aL,hgood] at hv;rw[<-f] at hv;cases hg:(JR (BX g m N) (wV al a.2)).any (λz=>decide (x=z)) with
  |true=>
   rw[hg,Bool.not_true,A9,aL] at hv;rw[ax];obtain⟨v',ev,hs⟩:=key (dl.Row.filter λz=>(λy=>Jb (BX g m N) x y||(decide (y∈l1)&&DZ (BX g m N) al.row x y)) ((g.IDs[z.toNat]?).getD ⟨0,0,0⟩)) (vAl (BX g m N) al.row (l1.eraseIdx i) x a.2) (MI (NS _ _) hnr) (λz hz=>by
    obtain⟨q,e,hq⟩:=hrow.nat (HU.1 hz).1;exact⟨q,e,aa⟩) λq y hq=>by
    unfold vAl;rw[AcJ];congr 1;have h1:decide ((q:Int)∈dl.Row.filter λz=>(λy=>Jb (BX g m N) x y||(decide (y∈l1)&&DZ (BX g m N) al.row x y)) ((g.IDs[z.toNat]?).getD ⟨0,0,0⟩))=(decide (y∈al.row)&&(Jb (BX g m N) x y||(decide (y∈l1)&&DZ (BX g m N) al.row x y))):=by rw[Bool.eq_iff_iff,decide_eq_true_iff,HU,bA,decide_eq_true_iff,Aen P hrow hq,hnm,Fv,hq,Nf]
    rw[h1];congr 2;have h2:(l1.eraseIdx i).any (λz=>decide (y=z))=decide (y∈l1/\y≠x):=by rw[Bool.eq_iff_iff,List.any_eq_true,decide_eq_true_iff,<-hlp];constructor<;>grind
    rw[h2];by_cases c:y=x
    .subst c;unfold DZ;simp
    .simp[c]
   exact⟨_,v',rfl,by rw[<-hv,ev],hs⟩
  |false=>
   rw[hg,Bool.not_false,ax,aL] at hv;rw[A9];obtain⟨v',ev,hs⟩:=key [b.2.2] (C4 a.2 x true) aC (by grind) λq y hq=>by
    rw[BB,f];by_cases c:y=x
    .subst c;have:q=p:=MH w.nd hq hp;rw[Bx rfl,this];simp[Bb]
    .have:¬((q:Int)=(p:Int)):=λe=>c (by have:q=p:=aa;grind)
     rw[BA c];simp[this]
   exact⟨_,v',rfl,by rw[<-hv,ev],hs⟩
 .rw[h0,show decide (ah ([]:Bc)=0)=true from rfl,ax];unfold tw at hv;rw[hb,show decide ((0:Int)≤-1)=false from rfl,A9] at hv;exact⟨_,_,rfl,hv.symm,h.lr⟩
include P
theorem Ah5(hrm:∀x∈row,x∈g.IDs):(Ot (BX g m N) row).Nodup/\(Ot (BX g m N) row).length<=12:=by have h1:(Ot (BX g m N) row).Nodup:=AcG .nil;refine⟨h1,AmB h1 ?_⟩;refine AaU (Q:=λd=>1<=d/\d<=12) (λx hx d hd=>?_) (by grind);obtain⟨i,hi⟩:=G9 (hrm x hx);have:=(cr hi).1;obtain⟨o,ho,so,a⟩:=P.w.op (i:=i) (by have:=P.w.nI;omega);rw[(P.op ho hi).2] at hd;exact AaT a hd
theorem Aeo{vs:Bc}(hi:GJ g ids)(ho:n8 g ids=some row)(hrn:row.Nodup)(hr:row.length<=1000)(hrm:∀x∈row,x∈g.IDs)(hv:vJ ids=some vs)(c:vs.length<=1000)(hvm:∀x∈vs,x∈g.IDs):T (oR g ids) λd=>∃v,Af2 (BX g m N) (XL ⟨g.Cards,m,N⟩ row vs) (OR g.Cards (Ot (BX g m N) row))=some v/\Lr g d (wV (XL ⟨g.Cards,m,N⟩ row vs) v):=by
 unfold oR;refine .bind ((AkE P hi ho hrn hr hrm hv c hvm).mono λb ⟨hL,hD⟩=>?_);rw[AaV P ho hr hrm,aL];obtain⟨s1,s2⟩:=Ah5 P hrm;have hR:RDb g (BX g m N) b (XL ⟨g.Cards,m,N⟩ row vs) (row.filter (λx=> !!JI ((BX g m N).o x).Kind),(XL ⟨g.Cards,m,N⟩ row vs).void) b.Void b.Decided:=⟨hL,List.filter_sublist,(by grind),λp x hp hx hk _=>by have hpl:=(cr hp).1;have hm:x∈row.filter (λx=> !!JI ((BX g m N).o x).Kind):=HU.2 ⟨hx,by rw[hk];rfl⟩;grind [Lr]⟩
 obtain⟨nx,e3,_⟩:=nxE P s1 s2 hR;rw[show vL g b (Ot (BX g m N) row)=some nx from e3,aL];obtain⟨v,r,h1,h2,h3⟩:=AaW (s1:=Af1 (BX g m N) (XL ⟨g.Cards,m,N⟩ row vs) (OR g.Cards (Ot (BX g m N) row))) (s2:=tw g b (Ot (BX g m N) row)) (RDc g (BX g m N) b (XL ⟨g.Cards,m,N⟩ row vs) (Ot (BX g m N) row)) (λ(v:FM Ab Bool) (r:List Bool×List Bool)=>Lr g {b with Void:=r.1,Decided:=r.2} (wV (XL ⟨g.Cards,m,N⟩ row vs) v)) (λa=>a.1.length) (by grind [AkH]) FU _ (b.Void,b.Decided,nx) (by grind [FU]) ⟨hR,e3⟩;rw[show AB (tw g b (Ot (BX g m N) row)) (b.Void,b.Decided,nx)=some r from h2,aL];exact .some ⟨v,h1,h3⟩
theorem AkI(hi:EF g l)(hl:l.length<=1000)(hnd:(I4 g l).Nodup):T (AB (tQ g l) (⟨g.Cards,[],[],[],0,[]⟩,0)) λD=>Rr (Y4 (BX g m N) (I4 g l)) D/\Bk (Y4 (BX g m N) (I4 g l))/\Jq g 1000 D:=by
 have w:=P.w;have nI:=w.nI;obtain⟨b,e0,c⟩:=AkC (P.new);have hD0:b=⟨g.Cards,[],[],[],0,[]⟩:=(Bj e0).symm;subst hD0;refine T.forA l.length (λj D=>(Rr (((I4 g l).take j).foldl (Ny (BX g m N)) (He g.Cards)) D/\Bk (((I4 g l).take j).foldl (Ny (BX g m N)) (He g.Cards))/\Gs (((I4 g l).take j).foldl (Ny (BX g m N)) (He g.Cards)) ((I4 g l).take j))/\Jq g j D) aa ⟨⟨c,Lz P.cd.r,λq z g h=>by cases h⟩,Mv g⟩ (λj D hj hr=>?_) λD hr=>?_
 .obtain⟨y,hy,hm⟩:=dk hj;obtain⟨i,x,rfl,hil,hx,a⟩:=O4 w hi hy;obtain⟨o,ho,so,p⟩:=w.op hil;obtain⟨⟨h1,h2,h3⟩,h4⟩:=hr;have hod:=P.od i o x ho hx;have d:=(P.op ho hx).2;have et:((I4 g l).take (j+1)).foldl (Ny (BX g m N)) (He g.Cards)=U2 (((I4 g l).take j).foldl (Ny (BX g m N)) (He g.Cards)) o x:=by rw[Rb a,OP,List.foldl_cons,List.foldl_nil];grind [Ny]
  have hxS:x∉(I4 g l).take j:=by grind [G9,MH]
  rw[et,Rb a];generalize ((I4 g l).take j).foldl (Ny (BX g m N)) (He g.Cards)=R at h1 h2 h3⊢;unfold tQ;simp only[eA hj,ax,au,hy,ho,hx,aL];have z:=AaS P h4 aa;have k:=h4.dev;have n:=h4.nL;exact .bind ((T.and (doE z (by grind) h1 h2 λ_ q z f k1 k2 e=>by have:=h3 q z f k1 k2;grind) (Gc w aa h4 so x)).mono λv hv=> .some (by constructor<;>grind [aq,RW,Ah1]))
 .unfold tQ;dsimp only;rw[eF,A9];have hl2:(I4 g l).length=l.length:=Hi ..;rw[<-hl2,EQ] at hr;exact .some ⟨hr.1.1,hr.1.2.1,hr.2.up aa⟩
theorem AmF{ids row vs:Bc}(hi:GJ g ids)(ho:n8 g ids=some row)(hrn:row.Nodup)(hr:row.length<=1000)(hrm:∀x∈row,x∈g.IDs)(hv:vJ ids=some vs)(a:vs.length<=1000)(hvm:∀x∈vs,x∈g.IDs):T (zY g ids) λD=>∃cs,Af5 (BX g m N) (XL ⟨g.Cards,m,N⟩ row vs) (Ot (BX g m N) row)=some cs/\cs.Sublist row/\Rr (Y4 (BX g m N) cs) D/\Bk (Y4 (BX g m N) cs)/\Jq g 1000 D:=by
 unfold zY AV;rw[aL];refine .bind ((Aeo P hi ho hrn hr hrm hv a hvm).mono λe hdl=>?_);obtain⟨v,h1,h2⟩:=hdl;refine .bind ((Ah2 P h2).mono λr b=>?_);obtain⟨g1,g2,d,c⟩:=b;have hcs:Af5 (BX g m N) (XL ⟨g.Cards,m,N⟩ row vs) (Ot (BX g m N) row)=some (I4 g r):=by unfold Af5;rw[show(BX g m N).cards=g.Cards from rfl,h1,d];rfl
 refine .bind ((AkI P g1 g2 (hrn.sublist c)).mono λD hD=> .some ⟨I4 g r,hcs,c,hD⟩)
end
theorem AkJ(z:Sz D)(h:Rr R D)(hR:Bk R):lu D=some (JK R):=by
 obtain⟨a,b,_⟩:=Oo hR;unfold lu;refine T.eq (.bind ((Aed z.i).mono λv hv=> .some ?_));refine AaR (hv.1.trans (List.Perm.trans ?_ b.symm)) hv.2 a;refine(List.perm_ext_iff_of_nodup (List.nodup_append.1 h.nd).1 hR.ci.kd).2 λe=>?_;have hi:=h.in_ e;constructor
 .grind [Hp]
 .intro he;obtain⟨q,hq,rfl⟩:=Fm.1 he;have hg:=JH hR.ci (k:=q.1) (v:=q.2.1) (n:=q.2.2) hq;grind
theorem Ux:fg prog 115=some true:=aH
theorem Np:Aa0 prog gl Bt (λx=>[.agg (Bt x)]) 134:=λs f fi_f fa_f fc_f a=>
 cy func134 λK=>Nk 1101 (λg=>sg [] []) (λs1=>sf [] [(7,iG (ah s)),(8,iG s1)]) [hc (a.im)] K (λg=>rv K) λs1 k5 h k6=>aF 9 (Cd 14 Bi.ixZ 15 (Bi.ptZ Hj) λd=>ak λi e=>kV (λb=>aw [hz 16 [] (cS (a.cs (c:=0) e (aY (aG 20 (.agg (Bt d)) aH) (bf))) b)]<|aP c3 k6 []) λb=>aw [hz 16 [] (cS (a.cs (c:=0) e (aY (aG 20 (.agg (Bt d)) aH) (bf))) b)]<|cj k5 [hc (a.im)])<|aA c2 h []
theorem LR:AbZ prog gl Bt (λx=>[.agg (Bt x)]) 67:=λs f fi_f fa_f fc_f a=>
 cy func67 λK=>ak λb e2=>aw [hz 7 [] (jf (c:=0) aH (Np gl (a) e2) (aY (aG 20 (aE Bt s) aH) (aY (a.im) (bf))))]<|rv K
def JF(f:Bh)(a1:Bp):Fo:=
 (bif f.Device=a1.By then(some (decide (f.Seq<=a1.Seq)))else(some false)).bind λa=>some a
theorem UG{f a1}:DF prog gl (JF f a1) 69 [.agg (Bt f),.ptr (aJ a1) 0] bG:=
 cy func69 λK=>cN [1,0] (so [0] [(2,.ref 0 0)] [ob 0 123 (Bt f)] 1) []<|cC [1,0] (λa=>sk [] [(3,bG a)] [] 0) (λa=>rv K) λa k3=>aF 8 (rx k3)<|rx k3
def Aab(a:Ad)(device:Int):Fo:=
 some (Ht (a.in_.get device))
theorem UH{r_ device}:DF prog gl (Aab r_ device) 75 [.ptr (CB r_) 0,iG device] bG:=
 cy func75 λK=>aw [hm 10 (Su r_.in_ device)]<|rv K
def SM(d:Int)(a1:Be):Fo:=
 (Ab0 a1 d).bind λa=>some (!a)
theorem UI{d a1}:DF prog gl (SM d a1) 76 [iG d,.ptr [aE cZ a1] 0] bG:=
 cy func76 λK=>Bz 6 (Dq gl) λa=>rv K
section
variable {gl:CD}
abbrev InV(gl:CD)(fi:FuncId)(fa fc:Bn)(p:Int->Bool):Prop:=T9 prog gl fi fa fc (λx:Int=>[iG x]) (λx:Bool=>bG x) (λk=>some (p k))
theorem AcW{p:Int->Bool}(hv:InV gl fi fa fc p){l:Be}(hn:l.length<=1000000):iV prog gl 73 [aE cZ l,.clo (.func fi) fa fc] 3 (l.filter p).length ((l.filter p).flatMap cZ):=by
 refine OW func73 ?_;refine pN (λk:Nat=>(s0 23 gl [(1,.clo (.func fi) fa fc),(5,.rsl 0 0 ((l.take k).filter p).length),(8,aE cZ l),(9,iG (ah l)),(10,iG (k:Int))] [(0,KE ((l.take k).filter p))] 1 0)) 1110122 (E0 (n:=l.length) aa) [] [hc hv.im,hc (rZ.imm [])] (λB k w hs k5 a=>?_) [3] [(0,0)] [(0,.row)];unfold KS at hs;split at hs
 .rename_i hlt;obtain rfl:=Bj hs;obtain⟨x,hx⟩:∃x,l[k]?=some x:=⟨_,DR hlt⟩;have hz:=Bg hx;have k5:=k5 _ rfl;have hl:((l.take k).filter p).length<=k:=MI (NS _ _) (by rw[N3];omega);rw[Jn,hx,Option.toList_some,Q1] at k5;generalize (l.take k).filter p=q at k5 hl⊢;have hcs:=hv.cs (c:=1) (x:=x) rfl (aY (aG 20 (iG x) aH) bf);cases hp:p x with
  |true=>rw[hp] at hcs;rw[List.filter_cons_of_pos hp,List.filter_nil] at k5;exact jw [hr 11 (Dk hx),AA 12 (rZ.ixZ hz),AA 13 (rZ.p1Z tZ hz),Go.Proofs.YtghphhhpagagbaaGreatDoor.hz 16 [] hcs,Tn 20 rZ 8 q x aa,hbb 21 (Xl (q:=k) aa)] [hc hv.im,hc (el (q++[x])),hc (rZ.imm (q++[x]))] k5 [] [(0,2)] [(0,.row)]
  |false=>rw[hp] at hcs;rw[List.filter_cons_of_neg (by simp[hp]),List.filter_nil,MT] at k5;exact jw [hr 11 (Dk hx),AA 12 (rZ.ixZ hz),AA 13 (rZ.p1Z tZ hz),Go.Proofs.YtghphhhpagagbaaGreatDoor.hz 16 [] hcs,hbb 21 (Xl (q:=k) aa)] [hc hv.im,hc (el q),hc (rZ.imm q)] k5 [] [(0,0)] [(0,.row)]
 .split at hs
  .rename_i he;subst he;rw[EQ];exact EI [hr 11 (D4 (s:=l))] (rZ.imm (l.filter p))
  .cases hs
end
def UT(p:Nat->Bool)(N:JD):Bc:=(N.zipIdx.filter λq=>p q.2).map (·.1.id)
theorem AeW{p:Nat->Bool}{x:CO}(h:N[k]?=some x):UT p (N.take (k+1))=UT p (N.take k)++bif p k then[x.id] else[]:=by grind [UT,Jn]
theorem AcX{p:Nat->Bool}:(UT p N).length<=N.length:=by grind [UT,List.length_zipIdx]
section
variable {gl:CD}
theorem AgP(a b:Ab):ba prog gl 123 [.agg (aj a),.agg (aj b)] (iG (GK a b)):=by
 have h1:=TB (gl:=gl) a b;have h2:=TB (gl:=gl) b a;unfold GK;refine Gh func123 ?_;cases c1:dt a b with
 |true=>rw[c1] at h1;exact Ar [hf 8 h1] []
 |false=>
  rw[c1] at h1;cases c2:dt b a with
  |true=>rw[c2] at h2;exact Ar [hf 8 h1,hf 12 h2] []
  |false=>rw[c2] at h2;exact Ar [hf 8 h1,hf 12 h2] []
theorem Ai6:CmV gl 123 [] [] GK:=⟨aH,bf,bf,(by grind [AgP])⟩
abbrev NmV(gl:CD)(fi:FuncId)(fa fc:Bn)(p:Nat->Bool):Prop:=T9 prog gl fi fa fc (λx:Nat=>[iG (x:Int)]) (λx:Bool=>bG x) (λk=>bif k<200 then some (p k)else none)
theorem Abf(hn:gg.nodes.length<=14){p:Nat->Bool}{fi:FuncId}{fa fc:Bn}(hv:NmV gl fi fa fc p)(h:OS GK (UT p gg.nodes)=some r)(hle:r.length=(UT p gg.nodes).length):iV prog gl 61 [.ptr (Ag gg) 0,.clo (.func fi) fa fc] 25 r.length (r.flatMap aj):=by
 rw[hle];refine OW func61 ?_;refine pN (λk:Nat=>(s0 30 gl [(1,.clo (.func fi) fa fc),(5,.rsl 0 0 (UT p (gg.nodes.take k)).length),(11,aE d7 gg.nodes),(12,iG (ah gg.nodes)),(13,iG (k:Int))] [(0,Bw (UT p (gg.nodes.take k)))] 1 0)) 1110122 (E0 (n:=gg.nodes.length) aa) [] [hc hv.im,hc (ac.imm [])] (λB k w hs k5 a=>?_) [25] [(0,0)] [(0,.row)];unfold KS at hs;split at hs
 .rename_i hlt;obtain rfl:=Bj hs;obtain⟨x,hx⟩:∃x,gg.nodes[k]?=some x:=by simp_all
  have hz:=Bg hx;have k5:=k5 _ rfl;have hl:(UT p (gg.nodes.take k)).length<=k:=by grind [AcX]
  rw[AeW hx] at k5;generalize UT p (gg.nodes.take k)=l at k5 hl⊢;have hcs:=hv.cs (c:=2) (x:=k) (by rw[C3 (by grind)];rfl) (aY (aG 20 (iG (k:Int)) aH) bf);cases hp:p k with
  |true=>rw[hp] at k5 hcs;exact jw [hr 14 (Dk hx),AA 16 (az.ixZ hz),AA 17 (az.ptZ Ux hz),Go.Proofs.YtghphhhpagagbaaGreatDoor.hz 20 [] hcs,Tn 25 ac 24 l x.id aa,hbb 26 (Xl (q:=k) aa)] [hc hv.im,hc (el (l++[x.id])),hc (ac.imm (l++[x.id]))] k5 [] [(0,3)] [(0,.row)]
  |false=>rw[hp] at k5 hcs;rw[A9,MT] at k5;exact jw [hr 14 (Dk hx),AA 16 (az.ixZ hz),AA 17 (az.ptZ Ux hz),Go.Proofs.YtghphhhpagagbaaGreatDoor.hz 20 [] hcs,hbb 26 (Xl (q:=k) aa)] [hc hv.im,hc (el l),hc (ac.imm l)] k5 [] [(0,0)] [(0,.row)]
 .split at hs
  .rename_i he;subst he;rw[EQ];exact EI [hr 14 (D4 (s:=gg.nodes)),hso (gl:=gl) 28 1 Ai6 (MI AcX hn) h] (ac.imm r)
  .cases hs
theorem AgQ(k:Nat):ba prog gl 62 [iG (k:Int)] (bG true):=by refine Gh func62 ?_;exact Ar [] []
theorem AgR{gg:Aj}(hn:gg.nodes.length<=14)(h:OS GK (UT (λ_=>true) gg.nodes)=some r)(hle:r.length=(UT (λ_=>true) gg.nodes).length):ba prog gl 24 [.ptr (Ag gg) 0] (aE aj r):=by have hN:=(Abf (gl:=gl) hn (fi:=62) (fa:=[]) (fc:=[]) ⟨aH,bf,bf,(by grind [AgQ])⟩ h hle).fn ac.sz (ac.len _) (ac.imm _);refine Gh func24 ?_;exact Ar [hf 4 hN] []
def R4(gg:Aj)(l:Bc):Ow:=l.foldl (λs x=>match M3 gg x with|some y=>Q4 s y.past|none=>s) z4
theorem AeX(hg:Uk gg)(hn:ids.length<=1000000):ba prog gl 83 [.ptr (Ag gg) 0,aE aj ids] (.agg (FSq (R4 gg ids))):=by
 refine Gh func83 ?_;refine pN (λk:Nat=>(s0 37 gl [(0,.ptr (Ag gg) 0),(4,.ref 0 0),(5,.ref 1 0),(10,aE aj ids),(11,iG (ah ids)),(12,iG (k:Int))] [(0,oA z4),(1,oA (R4 gg (ids.take k)))] 2 0)) 1110122 (E0 (n:=ids.length) aa) [] [] (λB k w hs k5 a=>?_) [] [(0,0),(1,1)] [];unfold KS at hs;split at hs
 .rename_i hlt;obtain rfl:=Bj hs;obtain⟨x,hx⟩:∃x,ids[k]?=some x:=by simp_all
  have hz:=Bg hx;have k5:=k5 _ rfl;have e:R4 gg (ids.take (k+1))=match M3 gg x with|some y=>Q4 (R4 gg (ids.take k)) y.past|none=>R4 gg (ids.take k):=by unfold R4;rw[Jn,hx,Option.toList_some,OP];rfl
  rw[e] at k5;generalize R4 gg (ids.take k)=s at k5⊢;have hk:=H7 gg.at_ x;cases em:gg.at_.get x with
  |none=>rw[em] at hk;rw[WG em] at k5;exact jw [hr 13 (Dk hx),AA 14 (ac.ixZ hz),AA 15 (ac.ptZ aW hz),hm 22 hk,hbb 35 (Xl (q:=k) aa)] [] k5 [] [(0,0),(1,1)] []
  |some n=>rw[em] at hk;obtain⟨j,y,rfl,hy,e2,_⟩:=Ul hg em;rw[e2] at k5;exact jw [hr 13 (Dk hx),AA 14 (ac.ixZ hz),AA 15 (ac.ptZ aW hz),hm 22 hk,AA 31 (az.ixZ hy),AA 33 (az.fsZ aap aaq 30 B5 hy),tN 34 [1] 3 [(1,oA s)] [.ref 1 0,.agg (FSq y.past)] [(0,oA (Q4 s y.past))] (TX gl s y.past) ⟨⟨rfl,.inl rfl⟩,trivial⟩ ⟨⟨rfl,.inl rfl⟩,trivial⟩,hbb 35 (Xl (q:=k) aa)] [] k5 [] [(0,0),(1,1)] []
 .split at hs
  .rename_i he;subst he;rw[EQ];exact Ar [hr 13 (D4 (s:=ids))] []
  .cases hs
theorem AgS(s:Ow)(hn:n<256):ba prog gl 84 [.ptr (FSq s) 0,iG (n:Int)] (bG (gW s n)):=by
 have h:=Xa (s:=s) hn;generalize gW s n=r at h⊢;have hm:u9 (n:Int) 64=some ((n%64:Nat):Int):=by grind [u9]
 have hcn:wJ ((n%64:Nat):Int)=some (n%64):=by grind [wJ]
 have hq:∀q:Nat,n/64=q->Gg (n:Int) 64=some (q:Int):=by grind [Gg,Mx]
 have hd:wI (Int.tdiv (n:Int) 64)=((n/64:Nat):Int):=by grind [bM]
 have ht:Int.tmod (n:Int) 64=((n%64:Nat):Int):=by grind
 unfold iX at h;rw[hd,ht,hcn] at h;refine Gh func84 ?_;have h4:n/64=0\/n/64=1\/n/64=2\/n/64=3:=aa;rcases h4 with e|e|e|e
 .rw[e] at h;obtain rfl:=Bj h;exact Ar [hbb 7 (Tt (hq 0 e)),hbb 12 (KO hm),hV 13 (Am (P:=prog) (t:=23) s.a0 hcn),hV 14 (ju (P:=prog) (t:=23) (Jo s.a0 (n%64)) 1)] []
 .rw[e] at h;obtain rfl:=Bj h;exact Ar [hbb 7 (Tt (hq 1 e)),hbb 12 (KO hm),hV 13 (Am (P:=prog) (t:=23) s.a1 hcn),hV 14 (ju (P:=prog) (t:=23) (Jo s.a1 (n%64)) 1)] []
 .rw[e] at h;obtain rfl:=Bj h;exact Ar [hbb 7 (Tt (hq 2 e)),hbb 12 (KO hm),hV 13 (Am (P:=prog) (t:=23) s.a2 hcn),hV 14 (ju (P:=prog) (t:=23) (Jo s.a2 (n%64)) 1)] []
 .rw[e] at h;obtain rfl:=Bj h;exact Ar [hbb 7 (Tt (hq 3 e)),hbb 12 (KO hm),hV 13 (Am (P:=prog) (t:=23) s.a3 hcn),hV 14 (ju (P:=prog) (t:=23) (Jo s.a3 (n%64)) 1)] []
theorem AgT(s:Ow):NmV gl 84 [.ptr (FSq s) 0] [] (gW s):=⟨aH,aY (aG 20 _ aH) bf,bf,(by grind [AgS])⟩
theorem AgU(hg:Uk gg)(hn:gg.nodes.length<=14){ids r:Bc}(hi:ids.length<=1000000)(h:OS GK (UT (gW (R4 gg ids)) gg.nodes)=some r)(hle:r.length=(UT (gW (R4 gg ids)) gg.nodes).length):iV prog gl 31 [.ptr (Ag gg) 0,aE aj ids] 25 r.length (r.flatMap aj):=by refine OW func31 ?_;exact EI [hf 8 (AeX (gl:=gl) hg hi),ho 11 [.ptr (Ag gg) 0,.clo (.func 84) [.ptr (FSq (R4 gg ids)) 0] []] [] (Abf (gl:=gl) hn (AgT _) h hle) (kF r)] (ac.imm r)
theorem AeY{l:Bc}{x:Ab}{i c:Nat}(hn:l.length<=100000):oJ prog gl 133 [.rsl i 0 l.length,.agg (aj x)] [(i,Bw l)] c (bG (l.any λy=>decide (x=y))) [] c:=
 PA aH (Je gl (SP aa x)) (lR _) rfl λst h j y z h1 h2=>by
  match j with
  |0=>grind [Aav]
  |1=>cases h1;cases h2;exact jB (aG 20 (.agg (aj x)) aH)
  |j+2=>cases h1
def Lo(I:Gi)(p l:Bc):Bc:=l.foldl (λr x=>bif 0<I.lev x then bif r.any λy=>decide (x=y)then r else r++[x]else r) p
theorem Abg{I:Gi}:∀{l p:Bc},(Lo I p l).length<=p.length+l.length
 |[],p=>Dx _
 |x::l,p=>by have a:Lo I p (x::l)=Lo I (bif 0<I.lev x then bif p.any λy=>decide (x=y)then p else p++[x]else p) l:=rfl;rw[a];refine MI Abg ?_;grind
theorem AeZ(h:Q9 gl gg I){p:Bc}(hp:iV prog gl 31 [.ptr (Ag gg) 0,aE aj o.Past] 25 p.length (p.flatMap aj))(hn:p.length+o.Past.length<=100000):iV prog gl 66 [.ptr (Ag gg) 0,.agg (aJ o)] 25 (Lo I p o.Past).length ((Lo I p o.Past).flatMap aj):=by
 refine OW func66 ?_;refine pN (λk:Nat=>(s0 35 gl [(0,.ptr (Ag gg) 0),(5,.rsl 0 0 (Lo I p (o.Past.take k)).length),(13,aE aj o.Past),(14,iG (ah o.Past)),(15,iG (k:Int))] [(0,Bw (Lo I p (o.Past.take k)))] 1 0)) 1110122 (E0 (n:=o.Past.length) aa) [ho 11 [.ptr (Ag gg) 0,aE aj o.Past] [] hp (kF p)] [hc (el p),hc (ac.imm p)] (λB k w hs k5 d=>?_) [] [(0,1)] [(0,.row)];unfold KS at hs;split at hs
 .rename_i hlt;obtain rfl:=Bj hs;obtain⟨x,hx⟩:∃x,o.Past[k]?=some x:=by simp_all
  have hz:=Bg hx;have k5:=k5 _ rfl;have hl:(Lo I p (o.Past.take k)).length<=100000:=by grind [Abg]
  have e:Lo I p (o.Past.take (k+1))=bif 0<I.lev x then bif(Lo I p (o.Past.take k)).any λy=>decide (x=y)then Lo I p (o.Past.take k)else Lo I p (o.Past.take k)++[x]else Lo I p (o.Past.take k):=by grind [Lo,Jn,Option.toList_some]
  rw[e] at k5;generalize Lo I p (o.Past.take k)=l at k5 hl⊢;have b:=h.lev x;cases c1:decide (0<I.lev x) with
  |false=>rw[c1] at k5;exact jw [hr 16 (Dk hx),AA 17 (ac.ixZ hz),AA 18 (ac.ptZ aW hz),hf 21 b,hr 22 c1,hbb 33 (Xl (q:=k) aa)] [hc (el l),hc (ac.imm l)] k5 [] [(0,0)] [(0,.row)]
  |true=>
   rw[c1] at k5;have a:=AeY (gl:=gl) (l:=l) (x:=x) (i:=0) (c:=2) hl;cases c2:(l.any λy=>decide (x=y)) with
   |true=>rw[c2] at k5 a;exact jw [hr 16 (Dk hx),AA 17 (ac.ixZ hz),AA 18 (ac.ptZ aW hz),hf 21 b,hr 22 c1,Go.Proofs.YtghphhhpagagbaaGreatDoor.hz 26 [0] a,hbb 33 (Xl (q:=k) aa)] [hc (el l),hc (ac.imm l)] k5 [] [(0,0)] [(0,.row)]
   |false=>rw[c2] at k5 a;exact jw [hr 16 (Dk hx),AA 17 (ac.ixZ hz),AA 18 (ac.ptZ aW hz),hf 21 b,hr 22 c1,Go.Proofs.YtghphhhpagagbaaGreatDoor.hz 26 [0] a,Tn 32 ac 24 l x aa,hbb 33 (Xl (q:=k) aa)] [hc (el (l++[x])),hc (ac.imm (l++[x]))] k5 [] [(0,3)] [(0,.row)]
 .split at hs
  .rename_i he;subst he;rw[EQ];exact EI [hr 16 (D4 (s:=o.Past))] (ac.imm (Lo I p o.Past))
  .cases hs
end
abbrev haS(R:Ad)(sen:Be):Be:=sen.filter (PP R)
abbrev AcY(l:Be)(d:Int):Bool:= !(l.any λy=>decide (d=y))
def Ae0(fk:Bool)(R:Ad)(o:Bp)(i:Ab)(sen:Be):Be:=bif fk then[]else bif Uh R o≠0 then[]else haS (U2 R o i) sen++(JK (U2 R o i)).filter (AcY (haS (U2 R o i) sen))
theorem AgV(gl:CD)(R:Ad):InV gl 75 [.ptr (CB R) 0] [] (PP R):=⟨aH,aY (aG 20 (.ptr (CB R) 0) aH) bf,bf,λk r e=>by cases e;exact UH gl rfl⟩
theorem AgW(gl:CD){l:Be}(hl:l.length<=1000000):InV gl 76 [] [.ptr [aE cZ l] 0] (AcY l):=⟨aH,bf,aY (aG 20 (.ptr [aE cZ l] 0) aH) bf,λk r e=>by cases e;exact UI gl (by grind [SM,SP])⟩
theorem Ab6{gl:CD}(hR:Bk R){l:Be}(hl:l.length<=1000000){f:Nat->Nat}{c:Nat}(hnd:(XJ f).Nodup):oJ prog gl 73 [aE cZ l,.clo (.func 75) [.ref (f 0) 0] []] (BW f R) c (.rsl c 0 (haS R l).length) [(c,some ⟨3,(haS R l).flatMap cZ,none⟩)] (c+1):=
 Adl aH (AcW (AgV gl R) hl) (lZ _) rfl λst h i x y h1 h2=>by
  have hs:Rls f R st.σ:=λk ob ho=>h _ _ (by rw[Hm,LE (by grind [Acf]) (List.mem_range.2 (DY ho))];exact ho)
  match i with
  |0=>cases h1;cases h2;exact jB (aG 20 (aE cZ l) aH)
  |1=>cases h1;cases h2;refine SX rfl rfl (λj g d a b=>?_) (by grind);grind [Afa]
  |i+2=>cases h1
section
variable {gg:Aj} {I:Gi} (h:Q9 fI gg I) {o:Bp} {i:Ab} {s:Bc} (hS:iV prog fI 66 [.ptr (Ag gg) 0,.agg (aJ o)] 25 s.length (s.flatMap aj)) {fr:List Bh} (hF:ba prog fI 68 [.ptr (Ag gg) 0,aE aj s] (aE Bt fr)) {fk:Bool} (hK:Aa1 fr (λf=>JF f o)=some fk) {R:Ad} (hR:Bk R) (hRl:UE prog fI 30 [.ptr (Ag gg) 0,aE aj s] [] 0 0 (.ref 0 0) (BW f0 R)) (hi:ba prog fI 70 [.agg (aJ o)] (.agg (aj i))) (hg:o.Guards.length<=1000000) (hp:Uh R o=0->Wz o i) {sen:Be} (hN:ba prog fI 74 [.ptr (Ag gg) 0,aE aj s] (aE cZ sen)) (hn:sen.length<=1000)
include hS hF hK hR hRl hi hg hp hN hn
theorem Ae1:iV prog fI 27 [.ptr (Ag gg) 0,.agg (aJ o)] 3 (Ae0 fk R o i sen).length ((Ae0 fk R o i sen).flatMap cZ):=by
 have a:=hS.fn ac.sz (ac.len _) (ac.imm _);have b:=LR fI (fi_f:=69) (fa_f:=[]) (fc_f:=[.ptr (aJ o) 0]) ⟨aH,bf,aY (aG 20 (.ptr (aJ o) 0) aH) bf,λf r e=>UG fI e⟩ hK;refine OW func27 ?_;unfold Ae0;cases fk with
 |true=>exact EI [hf 11 a,hf 14 hF,hq 16 [aE Bt fr,.clo (.func 69) [] [.ptr (aJ o) 0]] [] b] (rZ.imm [])
 |false=>
 rw[A9];have hM:=AfO hR (o:=o) (i:=i) hg;generalize Uh R o=mm at hM hp⊢;cases cm:decide (mm≠0) with
 |true=>exact EI [hf 11 a,hf 14 hF,hq 16 [aE Bt fr,.clo (.func 69) [] [.ptr (aJ o) 0]] [] b,hrn 19 2 [.ptr (Ag gg) 0,aE aj s] hR hRl,hf 21 hi,hrr 25 (Qs 2) 16 [.agg (aJ o),.agg (aj i)] hR hM,hr 26 cm] (rZ.imm [])
 |false=>
  rw[A9];have hp:=hp (Decidable.of_not_not (LU cm));have hD:=AfG fI hR hp;have hQ:=RW hR hp;generalize U2 R o i=Q at hD hQ⊢;have hdl:(JK Q).length<=1000:=by grind [List.Perm.length_eq,Oo,Hi,Bk.len]
  have hv:=Wy fI hQ;have hl:(haS Q sen).length<=1000:=by grind
  have d:=AcW (AgW fI (l:=haS Q sen) aa) (l:=JK Q) aa;have hap:aT 8 (haS Q sen) ((JK Q).filter (AcY (haS Q sen)))=some (haS Q sen++(JK Q).filter (AcY (haS Q sen))):=Bx (by grind);have g:=Ab6 (gl:=fI) hQ (l:=sen) aa (f:=f0) (c:=14) B5;refine pO 1111110 (s0 43 fI [(0,.ptr (Ag gg) 0),(3,.ptr (aJ o) 0),(5,aE aj s),(6,.ref 0 0),(7,.ref 14 0)] (BW f0 R++[(14,XK i)]) 15 0) [hf 11 a,hf 14 hF,hq 16 [aE Bt fr,.clo (.func 69) [] [.ptr (aJ o) 0]] [] b,hrn 19 2 [.ptr (Ag gg) 0,aE aj s] hR hRl,hf 21 hi,hrr 25 (Qs 2) 16 [.agg (aJ o),.agg (aj i)] hR hM,hr 26 cm] (hc (eB (gs:=aJ o) aH)::rlB (Gq (Qs 2)++[(14,1)]) (Qs 2) hR) ?_ (ρ:=Gq (Qs 2)++[(14,1)]) (kd:=Nz);refine pO 11111110 (s0 43 fI [(0,.ptr (Ag gg) 0),(5,aE aj s),(6,.ref 0 0)] (BW f0 Q) 14 0) [hrw 30 f0 15 [.agg (aJ o),.agg (aj i)] hR hQ hD] (rlB (Gq (fW f0 15)) (fW f0 15) hQ) ?_ (ρ:=Gq (fW f0 15)) (kd:=Nz);refine pO 111111110 (s0 43 fI [(6,.ref 0 0),(8,.ref 14 0)] (BW f0 Q++[ob 14 22 [.rsl 15 0 (haS Q sen).length],(15,KE (haS Q sen))]) 16 0) [hf 33 hN,hz 36 (XJ f0) g] (rlB (Gq f0++[(14,15),(15,14)]) f0 hQ++[hc (el (haS Q sen)),hc (rZ.imm (haS Q sen))]) ?_ (ρ:=Gq f0++[(14,15),(15,14)]) (kd:=Nz++[(15,.row)]);exact EI [hrr 39 f0 17 [] hQ hv,ho 41 [aE cZ (JK Q),.clo (.func 76) [] [.ptr [aE cZ (haS Q sen)] 0]] [hc (rZ.al (haS Q sen))] d (lZ _),dg 42 rZ hap] (rZ.imm _)
end
section
section
variable {P:Br}
section
variable {ops:Array Oper} {K:St->Prop} {ty:Bo} {pos:String} {af:Array Edge} {rest:Hz} {n:Nat} {gl:CD} {fr:Fr} {σ:aQ} {c p d j:Nat} {bars:Bq} {rr:Bool}
theorem AkW{op:Op}{gq:Option (Nat×Bool)}(hw:ce ⟨n,gl,fr,σ,c,p,rr⟩ ops ⟨some d,op,ty,pos,af,gq⟩=some false)(hd:d<n)(h:D8 P ops K rest ⟨n,gl,(d,.lit undef)::fr,σ,c,p,rr⟩):D8 P ops K (⟨some d,op,ty,pos,af,gq⟩::rest) ⟨n,gl,fr,σ,c,p,rr⟩:=by unfold D8;exact .inr ⟨hw,(by grind),h⟩
end
end
section
variable {P:Br} {ops:Array Oper} {K:St->Prop} {op:Op} {ty:Bo} {pos:String} {af:Array Edge} {rest:Hz} {n:Nat} {gl:CD} {fr:Fr} {σ:aQ} {c p d j:Nat} {bars:Bq} {rr:Bool} {gq:Option (Nat×Bool)}
theorem zn(h:D8 P ops K rest ⟨n,gl,(d,.lit undef)::fr,σ,c,p,rr⟩)(hw:ce ⟨n,gl,fr,σ,c,p,rr⟩ ops ⟨some d,op,ty,pos,af,gq⟩=some false:=by kernel_rfl)(hd:d<n:=by decide):D8 P ops K (⟨some d,op,ty,pos,af,gq⟩::rest) ⟨n,gl,fr,σ,c,p,rr⟩:=AkW hw hd h
end
end
theorem Am3:bw prog 64=some 27:=aH
theorem Ai7(l:LT):∀g∈l.flatMap bv,∃v,g= .lit v:=by grind [bv]
section
def IK(g:Aj)(a:Ab):Option (Bp×Bool):=
 bif(!((g.at_.get a).isSome))then(some (⟨0,0,0,0,[],0,0,0,0,[],⟨0,0,0⟩,0,[],[],⟨0,0,0⟩,[],0,0,[],0,[],⟨0,0⟩⟩,false))else((aS g.nodes (FR (g.at_.get a))).bind λb=>(pG b.o).bind λe=>some (e,true))
theorem Nr{g id_}:DF prog gl (IK g id_) 25 [.ptr (Ag g) 0,.agg (aj id_)] (λr=> .tup [.agg (aJ r.1),bG r.2]):=
 cy func25 λK=>aw [hm 14 (H7 g.at_ id_)]<|aF 18 (rv K)<|Cd 25 az.ixZ 27 (az.fsZ GN Am3 0 B5) λa=>Bz 28 (Ds gl) λb=>rv K
def JX(g:Aj):Option LT:=
 (Fk g.cards).bind λa=>some a
theorem Q5{g}:LC prog gl (JX g) 81 [.ptr (Ag g) 0] 78 bv:=
 gc func81 λK=>ak λa e2=>aw [ho 7 [aE bv g.cards] [] (tn gl e2) (Ai7 a)]<|mr c0 K (bT.imm _)
end
theorem sP(a:Ab):dt a a=false:=by grind [ye]
theorem AdG{a b:Ab}(h1:dt a b=false)(h2:dt b a=false):a=b:=by
 have n1:¬dt a b=true:=by rw[h1];simp
 have n2:¬dt b a=true:=by rw[h2];simp
 rw[ye] at n1 n2;obtain⟨a1,a2,a3⟩:=a;obtain⟨b1,b2,b3⟩:=b;grind
theorem Ae2(hn:gg.cards.length<=1000)(d:Int):hY gg d=some (((gg.cards.find? λc=>decide (c.Device=d)).getD Te),(gg.cards.find? λc=>decide (c.Device=d)).isSome):=by
 unfold hY;refine T.eq (.bind (T.forA gg.cards.length (λk acc=>∀(j:Nat) (c:DL),j<k->gg.cards[j]?=some c->c.Device≠d) aa (by grind) (λk acc hk hj=>?_) λacc hj=>?_))
 .obtain⟨x,hx⟩:∃x,gg.cards[k]?=some x:=⟨_,DR hk⟩;unfold ij;dsimp only;rw[eA hk,ax,au,hx,aL];refine .dec (λe=> .some (.some ?_)) λe=> .some ⟨aq aa,λj c' a b=>?_⟩
  .grind [List.find?_eq_some_iff_getElem]
  grind
 .unfold ij;dsimp only;rw[eF,A9];have hf:gg.cards.find? (λc=>decide (c.Device=d))=none:=by grind [G9]
  rw[hf];exact .some (.some rfl)
theorem AgX{i:Int}{x:CO}(hx:aS N i=some x)(hn:n<256){r:Bool}(h:iX x.past (n:Int)=some r):ba prog fI 84 [.ptr (N.flatMap d7) (i.toNat*35+30),iG (n:Int)] (bG r):=by
 have hm:u9 (n:Int) 64=some ((n%64:Nat):Int):=by grind [u9]
 have hcn:wJ ((n%64:Nat):Int)=some (n%64):=by grind [wJ]
 have hq:∀q:Nat,n/64=q->Gg (n:Int) 64=some (q:Int):=by grind [Gg,Mx]
 have hd:wI (Int.tdiv (n:Int) 64)=((n/64:Nat):Int):=by grind [bM]
 have ht:Int.tmod (n:Int) 64=((n%64:Nat):Int):=by rw[Int.tmod_eq_emod_of_nonneg aa];rfl
 unfold iX at h;rw[hd,ht,hcn] at h;refine Gh func84 ?_;have h4:n/64=0\/n/64=1\/n/64=2\/n/64=3:=aa;rcases h4 with e|e|e|e
 .rw[e] at h;obtain rfl:=Bj h;exact Ar [hbb 7 (Tt (hq 0 e)),AA 10 (az.fdZ tW 30 hx),hbb 12 (KO hm),hV 13 (Am (P:=prog) (t:=23) x.past.a0 hcn),hV 14 (ju (P:=prog) (t:=23) (Jo x.past.a0 (n%64)) 1)] []
 .rw[e] at h;obtain rfl:=Bj h;exact Ar [hbb 7 (Tt (hq 1 e)),AA 10 (az.fdZ tW 31 hx),hbb 12 (KO hm),hV 13 (Am (P:=prog) (t:=23) x.past.a1 hcn),hV 14 (ju (P:=prog) (t:=23) (Jo x.past.a1 (n%64)) 1)] []
 .rw[e] at h;obtain rfl:=Bj h;exact Ar [hbb 7 (Tt (hq 2 e)),AA 10 (az.fdZ tW 32 hx),hbb 12 (KO hm),hV 13 (Am (P:=prog) (t:=23) x.past.a2 hcn),hV 14 (ju (P:=prog) (t:=23) (Jo x.past.a2 (n%64)) 1)] []
 .rw[e] at h;obtain rfl:=Bj h;exact Ar [hbb 7 (Tt (hq 3 e)),AA 10 (az.fdZ tW 33 hx),hbb 12 (KO hm),hV 13 (Am (P:=prog) (t:=23) x.past.a3 hcn),hV 14 (ju (P:=prog) (t:=23) (Jo x.past.a3 (n%64)) 1)] []
theorem AcZ(h:Uk gg):Q9 fI gg (Re gg) where
 op x:=by
  cases e:gg.at_.get x with
  |none=>
   have hr:IK gg x=some ((Re gg).o x,((Re gg).op x).isSome):=by grind [IK,Gi.o,Re,WG]
   exact Nr fI hr
  |some n=>
   obtain⟨k,y,rfl,hz,hn,hk,hm⟩:=Ul h e;have hr:IK gg x=some ((Re gg).o x,((Re gg).op x).isSome):=by grind [IK,Gi.o,Re,FR,Option.isSome_some,Uk.cl]
   exact Nr fI hr
 bef x y:=by
  refine Gh func36 ?_;refine pO [1,0] (s0 44 fI [(0,.ptr (Ag gg) 0),(4,.ref 0 0),(5,.ref 1 0)] [(0,XK x),(1,XK y)] 2 0) [] [] ?_ [] [(0,0),(1,1)];show Gp _ _ (tH _ _ (bG (AfW gg x y))) _ _ _ _;unfold AfW;have h1:=H7 gg.at_ x;have h2:=H7 gg.at_ y;unfold FR at h1 h2;cases e1:gg.at_.get x with
  |none=>rw[e1] at h1;exact Ar [hm 17 h1,hm 26 h2] []
  |some n=>
   rw[e1] at h1;cases e2:gg.at_.get y with
   |none=>rw[e2] at h2;rw[WG e2];exact Ar [hm 17 h1,hm 26 h2] []
   |some q=>rw[e2] at h2;obtain⟨k,b,rfl,hz,hn,hk,hmm⟩:=Ul h e2;obtain⟨j,a,rfl,_,_,hj,_⟩:=Ul h e1;rw[hn];exact Ar [hm 17 h1,hm 26 h2,AA 39 (az.ixZ hz),hf 42 (AgX hz hj (Xa hj))] []
 lev x:=by
  refine HA fI ?_;unfold Fi FR;cases e:gg.at_.get x with
  |none=>show _=some (match M3 gg x with|some y=>y.level|none=>0);rw[WG e];rfl
  |some n=>obtain⟨k,y,rfl,hz,hn,hk,hm⟩:=Ul h e;show _=some (match M3 gg x with|some y=>y.level|none=>0);grind
 cards:=by
  have hr:JX gg=some gg.cards:=by grind [JX,Fk,aT,Uk.nc]
  exact(Q5 fI hr).fn aH (bT.len _) (bT.imm _)
 card d:=uN fI (Ae2 h.nc d)
section
section
variable {g:A7} {m:JJ} {N:JD}
theorem Abi(w:Fq g)(p:Oa g m N):Uk ⟨g.Cards,m,N⟩ where
 pos x n e:=by have e:m.get x=some n:=e;rw[p.get] at e;cases hk:bu x g.IDs<;>grind [AbB]
 cl y hy:=by grind [Oa,G9,RM,Fq.ops]
 nc:=w.nC
end
end
section
theorem AdH(a:Ab):¬GK a a<0:=by grind [QL,sP]
theorem SN{a b:Ab}:M4 I a b<0↔I.lev a<I.lev b\/(I.lev a=I.lev b/\dt a b=true):=by grind [M4,QL,AbC]
theorem Px(a:Ab):¬M4 I a a<0:=by grind [SN,sP]
theorem Uy(I:Gi):OrN (M4 I) λ_=>True:=by grind [OrN,SN,dt,EX]
section
variable {gl:CD}
end
end
theorem Ab7(hl:ids.length<=1000000)(d s:Int):z9 ids d s=some (OO ids ⟨d,s⟩:Int):=by
 refine T.eq ?_;unfold z9;refine .bind ((T.forA ids.length (λk n=>n=(OO (ids.take k) ⟨d,s⟩:Int)) aa rfl (λk n hk hn=>?_) λn hn=>?_).mono (Q:=λn:Int=>n=(OO ids ⟨d,s⟩:Int)) λn hn=> .some hn)
 .obtain⟨y,hy,_⟩:=dk hk;unfold uf;simp only[eA hk,ax,au,hy,aL];have h1:=TD (ids.take k) y ⟨d,s⟩;have h2:=Agh (ids.take k) ⟨d,s⟩;rw[N3] at h2;rw[<-Rb hy] at h1;simp only[Bh.mk.injEq] at h1;have yes:y.By=d->y.Seq=s->wI (n+1)=(OO (ids.take (k+1)) ⟨d,s⟩:Int):=by grind [bM]
  have no:¬(y.By=d/\y.Seq=s)->n=(OO (ids.take (k+1)) ⟨d,s⟩:Int):=by grind
  by_cases c1:y.By=d
  .by_cases c2:y.Seq=s
   .simp only[c1,c2,decide_true,ax,aL];exact .some ⟨aq aa,yes c1 c2⟩
   .simp only[c1,c2,decide_true,decide_false,ax,A9,aL];exact .some ⟨aq aa,no λc=>c2 c.2⟩
  .simp only[c1,decide_false,A9,aL];exact .some ⟨aq aa,no λc=>c1 c.1⟩
 .unfold uf;dsimp only;rw[eF,A9];refine .some (show n=_ from ?_);rw[hn,EQ]
def FsI(ids p:Bc)(d v:Int):Prop:=(v=0/\∀y∈p,y.By=d->¬2<=OO ids ⟨d,y.Seq⟩)\/(∃y∈p,y.By=d/\y.Seq=v/\2<=OO ids ⟨d,v⟩/\∀z∈p,z.By=d->2<=OO ids ⟨d,z.Seq⟩->v<=z.Seq)
theorem Uz{ids:Bc}(hl:ids.length<=1000000)(hs:∀x∈ids,1<=x.Seq)(d:Int):T (qN ids d) (FsI ids ids d):=by
 unfold qN;refine .bind ((T.forA ids.length (λk v=>FsI ids (ids.take k) d v) aa (.inl ⟨rfl,λy hy=>by cases hy⟩) (λk v hk hv=>?_) λv hv=>?_).mono (Q:=FsI ids ids d) λv hv=> .some hv)
 .obtain⟨y,hy,hm⟩:=dk hk;unfold qM;simp only[eA hk,ax,au,hy,aL,Ab7 hl];have a:=hs y hm;have keep:(y.By=d->2<=OO ids ⟨d,y.Seq⟩->v≠0/\v<=y.Seq)->FsI ids (ids.take (k+1)) d v:=λh=>by
   rw[Rb hy];rcases hv with⟨h1,h2⟩|⟨z,h1,h2,h3,h4,h5⟩
   .refine .inl ⟨h1,λz hz hb hc=>?_⟩;rcases I5.1 hz with hz|hz
    .exact h2 z hz hb hc
    .simp at hz;subst hz;exact(h hb hc).1 h1
   .refine .inr ⟨z,by simp[h1],h2,h3,h4,λw hw hb hc=>?_⟩;rcases I5.1 hw with hw|hw
    .exact h5 w hw hb hc
    .simp at hw;subst hw;exact(h hb hc).2
  have new:y.By=d->2<=OO ids ⟨d,y.Seq⟩->(v=0\/y.Seq<v)->FsI ids (ids.take (k+1)) d y.Seq:=λhb hc h=>by
   rw[Rb hy];refine .inr ⟨y,aC,hb,rfl,hc,λw hw hb' b=>?_⟩;rcases I5.1 hw with hw|hw
   .rcases hv with⟨h1,h2⟩|⟨z,h1,h2,h3,h4,h5⟩
    all_goals grind
   grind
  by_cases c1:y.By=d
  .by_cases c2:2<=OO ids ⟨d,y.Seq⟩
   .have c2':(1:Int)<(OO ids ⟨d,y.Seq⟩:Int):=aa;by_cases c3:v=0
    .simp only[c1,c2',c3,decide_true,ax,aL];exact .some ⟨aq aa,new c1 c2 (.inl c3)⟩
    .by_cases c4:y.Seq<v
     .simp only[c1,c2',c3,c4,decide_true,decide_false,ax,A9,aL];exact .some ⟨aq aa,new c1 c2 (.inr c4)⟩
     .simp only[c1,c2',c3,c4,decide_true,decide_false,ax,A9,aL];exact .some ⟨aq aa,keep λ_ _=>⟨c3,aa⟩⟩
   .have c2':¬(1:Int)<(OO ids ⟨d,y.Seq⟩:Int):=aa;simp only[c1,c2',decide_true,decide_false,ax,A9,aL];exact .some ⟨aq aa,keep λ_ h=>absurd h c2⟩
  .simp only[c1,decide_false,A9,aL];exact .some ⟨aq aa,keep λh=>absurd h c1⟩
 .unfold qM;dsimp only;rw[eF,A9];rw[EQ] at hv;exact .some hv
theorem AdI(hs:∀x∈ids,1<=x.Seq){v:Int}(h:FsI ids ids y.By v):voP ids y=(decide (0<v)&&decide (v<=y.Seq)):=by
 rw[Bool.eq_iff_iff];unfold voP;rw[List.any_eq_true];simp only[bA,decide_eq_true_eq];refine⟨λ⟨z,hz,h1,h2,h3⟩=>?_,λ⟨h1,h2⟩=>?_⟩
 .rcases h with⟨_,h5⟩|⟨w,k1,k2,k3,a,k5⟩
  all_goals grind
 .rcases h with⟨h5,_⟩|⟨w,k1,k2,k3,a,k5⟩
  all_goals grind
theorem Ab8{ids:Bc}(hl:ids.length<=100000)(hd:ids.Nodup)(hs:∀x∈ids,1<=x.Seq):T (vJ ids) λr=>r.Perm (ids.filter (voP ids))/\r.Pairwise λx y=>GK x y<0:=by
 unfold vJ;refine .bind ((T.forA ids.length (λk acc=>acc=(ids.take k).filter (voP ids)) aa aC (λk acc hk hj=>?_) λacc hj=>?_).mono (Q:=λacc=>acc=ids.filter (voP ids)) λx hx=> .bind ((kg ?_).mono λv hv=> .some ?_))
 .obtain⟨y,hy,hm⟩:=dk hk;unfold un;simp only[eA hk,ax,au,hy,aL];have hla:acc.length<=k:=by grind
  have e:(ids.take (k+1)).filter (voP ids)=acc++(if voP ids y then[y] else[]):=by rw[Rb hy,Q1,<-hj];cases hp:voP ids y<;>simp[hp]
  refine .bind ((Uz aa hs y.By).mono λv hv=>?_);have hq:=AdI hs hv;by_cases c1:0<v
  .by_cases c2:v<=y.Seq
   .simp only[c1,c2,decide_true,ax,aL];rw[hq,C3 c1,C3 c2] at e;exact .bind (.app cq (.some ⟨aq aa,by rw[e];rfl⟩))
   .simp only[c1,c2,decide_true,decide_false,ax,A9,aL];rw[hq,C3 c1,C6 c2] at e;exact .some ⟨aq aa,by rw[e];simp⟩
  .simp only[c1,decide_false,A9,aL];rw[hq,C6 c1] at e;exact .some ⟨aq aa,by rw[e];simp⟩
 .unfold un;dsimp only;rw[eF,A9];refine .some (show acc=_ from ?_);rw[hj,EQ]
 .grind
 .refine⟨hx▸hv.1,?_⟩;have hn:v.Nodup:=by grind
  refine(hv.2.and hn).imp λ{a b} h=>QL.2 ?_;cases h1:dt a b with
  |true=>rfl
  |false=>exact absurd (AdG h1 h.1) h.2
section
section
variable {g:A7} {m:JJ} {N:JD}
theorem VB(w:Fq g)(p:Oa g m N){i:Nat}(h:g.IDs[i]?=some x):∃y,N[i]?=some y/\(BX g m N).lev x=y.level/\0<=y.level/\y.level<=(i:Int)+1:=by obtain⟨y,h1,h2,h3⟩:=AbB w p (NR w h);refine⟨y,h1,?_,(p.nd i y h1).2.2.2⟩;show(match M3 ⟨g.Cards,m,N⟩ x with|some y=>y.level|none=>0)=_;rw[Um w p,NR w h];grind
theorem AdJ(w:Fq g)(p:Oa g m N):nZ g=some (N.map (·.level)):=by
 have nL:=w.nL;have nU:=w.nU;have pl:=p.len;refine T.eq ?_;unfold nZ;refine .bind (T.mono (Q:=λr=>r=N.map (·.level)) (T.forA g.L.length (λk acc=>acc=(N.take k).map (·.level)) aa aC (λk acc hk hj=>?_) λacc hj=>?_) λx hx=> .some hx)
 .obtain⟨u,hu,_⟩:=dk (l:=g.Up) (k:=k) aa;obtain⟨y,hy,_⟩:=dk (l:=N) (k:=k) aa;obtain⟨u1,e⟩:=w.up k u hu;have b:=p.lv k y u hy hu;unfold pd;dsimp only;rw[eA hk,ax];have hla:acc.length=k:=by grind
  have hin:AB (iP g (acc,(k:Int))) (1,0)=some y.level:=by
   refine T.eq ?_;refine T.loop (λs=>∃j:Nat,j<=u.length/\s.2=(j:Int)/\s.1=lvF N (u.take j)) (λs=>u.length-s.2.toNat) ⟨0,aa,rfl,rfl⟩ cq ?_;rintro⟨a,i⟩ ⟨j,f,rfl,rfl⟩;unfold iP;simp only[au,hu,aL];rcases Hx j u.length with hlt|hge
   .obtain⟨z,hz,hm⟩:=dk hlt;obtain⟨h,o⟩:=e z hm;obtain⟨n,rfl⟩:∃n:Nat,z=(n:Int):=⟨z.toNat,aa⟩;obtain⟨v,hv,_⟩:=dk (l:=N) (k:=n) aa;have hb:=(p.nd n v hv).2.2.2;have ha:acc[n]?=some v.level:=by grind
    rw[eA hlt,ax,hz,aL,au,ha,aL,bM aa aa];refine .some ⟨⟨j+1,aa,aq aa,?_⟩,?_⟩
    .rw[Rb hz,Abe];grind [lvN]
    grind [aq]
   .obtain rfl:j=u.length:=aa;rw[eF,A9,EQ];exact .some b.symm
  rw[hin,aL];refine .bind (.app cq (.some ⟨aq aa,?_⟩));rw[Rb hy,List.map_append,hj];rfl
 .unfold pd;dsimp only;rw[eF,A9];refine .some (show acc=_ from ?_);rw[hj,<-pl,EQ]
theorem Sa(w:Fq g)(p:Oa g m N){i:Nat}(hx:g.IDs[i]?=some x)(hy:g.IDs[k]?=some y):vI g (N.map (·.level)) (i:Int) (k:Int)=some (decide (M4 (BX g m N) x y<0)):=by
 obtain⟨a,h1,h2,_⟩:=VB w p hx;obtain⟨b,h3,h4,_⟩:=VB w p hy;have e1:(N.map (·.level))[i]?=some a.level:=by rw[MY,h1];rfl
 have e2:(N.map (·.level))[k]?=some b.level:=by rw[MY,h3];rfl
 grind [vI,au,pJ,SN]
theorem Ai9{cmp:α->α->Int}(hO:OrN cmp λ_=>True){l:List α}{x:α}(hp:l.Pairwise λa b=>cmp a b<0)(h1:∀i y,i<j->l[i]?=some y->cmp y x<0)(h2:∀y,l[j]?=some y->¬cmp y x<0)(hx:x∉l):(l.take j++[x]++l.drop j).Pairwise λa b=>cmp a b<0:=by
 have hpj:(l.take j++l.drop j).Pairwise λa b=>cmp a b<0:=by rw[O6];exact hp
 rw[List.pairwise_append] at hpj;have hlt:∀a∈l.take j,cmp a x<0:=by grind [G9]
 have hgt:∀b∈l.drop j,cmp x b<0:=by grind [OrN,List.drop_eq_nil_of_le,List.drop_eq_getElem_cons,List.pairwise_cons]
 grind
theorem UA(w:Fq g)(p:Oa g m N)(hl:ids.length<=1000)(hd:ids.Nodup)(hm:∀x∈ids,x∈g.IDs):T (n8 g ids) λr=>r.Perm ids/\r.Pairwise λx y=>M4 (BX g m N) x y<0:=by
 have nL:=w.nL;have nI:=w.nI;unfold n8;rw[AdJ w p,aL];refine .bind (T.mono (Q:=λx:Be=>EF g x/\(I4 g x).Perm ids/\(I4 g x).Pairwise λx y=>M4 (BX g m N) x y<0) (T.forA ids.length (λk acc=>EF g acc/\(I4 g acc).Perm (ids.take k)/\(I4 g acc).Pairwise λx y=>M4 (BX g m N) x y<0) aa ⟨.nil,by simp[I4],.nil⟩ (λk acc hk hj=>?_) λacc hj=>?_) λf h4=>?_)
 .obtain⟨y,hy,l⟩:=dk hk;obtain⟨b,u,o⟩:=hj;obtain⟨i,hi⟩:=G9 (hm y l);have hil:i<g.IDs.length:=(cr hi).1;have hpz:gO g y=(i:Int):=by unfold gO;rw[NR w hi]
  have hal:acc.length<=k:=by grind [List.Perm.length_eq,Hi,N3]
  have hny:y∉I4 g acc:=by grind [G9,MH]
  unfold qU;simp only[eA hk,ax,au,hy,aL,qR,dC (show g.IDs.length<=1000000 by omega),hpz];rw[show decide ((i:Int)<0)=false from C6 aa,A9];refine .bind (T.mono (Q:=λn:Int=>∃j:Nat,n=(j:Int)/\j<=acc.length/\(∀q z,q<j->(I4 g acc)[q]?=some z->M4 (BX g m N) z y<0)/\∀z,(I4 g acc)[j]?=some z->¬M4 (BX g m N) z y<0) (T.forI acc.length (λj=>∀q z,q<j->(I4 g acc)[q]?=some z->M4 (BX g m N) z y<0) aa (λq z h=>aa) (λj hjl hq=>?_) λhq=>?_) λn hn=>?_)
  .obtain⟨z,hz,s⟩:=dk hjl;obtain⟨B,zn,rfl,t,a,hzz⟩:=O4 w b hz;unfold qT;simp only[eA hjl,ax,au,hz,aL,Sa w p a hi];refine .dec (λhc=> .some ⟨aq aa,λq C v hz'=>?_⟩) λhc=> .some ⟨j,rfl,aa,hq,λC hz'=>?_⟩;all_goals grind
  .unfold qT;dsimp only;rw[eF,A9,aL,A9];refine .some ⟨acc.length,rfl,Dx _,hq,λz hz=>?_⟩;grind
  .obtain⟨j,rfl,hjl,q1,A⟩:=hn;refine .bind (.pre aa aa (.bind (.app cq (.bind (.app cq (.bind (.suf aa aa (.bind (.app cq (.some ⟨aq aa,?_,?_⟩))))))))))
   .intro x hx;have:x∈acc++[(i:Int)]:=by grind
    exact b.snoc aa x this
   .have e:I4 g ([]++acc.take (j:Int).toNat++[(i:Int)]++acc.drop (j:Int).toNat)=(I4 g acc).take j++[y]++(I4 g acc).drop j:=by grind [Fv,List.map_take,List.map_drop]
    rw[e];refine⟨?_,Ai9 (Uy _) o q1 A hny⟩;grind [Rb,Cy]
 .unfold qU;dsimp only;rw[eF,A9];rw[EQ] at hj;exact .some hj
 .obtain⟨h1,h2,h3⟩:=h4;refine .bind (T.mono (Q:=λr:Bc=>r=I4 g f) (T.forA f.length (λk acc=>acc=(I4 g f).take k) (by grind [List.Perm.length_eq,Hi]) aC (λk acc hk hj=>?_) λacc hj=>?_) (by grind [T.some]))
  .obtain⟨z,hz,s⟩:=dk hk;obtain⟨B,zn,rfl,t,a,hzz⟩:=O4 w h1 hz;have hxl:f.length<=1000:=by grind [List.Perm.length_eq]
   have hal:acc.length<=k:=by rw[hj,N3];omega
   unfold qS;simp only[eA hk,ax,au,hz,a,aL];refine .bind (.app cq (.some ⟨aq aa,?_⟩));rw[Rb hzz,hj]
  .unfold qS;dsimp only;rw[eF,A9];refine .some (show acc=_ from ?_);grind [Hi]
end
end
section
theorem AgY:1<=lvF N u:=by
 have key:∀(l:Be) (a:Int),1<=a->1<=l.foldl (λa j=>EY a (lvN N j+1)) a:=by intro l;induction l<;>grind [EY]
 exact key u 1 (Int.le_refl _)
theorem Abj{a b:Bc}(h:a.Perm b)(f:Bh):OO a f=OO b f:=(h.filter _).length_eq
theorem Ae3{a b:Bc}(h:a.Perm b)(x:Ab):voP a x=voP b x:=by grind [voP,Abj]
section
variable {g:A7} {m:JJ} {N:JD} (P:Pg g m N)
include P
end
end
theorem Ac0{gg:Aj}{j:Nat}:∀(l:Bc) (s:Ow),gW (l.foldl (λs x=>match M3 gg x with|some y=>Q4 s y.past|none=>s) s) j=(gW s j||l.any λx=>match M3 gg x with|some y=>gW y.past j|none=>false)
 |[],s=>aC
 |x::l,s=>by rw[List.foldl_cons,Ac0 l,List.any_cons];grind [RP]
theorem AgZ{p:Nat->Bool}{N:JD}:x∈UT p N↔∃(k:Nat) (y:CO),N[k]?=some y/\p k=true/\y.id=x:=by unfold UT;simp only[Fm,HU,List.mem_zipIdx_iff_getElem?,Prod.exists];grind
theorem Ag0{p:Nat->Bool}{N:JD}:(UT p N).Sublist (N.map (·.id)):=by
 have h:(N.zipIdx.map (·.1.id))=N.map (·.id):=by rw[show(λq:CO×Nat=>q.1.id)=(λy:CO=>y.id)∘Prod.fst from rfl,<-HR,List.zipIdx_map_fst]
 rw[<-h];exact List.filter_sublist.map _
theorem Ac1{I:Gi}{x:Ab}:∀{l p:Bc},x∈Lo I p l↔x∈p\/x∈l/\0<I.lev x
 |[],p=>by simp[Lo]
 |y::l,p=>by have a:Lo I p (y::l)=Lo I (bif 0<I.lev y then bif p.any λz=>decide (y=z)then p else p++[y]else p) l:=rfl;rw[a,Ac1];grind
theorem Ae4{I:Gi}:∀{l p:Bc},p.Nodup->(Lo I p l).Nodup
 |[],p,h=>h
 |y::l,p,h=>by have a:Lo I p (y::l)=Lo I (bif 0<I.lev y then bif p.any λz=>decide (y=z)then p else p++[y]else p) l:=rfl;rw[a];refine Ae4 ?_;grind
section
variable {g:A7} {m:JJ} {N:JD} (P:Pg g m N)
include P
theorem Aja:N.map (·.id)=g.IDs:=by
 refine List.ext_getElem? λk=>?_;have pl:=P.p.len;have nI:=P.w.nI;rw[MY];cases hy:N[k]? with
 |none=>grind
 |some y=>rw[(P.p.nd k y hy).2.1];rfl
theorem Ac2{l:Bc}(hj:j<256):gW (R4 ⟨g.Cards,m,N⟩ l) j=true↔uX g l j:=by
 have z:gW z4 j=false:=by unfold gW z4;split<;>simp
 rw[show gW (R4 ⟨g.Cards,m,N⟩ l) j=_ from Ac0 l z4,z,Bool.false_or,List.any_eq_true];unfold uX;refine⟨λ⟨x,hx,h⟩=>⟨x,hx,?_⟩,λ⟨x,hx,n,h1,h2⟩=>⟨x,hx,?_⟩⟩
 .rw[Um P.w P.p] at h;cases hk:bu x g.IDs with
  |none=>rw[hk] at h;simp at h
  |some n=>
   rw[hk,aL] at h;cases hy:N[n]? with
   |none=>rw[hy] at h;simp at h
   |some y=>rw[hy] at h;exact⟨n,rfl,((P.p.nd n y hy).2.2.1 j hj).symm.trans h⟩
 .have hn:=(cr (gb h1).1).1;have pl:=P.p.len;have nI:=P.w.nI;obtain⟨y,hy⟩:∃y,N[n]?=some y:=⟨_,DR aa⟩;rw[Um P.w P.p,h1,aL,hy];exact((P.p.nd n y hy).2.2.1 j hj).trans h2
theorem Ag1:0<(BX g m N).lev x↔x∈g.IDs:=by
 have pl:=P.p.len;have nI:=P.w.nI;cases hk:bu x g.IDs with
 |none=>
  have:(BX g m N).lev x=0:=by show(match M3 ⟨g.Cards,m,N⟩ x with|some y=>y.level|none=>0)=_;rw[Um P.w P.p,hk];rfl
  grind [jv]
 |some k=>have hid:=(gb hk).1;obtain⟨y,a,c,_⟩:=VB P.w P.p hid;have hkl:=(cr hid).1;obtain⟨u,hu,_⟩:=dk (l:=g.Up) (k:=k) (by have:=P.w.nU;omega);have b:=P.p.lv k y u a hu;grind [AgY]
theorem AkX(h14:g.L.length<=14){l:Bc}(hl:l.length<=1000):∃v p,LX g l=some v/\GJ g v/\v.Nodup/\OS GK (UT (gW (R4 ⟨g.Cards,m,N⟩ l)) N)=some p/\p.length=(UT (gW (R4 ⟨g.Cards,m,N⟩ l)) N).length/\p.length<=14/\(Lo (BX g m N) p l).Perm v:=by
 have pl:=P.p.len;have nI:=P.w.nI;obtain⟨v,e,c,b,d,f⟩:=yf P.w (ids:=l) aa;have hs:=Ag0 (p:=gW (R4 ⟨g.Cards,m,N⟩ l)) (N:=N);rw[Aja P] at hs;have hle:=hs.length_le;obtain⟨p,e2,a,h⟩:=Sf PJ (P.w.nd.sublist hs) aa;have hpl:=a.length_eq;refine⟨v,p,e,c,b,e2,hpl,aa,(List.perm_ext_iff_of_nodup (Ae4 (a.nodup_iff.2 (P.w.nd.sublist hs))) b).2 λx=>?_⟩;rw[Ac1,d,a.mem_iff,AgZ,Ag1 P];refine or_congr_left ⟨λ⟨k,y,h1,h2,h3⟩=>?_,λ⟨k,h1,h2⟩=>?_⟩
 .have hk:=(cr h1).1;exact⟨k,h3▸(P.p.nd k y h1).2.1,(Ac2 P aa).1 h2⟩
 .have hk:=(cr h1).1;obtain⟨y,hy⟩:∃y,N[k]?=some y:=⟨_,DR aa⟩;have:=(P.p.nd k y hy).2.1;grind [Ac2]
end
theorem Ajb{gl:CD}{gg:Aj}{o:Bp}{s v:Bc}(hn:s.length<=14)(hp:s.Perm v)(hs:∀x∈v,1<=x.Seq):∃fr k w,ba prog gl 68 [.ptr (Ag gg) 0,aE aj s] (aE Bt fr)/\Aa1 fr (λf=>JF f o)=some k/\qN v o.By=some w/\k=(decide (0<w)&&decide (w<=o.Seq)):=by
 obtain⟨fs,hq,hi⟩:=Aix hn;have hl:=AaE (ids:=s) aa;have hI:=Agi s aa;have hfl:fs.length=(Uo s).2.es.length:=by rw[hq.length_eq,Hi]
 have hF:=(AbK (gl:=gl) (gg:=gg) (ids:=s) (r:=fs) (n:=fs.length) aa aa hfl.symm hi).fn Bi.sz (Bi.len _) (Bi.imm _);obtain⟨w,e,hw⟩:=Uz (ids:=v) (by have:=hp.length_eq;omega) hs o.By;refine⟨fs,_,w,hF,?_,e,rfl⟩;rw[show(λf=>JF f o)=λf=>some (decide (f.Device=o.By)&&decide (f.Seq<=o.Seq)) from funext λf=>by unfold JF;cases decide (f.Device=o.By)<;>rfl,Abt (p:=λf:Bh=>decide (f.Device=o.By)&&decide (f.Seq<=o.Seq)) aa λ_ _=>rfl];congr 1;rw[Bool.eq_iff_iff,List.any_eq_true];simp only[bA,decide_eq_true_eq];have hm:∀f:Bh,f∈fs↔(Uo s).2.get f.Device=some f.Seq:=λf=>by rw[hq.mem_iff,TF]
 have hc:∀f,OO v f=OO s f:=λf=>(Abj hp f).symm;have hex:∀{d q:Int},2<=OO s ⟨d,q⟩->∃y∈v,y.By=d/\y.Seq=q:=λ{d q} h=>by unfold OO at h;obtain⟨y,hy⟩:=List.exists_mem_of_length_pos (l:=s.filter λx=>decide (x.By=d)&&decide (x.Seq=q)) (Nat.lt_of_lt_of_le B5 h);rw[HU] at hy;have:=hy.2;simp only[bA,decide_eq_true_eq] at this;exact⟨y,hp.mem_iff.1 hy.1,this.1,this.2⟩
 unfold FsI at hw;simp only[hc] at hw;refine⟨λ⟨f,hf,h1,h2⟩=>?_,λ⟨h1,h2⟩=>?_⟩
 .rw[hm] at hf;have h3:=hI.a _ _ hf;obtain⟨y,g,c,i⟩:=hex h3;rw[h1] at h3 c;rcases hw with⟨_,h5⟩|⟨z,k1,k2,k3,j,k5⟩
  .exact absurd (i▸h3) (h5 y g c)
  .have a:=k5 y g c (i▸h3);have b:=hs z k1;omega
 .rcases hw with⟨h5,_⟩|⟨z,k1,k2,k3,j,k5⟩
  .omega
  .obtain⟨q,q1,m⟩:=hI.b _ _ j;exact⟨⟨o.By,q⟩,(hm _).2 q1,rfl,by show q<=o.Seq;omega⟩
theorem AkY{D':Dl}{i:Ab}(h:o7 D o i=some D'):D'.In=D.In:=by grind [o7,Gu]
theorem Aie(h:Rr R D)(hR:Bk R)(d:Int):PP R d=decide (d∈JK R):=by
 have hp:=(Oo hR).2.1;have hi:=h.in_ d;unfold PP Ht;rw[Bool.eq_iff_iff,decide_eq_true_iff,hp.mem_iff,Fm];by_cases c:d∈D.In
 .grind [Hp]
 .rw[BA c] at hi;rw[hi];refine⟨(by grind),λ⟨q,hq,e⟩=>?_⟩;have hg:=JH hR.ci (k:=q.1) (v:=q.2.1) (n:=q.2.2) hq;grind
theorem af0{a b:Be}(h1:a.length<=1000)(h2:b.length<=1000):AB (qn a b) ([],0)=some (b.filter (QF a)):=by
 refine T.eq (T.forA b.length (λk acc=>acc=(b.take k).filter (QF a)) aa aC (λk acc hk hj=>?_) λacc hj=>?_)
 .obtain⟨y,hy,hm⟩:=dk hk;subst hj;have hl:((b.take k).filter (QF a)).length<=1000:=by grind
  unfold qn;simp only[eA hk,ax,au,hy,aL,cX (show a.length<=1000000 by omega)];refine .ite (λc=> .bind (.app cq (.some ⟨aq aa,?_⟩))) λc=> .some ⟨aq aa,?_⟩
  .grind [Rb]
  .rw[Rb hy,Q1];simp[c]
 .unfold qn;dsimp only;rw[eF,A9];subst hj;exact .some (show _=_ by rw[EQ])
theorem af1{a b x:Be}(h0:x.length<=1000)(h1:a.length<=1000)(h2:b.length<=1000):AB (qm a b) (x,0)=some (x++a.filter λd=> !QF b d):=by
 refine T.eq (T.forA a.length (λk acc=>acc=x++(a.take k).filter λd=> !QF b d) aa aC (λk acc hk hj=>?_) λacc hj=>?_)
 .obtain⟨y,hy,hm⟩:=dk hk;subst hj;have hl:((a.take k).filter λd=> !QF b d).length<=1000:=by grind
  unfold qm;simp only[eA hk,ax,au,hy,aL,cX (show b.length<=1000000 by omega)];refine .ite (λc=> .bind (.app cq (.some ⟨aq aa,?_⟩))) λc=> .some ⟨aq aa,?_⟩
  .grind [Rb]
  .rw[Rb hy,Q1];simp[c]
 .unfold qm;dsimp only;rw[eF,A9];subst hj;exact .some (show _=_ by rw[EQ])
section
variable {g:A7} {m:JJ} {N:JD} (P:Pg g m N)
include P
theorem AkZ(k:Jq g 1000 D)(h:Rr R D)(hR:Bk R){i:Ab}(so:Bf o)(hp:Wz o i):∃D',DM D o i=some D'/\lu D'=some (JK (U2 R o i))/\∀d,PP (U2 R o i) d=decide (d∈JK (U2 R o i)):=by
 obtain⟨D',e,k',_⟩:=Gc P.w B5 k so i;refine⟨D',e,?_⟩;have z:=AaS P k B5;have hQ:=RW hR hp;have a:=k.dev;have b:=k.nL;by_cases c:o.Kind=9
 .have eD:DM D o i=o7 D o i:=by unfold DM;rw[ofE z.z,aL];obtain⟨f,e3,_⟩:=XR z.z h (XQ D.Cards o.By);grind
  rw[eD] at e;have ei:=AkY e;have eQ:(U2 R o i).in_=R.in_:=by grind [U2,Aak]
  have e1:JK (U2 R o i)=JK R:=by grind [JK]
  have e2:lu D'=lu D:=by grind [lu]
  refine⟨by grind [AkJ,Sy.z],λd=>?_⟩;rw[e1,<-Aie h hR d];grind [PP]
 .obtain⟨j,e2,h2⟩:=doE z (by grind) h hR (o:=o) (i:=i) (by grind);rw[e] at e2;obtain rfl:=Bj e2;exact⟨AkJ ⟨by rw[k'.cards];exact P.w.nC,by grind [Jq],by grind [Jq],by grind [Jq]⟩ h2 hQ,Aie h2 hQ⟩
end
theorem Ab9(hR:Bk R)(h:Uh R o=0):1<=o.By/\o.By<=6:=by
 unfold Uh at h;split at h
 .grind [Bk,DD]
 .cases c:PP R o.By with
  |false=>grind
  |true=>
   unfold PP Ht at c;cases hg:R.in_.get o.By with
   |none=>grind
   |some v=>grind [Bk,Hp]
section
variable {g:A7} {m:JJ} {N:JD} (P:Pg g m N)
include P
theorem Ae6(h14:g.L.length<=14)(j:∀(i:Nat) (o:Bp) (x:Ab),g.L[i]?=some o->g.IDs[i]?=some x->x.Seq=o.Seq)(so:Bf o){i:Ab}(hid:pV o=some i)(k:ba prog fI 70 [.agg (aJ o)] (.agg (aj i)))(hp:1<=o.By/\o.By<=6->Wz o i):∃l:Be,iV prog fI 27 [.ptr (Ag ⟨g.Cards,m,N⟩) 0,.agg (aJ o)] 3 l.length (l.flatMap cZ)/\qo g o=some l/\l.length<=2000/\l.Nodup:=by
 have w:=P.w;have hpl:=so.nPast;have hgl:o.Guards.length<=1000000:=by grind [Bf.nGuards]
 have nI:=w.nI;have pl:=P.p.len;have hG:=Abi w P.p;have hI:=AcZ hG;have opx:∀x∈g.IDs,∃(i:Nat) (o:Bp),g.IDs[i]?=some x/\g.L[i]?=some o/\Fp o:=by grind [G9,Fq.op]
 have hseq:∀x∈g.IDs,1<=x.Seq/\x.Seq<=2147483647:=λx hx=>by obtain⟨i,o,h1,h2,W⟩:=opx x hx;rw[j i o x h2 h1];exact(T1 W.numbers).seq
 obtain⟨v,p,e1,n,c,e2,pe,H,a⟩:=AkX P h14 hpl;have hv14:v.length<=14:=by have:=EC c n.sub;omega
 have J:=AgU (gl:=fI) hG (by show N.length<=14;omega) (ids:=o.Past) aa e2 pe;have hS:=AeZ hI J aa;generalize Lo (BX g m N) p o.Past=s at hS a;have hs14:s.length<=14:=by rw[a.length_eq];exact hv14
 have hsn:s.Nodup:=a.nodup_iff.2 c;have hsm:∀x∈s,x∈g.IDs:=by grind [GJ.sub]
 obtain⟨fr,y,F,f1,f2,K,X⟩:=Ajb (gl:=fI) (gg:=⟨g.Cards,m,N⟩) (o:=o) hs14 a (by grind);obtain⟨row,A,B,C⟩:=UA w P.p aa c n.sub;have hrl:row.length<=14:=by rw[B.length_eq];exact hv14
 have hrn:row.Nodup:=B.nodup_iff.2 c;have hrm:∀x∈row,x∈g.IDs:=by grind
 have hO:ba prog fI 47 [.ptr (Ag ⟨g.Cards,m,N⟩) 0,aE aj s] (aE aj row):=by obtain⟨r,e,q,d⟩:=Sf (Uy (BX g m N)) hsn hs14;have:r=row:=TC (Uy (BX g m N)).tr Px (by grind) d C;grind [Xg,List.Perm.length_eq]
 obtain⟨vs,M,Y,O⟩:=Ab8 (ids:=v) aa c (by grind);have hvm:∀x∈vs,x∈g.IDs:=by grind
 have hvl:vs.length<=1000:=by grind [List.Perm.length_eq,NS]
 have hV:ba prog fI 238 [.ptr (Ag ⟨g.Cards,m,N⟩) 0,aE aj s] (aE aj vs):=by
  obtain⟨r,e,q,d⟩:=AhX (gl:=fI) (gg:=⟨g.Cards,m,N⟩) hs14 hsn (by grind);have hq:(s.filter (voP s)).Perm (v.filter (voP v)):=by rw[show voP s=voP v from funext (Ae3 a)];grind
  have:r=vs:=TC PJ.tr AdH (by grind) d O;exact this▸e
 obtain⟨s1,s2⟩:=Ah5 P hrm;have hO2:ba prog fI 47 [.ptr (Ag ⟨g.Cards,m,N⟩) 0,aE aj row] (aE aj row):=by obtain⟨r,e,q,d⟩:=Sf (Uy (BX g m N)) hrn hrl;have:r=row:=TC (Uy (BX g m N)).tr Px q d C;grind [Xg]
 have t:=Xd hI hO2 aa;have hN:=Xd hI hO aa;have f:=AaV P A aa hrm;obtain⟨D,S,cs,U,Z,u,b,E⟩:=AmF P (ids:=v) n A hrn aa hrm M hvl hvm;have hod:∀x∈row,Wz ((BX g m N).o x) x:=λx hx=>by obtain⟨i,o,h1,h2,_⟩:=opx x (hrm x hx);rw[(P.op h2 h1).2];grind [Pg.od]
 have V:=Ad2 (I:=BX g m N) (ids:=s) (row:=row) (s:=Ot (BX g m N) row) (r:=cs) ⟨hI,P.cd,hod,by show row.length<=1000;omega⟩ hO hV hvl t aa U;have hcl:cs.length<=1000:=by grind
 have h:=AhD hI P.cd V (by grind) hcl;generalize Y4 (BX g m N) cs=R at u b h;generalize Ot (BX g m N) row=sen at s1 s2 hN f;refine⟨_,Ae1 hS f1 f2 b h k hgl (by grind [Ab9]) hN aa,?_,?_⟩
 .unfold qo Ae0;rw[e1,aL,K,aL];have hj:(bif 0<F then(some (decide (F<=o.Seq)))else(some false))=some y:=by grind
  rw[hj,aL];cases y with
  |true=>rfl
  |false=>
  rw[A9,A9,S,aL,hid,aL,Akv (AaS P E aa).z u b hgl i,aL];cases cm:decide (Uh R o≠0) with
  |true=>rfl
  |false=>
  have hp:=hp (Ab9 b (Decidable.of_not_not (LU cm)));obtain⟨D',k1,k2,k3⟩:=AkZ P E u b so hp;have hQ:=RW b hp;generalize U2 R o i=Q at k2 k3 hQ;have hdl:(JK Q).length<=1000:=by rw[(Oo hQ).2.1.length_eq,Hi];grind [Bk.len]
  rw[A9,A9,k1,aL,k2,aL,f,aL,af0 hdl aa,aL,af1 (by grind) hdl aa,aL];have a1:sen.filter (QF (JK Q))=haS Q sen:=by grind [List.filter_congr,JB]
  rw[a1];congr 2;grind [List.filter_congr,JB]
 .unfold Ae0;cases y with
  |true=>simp
  |false=>
  cases cm:decide (Uh R o≠0) with
  |true=>simp
  |false=>
  have hQ:=RW b (hp (Ab9 b (Decidable.of_not_not (LU cm))));generalize U2 R o i=Q at hQ;have hdl:(JK Q).length<=1000:=by rw[(Oo hQ).2.1.length_eq,Hi];grind [Bk.len]
  have dn:(JK Q).Nodup:=(Oo hQ).2.1.nodup_iff.2 hQ.ci.kd;grind
end
def Pq{α:Type}(x:Option α)(Q:α->Prop):Prop:=∀v,x=some v->Q v
section
variable {α β:Type} {x:Option α} {f:α->Option β} {Q:β->Prop} {R:α->Prop}
theorem Pq.b(h:∀v,Pq (f v) Q):Pq (x.bind f) Q:=λw e=>by obtain⟨v,_,e⟩:=Gu.1 e;exact h v w e
theorem Pq.m(h:Pq x R)(k:∀v,R v->Pq (f v) Q):Pq (x.bind f) Q:=λw e=>by obtain⟨v,e',e⟩:=Gu.1 e;exact k v (h v e') w e
theorem Pq.i{c:Bool}{a b:Option α}(h1:c=true->Pq a R)(h2:c=false->Pq b R):Pq (bif c then a else b) R:=by grind
theorem Pq.s{v:α}(h:R v):Pq (some v) R:=λw e=>(by grind)
end
theorem Pq.of{α:Type}{x:Option α}{Q:α->Prop}(h:T x Q):Pq x Q:=λv e=>by obtain⟨w,e',h⟩:=h;grind
def Kn(o:Bp):Prop:=o.Kind=9->1<=o.Need/\o.Need<=1000000
theorem AdK{n:Int}(h0:0<=n)(h1:n<=1000000):Pq (sc g ids o n) Kn:=by
 unfold sc;refine .b λj=> .b λk=> .b λl=> .i (λc=>?_) λc=>?_
 .refine .b λp=> .b λa=> .m (R:=λq=>0<=q/\q<=1) (λq e=>?_) λd hq=> .b λh=> .s λ_=>?_
  .grind [bM,u9,iI,ah]
  grind [bM]
 .have c':=LU c;refine .b λ_=> .b λ_=> .b λ_=> .b λ_=> .b λ_=> .b λ_=> .i (λ_=> .s λe=>absurd e c') λ_=> .s λe=>absurd e c'
theorem Ag2{n m:Int}(hm:c8 m):Pq (sd g n m) Kn:=by
 unfold sd;refine .b λw=> .m (.of (eX hm B5)) λj h3=> .b λy=> .i (λ_=> .s λe=>(by grind)) λ_=> .b λa=> .b λl=> .b λj12=> .b λo=> .b λp=>?_;have hk:0<=wI (j.tdiv 20)/\wI (j.tdiv 20)<=1000000:=by grind [bM]
 have no:∀{k:Int},decide (a.Kind=k)=true->k≠9->∀{q:Int},a.Kind=9->1<=q/\q<=1000000:=by grind
 refine .m (R:=λx:Bp×Bc=>Kn x.1) (.i (λc=> .b λ_=> .s λe=>(by grind)) λ_=> .m (R:=λx:Bp×Bc=>Kn x.1) (.i (λc=> .b λ_=> .s λe=>(by grind)) λ_=> .m (R:=λx:Bp×Bc=>Kn x.1) (.i (λc=> .s λe=>(by grind)) λ_=> .m (R:=λx:Bp×Bc=>Kn x.1) (.i (λc=> .b λ_=> .b λ_=> .b λ_=> .s λe=>(by grind)) λ_=> .m (R:=λx:Bp×Bc=>Kn x.1) (.i (λc=> .s λe=>(by grind)) λ_=> .m (R:=λx:Bp×Bc=>Kn x.1) (.i (λc=> .s λe=>(by grind)) λ_=> .m (R:=λb:Bool=>a.Kind=9->b=true) (by grind [Pq.s]) λr t=> .m (R:=λx:Bp×Bc=>Kn x.1) (.i (λ_=> .m (AdK hk.1 hk.2) λu h=> .b λ_=> .s h) λc=> .s λe=>(by grind)) λ_ h=> .s h) λ_ h=> .s h) λ_ h=> .s h) λ_ h=> .s h) λ_ h=> .s h) λ_ h=> .s h) λv d=>?_;exact .b λ_=> .b λ_=> .b λ_=> .b λ_=> .b λ_=> .s d
def R5(l:LT):Bool:=decide (l.length<=12)&&(List.range 12).all λk=>match l[k]?,l[k+1]? with
 |some a,some b=>decide (a.Device<=b.Device)&&(decide (0<=a.Device)&&decide (b.Device<=1000000))
 |_,_=>true
theorem OM{l:LT}(h:R5 l=true):xf l:=by unfold R5 at h;simp only[bA,decide_eq_true_eq] at h;refine⟨h.1,λk a b ha hb=>?_⟩;have hk:=(cr ha).1;have:=GL.1 h.2 k (List.mem_range.2 aa);rw[ha,hb] at this;simpa using this
theorem Ls:xf u7:=OM aH
structure Aaa (r:A7) (ms:Nat->JJ) (N:JD):Prop where
 wf:Fq r
 ne:r.L≠[]
 run:Abd r ms N
 pg:Oa r (ms r.L.length) N
 gr:Lu g0 r
 gC:r.Cards=u7
 n14:r.L.length<=14
abbrev oN3(N:JD)(n:Nat):Option Ob:=zQ (N.take n)
theorem Ui{r:A7}{ms:Nat->JJ}(e:vq l 14=some r)(h:Aaa r ms N):jg prog fI 10 [aE cZ l] [] 0 (.tup [.ref 0 0,.agg (aI r)]) [(0,oG r.Cards r.L.length 2),(1,oM (ms r.L.length)),(2,oN3 N r.L.length)] 3:=by refine pP func10 ?_;exact mt .ret (s0 10 fI [(2,.ref 0 0),(3,.ptr (aI r) 0)] [(0,oG r.Cards r.L.length 2),(1,oM (ms r.L.length)),(2,oN3 N r.L.length)] 3 0) [.ref 0 0,.agg (aI r)] [hf 6 (Jm fI e),tN 8 [] 2 [] [.agg (aI r)] [ob 0 111 [aE bv r.Cards,.mref 3,.rsl 4 0 r.L.length],(1,oM (ms r.L.length)),(2,oN3 N r.L.length)] (ZC h.run) trivial ⟨⟨rfl,.inl rfl⟩,⟨rfl,rfl,rfl,rfl,.inr ⟨rfl,cf _⟩⟩,⟨rfl,.inr ⟨rfl,az.imm _⟩⟩,trivial⟩] [hc (eB (gs:=aI r) aH),hc (rfl:r.L.length=r.L.length),hc (cf (ms r.L.length)),hc (az.imm (N.take r.L.length))]
theorem neZ(a:Int):decide (a≠a)=false:=aC
theorem Aac{gl:CD}{l:Be}(hn:l.length<=1000000):ba prog gl 29 [aE cZ l,aE cZ l] (bG true):=by
 refine Gh func29 ?_;refine pN (λk:Nat=>(s0 26 gl [(0,aE cZ l),(1,aE cZ l),(5,iG (k:Int))] [] 0 0)) 1110122 (E0 (n:=l.length) aa) [hr 10 (neZ (ah l))] [] (λB k w hs k5 a=>?_);unfold KS at hs;split at hs
 .rename_i hlt;obtain rfl:=Bj hs;obtain⟨x,hx⟩:∃x,l[k]?=some x:=by simp_all
  have hz:=Bg hx;have k5:=k5 _ rfl;exact jw [hr 14 (Dk hx),AA 19 (rZ.ixZ hz),AA 20 (rZ.p1Z tZ hz),AA 23 (rZ.ixZ hz),AA 24 (rZ.p1Z tZ hz),hr 25 (neZ x),hbb 16 (Xl (q:=k) aa)] [] k5 []
 .split at hs
  .rename_i he;subst he;exact Ar [hr 14 (D4 (s:=l))] []
  .cases hs
theorem Ns{i:Ab}(so:Bf o)(h:pV o=some i):i.By=o.By/\i.Seq=o.Seq:=by obtain⟨j,e,a,b,_⟩:=wN so;grind
theorem Acd{b:A7}(h:Lu b g)(hb:b.L=[]):∀(i:Nat) (o:Bp),g.L[i]?=some o->∃c∈g.Cards,c.Device=o.By:=by
 induction h with
 |base=>grind
 | @step g o id up row gr w sm _ e a hid hrow ih=>
  intro i d ho;have ho:(g.L++[o])[i]?=some d:=ho;rcases je ho with⟨_,h⟩|⟨_,rfl⟩
  .exact ih i d h
  .obtain⟨c,hc,_⟩:=a.card;exact⟨c,yd hc⟩
theorem Ac4{cs:LT}(h:cs.all KK=true){c:DL}(hc:c∈cs):1<=c.Device/\c.Device<=6/\1<=c.Member/\c.Member<=3:=by grind [KK]
theorem Ak5:u7.map (·.Device)=[1,2,3,4,5,6]:=aH
section
variable {r:A7} {ms:Nat->JJ} {N:JD}
theorem Ae9{b:A7}{m:JJ}(w:Fq r)(p:Oa r m N)(gr:Lu b r)(hb:b.L=[])(hl:r.Cards.length<=1000)(h6:r.Cards.all KK=true)(hn:(r.Cards.map (·.Device)).Nodup):Pg r m N:=by have hcd:=Acd gr hb;refine⟨w,p,λi o x ho hx=>?_,(by grind),⟨hl,λc hc=>Ac4 h6 hc⟩,hn⟩;grind [Fq.ops,T1,Fp.numbers,Bf.nGuards,Wz,Ns,Fq.ids,N9.k9,ah,Ac4]
theorem Ak6(h:Aaa r ms N):Pg r (ms r.L.length) N:=Ae9 h.wf h.pg h.gr rfl (by rw[h.gC,KL];decide) (h.gC▸Og) (by rw[h.gC,Ak5];decide)
end
theorem Ac5{m:JJ}(P:Pg g m N)(h14:g.L.length<=14)(so:Bf o)(hk:Kn o):∃l:Be,iV prog fI 27 [Z8 g.Cards m N,.agg (aJ o)] 3 l.length (l.flatMap cZ)/\qo g o=some l/\l.length<=2000/\l.Nodup:=by
 obtain⟨i,e,hi⟩:=TU so;have hb:=Ns so hi;have hg:o.Guards.length<=1000000:=by grind [Bf.nGuards]
 have:=Ae6 P h14 (λi o x ho hx=>(Ns (P.w.ops i o ho).1 (P.w.ids i o x ho hx)).2) so hi (TP fI so e) λb=>⟨hb.1,hg,hk,b⟩;grind [Ag,RJ]
theorem Ak7{r:A7}{ms:Nat->JJ}(h:Aaa r ms N)(ho:r.L[k]?=some o):Bf o/\Kn o:=by obtain⟨sm,a,_⟩:=h.wf.ops k o ho;have f:=T1 a.numbers;have:=sm.nGuards;refine⟨sm,λhk=>?_⟩;grind [N9,ah]
theorem Ak8{x:Option α}{Q:α->Prop}(h:T x Q):T x λv=>x=some v/\Q v:=by obtain⟨v,e,q⟩:=h;exact⟨v,e,e,q⟩
theorem Iv(h:T (qo g o) λl=>l.length<=3000):T (jm g o) λl=>l.length<=200000:=by unfold jm;refine .bindc (zh _) λa _=> .ite (λ_=> .some aC) λ_=> .bind (h.mono λb h4=>?_);grind [cX,T.some,Od]
theorem Oh(hl:l.length<=9223372036854775807)(hi:∀x∈l,c8 x){most:Int}(hm:most<=14)(hk:k<=1000)(w:Fq g)(gr:Lu g0 g)(hg:g.L.length<=k):T (ly l most (g,(k:Int))) (Rd (λs'=>s'.2=((k+1:Nat):Int)/\(k:Int)<most/\Fq s'.1/\Lu g0 s'.1/\(g.L≠[]->s'.1.L≠[])/\s'.1.L.length<=g.L.length+1) λv=>v=g/\(k=0->most<=0)):=by
 have e2:wI (2*(k:Int))=((2*k:Nat):Int):=by grind [bM]
 have e3:wI (((2*k:Nat):Int)+1)=((2*k+1:Nat):Int):=aq aa;have at_:∀(n:Nat) {Q:Int->Prop},(∀v,c8 v->Q v)->T (bif (n:Int)<ah l then((aS l (n:Int)).bind λp=>some p)else(some 0)) Q:=λn Q q=>by refine .dec (λhp=>?_) λ_=> .some (q 0 dP);refine .bind (.ixl aa (by unfold ah at hp;omega) λy _ hy=> .some (q y (hi y hy)))
 unfold ly;simp only[e2,e3];refine .bind (T.mono (Q:=λb:Bool=>(b=true->(k:Int)<most)/\(b=false->k=0->most<=0)) (.dec (λhp=>?_) λhp=> .some ⟨λe=>(by cases e),λ_ e=>(by subst e;exact Int.not_lt.1 hp)⟩) λb hb=> .ite (λe=>?_) λe=> .some ⟨rfl,hb.2 e⟩)
 .have:(k:Int)<most:=hp;refine .ite (λ_=> .some ⟨λ_=>this,λe=>(by cases e)⟩) λh4=> .some ⟨λ_=>this,λ_ e=>?_⟩;subst e;exact absurd h4 (λe=>Bool.noConfusion e)
 have hk':=hb.1 e;have hw:wI ((k:Int)+1)=((k+1:Nat):Int):=aq aa;refine .bind (at_ (2*k) λD t=> .bind (at_ (2*k+1) λE f=>?_));obtain⟨ms,N,u,_,_,h4⟩:=OL gr rfl rfl Ls;have P:=Ae9 w h4 gr rfl (by rw[u];show u7.length<=1000;rw[KL];decide) (u▸Og) (by rw[u];show(u7.map (·.Device)).Nodup;rw[Ak5];decide);refine .bind (T.mono (Ak8 (N2 w t f)) λo ⟨z,c⟩=> .bind ((Iv (by obtain⟨_,_,e,h⟩:=Ac5 P aa c.nopath (Ag2 f o z);exact⟨_,e,aa⟩)).mono λF H=> .bindc (uW (eX f B5)) λI _=> .bindc (.ite (λ_=> .some trivial) λ_=> .some trivial) λJ _=> .bindc (zh _) λK _=>?_));refine .bind (T.mono (Q:=λx:List E1=>x.length<=1000/\∀y∈x,I6 y) (T.loop (λs=>∃j:Nat,s.2=(j:Int)/\j<=5/\s.1.length<=j/\∀y∈s.1,I6 y) (λs=>6-s.2.toNat) ⟨0,rfl,aa,aC,aC⟩ aC ?_) λA B=>?_)
 .rintro⟨a,i⟩ ⟨j,rfl,hj,ha,hs⟩;simp only at ha hs;have hwj:wI ((j:Int)+1)=((j+1:Nat):Int):=aq aa;unfold lw;refine .bind (T.mono (Q:=λb:Bool=>b=true->j<5) (.ite (λ_=> .ite (λ_=> .some λe=>?_) λ_=> .some λe=>by cases e) λ_=> .some λe=>by cases e) λb hb=> .ite (λe=>?_) λ_=> .some ⟨by grind,hs⟩)
  .grind
  .have:=hb e;refine .bind (.bind (.app cq (.some (.some ⟨⟨j+1,hwj,aa,by simp;omega,λy hy=>?_⟩,?_⟩))))
   .rcases I5.1 hy with hy|hy
    .grind
    .simp at hy;subst hy;exact⟨Mp _,aC,aC⟩
   grind
 .have so:Bf {o with Path:=A}:=Hf c.iBy c.iSeq c.iKind c.iAt c.sPast c.iDevice c.iOld c.iMember c.iRole B c.epoch c.iN c.nBody c.sRefs c.of_ c.sGuards c.iNeed c.iWait c.sBoxes c.pub c.sHist;refine .bind ((Io so).mono λM C=>?_);obtain⟨s,rfl,hr,hs⟩:=C;refine .bind ((QG w (so.sig s) hs).mono λm d=> .dec (λh0=> .some ⟨hw,hk',d.1,?_,?_,?_⟩) λ_=> .some ⟨hw,hk',w,gr,λh=>h,Nat.le_succ _⟩)
  .rcases d.2 with⟨h,_⟩|⟨id,up,row,_,a,hid,hrow,hg⟩
   .grind
   .show Lu g0 m.1;rw[hg];exact .step gr w (so.sig s) hr hs a hid hrow
  .rcases d.2 with⟨h,_⟩|⟨id,up,row,_,a,hid,hrow,hg⟩
   .grind
   .intro _;show m.1.L≠[];rw[hg];show g.L++[_]≠[];simp
  .rcases d.2 with⟨h,_⟩|⟨id,up,row,_,a,hid,hrow,hg⟩
   .grind
   .show m.1.L.length<=_;rw[hg];show(g.L++[_]).length<=_;simp
theorem Wf(hl:l.length<=9223372036854775807)(hi:∀x∈l,c8 x){most:Int}(h0:0<most)(hm:most<=14):T (vq l most) λg=>Fq g/\Lu g0 g/\g.L≠[]/\(g.L.length:Int)<=most:=by
 unfold vq r8;rw[aL,Oe,aL];unfold Jf;rw[aL];refine .bind (T.mono (Q:=λg:A7=>Fq g/\Lu g0 g/\g.L≠[]/\(g.L.length:Int)<=most) (T.loop (λs=>∃k:Nat,s.2=(k:Int)/\k<=1000/\Fq s.1/\Lu g0 s.1/\(k=0->s.1=g0)/\(k≠0->s.1.L≠[])/\s.1.L.length<=k/\(k:Int)<=most) (λs=>1001-s.2.toNat) ⟨0,rfl,aa,Yu,.base,λ_=>rfl,(by grind),Nat.zero_le _,by grind⟩ aC ?_) λv hv=> .some hv);rintro⟨g,i⟩ ⟨k,rfl,hk,w,gr,hz,a,hlk,b⟩;have hlk:g.L.length<=k:=hlk;obtain⟨r,e,hr⟩:=Oh hl hi hm hk w gr hlk;refine⟨r,e,?_⟩;cases r with
 |inr v=>obtain⟨rfl,h⟩:=hr;constructor<;>grind
 |inl s=>obtain⟨h1,h2,h3,h4,h5⟩:=hr;refine⟨⟨k+1,h1,aa,h3,h4,(by grind),λ_=>?_,by grind,aa⟩,?_⟩;all_goals grind [KM]
theorem Xe(hl:l.length<=9223372036854775807)(hi:∀x∈l,c8 x):∃r ms N,vq l 14=some r/\Aaa r ms N:=by obtain⟨r,e,w,g,ne,hn⟩:=Wf hl hi (most:=14) B5 B5;obtain⟨ms,N,a,_,h3,h4⟩:=OL g rfl rfl Ls;exact⟨r,ms,N,e,w,ne,h3,h4,g,a,aa⟩
section
variable {gl:CD}
abbrev DnV(gl:CD)(fi:FuncId)(fa fc:Bn)(p:Ab->Bool):Prop:=T9 prog gl fi fa fc (λx:Ab=>[.agg (aj x)]) (λx:Bool=>bG x) (λk=>some (p k))
theorem Abk{p:Ab->Bool}(hv:DnV gl fi fa fc p){l:Bc}(hn:l.length<=1000000):iV prog gl 46 [aE aj l,.clo (.func fi) fa fc] 25 (l.filter p).length ((l.filter p).flatMap aj):=by
 refine OW func46 ?_;refine pN (λk:Nat=>(s0 23 gl [(1,.clo (.func fi) fa fc),(5,.rsl 0 0 ((l.take k).filter p).length),(8,aE aj l),(9,iG (ah l)),(10,iG (k:Int))] [(0,Bw ((l.take k).filter p))] 1 0)) 1110122 (E0 (n:=l.length) aa) [] [hc hv.im,hc (ac.imm [])] (λB k w hs k5 a=>?_) [25] [(0,0)] [(0,.row)];unfold KS at hs;split at hs
 .rename_i hlt;obtain rfl:=Bj hs;obtain⟨x,hx⟩:∃x,l[k]?=some x:=⟨_,DR hlt⟩;have hz:=Bg hx;have k5:=k5 _ rfl;have hl:((l.take k).filter p).length<=k:=MI (NS _ _) (by rw[N3];omega);rw[Jn,hx,Option.toList_some,Q1] at k5;generalize (l.take k).filter p=q at k5 hl⊢;have hcs:=hv.cs (c:=2) (x:=x) rfl (aY (aG 20 (.agg (aj x)) aH) bf);cases hp:p x with
  |true=>rw[hp] at hcs;rw[List.filter_cons_of_pos hp,List.filter_nil] at k5;exact jw [hr 11 (Dk hx),AA 12 (ac.ixZ hz),AA 13 (ac.ptZ aW hz),Go.Proofs.YtghphhhpagagbaaGreatDoor.hz 16 [] hcs,Tn 20 ac 24 q x aa,hbb 21 (Xl (q:=k) aa)] [hc hv.im,hc (el (q++[x])),hc (ac.imm (q++[x]))] k5 [] [(0,3)] [(0,.row)]
  |false=>rw[hp] at hcs;rw[List.filter_cons_of_neg (by simp[hp]),List.filter_nil,MT] at k5;exact jw [hr 11 (Dk hx),AA 12 (ac.ixZ hz),AA 13 (ac.ptZ aW hz),Go.Proofs.YtghphhhpagagbaaGreatDoor.hz 16 [] hcs,hbb 21 (Xl (q:=k) aa)] [hc hv.im,hc (el q),hc (ac.imm q)] k5 [] [(0,0)] [(0,.row)]
 .split at hs
  .rename_i he;subst he;rw[EQ];exact EI [hr 11 (D4 (s:=l))] (ac.imm (l.filter p))
  .cases hs
section
variable {gg:Aj}
theorem Ac3{l:Be}{b:Bool}{ss:Ly}(hc:ba prog gl 104 [iG o.Kind] (bG b))(hA:b=true->ba prog gl 27 [.ptr (Ag gg) 0,.agg (aJ o)] (aE cZ l))(a:b=true->ba prog gl 26 [aE cZ l,iG o.By] (aE Jc ss)):ba prog gl 49 [.ptr (Ag gg) 0,.agg (aJ o)] (aE Jc (bif b then ss else[])):=by
 refine Gh func49 ?_;cases b with
 |false=>exact Ar [hf 7 hc] []
 |true=>exact Ar [hf 7 hc,hf 11 (hA rfl),hf 14 (a rfl)] []
theorem Ae7(h:Q9 gl gg I)(hS:ba prog gl 49 [.ptr (Ag gg) 0,.agg (aJ (I.o x))] (aE Jc ss)):ba prog gl 16 [.ptr (Ag gg) 0,.agg (aj x)] (aE Jc (bif(I.op x).isSome then ss else[])):=by
 have ho:=h.op x;refine Gh func16 ?_;generalize (I.op x).isSome=b at ho⊢;cases b with
 |false=>exact Ar [hf 10 ho] []
 |true=>exact Ar [hf 10 ho,hf 17 hS] []
def Abl(n:Nat)(o:Bp):Bool:=bif (0:Int)<(n:Int)then decide ((n:Int)=ah o.Path)else false
theorem Ag3(h:Q9 gl gg I)(hS:ba prog gl 49 [.ptr (Ag gg) 0,.agg (aJ (I.o x))] (aE Jc ss)):ba prog gl 48 [.agg (aj x),.ptr [.ptr (Ag gg) 0] 0] (bG (Abl ss.length (I.o x))):=by
 have ho:=h.op x;refine Gh func48 ?_;unfold Abl;cases c:decide ((0:Int)<(ss.length:Int)) with
 |false=>exact Ar [hf 10 ho,hf 15 hS,hr 18 c] []
 |true=>exact Ar [hf 10 ho,hf 15 hS,hr 18 c] []
theorem Aca(h:Q9 gl gg I){ss:Ab->Ly}(hS:∀x,ba prog gl 49 [.ptr (Ag gg) 0,.agg (aJ (I.o x))] (aE Jc (ss x)))(hO:ba prog gl 47 [.ptr (Ag gg) 0,aE aj ids] (aE aj row))(hn:row.length<=1000):ba prog gl 13 [.ptr (Ag gg) 0,aE aj ids] (aE aj (row.filter λx=>Abl (ss x).length (I.o x))):=by have hv:DnV gl 48 [] [.ptr [.ptr (Ag gg) 0] 0] (λx=>Abl (ss x).length (I.o x)):=⟨aH,bf,aY (aG 20 (.ptr [.ptr (Ag gg) 0] 0) aH) bf,λx r e=>by cases e;exact Ag3 h (hS x)⟩;have hF:=Abk hv (l:=row) aa;refine Gh func13 ?_;exact Ar [hf 7 hO,ho 9 [aE aj row,.clo (.func 48) [] [.ptr [.ptr (Ag gg) 0] 0]] [] hF (kF _)] [hc (ac.al (row.filter λx=>Abl (ss x).length (I.o x)))]
end
end
def AgI(k:Int):Bool:=(E7 k).getD false
theorem AeJ{k:Int}(h:0<=k/\k<=13):E7 k=some (AgI k)/\ba prog fI 104 [iG k] (bG (AgI k)):=by
 have:k=0\/k=1\/k=2\/k=3\/k=4\/k=5\/k=6\/k=7\/k=8\/k=9\/k=10\/k=11\/k=12\/k=13:=aa;rcases this with rfl|rfl|rfl|rfl|rfl|rfl|rfl|rfl|rfl|rfl|rfl|rfl|rfl|rfl
 all_goals
  refine⟨aH,Gh func104 ?_⟩
  exact Ar [] []
def AdA(g:A7)(o:Bp):Be:=(qo g o).getD []
def Lv(g:A7)(o:Bp):Ly:=bif AgI o.Kind then tpL o.By (AdA g o) else[]
theorem AeK{m:JJ}(P:Pg g m N)(h14:g.L.length<=14){o:Bp}(so:Bf o)(hk:Kn o)(h13:0<=o.Kind/\o.Kind<=13):ba prog fI 49 [.ptr (Ag ⟨g.Cards,m,N⟩) 0,.agg (aJ o)] (aE Jc (Lv g o))/\jm g o=some (Lv g o)/\Ud o.By (Lv g o)/\ba prog fI 27 [.ptr (Ag ⟨g.Cards,m,N⟩) 0,.agg (aJ o)] (aE cZ (AdA g o))/\qo g o=some (AdA g o)/\(AdA g o).length<=2000:=by
 obtain⟨l,hA,e,hl,hn⟩:=Ac5 P h14 so hk;obtain⟨c1,c2⟩:=AeJ h13;have hA':ba prog fI 27 [.ptr (Ag ⟨g.Cards,m,N⟩) 0,.agg (aJ o)] (aE cZ l):=by grind [AH.fo,rZ,Ag,RJ]
 grind [AdA,Lv,Ac3,AeI,jm,cX,JB,AeH,tpL,ZX,AiZ]
section
set_option maxHeartbeats 2000000
theorem ZZ:fg prog 56=some false:=aH
def SH(g:A7)(l:Be)(a:Bc×Int):Option ((Bc×Int)⊕Bc):=
 (bif a.2<ah l then(some (decide (a.2<4)))else(some false)).bind λb=>bif b then((aS l a.2).bind λc=>(iq c (ah g.IDs)).bind λd=>(aS g.IDs d).bind λe=>(aT 24 a.1 [e]).bind λf=>some (.inl (f,wI (a.2+1))))else(some (.inr a.1))
def Ue(g:A7)(l:Be):Option Bc:=
 (bif ah l=0 then(some true)else(some (decide (ah g.L=0)))).bind λb=>bif b then((xt g).bind λc=>some c)else((AB (SH g l) ([],0)).bind λd=>(LX g d).bind λa=>some a)
theorem Z2{g l}:LC prog gl (Ue g l) 11 [.agg (aI g),aE cZ l] 25 aj:=
 gc func11 λK=>cN 1100 (so [0] [(2,.ref 0 0)] [ob 0 33 (aI g)] 1) []<|cC 1100 (λi=>sf [] [(15,bG i)]) (λi=>eH [15] (ak λp e5=>aw [ho 17 [.agg (aI g)] [] (DK gl e5) (kF p)]<|mr c0 K (ac.imm _))<|rdL 111101 11110122 (λj=>sg [2] [(5,aE aj j)]) (λa=>so [15] [(5,.rsl 1 0 a.1.length),(6,iG a.2)] [ob 1 25 (a.1.flatMap aj)] 2) [hc (ac.imm [])] (vs:=[25]) (ρ:=[(0,0),(1,1)]) (kd:=[(1,.row)]) (λj=>ak λk e16=>aw [ho 45 [.agg (aI g),aE aj j] [] (ua gl e16) (kF k)]<|mr c0 K (ac.imm _)) λa m k9=>cN 1111012200 (sf [] []) [hc (el a.1),hc (ac.imm a.1)] (ρ:=[(0,0),(1,1)]) (kd:=[(1,.row)])<|cC 1111012200 (λb=>sf [] [(25,bG b)]) (λb=>eH [25] (ak λq c=>ak λr n=>ak λs d=>ak λe o=>aw [AA 33 (rZ.ixZ c),AA 34 (rZ.p1Z tZ c),hf 38 (iL gl n),AA 39 (ac.ixZ d),AA 40 (ac.ptZ aW d),dg 42 ac o]<|cj m [hc (el e),hc (ac.imm e)] (ρ:=[(0,0),(1,3)]) (kd:=[(1,.row)]))<|aA c1 k9 [hc (ac.al a.1)]) λb f=>aF 21 (aA c0 f [hc (el a.1),hc (ac.imm a.1)] (ρ:=[(0,0),(1,1)]) (kd:=[(1,.row)]))<|aA c0 f [hc (el a.1),hc (ac.imm a.1)] (ρ:=[(0,0),(1,1)]) (kd:=[(1,.row)])) λi h=>aF 9 (aA c0 h [])<|aA c0 h []
def M1(g:A7)(c:Bc)(s3:Bc×Int):Option ((Bc×Int)⊕Bc):=
 bif s3.2<ah c then((aS c s3.2).bind λd=>(fC g d).bind λa=>bif a<0 then(some (.inl (s3.1,wI (s3.2+1))))else((aS g.L a).bind λe=>(jm g e).bind λb=>(bif 0<ah b then((aS g.L a).bind λf=>some (decide (ah b=ah f.Path)))else(some false)).bind λh=>bif h then((aS c s3.2).bind λi=>(aT 24 s3.1 [i]).bind λj=>some (.inl (j,wI (s3.2+1))))else(some (.inl (s3.1,wI (s3.2+1))))))else(some (.inr s3.1))
def R1(g:A7)(ids:Bc):Option Bc:=
 (n8 g ids).bind λa=>(AB (M1 g a) ([],0)).bind λb=>some b
theorem XX{g ids}:LC prog gl (R1 g ids) 14 [.agg (aI g),aE aj ids] 25 aj:=
 gc func14 λK=>ak λo e2=>aw [hf 12 (ac.fo (G7 gl e2))]<|rdL 111101 11110122 (λi=>sp [] [(6,.rsl 0 0 i.length)] [ob 0 25 (i.flatMap aj)] 1) (λs3=>sp [] [(2,.ref 0 0),(5,aE aj o),(6,.rsl 1 0 s3.1.length),(7,iG s3.2)] [ob 0 33 (aI g),ob 1 25 (s3.1.flatMap aj)] 2) [hc (ac.imm [])] (vs:=[25]) (ρ:=[(0,0),(1,1)]) (kd:=[(1,.row)]) (λi=>mr c0 K (ac.imm _)) λs3 j k6=>aF 16 (ak λp b=>ak λk e16=>aw [AA 22 (ac.ixZ b),AA 23 (ac.ptZ aW b),hf 24 (dX gl e16)]<|aF 26 (cj j [hc (el s3.1),hc (ac.imm s3.1)] (ρ:=[(0,0),(1,1)]) (kd:=[(1,.row)]))<|ak λq c=>ak λl m=>aw [AA 31 (eJ.ixZ c),AA 32 (eJ.ptZ GN c),hf 33 (nH.fo (E6 gl m))]<|cN 111101221021110 (sf [] [(8,iG k),(9,iG (ah l))]) [hc (el s3.1),hc (ac.imm s3.1)] (ρ:=[(0,0),(1,1)]) (kd:=[(1,.row)])<|cC 111101221021110 (λa=>sf [8,9] [(47,bG a)]) (λa=>eH [47] (ak λr d=>ak λe n=>aw [AA 51 (ac.ixZ d),AA 52 (ac.ptZ aW d),dg 54 ac n]<|cj j [hc (el e),hc (ac.imm e)] (ρ:=[(0,0),(1,3)]) (kd:=[(1,.row)]))<|cj j [hc (el s3.1),hc (ac.imm s3.1)] (ρ:=[(0,0),(1,1)]) (kd:=[(1,.row)])) λa f=>aF 36 (ak λs h=>aw [AA 42 (eJ.ixZ h),AA 44 (eJ.fdZ ZZ 9 h)]<|aA c0 f [hc (el s3.1),hc (ac.imm s3.1)] (ρ:=[(0,0),(1,1)]) (kd:=[(1,.row)]))<|aA c0 f [hc (el s3.1),hc (ac.imm s3.1)] (ρ:=[(0,0),(1,1)]) (kd:=[(1,.row)]))<|aA c1 k6 [hc (el s3.1),hc (ac.imm s3.1)] (ρ:=[(0,1)]) (kd:=[(0,.row)])
def N8(g:A7)(commit:Ab):Option Ly:=
 (fC g commit).bind λa=>bif a<0 then(some [])else((aS g.L a).bind λb=>(jm g b).bind λc=>some c)
theorem Vz{g commit}:LC prog gl (N8 g commit) 17 [.agg (aI g),.agg (aj commit)] 22 Jc:=
 gc func17 λK=>ak λb e2=>aw [hf 8 (dX gl e2)]<|aF 10 (mr c0 K (nH.imm _))<|ak λd e5=>ak λa e7=>aw [AA 15 (eJ.ixZ e5),AA 16 (eJ.ptZ GN e5),hz 17 [] (SC (c:=2) aH (E6 gl e7) (eB aH) (nH.imm a))]<|mr c0 K (nH.imm _)
end
theorem AeL(w:Fq g)(hnd:g.IDs.Nodup)(hi:∀x∈l,c8 x):T (Ue g l) λv=>GJ g v/\v.Nodup:=by
 have nL:=w.nL;have nI:=w.nI;unfold Ue;refine .bind (T.mono (Q:=λb:Bool=>b=false->0<g.L.length) (by grind [T.some,ah]) λb hb=> .ite (λ_=> .bind (by grind [T.mono,Cz,T.some,GJ,List.Perm.length_eq])) λh=>?_);have hp:=hb h;refine .bind (T.mono (T.loop (Q:=λr:Bc=>r.length<=10) (λs=>0<=s.2/\s.2<=4/\(s.1.length:Int)<=s.2) (λs=>(5-s.2).toNat) (by grind) (by grind) ?_) λv hv=> .bind (by grind [T.mono,yf,T.some]));rintro⟨a,i⟩ ⟨c,i1,d⟩;simp only at c i1 d;unfold SH;refine .bind (T.mono (Q:=λb:Bool=>b=true->i<l.length/\i<4) (.dec (λh1=> .some λe=>⟨h1,DP e⟩) (by grind [T.some])) λb hb=> .ite (λe=>?_) λ_=> .some (show a.length<=10 by omega));obtain⟨b1,b2⟩:=hb e;have hw:wI (i+1)=i+1:=by grind [bM]
 refine .bind (.ixl c b1 λy _ hy=> .bind ((eX (hi y hy) (by unfold ah;omega)).mono λv hv=> .bind (.ixl hv.1 hv.2 λz _ _=> .bind (.app (by grind) (.some ⟨(by grind),?_⟩)))));all_goals grind
section
variable {g:A7} {m:JJ} {N:JD} (P:Pg g m N) (h14:g.L.length<=14) (hkn:∀(k:Nat) (o:Bp),g.L[k]?=some o->Kn o)
include P h14 hkn
theorem Aa8(x:Ab):ba prog fI 49 [.ptr (Ag ⟨g.Cards,m,N⟩) 0,.agg (aJ ((BX g m N).o x))] (aE Jc (Lv g ((BX g m N).o x)))/\Ud x.By (Lv g ((BX g m N).o x))/\(x∉g.IDs->Lv g ((BX g m N).o x)=[])/\N8 g x=some (Lv g ((BX g m N).o x)):=by
 have w:=P.w;have nI:=w.nI;have nL:=w.nL;by_cases hx:x∈g.IDs
 .obtain⟨i,o,e1,e2,e3,_,so,a⟩:=w.place (lj.2 hx);obtain⟨h1,h2,h3,_⟩:=AeK P h14 so (hkn i o e3) (by have:=a.kind;omega);rw[(P.op e3 e2).2];rw[<-(Ns so (w.ids i o x e3 e2)).1] at h3;refine⟨h1,h3,λh=>absurd hx h,?_⟩;unfold N8;rw[dC aa,aL,e1,show decide ((i:Int)<0)=false from C6 aa,A9,au,e3,aL,h2];rfl
 .have e:(BX g m N).o x=ip:=by unfold Gi.o;rw[Af0 w P.p,jv.2 hx];rfl
  have hp:gO g x<0:=Int.not_le.1 λh=>hx (lj.1 h);have e2:Lv g ip=[]:=rfl;rw[e,e2];refine⟨Ac3 (b:=false) (l:=[]) (ss:=[]) (AeJ (k:=0) B5).2 (λh=>by cases h) (λh=>by cases h),ZX,λ_=>rfl,?_⟩;unfold N8;rw[dC aa,aL,C3 hp,ax]
theorem Aic(x:Ab):ba prog fI 16 [.ptr (Ag ⟨g.Cards,m,N⟩) 0,.agg (aj x)] (aE Jc (Lv g ((BX g m N).o x))):=by
 obtain⟨h1,_,h2,_⟩:=Aa8 P h14 hkn x;have h:=Ae7 (AcZ (Abi P.w P.p)) h1;by_cases hx:x∈g.IDs
 .obtain⟨i,o,_,e2,e3,_⟩:=P.w.place (lj.2 hx);rw[show((BX g m N).op x).isSome=true by rw[(P.op e3 e2).1];rfl] at h;exact h
 .rw[show((BX g m N).op x).isSome=false by rw[Af0 P.w P.p,jv.2 hx];rfl] at h;rw[h2 hx];exact h
include P h14 hkn
def XI(g:A7)(I:Gi)(x:Ab):Bool:=Abl (Lv g (I.o x)).length (I.o x)
theorem Aa9{v:Bc}(hv:GJ g v)(a:v.Nodup):∃row:Bc,ba prog fI 13 [.ptr (Ag ⟨g.Cards,m,N⟩) 0,aE aj v] (aE aj (row.filter (XI g (BX g m N))))/\R1 g v=some (row.filter (XI g (BX g m N)))/\row.Perm v/\(row.Pairwise λx y=>M4 (BX g m N) x y<0)/\row.length<=14:=by
 have w:=P.w;have nI:=w.nI;have hI:=AcZ (Abi w P.p);have hv14:v.length<=14:=by have:=EC a hv.sub;omega
 obtain⟨row,j,b,f⟩:=UA w P.p aa a hv.sub;have hrl:row.length<=14:=by rw[b.length_eq];exact hv14
 have hO:ba prog fI 47 [.ptr (Ag ⟨g.Cards,m,N⟩) 0,aE aj v] (aE aj row):=by obtain⟨r,e,l,q⟩:=Sf (Uy (BX g m N)) a hv14;have:r=row:=TC (Uy (BX g m N)).tr Px (l.trans b.symm) q f;grind [Xg,Abi,Pg.p,List.Perm.length_eq]
 refine⟨row,Aca hI (by grind [Aa8]) hO aa,?_,b,f,hrl⟩;unfold R1;rw[j,aL];refine T.eq (.bind (T.mono (T.forA (Q:=λr:Bc=>r=row.filter (XI g (BX g m N))) row.length (λk acc=>acc=(row.take k).filter (XI g (BX g m N))) aa aC (λk acc hk hj=>?_) λacc hj=>?_) λ_ h=> .some h))
 .obtain⟨x,hx⟩:∃x,row[k]?=some x:=by simp_all
  obtain⟨i,o,e1,e2,e3,_,so,s⟩:=w.place (lj.2 (hv.sub x (b.mem_iff.1 (bO hx))));obtain⟨_,hS,hl,_⟩:=AeK P h14 so (hkn i o e3) (by grind [Fp]);have hl:=hl.n;have ha:acc.length<=14:=by grind
  unfold M1;dsimp only;rw[eA hk,ax,au,hx,aL,dC aa,aL,e1,show decide ((i:Int)<0)=false from(by simp_all),A9,au,e3,aL,hS,aL];have hc:(bif 0<ah (Lv g o)then(((some o:Option Bp)).bind λd=>some (decide (ah (Lv g o)=ah d.Path)))else(some false))=some (XI g (BX g m N) x):=by unfold XI;rw[(P.op e3 e2).2];grind [Abl,ah]
  rw[hc,aL,Jn,hx,Option.toList_some,Q1];cases c:XI g (BX g m N) x with
  |true=>rw[ax,aL,show List.filter (XI g (BX g m N)) [x]=[x] by simp[c]];exact .bind (.app (by grind) (.some ⟨aq aa,by rw[hj]⟩))
  |false=>rw[A9,show List.filter (XI g (BX g m N)) [x]=[] by simp[c],MT];exact .some ⟨aq aa,hj⟩
 .unfold M1;dsimp only;rw[eF,A9];exact .some (show acc=_ by grind)
end
section
variable {gl:CD}
end
structure IH where
 Set:Be
 Pub:Nat
 By:Ab
 N:Int
def DQ(x:IH):Bn:=[aE cZ x.Set,uG x.Pub,iG x.By.By,iG x.By.Seq,uG x.By.Sum,iG x.N]
def C7:IH:=⟨[],0,⟨0,0,0⟩,0⟩
def Nn(set:Be)(d:Int):Bool:=decide (d∈set)
def SI(cs:Bc)(set:Be):Bc:=cs.filter λx=>Nn set x.By
def R2(b a:Be):Bool:=bif (a.length:Int)=(b.length:Int)then !(a.any λd=> !Nn b d)else false
def aac(I:Gi)(x y:Ab):Bool:=bif !decide (y=x)then !I.bef y x else false
def aad(I:Gi)(x:Ab)(n:Nat):Nat:=(((I.o x).Path[n]?).getD ⟨0,[]⟩).Pub
def M2(I:Gi)(ss:Ab->Ly)(cs:Bc)(set:Be):Option IH:=match(SI cs set).getLast? with
 |none=>match set with
  |[d]=>(I.card d).map λc=>⟨[d],c.Lead,⟨0,0,0⟩,0⟩
  |_=>none
 |some x=>if set.length=1 then some ⟨set,aad I x 0,x,0⟩else if(SI cs set).any (aac I x)=true then none else match(ss x).findIdx? (R2 set) with
  |none=>none
  |some n=>some ⟨set,aad I x n,x,(n:Int)⟩
theorem AmT{s:List α}{f:α->Fo}{p:α->Bool}(hn:s.length<2305843009213693952)(hf:∀x∈s,f x=some (p x)):UD s f=some (match s.findIdx? p with|some j=>(j:Int)|none=> -1):=by
 obtain⟨r,h1,h2⟩:=Ahf (s:=s) p hn (step:=Hv s f) (by grind [Hv,Dk,Bg]) (by grind [Hv,D4]);unfold UD;rw[h1];rcases h2 with⟨rfl,h2⟩|⟨j,rfl,_,h2⟩
 .rw[show s.findIdx? p=none from(by grind)];rfl
 .rw[h2];rfl
section
variable {gl:CD}
theorem OQ:Aa0 prog gl Jc (λx=>[aE cZ x]) 120:=λs f fi_f fa_f fc_f a=>
 cy func120 λK=>Nk 1101 (λg=>sg [] []) (λs1=>sf [] [(7,iG (ah s)),(8,iG s1)]) [hc (a.im)] K (λg=>rv K) λs1 k5 h k6=>aF 9 (Cd 14 nH.ixZ 15 (nH.p1Y Vs) λd=>ak λi e=>kV (λb=>aw [hz 16 [] (cS (a.cs (c:=0) e (aY (aG 20 (aE cZ d) aH) (bf))) b)]<|aP c3 k6 []) λb=>aw [hz 16 [] (cS (a.cs (c:=0) e (aY (aG 20 (aE cZ d) aH) (bf))) b)]<|cj k5 [hc (a.im)])<|aA c2 h []
theorem Aid{set:Be}(hs:set.length<=1000000)(d:Int):ba prog gl 77 [aE cZ set,iG d] (bG (Nn set d)):=Dq gl (by grind [SP,Nn])
theorem AeO{a b:Be}(ha:a.length<=1000000)(hb:b.length<=1000000):ba prog gl 122 [aE cZ a,aE cZ b] (bG (R2 b a)):=by
 have h1:∀d,ba prog gl 215 [iG d,.ptr [aE cZ b] 0] (bG (!Nn b d)):=λd=>by refine Gh func215 ?_;exact Ar [hf 6 (Aid (gl:=gl) hb d)] []
 have h2:=ml gl (fi_f:=215) (fa_f:=[]) (fc_f:=[.ptr [aE cZ b] 0]) (f:=λd=>some (!Nn b d)) ⟨aH,bf,aY (aG 20 (.ptr [aE cZ b] 0) aH) bf,λf r e=>by cases e;exact h1 f⟩ (Abt (s:=a) aa λ_ _=>rfl);refine Gh func122 ?_;unfold R2;cases c:decide ((a.length:Int)=(b.length:Int)) with
 |false=>exact Ar [hr 9 c] []
 |true=>exact Ar [hr 9 c,hq 13 [aE cZ a,.clo (.func 215) [] [.ptr [aE cZ b] 0]] [] h2] []
section
variable {gg:Aj} {I:Gi} (hI:Q9 gl gg I) {ss:Ab->Ly} (hS:∀x,ba prog gl 16 [.ptr (Ag gg) 0,.agg (aj x)] (aE Jc (ss x))) {cs:Bc} {set:Be} (hn:cs.length<=1000) (hl:set.length<=1000000) (hp:∀x∈cs,0<(ss x).length/\(ss x).length=(I.o x).Path.length/\(ss x).length<=3000/\∀s∈ss x,s.length<=3000)
include hI hS hn hl hp
theorem Ai0:∃s,ba prog gl 57 [.ptr (Ag gg) 0,aE aj cs,aE cZ set] (.tup [.agg (DQ s),bG (M2 I ss cs set).isSome])/\∀q,M2 I ss cs set=some q->s=q:=by
 have h1:∀x,ba prog gl 116 [.agg (aj x),.ptr [aE cZ set] 0] (bG (Nn set x.By)):=λx=>by refine Gh func116 ?_;exact Ar [hf 7 (Aid (gl:=gl) hl x.By)] []
 have hF:iV prog gl 46 [aE aj cs,.clo (.func 116) [] [.ptr [aE cZ set] 0]] 25 (SI cs set).length ((SI cs set).flatMap aj):=Abk ⟨aH,bf,aY (aG 20 (.ptr [aE cZ set] 0) aH) bf,(by grind)⟩ aa;have hK:∀l:Be,l.length<=1000000->ba prog gl 117 [aE cZ l] (aE cZ l):=λl hl=>rZ.fo (uK gl (T.eq (.app (by grind) rfl)));have hm:∀x∈SI cs set,x∈cs/\Nn set x.By=true:=λx hx=>HU.1 hx;have hol:(SI cs set).length<=1000:=MI (NS ..) hn;unfold M2;generalize SI cs set=own at hF hm hol⊢;rcases List.eq_nil_or_concat own with rfl|⟨q,x,rfl⟩
 .match set with
  |[]=>exact⟨C7,Gh func57 (Ar [ho 17 [aE aj cs,.clo (.func 116) [] [.ptr [aE cZ []] 0]] [] hF (kF _)] []),(by grind)⟩
  |[d]=>
   refine⟨⟨[d],((I.card d).getD Te).Lead,⟨0,0,0⟩,0⟩,?_,λq e=>?_⟩
   .have e:((I.card d).map λc=>(⟨[d],c.Lead,⟨0,0,0⟩,0⟩:IH)).isSome=(I.card d).isSome:=by grind
    show ba _ _ _ _ (.tup [.agg (DQ _),bG ((I.card d).map λc=>(⟨[d],c.Lead,⟨0,0,0⟩,0⟩:IH)).isSome]);rw[e];refine Gh func57 ?_;exact Ar [ho 17 [aE aj cs,.clo (.func 116) [] [.ptr [aE cZ [d]] 0]] [] hF (kF _),hf 40 (hI.card d),hf 44 (hK [d] aC)] []
   .cases h:I.card d<;>grind
  |a::b::r=>exact⟨C7,Gh func57 (Ar [ho 17 [aE aj cs,.clo (.func 116) [] [.ptr [aE cZ (a::b::r)] 0]] [] hF (kF _),hr 20 (show decide (((a::b::r).length:Int)=0)=false from C6 cq),hr 24 (show decide ((1:Int)<((a::b::r).length:Int))=true from C3 cq)] []),λq e=>by cases e⟩
 .rw[List.concat_eq_append] at*;obtain⟨hx,hi⟩:=hm x aC;obtain⟨g,i,j,k⟩:=hp x hx;have hs:0<set.length:=by
   cases set with
   |nil=>exact absurd (DP hi) (KZ)
   |cons a r=>simp
  have ex:aS (q++[x]) (q.length:Int)=some x:=Bg aC;have e52:lD .sub (iG (((q++[x]).length:Nat):Int)) (iG 1)=some (iG (q.length:Int)):=by rw[Sq] at hol⊢;grind [dec]
  have ep:∀n,n<(ss x).length->∃y:E1,aS (I.o x).Path (n:Int)=some y/\aad I x n=y.Pub:=λn h=>by
   obtain⟨y,hy⟩:∃y,(I.o x).Path[n]?=some y:=by simp_all
   grind [Bg,aad]
  have st:∀s b,Gp prog Tryz.f57 (tH prog Tryz.f57 (.tup [.agg (DQ s),bG b])) [] false [1,1,1,1,1,0] (s0 87 gl [(3,.ptr [.ptr (Ag gg) 0] 0),(5,.ptr [aE cZ set] 0),(6,.ref 0 0),(8,aE aj (q++[x])),(11,.ptr (aj x) 0)] [ob 0 48 (bF [0] (DQ C7))] 1 0)->ba prog gl 57 [.ptr (Ag gg) 0,aE aj cs,aE cZ set] (.tup [.agg (DQ s),bG b]):=λs b h=>by
   refine Gh func57 ?_;have hA:=ho 17 [aE aj cs,.clo (.func 116) [] [.ptr [aE cZ set] 0]] [] hF (kF _);have e1:decide ((set.length:Int)=0)=false:=C6 aa;have e2:decide (((q++[x]).length:Int)=0)=false:=by grind
   cases hb:decide ((1:Int)<(set.length:Int))<;>exact pO 1111110 _ [ho 17 [aE aj cs,.clo (.func 116) [] [.ptr [aE cZ set] 0]] [] hF (kF _),hr 20 e1,hr 24 hb,hr 28 e2,hr 34 e2,hbb 52 e52,AA 53 (ac.ixrZ 3 ex),AA 54 (ac.pt0Z aW ex)] [hc (eB (gs:=[.ptr (Ag gg) 0]) aH),hc (eB (gs:=[aE cZ set]) aH),hc (ac.al (q++[x])),hc (eB (gs:=aj x) aH)] h [] [(0,2)]
  have ho:=hI.op x;have h2:∀y,ba prog gl 119 [.agg (aj y),.ptr (aj x) 0,.ptr [.ptr (Ag gg) 0] 0] (bG (aac I x y)):=λy=>by
   refine Gh func119 ?_;have hb:=hI.bef y x;unfold aac;cases c:decide (y=x) with
   |false=>exact Ar [hV 7 (dy y x (r:=true) (by rw[c];rfl)),hf 12 hb] []
   |true=>exact Ar [hV 7 (dy y x (r:=false) (by rw[c];rfl))] []
  have h3:=kP gl (fi_f:=119) (fa_f:=[]) (fc_f:=[.ptr (aj x) 0,.ptr [.ptr (Ag gg) 0] 0]) (f:=λy=>some (aac I x y)) ⟨aH,bf,aY (aG 20 (.ptr (aj x) 0) aH) (aY (aG 20 (.ptr [.ptr (Ag gg) 0] 0) aH) bf),λy r e=>by cases e;exact h2 y⟩ (Abt (s:=q++[x]) aa λ_ _=>rfl);have h4:∀s,s.length<=1000000->ba prog gl 121 [aE cZ s,.ptr [aE cZ set] 0] (bG (R2 set s)):=λs hs=>by refine Gh func121 ?_;exact Ar [hf 6 (AeO (gl:=gl) hs hl)] []
  have h5:=OQ (gl:=gl) (fi_f:=121) (fa_f:=[]) (fc_f:=[.ptr [aE cZ set] 0]) (f:=λs=>if s.length<=1000000 then some (R2 set s)else none) ⟨aH,bf,aY (aG 20 (.ptr [aE cZ set] 0) aH) bf,(by grind)⟩ (AmT (s:=ss x) (p:=R2 set) aa (by grind));have hk:=hK set hl;have hS:=hS x;rw[show(q++[x]).getLast?=some x by simp];dsimp only;by_cases hb:set.length=1
  .rw[Bx hb];obtain⟨y,hy,hp⟩:=ep 0 g;rw[hp];refine⟨⟨set,y.Pub,x,0⟩,st _ _ ?_,(by grind)⟩;exact Ar [hr 57 (show decide ((1:Int)<(set.length:Int))=false from C6 aa),hf 73 ho,hf 77 hk,AA 81 (bZ.ixZ hy),AA 83 (bZ.fdZ tW 0 hy)] []
  .rw[BA hb];have hb:decide ((1:Int)<(set.length:Int))=true:=C3 aa;generalize (q++[x]).any (aac I x)=t at h3⊢;cases t with
   |true=>rw[Bx rfl];exact⟨C7,st _ _ (Ar [hr 57 hb,hf 60 h3] []),(by grind)⟩
   |false=>
    rw[BA aC];cases hd:(ss x).findIdx? (R2 set) with
    |none=>rw[hd] at h5;exact⟨C7,st _ _ (Ar [hr 57 hb,hf 60 h3,hf 64 hS,hf 66 h5] []),(by grind)⟩
    |some n=>rw[hd] at h5;obtain⟨y,hy,hp⟩:=ep n (by grind [List.findIdx?_eq_some_iff_getElem]);dsimp only;rw[hp];refine⟨⟨set,y.Pub,x,(n:Int)⟩,st _ _ ?_,(by grind)⟩;exact Ar [hr 57 hb,hf 60 h3,hf 64 hS,hf 66 h5,hr 68 (show decide ((n:Int)<0)=false from C6 aa),hf 73 ho,hf 77 hk,AA 81 (bZ.ixZ hy),AA 83 (bZ.fdZ tW 0 hy)] []
theorem Ai1(a:ba prog gl 13 [.ptr (Ag gg) 0,aE aj ids] (aE aj cs)):ba prog gl 21 [.ptr (Ag gg) 0,aE aj ids,aE cZ set] (.tup [.agg (DQ ((M2 I ss cs set).getD C7)),bG (M2 I ss cs set).isSome]):=by
 obtain⟨s,h1,h2⟩:=Ai0 hI hS hn hl hp;refine Gh func21 ?_;cases e:M2 I ss cs set with
 |none=>rw[e] at h1;exact Ar [hf 14 a,hf 16 h1] []
 |some q=>rw[e] at h1;rw[h2 q e] at h1;exact Ar [hf 14 a,hf 16 h1] []
end
end
theorem AgM{N:JD}{j:Int}(h:j∈u):lvN N j<lvF N u:=by
 have key:∀(u:Be) (a:Int),a<=u.foldl (λa j=>EY a (lvN N j+1)) a/\∀j∈u,lvN N j+1<=u.foldl (λa j=>EY a (lvN N j+1)) a:=by intro u;induction u<;>grind [EY]
 have:=(key u 1).2 j h;unfold lvF;omega
section
variable {g:A7} {m:JJ} {N:JD} (P:Pg g m N)
include P
theorem AeP:∀(d i k:Nat) {y z:CO},i-k<=d->Q2 g i k=true->N[i]?=some y->N[k]?=some z->z.level<y.level
 |0,i,k,y,z,hd,h,_,_=>absurd (P.w.inlt i k h).1 aa
 |d+1,i,k,y,z,hd,h,hy,hz=>by
  have w:=P.w;have one:∀{i:Nat} {u:Be} {y:CO},N[i]?=some y->g.Up[i]?=some u->(k:Int)∈u->z.level<y.level:=λ{i u y} h1 h2 h3=>by rw[P.p.lv i y u h1 h2];have:=AgM (N:=N) h3;grind [lvN]
  obtain⟨u,hu,h1|⟨j,v,h1,h2,h3⟩⟩:=w.la i k h
  .grind
  .have hj:=(w.inlt i j h1);obtain⟨q,hq⟩:∃q,N[j]?=some q:=by grind
   have hk:=(w.up j v h2).2 _ h3;exact Int.lt_trans (one hq h2 h3) (AeP d i j aa h1 hy hq)
theorem AgN(h:(BX g m N).bef x y=true):M4 (BX g m N) x y<0:=by
 rw[Acy P.w P.p] at h;split at h
 .rename_i i j hi hj;obtain⟨hi,_⟩:=gb hi;obtain⟨hj,_⟩:=gb hj;obtain⟨a,a1,a2,_⟩:=VB P.w P.p hi;obtain⟨b,b1,b2,_⟩:=VB P.w P.p hj;have:=AeP P _ _ _ (Dx _) h b1 a1;exact SN.2 (by grind)
 .cases h
end
section
variable {g:A7} {m:JJ} {N:JD} (P:Pg g m N) (h14:g.L.length<=14) (hkn:∀(k:Nat) (o:Bp),g.L[k]?=some o->Kn o)
include P h14
theorem Ai2:∃al,ba prog fI 24 [.ptr (Ag ⟨g.Cards,m,N⟩) 0] (aE aj al)/\al.Perm g.IDs/\GJ g al/\al.Nodup:=by
 have w:=P.w;have nI:=w.nI;have pl:=P.p.len;have e:UT (λ_=>true) N=g.IDs:=by
  refine List.ext_getElem? λi=>?_;unfold UT;rw[List.filter_eq_self.2 aC,MY,List.getElem?_zipIdx];cases h:N[i]? with
  |none=>rw[List.getElem?_eq_none_iff] at h;exact(List.getElem?_eq_none aa).symm
  |some y=>exact(P.p.nd i y h).2.1.symm
 obtain⟨r,h1,h2,_⟩:=Sf PJ (l:=g.IDs) w.nd aa;refine⟨r,AgR (gg:=⟨g.Cards,m,N⟩) (by show N.length<=14;omega) (by show OS GK (UT _ N)=_;rw[e];exact h1) (by show r.length=(UT _ N).length;rw[e];exact h2.length_eq),h2,⟨λx hx=>h2.mem_iff.1 hx,by rw[h2.length_eq];omega⟩,h2.nodup_iff.2 w.nd⟩
include hkn
theorem AeQ(h:XI g (BX g m N) x=true):∃(i:Nat) (o:Bp),g.IDs[i]?=some x/\g.L[i]?=some o/\(BX g m N).o x=o/\(BX g m N).op x=some o/\0<(Lv g o).length/\(Lv g o).length=o.Path.length/\Ud x.By (Lv g o)/\Lv g o=tpL o.By (AdA g o)/\x.By=o.By/\Bf o/\Fp o:=by
 obtain⟨_,h2,h3,_⟩:=Aa8 P h14 hkn x;unfold XI Abl at h;have hp:0<(Lv g ((BX g m N).o x)).length:=by
  cases c:decide ((0:Int)<((Lv g ((BX g m N).o x)).length:Int)) with
  |true=>have:=DP c;omega
  |false=>rw[c] at h;cases h
 have hx:x∈g.IDs:=by
  by_cases hx:x∈g.IDs
  .exact hx
  .rw[h3 hx] at hp;cases hp
 obtain⟨i,o,_,e2,e3,_,so,d⟩:=P.w.place (lj.2 hx);obtain⟨b,a⟩:=P.op e3 e2;rw[a] at h h2 hp;rw[C3 aa,ax] at h;refine⟨i,o,e2,e3,a,b,hp,by have:=DP h;unfold ah at this;omega,h2,?_,(Ns so (P.w.ids i o x e3 e2)).1,so,d⟩;unfold Lv at hp⊢;cases c:AgI o.Kind with
 |true=>rfl
 |false=>rw[c] at hp;cases hp
theorem aae(hr:row.length<=14)(a:ba prog fI 13 [.ptr (Ag ⟨g.Cards,m,N⟩) 0,aE aj ids] (aE aj (row.filter (XI g (BX g m N))))){set:Be}(hl:set.length<=1000000):ba prog fI 21 [.ptr (Ag ⟨g.Cards,m,N⟩) 0,aE aj ids,aE cZ set] (.tup [.agg (DQ ((M2 (BX g m N) (λx=>Lv g ((BX g m N).o x)) (row.filter (XI g (BX g m N))) set).getD C7)),bG (M2 (BX g m N) (λx=>Lv g ((BX g m N).o x)) (row.filter (XI g (BX g m N))) set).isSome]):=
 Ai1 (AcZ (Abi P.w P.p)) (λx=>Aic P h14 hkn x) (MI (NS ..) aa) hl (λx hx=>by obtain⟨i,o,_,_,e,_,h1,h2,h3,_⟩:=AeQ P h14 hkn (HU.1 hx).2;rw[e];exact⟨h1,h2,h3.n,λs hs=>(h3.m s hs).2.1⟩) a
end
theorem AgO(hl:l.length<=9223372036854775807)(hi:∀x∈l,c8 x):∃(r:A7) (m:JJ) (N:JD),Pg r m N/\r.L.length<=14/\(∀(k:Nat) (o:Bp),r.L[k]?=some o->Kn o)/\Lu g0 r/\r.Cards=u7/\jg prog fI 10 [aE cZ l] [] 0 (.tup [.ref 0 0,.agg (aI r)]) [(0,oG r.Cards N.length 2),(1,oM m),(2,zQ N)] 3:=by
 obtain⟨r,b,N,c,hM⟩:=Xe hl hi;have a:=Ui c hM;have pl:=hM.pg.len;have eN:oN3 N r.L.length=zQ N:=by grind
 rw[eN,<-pl] at a;exact⟨r,b N.length,N,by rw[pl];exact Ak6 hM,hM.n14,λk o h=>(Ak7 hM h).2,hM.gr,hM.gC,a⟩
def LQ(l:Be)(s1:Be×Int):Option ((Be×Int)⊕Be):=
 (bif s1.2<ah l then(some (decide (s1.2<6)))else(some false)).bind λb=>bif b then((aS l s1.2).bind λc=>(iq c 7).bind λa=>(fb s1.1 (wI (1+a))).bind λd=>bif(!d)then((aT 8 s1.1 ([wI (1+a)]:Be)).bind λe=>some (.inl (e,wI (s1.2+1))))else(some (.inl (s1.1,wI (s1.2+1)))))else(some (.inr s1.1))
def Lm(l:Be):Option Be:=
 (AB (LQ l) ([],0)).bind λa=>some a
theorem R3{l}:LC prog gl (Lm l) 20 [aE cZ l] 3 cZ:=
 gc func20 λK=>HC 11101 (λc=>sp [] [(3,.rsl 0 0 c.length)] [ob 0 3 (c.flatMap cZ)] 1) (λs1=>so [] [(3,.rsl 0 0 s1.1.length),(4,iG s1.2)] [ob 0 3 (s1.1.flatMap cZ)] 1) [hc (rZ.imm [])] (vs:=[3]) (ρ:=[(0,0)]) (kd:=[(0,.row)]) (λc=>mr c0 K (rZ.imm _)) λs1 k5 g=>Nj 111012200 (sf [] []) (DE rZ s1.1) 13 (ak λh a=>Bz 20 (iL gl) λd=>ak λi e=>aw [AA 18 (rZ.ixZ a),AA 19 (rZ.p1Z tZ a),hq 24 [aE cZ s1.1,iG (wI (1+d))] [hc (rZ.al s1.1)] (C5 gl e)]<|aF 25 (FI (dg 29 rZ) λf=>cj k5 (DE rZ f) (ρ:=[(0,2)]) (kd:=[(0,.row)]))<|cj k5 (DE rZ s1.1) (ρ:=[(0,0)]) (kd:=[(0,.row)])) (aA c1 g (DE rZ s1.1) (ρ:=[(0,0)]) (kd:=[(0,.row)])) (ρ:=[(0,0)]) (kd:=[(0,.row)]) λb=>aF 9 (aA c0 b (DE rZ s1.1) (ρ:=[(0,0)]) (kd:=[(0,.row)]))<|aA c0 b (DE rZ s1.1) (ρ:=[(0,0)]) (kd:=[(0,.row)])
theorem Ai3(hi:∀x∈l,c8 x):T (Lm l) λv=>v.length<=6:=by
 unfold Lm;refine .bind (T.mono (T.loop (Q:=λr:Be=>r.length<=6) (λs=>0<=s.2/\s.2<=6/\(s.1.length:Int)<=s.2) (λs=>(7-s.2).toNat) ⟨aC,aC,aC⟩ (by show(7-(0:Int)).toNat<_;omega) ?_) λv hv=> .some hv);rintro⟨a,i⟩ ⟨c,i1,d⟩;simp only at c i1 d;unfold LQ;refine .bind (T.mono (Q:=λb:Bool=>b=true->i<l.length/\i<6) (.dec (λh1=> .some λe=>⟨h1,DP e⟩) λ_=> .some λe=>by cases e) λb hb=> .ite (λe=>?_) λ_=> .some (show a.length<=6 by omega));obtain⟨b1,b2⟩:=hb e;have hw:wI (i+1)=i+1:=bM aa aa;refine .bind (.ixl c b1 λy _ hy=> .bind ((eX (hi y hy) aa).mono λv hv=> .bind (.of (cX (show a.length<=1000000 by omega) _) (.ite (λ_=> .bind (.app (by simp only[List.length_singleton];omega) (.some ⟨⟨?_,?_,?_⟩,?_⟩))) λ_=> .some ⟨⟨?_,?_,?_⟩,?_⟩))));all_goals first
  |(show 0<=wI (i+1);omega)
  |(show wI (i+1)<=6;omega)
  |(show((a++[_]).length:Int)<=wI (i+1);rw[Sq,List.length_singleton];omega)
  |(show(a.length:Int)<=wI (i+1);omega)
  |(show(7-wI (i+1)).toNat<(7-i).toNat;omega)
theorem aaj:AH prog 53 48 6 DQ:=⟨aH,aH,B5,λ_=>rfl,λ_=>rfl⟩
theorem AeS{ss:Ab->Ly}{s:Be}{q:IH}(h:M2 I ss cs s=some q):q.Set=s:=by
 unfold M2 at h;split at h
 .split at h
  .obtain⟨c,_,rfl⟩:=DH.1 h;rfl
  .cases h
 .split at h
  .cases h;rfl
  .split at h
   .cases h
   .split at h<;>cases h;rfl
section
set_option maxHeartbeats 2000000
def PO(g:A7)(a:Ab)(b:Ab):Fo:=
 (fC g a).bind λe=>(fC g b).bind λf=>(bif 0<=e then(bif 0<=f then((aS g.In (EY f 0)).bind λc=>(aS c (EY e 0)).bind λd=>some d)else(some false))else(some false)).bind λh=>some h
theorem aah{g a b}:DF prog gl (PO g a b) 59 [.agg (aI g),.agg (aj a),.agg (aj b)] bG:=
 cy func59 λK=>Bz 11 (dX gl) λh=>Bz 14 (dX gl) λi=>cN 11110 (sp [] [(3,.ref 0 0),(7,iG h),(8,iG i)] [ob 0 33 (aI g)] 1) []<|cC 11110 (λe=>sk [] [(6,bG e)] [] 0) (λe=>rv K) λe f=>aF 16 (aF 20 (ak λj c=>ak λk d=>aw [AA 26 (zV.ixZ c),AA 27 (zV.p1Z Vt c),AA 30 (rO.ixZ d),AA 31 (rO.p1Z tO d)]<|rx f)<|rx f)<|rx f
def Pv(a:Be)(b:Be)(s1:Int):Option ((Int)⊕(Unit⊕Bool)):=
 bif s1<ah a then((aS a s1).bind λc=>(fb b c).bind λd=>bif(!d)then(some (.inr (.inr false)))else(some (.inl (wI (s1+1)))))else(some (.inr (.inl ())))
def SJ(a:Be)(b:Be):Fo:=
 (AB (Pv a b) 0).bind λc=>ma c (λd=>some (decide (ah a=ah b))) (λq=>some q)
theorem Uw{a b}:DF prog gl (SJ a b) 60 [aE cZ a,aE cZ b] bG:=
 cy func60 λK=>Nk 1101 (λd=>sf [] []) (λs1=>sf [] [(5,iG s1)]) [] K (λd=>rv K) λs1 k5 e k6=>aF 9 (ak λf c=>Bz 17 (C5 gl) λg=>aw [AA 15 (rZ.ixZ c),AA 16 (rZ.p1Z tZ c)]<|aF 18 (aP c3 k6 [])<|rb k5)<|aA c2 e []
def Mh(g:A7)(set:Be)(l:Bc)(b:IH×Int)(c:Ly)(a:IH×Int):Option ((IH×Int)⊕(IH⊕(IH×Bool))):=
 bif a.2<ah c then((aS c a.2).bind λd=>(SJ d set).bind λe=>bif e then((aS l b.2).bind λf=>(fC g f).bind λh=>(aS g.L h).bind λi=>(aS i.Path a.2).bind λj=>(aS l b.2).bind λk=>some (.inr (.inr (⟨set,j.Pub,k,a.2⟩,true))))else(some (.inl (a.1,wI (a.2+1)))))else(some (.inr (.inl a.1)))
def KI(g:A7)(c:Bc)(b:IH×Int)(a:Bool×Int):Option ((Bool×Int)⊕(Bool)):=
 bif a.2<ah c then((bif a.1 then(bif a.2=b.2 then(some true)else((aS c a.2).bind λd=>(aS c b.2).bind λe=>(PO g d e).bind λf=>some f))else(some false)).bind λh=>some (.inl (h,wI (a.2+1))))else(some (.inr a.1))
def KJ(g:A7)(set:Be)(c:Bc)(a:IH×Int):Option ((IH×Int)⊕(IH⊕(IH×Bool))):=
 bif a.2<ah c then((AB (KI g c a) (true,0)).bind λd=>bif(!d)then(some (.inl (a.1,wI (a.2+1))))else((aS c a.2).bind λe=>(N8 g e).bind λf=>(AB (Mh g set c a f) (a.1,0)).bind λh=>ma h (λb=>some (.inl (b,wI (a.2+1)))) (λq=>some (.inr (.inr q)))))else(some (.inr (.inl a.1)))
def Mi(a:Bc)(set:Be)(s1:Bc×Int):Option ((Bc×Int)⊕Bc):=
 bif s1.2<ah a then((aS a s1.2).bind λb=>(fb set b.By).bind λc=>bif c then((aS a s1.2).bind λd=>(aT 24 s1.1 [d]).bind λe=>some (.inl (e,wI (s1.2+1))))else(some (.inl (s1.1,wI (s1.2+1)))))else(some (.inr s1.1))
def VA(g:A7)(a:Bc)(set:Be):Option (IH×Bool):=
 (AB (Mi a set) ([],0)).bind λd=>bif ah set=1 then(bif 0<ah d then((aS d (wI ((ah d)-1))).bind λb=>(fC g b).bind λe=>(aS g.L e).bind λf=>(aS f.Path 0).bind λh=>some (⟨set,h.Pub,b,0⟩,true))else((aS set 0).bind λi=>(vz g i).bind λc=>bif(!c.2)then(some (⟨[],0,⟨0,0,0⟩,0⟩,false))else(some (⟨set,c.1.Lead,⟨0,0,0⟩,0⟩,true))))else((AB (KJ g set d) (⟨[],0,⟨0,0,0⟩,0⟩,0)).bind λj=>ma j (λk=>some (⟨[],0,⟨0,0,0⟩,0⟩,false)) (λq=>some q))
theorem Abb{g commits set}:DF prog gl (VA g commits set) 22 [.agg (aI g),aE aj commits,aE cZ set] (λr=> .tup [.agg (DQ r.1),bG r.2]):=
 cy func22 λK=>HC 11101 (λP=>sp [2] [(3,.ref 0 0),(6,.ref 1 0),(8,aE aj P)] [ob 0 33 (aI g),ob 1 48 (bF [0] (DQ C7))] 2) (λs1=>so [0] [(3,.ref 0 0),(6,.ref 1 0),(8,.rsl 2 0 s1.1.length),(9,iG s1.2)] [ob 0 33 (aI g),ob 1 48 (bF [0] (DQ C7)),ob 2 25 (s1.1.flatMap aj)] 3) [hc (ac.imm [])] (vs:=[25]) (ρ:=rI 3) (kd:=[(2,.row)]) (λP=>aF 41 (aF 44 (ak λQ k=>Bz 56 (dX gl) λR=>ak λS l=>ak λU m=>aw [AA 49 (ac.ixZ k),AA 50 (ac.ptZ aW k),AA 57 (eJ.ixZ l),AA 59 (eJ.fdZ ZZ 9 l),AA 60 (bZ.ixZ m),AA 62 (bZ.fdZ tW 0 m)]<|rv K)<|ak λV n=>Bz 70 (AN gl) λW=>aw [AA 68 (rZ.ixZ n),AA 69 (rZ.p1Z tZ n)]<|aF 74 (rv K)<|rv K)<|Nk 1111101 (λa=>sk [] [(6,.ref 0 0)] [ob 0 48 (DQ a)] 1) (λc=>so [] [(13,iG c.2)] [ob 1 48 (DQ c.1)] 2) [] K (λa=>rv K) λc o D E=>aF 83 (HC 111110122102101 (λp=>sf [] [(14,bG p)]) (λd=>sf [] [(14,bG d.1),(15,iG d.2)]) [] (λp=>aF 111 (rb o)<|ak λX q=>ak λF H=>aw [AA 115 (ac.ixZ q),AA 116 (ac.ptZ aW q),hf 117 (nH.fo (Vz gl H))]<|Nk 11111012210211111 (λb=>so [14] [] [ob 1 48 (DQ b)] 2) (λe=>so [14] [(16,aE Jc F),(17,iG e.2)] [ob 1 48 (DQ e.1)] 2) [] E (λb=>rb o) λe I J L=>aF 121 (ak λY s=>ak λZ t=>aw [AA 126 (nH.ixZ s),AA 127 (nH.p1Z Vs s)]<|kV (λf=>ak λy64 u=>Bz 139 (dX gl) λv66=>ak λy68 v=>ak λy70 w=>ak λy72 x=>aw [hf 129 (cF (Uw gl t) f),AA 137 (ac.ixZ u),AA 138 (ac.ptZ aW u),AA 140 (eJ.ixZ v),AA 142 (eJ.fdZ ZZ 9 v),AA 144 (bZ.ixZ w),AA 146 (bZ.fdZ tW 0 w),AA 149 (ac.ixZ x),AA 150 (ac.ptZ aW x)]<|aP c3 L []) λf=>aw [hf 129 (cF (Uw gl t) f)]<|rb I)<|aA c2 J []) λd M N=>aF 89 (cN 11111012210210122102 (sf [] []) []<|cC 11111012210210122102 (λh=>sf [] [(14,bG h)]) (λh=>rb M) λh i=>aF 92 (aF 96 (rx i)<|ak λy81 y=>ak λy83 z=>Bz 107 (aah gl) λv85=>aw [AA 101 (ac.ixZ y),AA 102 (ac.ptZ aW y),AA 105 (ac.ixZ z),AA 106 (ac.ptZ aW z)]<|rx i)<|rx i)<|aA c1 N [])<|aA c2 D [] (ρ:=[(0,1)])) λs1 k5 k4=>aF 22 (ak λy88 A=>ak λv90 B=>aw [AA 28 (ac.ixZ A),AA 30 (ac.fdZ tZ 0 A)]<|kV (λj=>ak λy93 C=>FI (dg 38 ac) λO=>aw [hf 31 (cF (C5 gl B) j),AA 35 (ac.ixZ C),AA 36 (ac.ptZ aW C)]<|cj k5 (DE ac O) (ρ:=[(0,0),(1,1),(2,4)]) (kd:=[(2,.row)])) λj=>aw [hf 31 (cF (C5 gl B) j)]<|cj k5 (DE ac s1.1) (ρ:=rI 3) (kd:=[(2,.row)]))<|aA c1 k4 [hc (ac.al s1.1)]
end
theorem AdD{a b:Be}(ha:a.length<=1000000)(hb:b.length<=1000000):SJ a b=some (R2 b a):=by
 unfold SJ;refine T.eq (.bind (T.mono (T.forI (Q:=λr=>(r= .inl ()/\(a.any λd=> !Nn b d)=false)\/(r= .inr false/\(a.any λd=> !Nn b d)=true)) a.length (λk=>∀x∈a.take k,x∈b) aa aC (λk hk hj=>?_) λhj=>?_) λr hr=>?_))
 .obtain⟨x,hx⟩:∃x,a[k]?=some x:=by simp_all
  unfold Pv;rw[Dk hx,ax,Bg hx,aL,cX hb,JB,aL];by_cases h:x∈b
  .rw[C3 h];refine .some ⟨aq aa,λy hy=>?_⟩;grind [Jn]
  .rw[C6 h];exact .some (.inr (by grind [Nn]))
 .unfold Pv;rw[D4];rw[EQ] at hj;exact .some (.inl (by grind [Nn]))
 .unfold R2;rcases hr with⟨rfl,e⟩|⟨rfl,e⟩<;>rw[e]
  .refine .some ?_;grind [ah]
  .refine .some ?_;grind
section
variable {g:A7} {m:JJ} {N:JD} (P:Pg g m N) (h14:g.L.length<=14) (hkn:∀(k:Nat) (o:Bp),g.L[k]?=some o->Kn o)
include P
theorem AmU(a b:Ab):PO g a b=some ((BX g m N).bef a b):=by
 have w:=P.w;have nI:=w.nI;have nL:=w.nL;unfold PO;rw[dC aa,dC aa,aL,aL,Acy w P.p];unfold gO;cases ha:bu a g.IDs with
 |none=>rfl
 |some i=>
  cases hb:bu b g.IDs with
  |none=>grind
  |some j=>have h1:=(cr (gb ha).1).1;have h2:=(cr (gb hb).1).1;grind [Fq.cell,EY,au,Q2]
include h14 hkn
theorem AeR(hcs:∀x∈cs,XI g (BX g m N) x=true)(hs:cs.Pairwise λx y=>M4 (BX g m N) x y<0)(hn:cs.length<=14){set:Be}(hl:set.length<=1000000):VA g cs set=some ((M2 (BX g m N) (λx=>Lv g ((BX g m N).o x)) cs set).getD C7,(M2 (BX g m N) (λx=>Lv g ((BX g m N).o x)) cs set).isSome):=by
 have w:=P.w;have nI:=w.nI;have nL:=w.nL;have e0:AB (Mi cs set) ([],0)=some (SI cs set):=by
  refine T.eq (T.forA cs.length (λk acc=>acc=(cs.take k).filter λx=>Nn set x.By) aa aC (λk acc hk hj=>?_) λacc hj=>?_)
  .obtain⟨x,hx⟩:∃x,cs[k]?=some x:=⟨_,DR hk⟩;have ha:acc.length<=14:=by grind
   unfold Mi;dsimp only;rw[eA hk,ax,au,hx,aL,cX hl,JB,aL,show decide (x.By∈set)=Nn set x.By from rfl,Jn,hx,Option.toList_some,Q1,aL];cases c:Nn set x.By with
   |true=>rw[ax,show List.filter (λx=>Nn set x.By) [x]=[x] by simp[c]];exact .bind (.app (by grind) (.some ⟨aq aa,by rw[hj]⟩))
   |false=>rw[A9,show List.filter (λx=>Nn set x.By) [x]=[] by simp[c],MT];exact .some ⟨aq aa,hj⟩
  .unfold Mi;dsimp only;rw[eF,A9];exact .some (show acc=_ by rw[hj,EQ];rfl)
 unfold VA;rw[e0,aL];have hm:∀x∈SI cs set,x∈cs/\Nn set x.By=true:=λx hx=>HU.1 hx;have hp:(SI cs set).Pairwise λx y=>M4 (BX g m N) x y<0:=hs.sublist List.filter_sublist;have hol:(SI cs set).length<=14:=MI (NS ..) hn;unfold M2;generalize SI cs set=own at hm hp hol⊢;have hat:∀x∈own,∃(i:Nat) (o:Bp),fC g x=some (i:Int)/\aS g.L (i:Int)=some o/\(BX g m N).o x=o/\0<(Lv g o).length/\(Lv g o).length=o.Path.length/\Ud x.By (Lv g o)/\N8 g x=some (Lv g o):=λx hx=>by obtain⟨i,o,i1,F,B,_,H,i6,I,_⟩:=AeQ P h14 hkn (hcs x (hm x hx).1);obtain⟨_,_,_,h4⟩:=Aa8 P h14 hkn x;rw[B] at h4;refine⟨i,o,?_,by rw[au,F],B,H,i6,I,h4⟩;rw[dC aa];unfold gO;rw[NR w i1]
 rcases List.eq_nil_or_concat own with rfl|⟨l,x,rfl⟩
 .by_cases h1:set.length=1
  .obtain⟨d,rfl⟩:=List.length_eq_one_iff.1 h1;rw[C3 (show ah [d]=1 from rfl),ax,C6 (show¬0<ah ([]:Bc) by simp[ah]),A9,show aS [d] 0=some d from rfl,aL,Cw (by have:=w.nC;omega),aL];unfold mZ;show _=some (((g.Cards.find? λc=>decide (c.Device=d)).map (λc=>(⟨[d],c.Lead,⟨0,0,0⟩,0⟩:IH))).getD C7,((g.Cards.find? λc=>decide (c.Device=d)).map (λc=>(⟨[d],c.Lead,⟨0,0,0⟩,0⟩:IH))).isSome);cases g.Cards.find? λc=>decide (c.Device=d)<;>rfl
  .rw[C6 (show¬ah set=1 by unfold ah;omega),A9,OH (r:= .inl C7) rfl];match set,h1 with
   |[],_=>rfl
   |a::b::r,_=>rfl
   |[a],h=>grind
 .rw[List.concat_eq_append] at*;have hxo:(l++[x])[l.length]?=some x:=aC;have hle:(l++[x]).length=l.length+1:=aC;rw[show(l++[x]).getLast?=some x by simp];obtain⟨Q,ox,C,D,J,K,R,E,M⟩:=hat x aC;have hpub:∀n,n<(Lv g ox).length->∃y:E1,aS ox.Path (n:Int)=some y/\aad (BX g m N) x n=y.Pub:=λn h=>by obtain⟨y,hy⟩:∃y,ox.Path[n]?=some y:=⟨_,DR aa⟩;grind [au,aad]
  by_cases h1:set.length=1
  .obtain⟨y,hy,A⟩:=hpub 0 K;rw[C3 (show ah set=1 by unfold ah;omega),ax,C3 (show 0<ah (l++[x]) by unfold ah;omega),ax,show wI (ah (l++[x])-1)=(l.length:Int) by grind [bM,ah],au,hxo,aL,C,aL,D,aL,show aS ox.Path 0=some y from hy,aL];grind
  .rw[C6 (show¬ah set=1 by unfold ah;omega),A9];dsimp only;rw[BA h1,J];have hB:∀(i:Nat) (f:Ab),(l++[x])[i]?=some f->T (AB (KI g (l++[x]) (C7,(i:Int))) (true,0)) λb=>b=true↔∀j y,(l++[x])[j]?=some y->j≠i->(BX g m N).bef y f=true:=λi f u=>by
    refine T.forA (l++[x]).length (λk acc=>acc=true↔∀j y,j<k->(l++[x])[j]?=some y->j≠i->(BX g m N).bef y f=true) aa aC (λk acc hk hj=>?_) λacc hj=>?_
    .obtain⟨y,hy⟩:∃y,(l++[x])[k]?=some y:=⟨_,DR hk⟩;unfold KI;dsimp only;rw[eA hk,ax,au,hy,au,u];have hst:∀b:Bool,(b=true↔∀j y,j<k+1->(l++[x])[j]?=some y->j≠i->(BX g m N).bef y f=true)->T (some (.inl (b,wI ((k:Int)+1)))) (Rd (λs':Bool×Int=>s'.2=((k+1:Nat):Int)/\(s'.1=true↔∀j y,j<k+1->(l++[x])[j]?=some y->j≠i->(BX g m N).bef y f=true)) λb:Bool=>b=true↔∀j y,(l++[x])[j]?=some y->j≠i->(BX g m N).bef y f=true):=λb hb=> .some ⟨aq aa,hb⟩;cases acc with
     |false=>refine hst false ⟨λh=>(by cases h),λh=>?_⟩;exact absurd (hj.2 λj y hj=>h j y aa) B5
     |true=>
      have hj:=hj.1 rfl;by_cases hki:k=i
      .grind
      .rw[ax,C6 aa,A9,aL,aL,AmU P,aL,aL];grind
    .unfold KI;dsimp only;rw[eF,A9];refine .some (hj.trans ⟨λh j y hy hne=>h j y (cr hy).1 hy hne,λh j y _=>h j y⟩)
   have hF:T (AB (Mh g set (l++[x]) (C7,(l.length:Int)) (Lv g ox)) (C7,0)) λr=>r=match(Lv g ox).findIdx? (R2 set) with|some n=> .inr (⟨set,aad (BX g m N) x n,x,(n:Int)⟩,true)|none=> .inl C7:=by
    have S:=E.n;refine T.forA (Lv g ox).length (λk acc=>acc=C7/\∀j t,j<k->(Lv g ox)[j]?=some t->R2 set t=false) aa aC (λk acc hk hj=>?_) λacc hj=>?_
    .obtain⟨t,ht⟩:∃t,(Lv g ox)[k]?=some t:=⟨_,DR hk⟩;have:=(E.m t (bO ht)).2.1;unfold Mh;dsimp only;rw[eA hk,ax,au,ht,aL,AdD aa hl,aL];cases c:R2 set t with
     |true=>
      obtain⟨y,hy,A⟩:=hpub k hk;rw[ax,au,hxo,aL,C,aL,D,aL,hy,aL,aL];refine .some (show _=_ from ?_);obtain⟨h1,h2⟩:=cr ht;rw[show(Lv g ox).findIdx? (R2 set)=some k from List.findIdx?_eq_some_iff_getElem.2 ⟨h1,by rw[h2];exact c,λj v=>by have:=hj.2 j _ v (DR aa);simp[this]⟩]
      grind
     |false=>
      rw[A9];refine .some ⟨aq aa,hj.1,λj t' v hj'=>?_⟩;by_cases e:j=k
      .subst e;rw[ht] at hj';rw[<-Bj hj'];exact c
      .exact hj.2 j t' aa hj'
    .unfold Mh;dsimp only;rw[eF,A9];refine .some (show _=_ from ?_);rw[show(Lv g ox).findIdx? (R2 set)=none from List.findIdx?_eq_none_iff.2 λt ht=>by obtain⟨j,hj'⟩:=G9 ht;grind,hj.1]
   have hstep:∀(k:Nat) (y:Ab),(l++[x])[k]?=some y->∃b,AB (KI g (l++[x]) (C7,(k:Int))) (true,0)=some b/\(b=true↔∀j z,(l++[x])[j]?=some z->j≠k->(BX g m N).bef z y=true):=λk y h=>hB k y h;have hlast:(∀j z,(l++[x])[j]?=some z->j≠l.length->(BX g m N).bef z x=true)↔(l++[x]).any (aac (BX g m N) x)=false:=by
    rw[List.any_eq_false];have hx:∀z∈l,z≠x:=λz hz e=>by rw[List.pairwise_append] at hp;exact Px x (e▸hp.2.2 z hz x aC)
    constructor
    .intro h z hz;unfold aac;rcases I5.1 hz with hz|hz
     .obtain⟨j,hj⟩:=G9 hz;grind
     grind
    .intro h j z hz hne;have hjl:j<l.length:=by grind
     rw[List.getElem?_append_left hjl] at hz;have hm:=bO hz;have:=h z (List.mem_append_left _ hm);grind [aac]
   have hfst:∀(k:Nat) (y:Ab),k<l.length->(l++[x])[k]?=some y->¬∀j z,(l++[x])[j]?=some z->j≠k->(BX g m N).bef z y=true:=λk y hk hy h=>by have h1:=AgN P (h l.length x hxo aa);rw[List.getElem?_append_left hk] at hy;rw[List.pairwise_append] at hp;exact Px x ((Uy (BX g m N)).tr _ _ _ h1 (hp.2.2 y (bO hy) x aC))
   obtain⟨bl,b1,b2⟩:=hstep l.length x hxo;rw[hlast] at b2;obtain⟨p,f1,f2⟩:=hF;have hL:T (AB (KJ g set (l++[x])) (C7,0)) λr=>r=bif bl then p else .inl C7:=by
    have hst:∀k:Nat,k<(l++[x]).length->KJ g set (l++[x]) (C7,(k:Int))=if k=l.length/\bl=true then(match p with| .inl s=>some (.inl (s,((k+1:Nat):Int)))| .inr q=>some (.inr (.inr q)))else some (.inl (C7,((k+1:Nat):Int))):=λk hk=>by
     obtain⟨y,hy⟩:∃y,(l++[x])[k]?=some y:=⟨_,DR hk⟩;unfold KJ;dsimp only;rw[eA hk,ax,au,hy];by_cases hkl:k=l.length
     .subst hkl;rw[hxo] at hy;cases hy;rw[b1,aL];cases bl with
      |false=>grind [aq]
      |true=>
       rw[Bx ⟨rfl,rfl⟩];show(N8 g x).bind _=_;rw[M,aL,f1,aL];cases p with
       |inl s=>show some (Sum.inl (s,wI ((l.length:Int)+1)))=_;grind [aq]
       |inr q=>rfl
     .obtain⟨b,c1,c2⟩:=hstep k y hy;have hbf:b=false:=by grind
      subst hbf;rw[c1,aL,BA λh=>hkl h.1];grind [aq]
    have hfz:∀s,p= .inl s->s=C7:=λs h=>by rw[h] at f2;split at f2<;>cases f2;rfl
    refine T.loop (λs=>∃k:Nat,k<=l.length+1/\s=(C7,(k:Int))/\(k=l.length+1->(bif bl then p else .inl C7)= .inl C7)) (λs=>l.length+1-s.2.toNat) ⟨0,aa,rfl,λh=>aa⟩ cq ?_;rintro _ ⟨k,hk,rfl,hd⟩;by_cases he:k=l.length+1
    .unfold KJ;dsimp only;rw[show(k:Int)=(((l++[x]).length:Nat):Int) by rw[hle,he],eF,A9];exact .some (show Sum.inl C7=_ from(hd he).symm)
    .rw[hst k aa];split
     .rename_i hc;cases hfl:p with
      |inr q=>refine .some (show Sum.inr q=_ from ?_);grind
      |inl s=>obtain rfl:=hfz s hfl;refine .some ⟨⟨k+1,aa,rfl,λ_=>?_⟩,by simp;omega⟩;cases bl<;>rfl
     .rename_i hc;refine .some ⟨⟨k+1,aa,rfl,λh=>?_⟩,by simp;omega⟩;grind
   obtain⟨r,O,rfl⟩:=hL;rw[show(⟨[],0,⟨0,0,0⟩,0⟩:IH)=C7 from rfl,O,aL];cases bl with
   |false=>
    have hb:(l++[x]).any (aac (BX g m N) x)=true:=by grind
    rw[Bx hb];rfl
   |true=>rw[BA (by grind),f2,ax];cases(Lv g ox).findIdx? (R2 set)<;>rfl
end
section
variable {P:Br} [M:Mix P] {st:St} {Q:Exit->St->Prop} {fn:Func} {Bs:List (St->Prop)} {p:Bq}
theorem R6{ops:Array Oper}{K:St->Prop}{cx:Cx}{R:Exit->Act->World->Prop}(l2:Hz)(hK:∀st a w,K st->mh P cx st a w->wpListIn cx.F cx.nn P ops R l2 a w):∀(l:Hz) (st:St) (a:Act) (w:World),D8 P ops K l st->mh P cx st a w->wpListIn cx.F cx.nn P ops R (l++l2) a w
 |[],st,a,w,h,r=>hK st a w h r
 |o::rest,st,a,w,h,r=>by
  obtain⟨β,rb⟩:=r;rcases h with⟨hg,c,hs,hr⟩|⟨hg,hd,hr⟩
  .refine wpListIn_step λK' b=>?_;rw[Bx (cT rb hg)];exact hs cx a w K' R ⟨β,rb⟩ λa' w' r'=>b _ _ (R6 l2 hK rest c a' w' hr r')
  .refine wpListIn_step λK' b=>?_;rw[BA (by rw[cT rb hg];simp)];exact⟨λf _=>rb.loose.fn f,b _ _ (R6 l2 hK rest _ _ w hr ⟨β,rb.put o.dst hd (.imm _ _ (.lit _))⟩)⟩
def cuR(P:Br)(hs a:List Hn)(c:Code)(k:Nat)(J b st:St):Option (Prop×Bq×JN×St×Prop×Bq×JN×St):=match c with
 | .region _ ops false=>match qd P ops hs (ops.toList.take k) st with
  |some (C,u,s1)=>match Iw P [] [] [] J s1 with
   |some (L,s2)=>match qd P ops a (ops.toList.drop k) s2 with
    |some (d,e,s3)=>match Iw P [] [] [] b s3 with
     |some (f,g)=>some (C,u,L,s2,d,e,f,g)
     |none=>none
    |none=>none
   |none=>none
  |none=>none
 |_=>none
def ku1(x:Option (Prop×Bq×JN×St×Prop×Bq×JN×St)):Bq:=match x with|some (_,u,_)=>u|none=>[0]
def ku2(x:Option (Prop×Bq×JN×St×Prop×Bq×JN×St)):Bq:=match x with|some (_,_,_,_,_,u,_)=>u|none=>[0]
section
attribute [local semireducible] Tr dz Gp
theorem dCu(k:Nat)(J b:St)(A c O f:List HP)(kk:Gp P fn Q Bs true p b)(h1:qe A (ku1 (cuR P (bK A) (bK c) (bq p (ai fn)) k J b st))=true:=by kernel_rfl)(h2:qe c (ku2 (cuR P (bK A) (bK c) (bq p (ai fn)) k J b st))=true:=by kernel_rfl)(e:cuR P (bK A) (bK c) (bq p (ai fn)) k J b st=some (psU A (ku1 (cuR P (bK A) (bK c) (bq p (ai fn)) k J b st)),ku1 (cuR P (bK A) (bK c) (bq p (ai fn)) k J b st),pR O,J,psU c (ku2 (cuR P (bK A) (bK c) (bq p (ai fn)) k J b st)),ku2 (cuR P (bK A) (bK c) (bq p (ai fn)) k J b st),pR f,b):=by kernel_rfl):Gp P fn Q Bs false p st:=by
 have c1:=kA h1;have c2:=kA h2;generalize ku1 _=u1 at c1 e;generalize ku2 _=h at c2 e;generalize psU A u1=n at c1 e;generalize psU c h=o at c2 e;show Tr P (bq p (ai fn)) st (dz P (bE p (ai fn) Bs []) Q);unfold cuR at e;split at e;rotate_left
 .cases e
 rename_i id ops hc;split at e;rotate_left
 .cases e
 rename_i s1 i;split at e;rotate_left
 .cases e
 rename_i s2 d;split at e;rotate_left
 .cases e
 rename_i s3 j;split at e;rotate_left
 .cases e
 rename_i t r4;cases e;rw[hc];have q1:=Mz i c1;have l:=Mz j c2;have l1:=sR d (wR O);have l2:=sR r4 (wR f);have ho:ops=(ops.toList.take k++ops.toList.drop k).toArray:=aC;generalize ops.toList.take k=x at*;generalize ops.toList.drop k=y at*;subst ho;exact λcx a w R r m=>wpIn_region_lit (R6 y (λs a' w' hs r'=>xK (λst' a2 g q d=>m .normal b a2 g kk (l2 cx a2 g (by rw[<-q];exact d))) y _ a' w' l (l1 cx a' w' (by rw[<-hs];exact r'))) x st a w q1 r)
end
end
def nzs:Nat->G->G->G
 |0,g,_=>g
 |n+1,g,t=>match g,t with
  | .lit (.slice none 0 0),.sl _ _=> .sl [] 0
  | .sl l m,.sl l' _=>bif Nat.beq l.length l'.length then .sl (OX (nzs n) l l') m else g
  | .agg l,.agg l'=>bif Nat.beq l.length l'.length then .agg (OX (nzs n) l l')else g
  |_,_=>g
theorem Acb{S:Fu}{w:World}:∀(n:Nat) (g t:G) (v:Value),IV S w g v->IV S w (nzs n g t) v
 |0,g,t,v,h=>h
 |n+1,g,t,v,h=>by
  unfold nzs;split
  .cases h;exact .sl [] 0 none 0 (λ_=>undef) (Dx _) (Nat.zero_le _) aC aC aC
  .rename_i l m d _;cases hb:Nat.beq l.length d.length with
   |false=>exact h
   |true=>
    have hl:=bc hb;cases h with
    |sl _ _ a cap us hn hm ha h1 hr=>refine .sl _ _ a cap us hn hm (by grind [SD]) (by grind [SD]) λi e hg=>?_;obtain⟨g,c,b,rfl⟩:=sS _ _ hl i e hg;exact Acb n g c _ (hr i g b)
  .rename_i l d;cases hb:Nat.beq l.length d.length with
   |false=>exact h
   |true=>
    have hl:=bc hb;cases h with
    |agg _ us h2 h1 hr=>refine .agg _ us (by grind [SD]) h1 λi e u hg hu=>?_;obtain⟨g,c,b,rfl⟩:=sS _ _ hl i e hg;exact Acb n g c u (by grind)
  .exact h
theorem Ajc{P:Br}{gl:CD}{r:G}{ts:Bn}(gs:Bn)(h:ba P gl f ts r)(hl:gs.length=ts.length:=by rfl)(e:OX (nzs 20) gs ts=ts:=by kernel_rfl):ba P gl f gs r:=λw S vs hS hG hsz a=>by refine h w S vs hS hG aa λi g u hg hu=>?_;grind [sS,Acb]
theorem aaa{q:IH}(hq:q.Set.length<=1000000):ba prog fI 23 [aE DQ [q],aE DQ [q]] (bG true):=by
 refine Gh func23 ?_;refine pN (λk:Nat=>(s0 68 fI [(0,aE DQ [q]),(1,aE DQ [q]),(5,iG (k:Int))] [] 0 0)) 1110122 (E0 (n:=1) aa) [] [] (λB k w hs k5 a=>?_);unfold KS at hs;split at hs
 .rename_i hlt;obtain rfl:k=0:=aa;obtain rfl:=Bj hs;exact jw [hf 27 (Aac (gl:=fI) hq),hr 40 (neZ (q.Pub:Int)),hV 53 (dy q.By q.By (r:=false) aC),hr 66 (neZ q.N)] [] (k5 _ rfl) []
 .split at hs
  .rename_i he;subst he;exact Ar [] []
  .cases hs
theorem AeM{pre:Bn}{r:G}(h:ba prog fI f (pre++[aE cZ []]) r):ba prog fI f (pre++[Iy]) r:=λw S vs hS hG hsz a=>by
 refine h w S vs hS hG (by grind) λi g u hg hu=>?_;rcases Hx i pre.length with hi|hi
 .grind
 .rw[List.getElem?_append_right hi] at hg;obtain⟨j,hj⟩:∃j,j=i-pre.length:=⟨_,rfl⟩;rw[<-hj] at hg;cases j with
  |zero=>cases hg;have:=a i Iy u (by rw[List.getElem?_append_right hi,<-hj];rfl) hu;cases this;exact .sl [] 0 none 0 (λ_=>undef) (Dx _) (Nat.zero_le _) aC aC aC
  |succ j=>cases hg
def cNL(x:Option Be):Bn:=match x with|none=>[Iy]|some l=>[aE cZ l]
theorem rNL:AH prog 30 22 1 cNL:=⟨aH,aH,B5,λx=>by cases x<;>rfl,λx=>by cases x<;>rfl⟩
theorem AeN(l:Ly):(l.map some).flatMap cNL=l.flatMap Jc:=by rw[List.flatMap_map];rfl
abbrev oNL(l:List (Option Be)):Option Ob:=some ⟨22,l.flatMap cNL,none⟩
def dsF(k:Nat):List (Option Be):=(List.range k).map λi=>some [((i+1:Nat):Int)]
def kaF(r:A7)(I:Gi)(so:Be)(cs:Bc)(k:Nat):List (Option Be):=[some so,none]++dsF 7++(cs.take k).flatMap λx=>(Lv r (I.o x)).map some
theorem AgK(c:ba prog fI 19 [] (bG true)){pt st:Be}(hl:l.length<=9223372036854775807)(hi:∀x∈l,c8 x)(_:pt.length<=9223372036854775807)(hp:∀x∈pt,c8 x)(_:st.length<=9223372036854775807)(hst:∀x∈st,c8 x):ba prog fI 4 [aE cZ l,aE cZ pt,aE cZ st] (bG true):=by
 obtain⟨r,m,N,P,h14,hkn,g,C,hM⟩:=AgO hl hi;have w:=P.w;have nI:=w.nI;obtain⟨v,ev,i,t⟩:=AeL w w.nd hp;obtain⟨row,c1,c2,_,c3,c4⟩:=Aa9 P h14 hkn i t;have hK:=λ(s:Be) (hs:s.length<=1000000)=>aae P h14 hkn c4 c1 (set:=s) hs;have hcs:∀x∈row.filter (XI r (BX r m N)),XI r (BX r m N) x=true:=by grind
 have c5:(row.filter (XI r (BX r m N))).length<=14:=by grind
 have c6:=c3.sublist (List.filter_sublist (p:=XI r (BX r m N)));generalize row.filter (XI r (BX r m N))=cs at*;have h:=λ(s:Be) (hs:s.length<=1000000)=>Abb fI (AeR P h14 hkn hcs c6 c5 (set:=s) hs);obtain⟨so,es,hso⟩:=Ai3 hst;have hS:=λx=>Aa8 P h14 hkn x;have e1:=ac.fo (Z2 fI ev);have e2:=ac.fo (XX fI c2);have e3:=rZ.fo (R3 fI es);simp only[Ag,RJ] at hK;refine Gh func4 ?_;refine pO 11110 (s0 102 fI [(1,aE cZ pt),(2,aE cZ st),(7,Z8 r.Cards m N),(8,.ptr (aI r) 0)] [] 0 0) [tN 22 [] 0 [] [aE cZ l] [ob 0 111 [aE bv r.Cards,.mref 1,.rsl 2 0 N.length],(1,oM m),(2,zQ N)] hM trivial ⟨⟨rfl,.inl rfl⟩,⟨rfl,rfl,rfl,rfl,.inr ⟨rfl,cf _⟩⟩,⟨rfl,.inr ⟨rfl,az.imm _⟩⟩,trivial⟩] [hc (cf m),hc (az.al N),hc (eB (gs:=[aE bv r.Cards,gMp m,aE d7 N]) aH),hc (eB (gs:=aI r) aH)] ?_;refine Ix 11111101 (s0 102 fI [(7,Z8 r.Cards m N),(8,.ptr (aI r) 0),(9,aE aj v),(10,.rsl 0 0 ([some so,none]++dsF 7).length)] [(0,oNL ([some so,none]++dsF 7))] 1 0) ?_ λd=>?_;rotate_left
 .refine pN (λk:Nat=>(s0 102 fI [(7,Z8 r.Cards m N),(8,.ptr (aI r) 0),(9,aE aj v),(10,.rsl 0 0 ([some so,none]++dsF k).length),(11,iG ((k+1:Nat):Int))] [(0,oNL ([some so,none]++dsF k))] 1 0)) 1111110122 (E0 (n:=7) aa) [hf 29 e1,hf 31 e3] [hc (rfl:2=2),hc (rNL.imm [some so,none])] (λB k u hs k5 f=>?_) [] [(0,0)] [(0,.row)];unfold KS at hs;split at hs
  .rename_i hlt;obtain rfl:=Bj hs;have k5:=k5 _ rfl;have hd:[some so,none]++dsF (k+1)=([some so,none]++dsF k)++[some [((k+1:Nat):Int)]]:=by unfold dsF;rw[List.range_succ,List.map_append,<-List.append_assoc];rfl
   rw[hd] at k5;have hn:([some so,none]++dsF k).length<=9:=by simp[dsF];omega
   generalize [some so,none]++dsF k=a at*;refine pO 1111110122102 (s0 102 fI [(7,Z8 r.Cards m N),(8,.ptr (aI r) 0),(9,aE aj v),(10,.rsl 0 0 a.length),(11,iG ((k+1:Nat):Int))] [(0,oNL a)] 1 0) [hr 34 (show decide (((k+1:Nat):Int)<=7)=true from C3 aa)] [hc (el a),hc (rNL.imm a)] ?_ [] [(0,0)] [(0,.row)];refine dCu 3 (s0 102 fI [(7,Z8 r.Cards m N),(8,.ptr (aI r) 0),(9,aE aj v),(11,iG ((k+1:Nat):Int)),(37,.rsl 0 0 a.length),(39,aE cZ [((k+1:Nat):Int)])] [(0,oNL a)] 1 0) (s0 102 fI [(7,Z8 r.Cards m N),(8,.ptr (aI r) 0),(9,aE aj v),(10,.rsl 0 0 (a++[some [((k+1:Nat):Int)]]).length),(11,iG ((k+1:Nat):Int))] [(0,oNL (a++[some [((k+1:Nat):Int)]]))] 1 0) [] [Tn 41 rNL 24 a (some [((k+1:Nat):Int)]) aa] [hc (el a),hc (rZ.al [((k+1:Nat):Int)]),hc (rNL.imm a)] [hc (el (a++[some [((k+1:Nat):Int)]])),hc (rNL.imm (a++[some [((k+1:Nat):Int)]]))] ?_;exact jw [hbb 36 (Xl (q:=k+1) aa)] [hc (el (a++[some [((k+1:Nat):Int)]])),hc (rNL.imm (a++[some [((k+1:Nat):Int)]]))] k5 [] [(0,0)] [(0,.row)]
  .split at hs
   .rename_i he;subst he;exact yl 11111101 [] [hc (el ([some so,none]++dsF 7)),hc (rNL.imm ([some so,none]++dsF 7))] d [] [(0,0)] [(0,.row)]
   .cases hs
 have hsl:∀x,(Lv r ((BX r m N).o x)).length<=3000/\∀s∈Lv r ((BX r m N).o x),s.length<=3000:=λx=>⟨(hS x).2.1.n,λs hs=>((hS x).2.1.m s hs).2.1⟩;have kSS:∀(k:Nat) (x:Ab),cs[k]?=some x->kaF r (BX r m N) so cs (k+1)=kaF r (BX r m N) so cs k++(Lv r ((BX r m N).o x)).map some:=by grind [kaF,Jn]
 have kLL:∀k,k<=cs.length->(kaF r (BX r m N) so cs k).length<=9+k*3000/\∀y∈kaF r (BX r m N) so cs k,(y.getD []).length<=3000:=λk=>by
  induction k with
  |zero=>
   intro _;have e:kaF r (BX r m N) so cs 0=[some so,none]++dsF 7:=by unfold kaF;simp
   rw[e];refine⟨by simp[dsF],λy hy=>?_⟩;rcases I5.1 hy with hy|hy
   .simp at hy;rcases hy with rfl|rfl<;>simp<;>omega
   .obtain⟨j,_,rfl⟩:=Fm.1 hy;simp
  |succ k ih=>intro hk;obtain⟨x,hx⟩:∃x,cs[k]?=some x:=⟨_,DR aa⟩;grind
 refine Ix 1111111101 (s0 102 fI [(7,Z8 r.Cards m N),(8,.ptr (aI r) 0),(9,aE aj v),(10,aE cNL (kaF r (BX r m N) so cs cs.length)),(12,aE aj cs)] [] 0 0) ?_ λd=>?_;rotate_left
 .refine pN (λk:Nat=>(s0 102 fI [(7,Z8 r.Cards m N),(8,.ptr (aI r) 0),(9,aE aj v),(10,.rsl 0 0 (kaF r (BX r m N) so cs k).length),(12,aE aj cs),(13,iG (k:Int))] [(0,oNL (kaF r (BX r m N) so cs k))] 1 0)) 111111110122 (E0 (n:=cs.length) aa) [hf 44 e2] [hc (el ([some so,none]++dsF 7)),hc (rNL.imm ([some so,none]++dsF 7))] (λB k u hs k5 f=>?_) [] [(0,0)] [(0,.row)];unfold KS at hs;split at hs
  .rename_i hlt;obtain rfl:=Bj hs;obtain⟨x,hx⟩:∃x,cs[k]?=some x:=by simp_all
   have hz:=Bg hx;have k5:=k5 _ rfl;rw[kSS k x hx] at k5;have h1:=(kLL k aa).1;have h2:=(hsl x).1;have h3:=nH.fo (Vz fI (hS x).2.2.2);generalize kaF r (BX r m N) so cs k=a at*;generalize Lv r ((BX r m N).o x)=s at*;exact jw [hr 48 (Dk hx),AA 55 (ac.ixZ hz),AA 56 (ac.ptZ aW hz),hf 57 h3,ha 58 ((a++s.map some).flatMap cNL) (a++s.map some).length (p:=(a.flatMap cNL).length=a.length*1/\(s.flatMap Jc).length=s.length*1/\(a.length+s.length)*24<=140737488355328/\a.flatMap cNL++s.flatMap Jc=(a++s.map some).flatMap cNL/\a.length+s.length=(a++s.map some).length) ⟨rNL.len a,nH.len s,aa,by rw[List.flatMap_append,AeN],by rw[Sq,Hi]⟩,hbb 50 (Xl (q:=k) aa)] [hc (el (a++s.map some)),hc (rNL.imm (a++s.map some))] k5 [] [(0,1)] [(0,.row)]
  .split at hs
   .rename_i he;subst he;exact yl 1111111101 [hr 48 (D4 (s:=cs))] [hc (rNL.al (kaF r (BX r m N) so cs cs.length))] d
   .cases hs
 obtain⟨hA,hy⟩:=kLL cs.length (Dx _);generalize kaF r (BX r m N) so cs cs.length=A at*;refine pN (λk:Nat=>(s0 102 fI [(7,Z8 r.Cards m N),(8,.ptr (aI r) 0),(9,aE aj v),(10,aE cNL A),(12,aE aj cs),(14,iG (k:Int))] [] 0 0)) 1111111110122 (E0 (n:=min A.length 30) aa) [] [] (λB k u hs k5 f=>?_);unfold KS at hs;split at hs
 .rename_i hlt;obtain rfl:=Bj hs;obtain⟨x,hx⟩:∃x,A[k]?=some x:=⟨_,DR aa⟩;have hz:=Bg hx;have k5:=k5 _ rfl;have hxl:=hy x (bO hx);have h1:=hK (x.getD []) aa;have h2:=h (x.getD []) aa;have hset:∀q,M2 (BX r m N) (λx=>Lv r ((BX r m N).o x)) cs (x.getD [])=some q->q.Set.length<=1000000:=by grind [AeS]
  have h30:decide ((k:Int)<30)=true:=C3 aa;have h3:=aaa (q:=(M2 (BX r m N) (λx=>Lv r ((BX r m N).o x)) cs (x.getD [])).getD C7) (by
   cases e:M2 (BX r m N) (λx=>Lv r ((BX r m N).o x)) cs (x.getD []) with
   |none=>simp[C7]
   |some q=>exact hset q e)
  generalize M2 (BX r m N) (λx=>Lv r ((BX r m N).o x)) cs (x.getD [])=q at h1 h2 h3;generalize q.getD C7=z at h1 h2 h3;generalize q.isSome=b at h1 h2;cases x with
  |none=>cases b<;>exact jw [hr 62 (Dk hx),hr 65 h30,AA 74 (rNL.ixZ hz),AA 75 (rNL.p1Z Vs hz),hf 76 (AeM (pre:=[Z8 r.Cards m N,aE aj v]) h1),AA 84 (rNL.ixZ hz),AA 85 (rNL.p1Z Vs hz),hf 86 (AeM (pre:=[.agg (aI r),aE aj cs]) h2),hq 93 [aE DQ [z],aE DQ [z]] [hc (aaj.al [z]),hc (aaj.al [z])] h3,hbb 68 (Xl (q:=k) aa)] [] k5 []
  |some s=>cases b<;>exact jw [hr 62 (Dk hx),hr 65 h30,AA 74 (rNL.ixZ hz),AA 75 (rNL.p1Z Vs hz),hf 76 h1,AA 84 (rNL.ixZ hz),AA 85 (rNL.p1Z Vs hz),hf 86 h2,hq 93 [aE DQ [z],aE DQ [z]] [hc (aaj.al [z]),hc (aaj.al [z])] h3,hbb 68 (Xl (q:=k) aa)] [] k5 []
 .split at hs
  .rename_i he;by_cases h8:k=A.length
   .subst h8;exact Ar [hr 62 (D4 (s:=A)),hf 101 c] []
   .obtain⟨x,hx⟩:∃x,A[k]?=some x:=⟨_,DR aa⟩;exact Ar [hr 62 (Dk hx),hr 65 (show decide ((k:Int)<30)=false from C6 aa),hf 101 c] []
  .cases hs
def HD:LT:=(ql [1,2]).getD []
theorem AdL:ql [1,2]=some HD:=aH
theorem YD:HD.all KK=true:=aH
theorem R7:HD.length=2:=aH
theorem Acc:xf HD:=OM aH
theorem Am4:HD.map (·.Device)=[1,2]:=aH
attribute [irreducible] HD
theorem wf0{cs:LT}(hl:cs.length<=1000)(hc:cs.all KK=true):Fq ⟨cs,[],[],[],[]⟩ where
 nL:=aC
 nI:=rfl
 nU:=rfl
 nN:=rfl
 nC:=hl
 cards:=by grind [KK,c8,fS]
 up:=by grind
 rows:=by grind
 inlt:=by grind [Q2]
 ops:=by grind
 ids:=by grind
 nd:=aC
 one:=by grind
 tr:=by grind
 la:=by grind [Q2]
def oL:Bp:=⟨1,1,1,0,[],0,0,0,0,[⟨77,[]⟩],⟨0,0,0⟩,0,[],[],⟨0,0,0⟩,[],0,0,[],0,[],⟨0,0⟩⟩
theorem Aig:Bf oL:=by constructor<;>simp[oL,c8,fS];all_goals grind [I6,fS,JV,c8]
def oX:Bp:=(nR oL).getD oL
theorem Aih:nR oL=some oX:=aH
def rL:A7×Int:=(AO ⟨HD,[],[],[],[]⟩ oX).getD (⟨[],[],[],[],[]⟩,1)
theorem Aii:AO ⟨HD,[],[],[],[]⟩ oX=some rL:=aH
theorem Ak2:rL.2=0:=aH
theorem Ak3:qo rL.1 oX=some [1]:=aH
attribute [irreducible] rL oX
theorem Ag4:∃(b:Nat->JJ) (N:JD) (x:Ab),rL.1.L=[oX]/\rL.1.IDs=[x]/\rL.1.Cards=HD/\pV oX=some x/\Abd rL.1 b N/\Pg rL.1 (b 1) N:=by
 obtain⟨v,e,s,rfl,h1,h2⟩:=Io Aig;have e:=Bj (Aih.symm.trans e);have so:Bf oX:=e▸Aig.sig s;have hs:fS oX.Sig.S:=by grind
 have w0:=wf0 (cs:=HD) (by rw[R7];decide) YD;obtain⟨v,ev,w,ha⟩:=QG w0 so hs;obtain rfl:=Bj (Aii.symm.trans ev);rcases ha with⟨h,_⟩|⟨x,up,row,_,a,hid,hrow,hg⟩
 .grind [Ak2]
 have gr:Lu ⟨HD,[],[],[],[]⟩ rL.1:=by grind [Lu]
 obtain⟨b,N,c,_,h3,h4⟩:=OL gr rfl rfl Acc;have hL:rL.1.L=[oX]:=by rw[hg];rfl
 rw[hL] at h4;exact⟨b,N,x,hL,by rw[hg];rfl,c,hid,h3,(by grind [Ae9,R7,YD,Am4])⟩
abbrev oR1:aQ:=[ob 0 3 [iG 1],ob 1 22 [.rsl 0 0 1]]
theorem Ae8:jg prog fI 15 [aE Jc [[1]],.rsl 1 0 1] oR1 2 (bG true) oR1 2:=by
 refine pP func15 ?_;refine pN (λk:Nat=>(s0 27 fI [(0,aE Jc [[1]]),(1,.rsl 1 0 1),(5,iG (k:Int))] oR1 2 2)) 1110122 (E0 (n:=1) B5) [] [hc (rfl:1=1),hc (rfl:1=1)] (λB k w hs k5 a=>?_) [] [(0,0),(1,1)] [(9,.row)];unfold KS at hs;split at hs
 .rename_i hlt;obtain rfl:k=0:=aa;obtain rfl:=Bj hs;exact jw [hq 25 [aE cZ [1],aE cZ [1]] [hc (rZ.al [1])] (Aac (gl:=fI) (l:=[1]) B5)] [hc (rfl:1=1),hc (rfl:1=1)] (k5 _ rfl) [] [(0,0),(1,1)] [(9,.row)]
 .split at hs
  .rename_i he;subst he;exact mt .ret (s0 27 fI [(4,bG true)] oR1 2 2) [bG true] [] [hc (rfl:1=1)] (ρ:=[(0,0),(1,1)]) (kd:=[(9,.row)])
  .cases hs
abbrev frL(x:Ab)(g:G)(r:Fr):St:=(s0 97 fI ([(1,.ptr (aI rL.1) 0),(2,.ptr (aJ oX) 0),(4,g),(5,.ptr (aj x) 0)]++r) [] 0 0)
abbrev oG2:aQ:=[ob 0 33 (aI ⟨HD,[],[],[],[]⟩)]
theorem O8:ba prog fI 19 [] (bG true):=by
 obtain⟨a,N,x,hL,d,g,hid,hR,P⟩:=Ag4;have w:=P.w;have hof:=ZC hR;have hnl:=P.p.len;rw[hL] at hof hnl;have hnl:N.length=1:=hnl;obtain⟨y,rfl⟩:∃y,N=[y]:=List.length_eq_one_iff.1 hnl;have hy:=(P.p.nd 0 y rfl).2.1;rw[d] at hy;obtain rfl:x=y.id:=by grind
 have so:=(w.ops 0 oX (by rw[hL];rfl)).1;have hb:=Ns so hid;have hk:oX.Kind=1:=aH;have hBy:oX.By=1:=aH;have h14:rL.1.L.length<=14:=by grind
 have k1:Kn oX:=λh=>by grind
 have hkn:∀(k:Nat) (o:Bp),rL.1.L[k]?=some o->Kn o:=by grind
 obtain⟨_,_,_,b,e,_⟩:=AeK P h14 so k1 (by grind);rw[Ak3] at e;obtain⟨j,f⟩:=P.op (i:=0) (o:=oX) (x:=y.id) (by rw[hL];rfl) (by rw[d];rfl);have es:Lv rL.1 oX=[[1]]:=by unfold Lv;rw[<-Bj e,hk,hBy];kernel_rfl
 rw[<-Bj e] at b;obtain⟨al,hA,hp,hi,hd⟩:=Ai2 P h14;rw[d] at hp;obtain rfl:=List.perm_singleton.1 hp;obtain⟨row,c1,_,c2,_,c3⟩:=Aa9 P h14 hkn hi hd;obtain rfl:=List.perm_singleton.1 c2;have hcm:XI rL.1 (BX rL.1 (a 1) [y]) y.id=true:=by unfold XI;rw[f,es];kernel_rfl
 have h1:=aae P h14 hkn c3 c1 (set:=[1]) B5;have h2:=aae P h14 hkn c3 c1 (set:=[2]) B5;have h3:=Aic P h14 hkn y.id;rw[f,es] at h3;obtain⟨c,c4⟩:∃c,HD[1]?=some c:=⟨_,DR (by rw[R7];decide)⟩;have hB1:y.id.By=1:=hb.1.trans hBy;have kc:(BX rL.1 (a 1) [y]).card 2=some c:=by show rL.1.Cards.find? _=_;rw[g];exact(show HD.find? (λc=>decide (c.Device=2))=HD[1]? by kernel_rfl).trans c4
 have kp:aad (BX rL.1 (a 1) [y]) y.id 0=77:=by unfold aad;rw[f];kernel_rfl
 rw[List.filter_cons_of_pos hcm,List.filter_nil,show M2 (BX rL.1 (a 1) [y]) (λx=>Lv rL.1 ((BX rL.1 (a 1) [y]).o x)) [y.id] [1]=some ⟨[1],77,y.id,0⟩ by simp[M2,SI,Nn,hB1,kp]] at h1;rw[List.filter_cons_of_pos hcm,List.filter_nil,show M2 (BX rL.1 (a 1) [y]) (λx=>Lv rL.1 ((BX rL.1 (a 1) [y]).o x)) [y.id] [2]=some ⟨[2],c.Lead,⟨0,0,0⟩,0⟩ by simp[M2,SI,Nn,hB1,kc]] at h2;simp only[Ag,RJ] at hA b h1 h2 h3;change jg _ _ _ _ _ _ _ [(0,oG rL.1.Cards 1 2),(1,oM (a 1)),(2,zQ [y])] 3 at hof;have c5:aS rL.1.Cards 1=some c:=by rw[g];exact c4
 generalize a 1=m at*;refine Gh func19 ?_;refine pO [1,0] (s0 97 fI [] [] 0 0) [] [] ?_;refine dCu 1 (s0 97 fI [(11,aE cZ [1,2])] [] 0 0) (s0 97 fI [(1,.ref 0 0)] oG2 1 0) [] [hf 12 (bT.fo (GQ fI AdL)),hf 13 (M8 fI (cards:=HD) rfl)] [hc (rZ.al [1,2])] [] ?_;refine pO 1110 (s0 97 fI [(1,.ref 0 0)] oG2 1 0) [] [] ?_;refine dCu 2 (s0 97 fI [(1,.ref 0 0),(15,.sl [uG 77,Iy] 1)] oG2 1 0) (s0 97 fI [(1,.ref 0 0),(2,.ptr (aJ oX) 0)] oG2 1 0) [] [hf 17 (Ajc [.agg ((bF [4,14,15,19,22,24] (aJ oL)).set 9 (.sl [uG 77,Iy] 1))] (E8 fI Aih))] [hc (p:=[uG 77,Iy].length=1*2/\(∀x∈[uG 77,Iy],bB x)/\1=1) ⟨rfl,eB aH,rfl⟩] [hc (eB (gs:=aJ oX) aH)] ?_;refine pO 11111100 (s0 97 fI [(1,.ptr (aI rL.1) 0),(2,.ptr (aJ oX) 0),(3,iG rL.2),(4,Z8 rL.1.Cards m [y])] [] 0 0) [hf 21 (M9 fI Aii),tN 25 [] 1 [] [.agg (aI rL.1)] [ob 0 111 [aE bv rL.1.Cards,.mref 2,.rsl 3 0 1],(1,oM m),(2,zQ [y])] hof trivial ⟨⟨rfl,.inl rfl⟩,⟨rfl,rfl,rfl,rfl,.inr ⟨rfl,cf _⟩⟩,⟨rfl,.inr ⟨rfl,az.imm _⟩⟩,trivial⟩] [hc (eB (gs:=aI rL.1) aH),hc (cf m),hc (az.al [y]),hc (eB (gs:=[aE bv rL.1.Cards,gMp m,aE d7 [y]]) aH)] ?_;refine pO 111111110 (frL y.id (Z8 rL.1.Cards m [y]) []) [hr 30 (show decide (rL.2≠0)=false by rw[Ak2];rfl),hf 33 (AI fI hid)] [hc (eB (gs:=aj y.id) aH)] ?_;refine dCu 4 (frL y.id (Z8 rL.1.Cards m [y]) [(35,Z8 rL.1.Cards m [y]),(37,aE aj [y.id]),(38,aE cZ [1])]) (frL y.id (Z8 rL.1.Cards m [y]) [(6,.ptr (DQ ⟨[1],77,y.id,0⟩) 0),(7,bG true)]) [hf 37 hA] [hf 39 h1] [hc (rZ.al [1])] [hc (eB (gs:=DQ ⟨[1],77,y.id,0⟩) aH)] ?_;refine pO 1111111110 (frL y.id (Z8 rL.1.Cards m [y]) [(6,.ptr (DQ ⟨[1],77,y.id,0⟩) 0),(7,bG true)]) [] [] ?_;refine dCu 4 (frL y.id (Z8 rL.1.Cards m [y]) [(6,.ptr (DQ ⟨[1],77,y.id,0⟩) 0),(7,bG true),(43,Z8 rL.1.Cards m [y]),(45,aE aj [y.id]),(46,aE cZ [2])]) (frL y.id (Z8 rL.1.Cards m [y]) [(6,.ptr (DQ ⟨[1],77,y.id,0⟩) 0),(7,bG true),(8,.ptr (DQ ⟨[2],c.Lead,⟨0,0,0⟩,0⟩) 0),(9,bG true)]) [hf 45 hA] [hf 47 h2] [hc (rZ.al [2])] [hc (eB (gs:=DQ ⟨[2],c.Lead,⟨0,0,0⟩,0⟩) aH)] ?_;exact Ar [hf 52 h3,hV 66 (dU (r:=true) y.id y.id aC),AA 73 (bT.ixZ c5),AA 75 (bT.fdZ tW 2 c5),hr 76 (show decide ((c.Lead:Int)=(c.Lead:Int))=true by simp),hV 82 (dU (r:=true) ⟨0,0,0⟩ ⟨0,0,0⟩ aC),hmc 88 [0,1] 3 oR1 [aE Jc [[1]],.rsl 1 0 1] [(0,⟨3,[iG 1],none⟩),(1,⟨22,[.rsl 0 0 1],none⟩)] Ae8 ⟨⟨rfl,.inl rfl⟩,⟨rfl,.inl rfl⟩,trivial⟩ ⟨⟨rfl,.inl rfl⟩,⟨rfl,.inl rfl⟩,trivial⟩,hf 93 b,hq 95 [aE cZ [1],aE cZ [1]] [hc (rZ.al [1])] (Aac (gl:=fI) (l:=[1]) B5)] []
abbrev Uv:List (String×DataW Unit):=[("huddle/roll.asks",Rows.laid_huddle_roll_asks),("huddle/op.kinds",Rows.laid_huddle_op_kinds)]
theorem Y8:Tryz.prog.globalNamed "huddle/roll.asks" =some 0:=aH
theorem WB:Tryz.prog.globalNamed "huddle/op.kinds" =some 1:=aH
theorem Y9:(Tryz.prog.globals[0]?).map (·.type)=some 197:=aH
theorem WC:(Tryz.prog.globals[1]?).map (·.type)=some 253:=aH
theorem AdC{l:List α}{i:Nat}{v:α}(h:l[i]?=some v):(l.drop (i*1)).take 1=[v]:=by rw[Nat.mul_one];obtain⟨hi,rfl⟩:=cr h;rw[List.drop_eq_getElem_cons hi];rfl
theorem IL{P:Program}{sp:Nat->Bool}{fuel:Nat}{ps rs:Array TypeId}{va:Bool}{q:List MemPlace}(ht:P.underlying t=some (.func ps rs va))
  (h:DataW.trod (funcToken P) P w base sp true fuel t [v]=some (.nil,q)):v= .nilFunc:=by
 cases fuel with
 |zero=>simp[DataW.trod] at h
 |succ n=>cases v<;>simp[DataW.trod,ht] at h;rfl
theorem zo{P:Program}{H:Type}{enc:TypeId×Value->H}{sp:Nat->Bool}{a:Bool}{fuel n:Nat}{e:TypeId}{cs:Array Value}{ds:List (DataW H)}{p:List MemPlace}{nm:String}{g:Nat}(ht:P.underlying t=some (.array n e))(hc:P.cellsOf e=1)(hn:P.cellsOf t=n)
  (hg:P.globalNamed nm=some g) (hv:w.var? P nm=some cs) (h:DataW.trod enc P w base sp a fuel t cs.toList=some (.agg ds,p)):∀i,i<n->∃v d m q,w.cell? ⟨g,i,none⟩=some v/\ds[i]?=some d/\DataW.trod enc P w base sp a m e [v]=some (d,q):=by
 obtain⟨xs,m,_,hx,hl,hlen,b⟩:=DataW.trod_array ht h
 simp only[Ge,DataW.agg.injEq] at hx
 intro i hi
 have hsz:cs.size=n:=by rw[<-hn,<-hl];simp
 have hcell:=World.var?_cell hg hv i
 have hci:cs[i]?=some (cs[i]'aa):=Array.getElem?_eq_getElem aa
 have hli:cs.toList[i]?=some (cs[i]'aa):=by rw[Array.getElem?_toList];exact hci
 have:=b i hi
 rw[hc,AdC hli] at this
 have hxi:xs[i]?=some (xs[i]'aa):=DR aa
 rw[hxi] at this
 refine⟨_,(xs[i]'aa).1,m,(xs[i]'aa).2,hcell.trans hci,?_,this⟩
 rw[hx.1,MY,hxi]
 rfl
theorem ML{g i:Nat}(h:W.cell? ⟨g,i,none⟩=some v):g<W.heap.size:=by
 rcases Hx g W.heap.size with h'|h'
 .exact h'
 .unfold World.cell? at h;simp[Array.getElem?_eq_none h'] at h
def IM:G->Value
 | .lit v=>v
 | .clo fn _ _=> .func fn #[] #[]
 |_=> .nilFunc
theorem WD{S:Nat->Prop}{g:G}(h:(∃v,g= .lit v)\/∃n,g= .clo (.func n) [] []):IV S W g (IM g):=by
 rcases h with⟨v,rfl⟩|⟨n,rfl⟩
 .exact .lit v
 .exact .clo _ [] [] #[] #[] rfl rfl aC aC
theorem MM{g:Nat}{l:List G}(h0:g<W.heap.size)(hc:∀i x,l[i]?=some x->W.cell? ⟨g,i,none⟩=some (IM x))(hg:∀x∈l,((∃k z,x= .lit (.int k z))\/x= .lit .nilFunc)\/∃n,x= .clo (.func n) [] []):IV (λ_=>False) W (.ptr l 0) (.pointer (some ⟨g,0,none⟩)):=by
 have e:(⟨g,0,none⟩:Addr)=⟨g,0+0,none⟩:=rfl;refine .ptr l 0 g 0 (λi=>IM (l.getD i .junk)) (λh=>h) h0 (λi hi=>?_) (λi hi=>?_) (λi x hx=>?_)
 .rw[Nat.zero_add];refine hc i _ ?_;rw[List.getD_eq_getElem?_getD,DR hi];rfl
 .have hx:l[i]?=some (l[i]'hi):=DR hi;rw[List.getD_eq_getElem?_getD,hx];rcases hg _ (bO hx) with(⟨k,z,h⟩|h)|⟨n,h⟩<;>(simp only[Nf];rw[h];rfl)
 .rw[List.getD_eq_getElem?_getD,hx];simp only[Nf];refine WD ?_;rcases hg _ (bO hx) with(⟨k,z,h⟩|h)|⟨n,h⟩
  .exact .inl ⟨_,h⟩
  .exact .inl ⟨_,h⟩
  .exact .inr ⟨n,h⟩
theorem Ov(h:laidMetH Tryz.prog Uv W):IV (λ_=>False) W (.ptr (nG.flatMap cZ) 0) (.pointer (some ⟨1,0,none⟩)):=by
 have hm:laidMet Tryz.prog [("huddle/op.kinds",Rows.laid_huddle_op_kinds)] W:=h.1;obtain⟨ps,⟨g1,e,c,f1,f,q1,a,b,hv1,hd1,_,_⟩,_,_⟩:=hm;obtain rfl:=Bj (WB.symm.trans a);obtain rfl:=Bj (WC.symm.trans b);have hcells:=zo (n:=14) Tryz.underlying253 aH aH a hv1 hd1;have key:∀i x,(nG.flatMap cZ)[i]?=some x->W.cell? ⟨1,i,none⟩=some (IM x):=by
  intro i x hx;have hi:i<14:=(cr hx).1;obtain⟨v,d,m,q,hc,hd,hr⟩:=hcells i hi;obtain⟨k,e1,e2,_⟩:=DataW.trod_int Tryz.underlying3 hr;simp only[Ge] at e2;rw[hc];simp only[List.cons.injEq,and_true] at e1;rw[e1];rw[e2.1] at hd;match i,hi with
  |0,_|1,_|2,_|3,_|4,_|5,_|6,_|7,_|8,_|9,_|10,_|11,_|12,_|13,_=>cases hd;cases hx;rfl
 refine MM (ML (key 0 _ rfl)) key λx hx=> .inl (.inl ?_);obtain⟨z,_,hz⟩:=List.mem_flatMap.1 hx;cases List.mem_singleton.1 hz;exact⟨_,_,rfl⟩
noncomputable abbrev fby(l:List UInt8):List Nat:=(List.range Tryz.prog.funcs.size).filter λf=>(Tryz.prog.funcs[f]?).any (·.name.toUTF8.data.toList==l)
theorem aaJ:fby [104,117,100,100,108,101,47,114,111,108,108,46,97,115,107,115,36,49]=[406]:=aH
theorem aaK:fby [104,117,100,100,108,101,47,114,111,108,108,46,97,115,107,115,36,50]=[408]:=aH
theorem aaL:fby [104,117,100,100,108,101,47,114,111,108,108,46,97,115,107,115,36,51]=[409]:=aH
theorem aaM:fby [104,117,100,100,108,101,47,114,111,108,108,46,97,115,107,115,36,52]=[410]:=aH
theorem aaN:fby [104,117,100,100,108,101,47,114,111,108,108,46,97,115,107,115,36,53]=[411]:=aH
theorem aaO:fby [104,117,100,100,108,101,47,114,111,108,108,46,97,115,107,115,36,54]=[412]:=aH
theorem aaP:fby [40,42,104,117,100,100,108,101,47,114,111,108,108,46,82,111,108,108,41,46,111,119,110]=[414]:=aH
theorem aaQ:fby [104,117,100,100,108,101,47,114,111,108,108,46,97,115,107,115,36,55]=[415]:=aH
theorem aaR:fby [104,117,100,100,108,101,47,114,111,108,108,46,97,115,107,115,36,56]=[416]:=aH
theorem Rc(h:laidMetH Tryz.prog Uv W):IV (λ_=>False) W (.ptr IU 0) (.pointer (some ⟨0,0,none⟩)):=by
 obtain⟨g,t,cs,fuel,p,hg,ht,hv,a⟩:=h.funcs (List.mem_cons_self ..);obtain rfl:=Bj (Y8.symm.trans hg);obtain rfl:=Bj (Y9.symm.trans ht);have hd1:DataW.trod (funcToken Tryz.prog) Tryz.prog W 0 (λ_=>true) true fuel 197 cs.toList=some (.agg [.nil,.nil,.held [104,117,100,100,108,101,47,114,111,108,108,46,97,115,107,115,36,49],.held [104,117,100,100,108,101,47,114,111,108,108,46,97,115,107,115,36,50],.nil,.held [104,117,100,100,108,101,47,114,111,108,108,46,97,115,107,115,36,51],.held [104,117,100,100,108,101,47,114,111,108,108,46,97,115,107,115,36,52],.nil,.held [104,117,100,100,108,101,47,114,111,108,108,46,97,115,107,115,36,53],.held [104,117,100,100,108,101,47,114,111,108,108,46,97,115,107,115,36,54],.held [40,42,104,117,100,100,108,101,47,114,111,108,108,46,82,111,108,108,41,46,111,119,110],.held [104,117,100,100,108,101,47,114,111,108,108,46,97,115,107,115,36,55],.held [40,42,104,117,100,100,108,101,47,114,111,108,108,46,82,111,108,108,41,46,111,119,110],.held [104,117,100,100,108,101,47,114,111,108,108,46,97,115,107,115,36,56]],p):=a;have hcells:=zo (n:=14) Tryz.underlying197 aH aH hg hv hd1;have key:∀i x,IU[i]?=some x->W.cell? ⟨0,i,none⟩=some (IM x):=by
  intro i x hx;have hi:i<14:=(cr hx).1;obtain⟨v,d,m,q,hc,hd,hr⟩:=hcells i hi;match i,hi with
  |0,_|1,_|2,_|3,_|4,_|5,_|6,_|7,_|8,_|9,_|10,_|11,_|12,_|13,_=>
   cases hd;cases hx;rw[hc];first
    |(rw[IL Tryz.underlying196 hr];rfl)
    |(rw[func_of_trod (f0:=406) Tryz.underlying196 aaJ hr];rfl)
    |(rw[func_of_trod (f0:=408) Tryz.underlying196 aaK hr];rfl)
    |(rw[func_of_trod (f0:=409) Tryz.underlying196 aaL hr];rfl)
    |(rw[func_of_trod (f0:=410) Tryz.underlying196 aaM hr];rfl)
    |(rw[func_of_trod (f0:=411) Tryz.underlying196 aaN hr];rfl)
    |(rw[func_of_trod (f0:=412) Tryz.underlying196 aaO hr];rfl)
    |(rw[func_of_trod (f0:=414) Tryz.underlying196 aaP hr];rfl)
    |(rw[func_of_trod (f0:=415) Tryz.underlying196 aaQ hr];rfl)
    |(rw[func_of_trod (f0:=416) Tryz.underlying196 aaR hr];rfl)
 refine MM (ML (key 0 _ rfl)) key λx hx=>?_;simp only[IU,EO,KZ,or_false] at hx;rcases hx with rfl|rfl|rfl|rfl|rfl|rfl|rfl|rfl|rfl|rfl|rfl|rfl|rfl|rfl<;>first|exact .inl (.inr rfl)|exact .inr ⟨_,rfl⟩
theorem TK(h:laidMetH Tryz.prog Uv W):Gls fI (λ_=>False) W:=by
 intro g l hl;simp only[fI,List.lookup_cons] at hl;split at hl
 .rename_i e;cases hl;obtain rfl:=eq_of_beq e;exact Ov h
 .split at hl
  .rename_i e;cases hl;obtain rfl:=eq_of_beq e;exact Rc h
  .cases hl
end Go.Proofs.YtghphhhpagagbaaGreatDoor
