/- Texts. -/
import Derived.Test.YtghphhhpagagbaaGreatDoorZM
namespace Go.Proofs.YtghphhhpagagbaaGreatDoor
set_option linter.unusedSectionVars false
set_option linter.unusedVariables false
set_option linter.unusedSimpArgs false
open Go.RowKit Tryz
attribute [local irreducible] Tr dz Gp
variable (gl:CO)
variable {α:Type}{V:List Bool}{l u:Bj}{x y:Ab}{dl:JW}{al:A3}{a:Bf×FM Ab Bool}{ids r row v:Bf}{R:Ad}{D:Dl}{fi:FuncId}{fa fc:Bn}{N:JL}{j k n:Nat}{gg:Aj}{I:Gi}{o:Bq}{g:Ba}{ss:Lw}
theorem AmE{js:Bj}(hj:js.length<=1000)(hi:∀z∈js,∃q:Nat,z=(q:Int)/\q<V.length):T (AB (ng js) (V,0)) λW=>W.length=V.length/\∀(q:Nat) (b:Bool),V[q]?=some b->W[q]?=some (b||decide ((q:Int)∈js)):=by
 refine T.forA js.length (λk W=>W.length=V.length/\∀(q:Nat) (b:Bool),V[q]?=some b->W[q]?=some (b||decide ((q:Int)∈js.take k))) aa (by grind) (λk W hk a=>?_) λW a=>?_
 .obtain⟨z,hz,c⟩:=dk hk;obtain⟨p,rfl,hp⟩:=hi z c;unfold ng;simp only[eA hk,ax,au,hz,Bp];refine .bind (.set aa (by rw[a.1];omega) (.some ⟨aq aa,by rw[List.length_set];exact a.1,λq b h=>?_⟩));rw[Fa,List.getElem?_set,Rb hz];grind
 .unfold ng;dsimp only;rw[eF,Bg];rw[EY] at a;exact .some a
theorem AaW{σ1 σ2 ρ1 ρ2:Type}{s1:σ1->Option (σ1⊕ρ1)}{s2:σ2->Option (σ2⊕ρ2)}(R:σ1->σ2->Prop)(Q:ρ1->ρ2->Prop)(μ:σ1->Nat)(h:∀a b,R a b->∃u v,s1 a=some u/\s2 b=some v/\Sim (λa' b'=>R a' b'/\μ a'<μ a) Q u v):∀(n:Nat) (a:σ1) (b:σ2),μ a<n->R a b->∃q r,KN s1 n a=some q/\KN s2 n b=some r/\Q q r
 |0,a,b,hm,_=>absurd hm (Nat.not_lt_zero _)
 |n+1,a,b,hm,hR=>by
  obtain⟨u,v,e1,e2,hs⟩:=h a b hR;unfold KN;rw[e1,e2];cases u with
  |inl a'=>
   cases v with
   |inl b'=>exact AaW R Q μ h n a' b' (by have:=hs.2;omega) hs.1
   |inr b'=>exact hs.elim
  |inr a'=>
   cases v with
   |inl b'=>exact hs.elim
   |inr b'=>exact⟨_,_,rfl,rfl,hs⟩
section
variable {g:Ba} {m:JN} {N:JL} (P:Pg g m N)
include P
theorem Aer(hi:EF g l){p:Nat}(hp:g.IDs[p]?=some x):(p:Int)∈l↔x∈I6 g l:=by grind [Hb,O5,Pg.w,MT,Fs.nd]
theorem AkJ{s:Bj}{b:List Bool×List Bool×Int}(h:RDc g (CA g m N) dl al s a b){p:Nat}{x:Ab}(hp:g.IDs[p]?=some x)(hb:b.2.2=(p:Int)):AB (nh g dl b) ([],0)=some (dl.Row.filter λz=>(λy=>Jd (CA g m N) x y||(decide (y∈a.1.filter λx=> !Bc (a.2.get x))&&D4 (CA g m N) al.row x y)) ((g.IDs[z.toNat]?).getD ⟨0,0,0⟩)):=by
 have w:=P.w;have nI:=w.nI;have hr:dl.Row.length<=1000:=h.lr.nr;have hpl:p<g.L.length:=by grind
 generalize hf:(λy=>Jd (CA g m N) x y||(decide (y∈a.1.filter λx=> !Bc (a.2.get x))&&D4 (CA g m N) al.row x y))=f;refine T.eq (T.forA dl.Row.length (λk acc=>acc=(dl.Row.take k).filter λz=>f ((g.IDs[z.toNat]?).getD ⟨0,0,0⟩)) aa aC (λk acc hk hj=>?_) λacc hj=>?_)
 .obtain⟨z,hz,_⟩:=dk hk;have hrow:EF g dl.Row:=h.lr.row;obtain⟨q,y,rfl,d,hq,i⟩:=O5 w hrow hz;have hnm:I6 g dl.Row=al.row:=h.lr.nm;rw[hnm] at i;have hyr:=bO i;have hal:acc.length<=k:=by grind
  have e:(dl.Row.take (k+1)).filter (λz=>f ((g.IDs[z.toNat]?).getD ⟨0,0,0⟩))=acc++(if f y=true then[(q:Int)] else[]):=by rw[Rb hz,RT,<-hj];cases hfy:f y<;>simp[hq,hfy]
  have hw:=Aep P h.lr hpl d hp hq;unfold nh;simp only[eA hk,ax,au,hz,Bp,hb,Aeo P hpl d hp hq,Ah7 P h.toRDb hq hyr];refine .bind (T.mono (Q:=λc=>c=f y) ?_ λc hc=>?_)
  .rw[<-hf];dsimp only;cases Jd (CA g m N) x y<;>grind [T.some]
  .subst hc;cases hfy:f y with
   |true=>rw[hfy,Bz rfl] at e;exact .bind (.app cq (.some ⟨aq aa,e.symm⟩))
   |false=>rw[hfy,BB aC,Nf] at e;exact .some ⟨aq aa,e.symm⟩
 .unfold nh;dsimp only;rw[eF,Bg];refine .some (show acc=_ from ?_);rw[hj,EY]
theorem ltE{s:Bj}(hsn:s.Nodup)(hsl:s.length<=12)(h:Lr g dl al):∀x∈al.row,∀y∈al.row,decide (Sd (OS g.Cards s) x.By<Sd (OS g.Cards s) y.By)=decide (snD s ((CA g m N).o x).By<snD s ((CA g m N).o y).By):=by
 have w:=P.w;have pos:∀x∈al.row,∃q:Nat,q<g.L.length/\g.IDs[q]?=some x:=λx hx=>by rw[<-h.nm] at hx;obtain⟨z,hz,e⟩:=Fm.1 hx;obtain⟨j,hj⟩:=Hb hz;obtain⟨n,y,rfl,hn,hy,_⟩:=O5 w h.row hj;grind
 intro x hx y hy;obtain⟨p,hp,a⟩:=pos x hx;obtain⟨q,hq,b⟩:=pos y hy;obtain⟨o,ho,_⟩:=w.op hp;obtain⟨c,ho2,_⟩:=w.op hq;rw[(P.op ho a).2,(P.op ho2 b).2,<-(P.od p o x ho a).i,<-(P.od q c y ho2 b).i];refine AiJ hsn hsl ?_ ?_
 .rw[(P.od p o x ho a).i];exact P.dv p o x ho a
 .rw[(P.od q c y ho2 b).i];exact P.dv q c y ho2 b
theorem nxE{s:Bj}(hsn:s.Nodup)(hsl:s.length<=12){D:List Bool}(h:RDb g (CA g m N) dl al a V D):T (vL g {dl with Void:=V,Decided:=D} s) λnx=>NxQ g m N (wV al a.2) (a.1.filter λx=> !Bc (a.2.get x)) (λx y=>decide (Sd (OS g.Cards s) x.By<Sd (OS g.Cards s) y.By)) nx:=AkG P h.lr (show s.length<=1000 by omega) (AbU (List.filter_sublist.trans h.sub) h.lr.nd) (λ_ _ hp hx=>Ah7 P h hp hx) (ltE P hsn hsl h.lr)
theorem AkK{s:Bj}{b:List Bool×List Bool×Int}(hsn:s.Nodup)(hsl:s.length<=12)(h:RDc g (CA g m N) dl al s a b):∃u v,Af1 (CA g m N) al (OS g.Cards s) a=some u/\tw g dl s b=some v/\Sim (λa' b'=>RDc g (CA g m N) dl al s a' b'/\a'.1.length<a.1.length) (λ(v:FM Ab Bool) (r:List Bool×List Bool)=>Lr g {dl with Void:=r.1,Decided:=r.2} (wV al v)) u v:=by
 have w:=P.w;have nL:=w.nL;have nI:=w.nI;have hrow:EF g dl.Row:=h.lr.row;have hnm:I6 g dl.Row=al.row:=h.lr.nm;have hnd:al.row.Nodup:=h.lr.nd;have hnr:dl.Row.length<=1000:=h.lr.nr;have hrl:al.row.length=dl.Row.length:=by rw[<-hnm,Ht]
 obtain⟨nx,e1,t⟩:=nxE P hsn hsl h.toRDb;obtain⟨v0,hv⟩:∃v0,tw g dl s b=v0:=⟨_,rfl⟩;rw[hv];have D:=KY (λx=> !Bc (a.2.get x)) a.1;have hkl:=λp x hp hb=>AkJ P h (p:=p) (x:=x) hp hb;have hl1s:(a.1.filter λx=> !Bc (a.2.get x)).Sublist al.row:=List.filter_sublist.trans h.sub;have hlen:a.1.length<=1000:=by have:=h.sub.length_le;omega
 have hmem:∀y,y∈(a.1.filter λx=> !Bc (a.2.get x))↔y∈a.1/\Bc (a.2.get y)=false:=by grind
 unfold Af1;rw[C6 hlen,ax];dsimp only;generalize (a.1.filter λx=> !Bc (a.2.get x))=l1 at*;have hl1n:l1.Nodup:=hnd.sublist hl1s;have hl1l:l1.length<=1000:=by have:=hl1s.length_le;omega
 rw[h.nx] at e1;obtain rfl:=A9 e1;obtain⟨r,e2,hr⟩:=AmD (I:=CA g m N) (row:=al.row) (sen:=OS g.Cards s) hl1l;rw[e2];rcases t with⟨p,x,f,hp,hxl,hx⟩|⟨h0,hb⟩
 .obtain⟨i,J,rfl,hi,hx'⟩:=hr.resolve_right (by grind);obtain rfl:x=J:=by grind
  have hil:=(cr hi).1;have F:=hl1s.subset hxl;have hpl:p<g.L.length:=by grind
  rw[show decide (ah l1=0)=false from Dd (by unfold ah;omega),Bg,Bp,au,hi,Bp,Fa];obtain⟨gd,e3,g1,g2,H,M⟩:=Ah5 P h.lr;have hgood:QF gd (p:Int)=(JV (CA g m N) (wV al a.2)).any (λz=>decide (x=z)):=by rw[KI,Bool.eq_iff_iff,List.any_eq_true,decide_eq_true_iff,Aer P g1 hp,H];constructor<;>grind
  have hlp:∀y,y∈l1.eraseIdx i↔y∈l1/\y≠x:=λy=>by
   have hsp:l1=l1.take i++x::l1.drop (i+1):=by grind [List.drop_eq_getElem_cons,O7]
   have A:=hl1n;rw[hsp,List.perm_middle.nodup_iff,LP] at A;rw[List.eraseIdx_eq_take_drop_succ];constructor
   .intro hy;constructor<;>grind [List.mem_of_mem_drop]
   .rintro⟨hy,hne⟩;rw[hsp] at hy;rcases HU.1 hy with hy|hy
    .exact HU.2 (.inl hy)
    grind
  have hvl:b.1.length=g.L.length:=h.lr.nv;have hdl:b.2.1.length=g.L.length:=h.lr.nc;have key:∀(o:Bj) (d:FM Ab Bool),o.length<=1000->(∀z∈o,∃q:Nat,z=(q:Int)/\q<b.1.length)->(∀(q:Nat) (y:Ab),g.IDs[q]?=some y->Bc (d.get y)=(Bc (a.2.get y)||decide ((q:Int)∈o)))->T ((ji b.2.1 b.2.2 true).bind λj=>(AB (ng o) (b.1,0)).bind λk=>(vL g ({dl with Void:=k,Decided:=j}) s).bind λB=>some (.inl (k,j,B))) λ(v:(List Bool×List Bool×Int)⊕(List Bool×List Bool))=>Sim (λa' b'=>RDc g (CA g m N) dl al s a' b'/\a'.1.length<a.1.length) (λ(v:FM Ab Bool) (r:List Bool×List Bool)=>Lr g {dl with Void:=r.1,Decided:=r.2} (wV al v)) (.inl (l1.eraseIdx i,d)) v:=λo d hjl C l=>by
   rw[f];refine .bind (.set aa aa (.bind ((AmE hjl C).mono λW E=>?_)));rw[Fa];have hL:Lr g {dl with Void:=W,Decided:=b.2.1.set p true} (wV al d):=⟨hrow,hnm,hnd,hnr,E.1.trans hvl,by grind,λq y hq=>by show W[q]?=some (Bc (d.get y));rw[l q y hq];exact E.2 q _ (h.lr.vd q y hq)⟩
   have hb:RDb g (CA g m N) dl al (l1.eraseIdx i,d) W (b.2.1.set p true):=by
    refine⟨hL,(List.eraseIdx_sublist l1 i).trans hl1s,(by grind [RDb.kil,h.toRDb]),λq y hq hy hk n=>?_⟩;dsimp only at n⊢;rw[l q y hq] at n;have hvy1:Bc (a.2.get y)=false:=by grind
    rw[List.getElem?_set];by_cases c:p=q
    .grind
    .have hne:y≠x:=λe=>c (by rw[e] at hq;exact MT w.nd hp hq);rw[BB c,h.dec q y hq hy hk hvy1];grind
   obtain⟨K,e4,_⟩:=nxE P hsn hsl hb;rw[e4,Bp];exact .some ⟨⟨hb,e4⟩,by show(l1.eraseIdx i).length<_;rw[List.length_eraseIdx_of_lt hil];omega⟩
  unfold tw at hv;rw[f,show decide ((0:Int)<=(p:Int))=true from C6 aa,ax,e3,Bp,cX aa,Bp,hkl p x hp f,Bp,hgood] at hv;rw[<-f] at hv;cases hg:(JV (CA g m N) (wV al a.2)).any (λz=>decide (x=z)) with
  |true=>
   rw[hg,Bool.not_true,Bg,Bp] at hv;rw[ax];obtain⟨v',ev,hs⟩:=key (dl.Row.filter λz=>(λy=>Jd (CA g m N) x y||(decide (y∈l1)&&D4 (CA g m N) al.row x y)) ((g.IDs[z.toNat]?).getD ⟨0,0,0⟩)) (vAl (CA g m N) al.row (l1.eraseIdx i) x a.2) (JD (KY _ _) hnr) (λz hz=>by
    obtain⟨q,e,hq⟩:=hrow.nat (Hj.1 hz).1;exact⟨q,e,aa⟩) λq y hq=>by
    unfold vAl;rw[AcO];congr 1;have h1:decide ((q:Int)∈dl.Row.filter λz=>(λy=>Jd (CA g m N) x y||(decide (y∈l1)&&D4 (CA g m N) al.row x y)) ((g.IDs[z.toNat]?).getD ⟨0,0,0⟩))=(decide (y∈al.row)&&(Jd (CA g m N) x y||(decide (y∈l1)&&D4 (CA g m N) al.row x y))):=by rw[Bool.eq_iff_iff,decide_eq_true_iff,Hj,bA,decide_eq_true_iff,Aer P hrow hq,hnm,Fa,hq,Ng]
    rw[h1];congr 2;have h2:(l1.eraseIdx i).any (λz=>decide (y=z))=decide (y∈l1/\y≠x):=by rw[Bool.eq_iff_iff,List.any_eq_true,decide_eq_true_iff,<-hlp];constructor<;>grind
    rw[h2];by_cases c:y=x
    .subst c;unfold D4;simp
    .simp[c]
   exact⟨_,v',rfl,by rw[<-hv,ev],hs⟩
  |false=>
   rw[hg,Bool.not_false,ax,Bp] at hv;rw[Bg];obtain⟨v',ev,hs⟩:=key [b.2.2] (C7 a.2 x true) aC (by grind) λq y hq=>by
    rw[BG,f];by_cases c:y=x
    .subst c;have:q=p:=MT w.nd hq hp;rw[Bz rfl,this];simp[Bc]
    .have:¬((q:Int)=(p:Int)):=λe=>c (by have:q=p:=aa;grind)
     rw[BB c];simp[this]
   exact⟨_,v',rfl,by rw[<-hv,ev],hs⟩
 .rw[h0,show decide (ah ([]:Bf)=0)=true from rfl,ax];unfold tw at hv;rw[hb,show decide ((0:Int)≤-1)=false from rfl,Bg] at hv;exact⟨_,_,rfl,hv.symm,h.lr⟩
end
section
variable {g:Ba} {m:JN} {N:JL} (P:Pg g m N)
include P
theorem Ah8(hrm:∀x∈row,x∈g.IDs):(On (CA g m N) row).Nodup/\(On (CA g m N) row).length<=12:=by
 have h1:(On (CA g m N) row).Nodup:=AcL .nil;refine⟨h1,AmC h1 ?_⟩;refine AaU (Q:=λd=>1<=d/\d<=12) (λx hx d hd=>?_) λd hd=>by cases hd
 obtain⟨i,hi⟩:=Hb (hrm x hx);have:=(cr hi).1;obtain⟨o,ho,so,a⟩:=P.w.op (i:=i) (by have:=P.w.nI;omega);rw[(P.op ho hi).2] at hd;exact AaT a hd
theorem Aes{vs:Bf}(hi:GV g ids)(ho:n8 g ids=some row)(hrn:row.Nodup)(hr:row.length<=1000)(hrm:∀x∈row,x∈g.IDs)(hv:vJ ids=some vs)(d:vs.length<=1000)(hvm:∀x∈vs,x∈g.IDs):T (oR g ids) λe=>∃v,Af2 (CA g m N) (XL ⟨g.Cards,m,N⟩ row vs) (OS g.Cards (On (CA g m N) row))=some v/\Lr g e (wV (XL ⟨g.Cards,m,N⟩ row vs) v):=by
 unfold oR;refine .bind ((AkH P hi ho hrn hr hrm hv d hvm).mono λc ⟨hL,hD⟩=>?_);rw[AaV P ho hr hrm,Bp];obtain⟨s1,s2⟩:=Ah8 P hrm;have hR:RDb g (CA g m N) c (XL ⟨g.Cards,m,N⟩ row vs) (row.filter (λx=> !!I5 ((CA g m N).o x).Kind),(XL ⟨g.Cards,m,N⟩ row vs).void) c.Void c.Decided:=⟨hL,List.filter_sublist,λx hx=>by have:=(Hj.1 hx).2;simpa using this,λp x hp hx hk _=>by have hpl:=(cr hp).1;have hm:x∈row.filter (λx=> !!I5 ((CA g m N).o x).Kind):=Hj.2 ⟨hx,by rw[hk];rfl⟩;rw[hD,List.getElem?_replicate,Bz (by have:=P.w.nI;omega),C6 hm];rfl⟩
 obtain⟨nx,e3,_⟩:=nxE P s1 s2 hR;rw[show vL g c (On (CA g m N) row)=some nx from e3,Bp];obtain⟨v,r,h1,h2,h3⟩:=AaW (s1:=Af1 (CA g m N) (XL ⟨g.Cards,m,N⟩ row vs) (OS g.Cards (On (CA g m N) row))) (s2:=tw g c (On (CA g m N) row)) (RDc g (CA g m N) c (XL ⟨g.Cards,m,N⟩ row vs) (On (CA g m N) row)) (λ(v:FM Ab Bool) (r:List Bool×List Bool)=>Lr g {c with Void:=r.1,Decided:=r.2} (wV (XL ⟨g.Cards,m,N⟩ row vs) v)) (λa=>a.1.length) (λa b h=>AkK P s1 s2 h) FU _ (c.Void,c.Decided,nx) (by have:=KY (λx=> !!I5 ((CA g m N).o x).Kind) row;unfold FU;show(row.filter _).length<_;omega) ⟨hR,e3⟩;rw[show AB (tw g c (On (CA g m N) row)) (c.Void,c.Decided,nx)=some r from h2,Bp];exact .some ⟨v,h1,h3⟩
theorem AkL(hi:EF g l)(hl:l.length<=1000)(hnd:(I6 g l).Nodup):T (AB (tQ g l) (⟨g.Cards,[],[],[],0,[]⟩,0)) λD=>Rr (Y6 (CA g m N) (I6 g l)) D/\Bk (Y6 (CA g m N) (I6 g l))/\Jq g 1000 D:=by
 have w:=P.w;have nI:=w.nI;obtain⟨c,e0,d⟩:=AkF (P.new);have hD0:c=⟨g.Cards,[],[],[],0,[]⟩:=(A9 e0).symm;subst hD0;refine T.forA l.length (λj D=>(Rr (((I6 g l).take j).foldl (Nw (CA g m N)) (Hf g.Cards)) D/\Bk (((I6 g l).take j).foldl (Nw (CA g m N)) (Hf g.Cards))/\Gs (((I6 g l).take j).foldl (Nw (CA g m N)) (Hf g.Cards)) ((I6 g l).take j))/\Jq g j D) aa ⟨⟨d,LC P.cd.r,λq z g h=>by cases h⟩,Mv g⟩ (λj D hj hr=>?_) λD hr=>?_
 .obtain⟨y,hy,hm⟩:=dk hj;obtain⟨i,x,rfl,hil,hx,a⟩:=O5 w hi hy;obtain⟨o,ho,so,p⟩:=w.op hil;obtain⟨⟨h1,h2,h3⟩,h4⟩:=hr;have hod:=P.od i o x ho hx;have b:=(P.op ho hx).2;have et:((I6 g l).take (j+1)).foldl (Nw (CA g m N)) (Hf g.Cards)=U2 (((I6 g l).take j).foldl (Nw (CA g m N)) (Hf g.Cards)) o x:=by rw[Rb a,OO,List.foldl_cons,List.foldl_nil];unfold Nw;rw[b]
  have hxS:x∉(I6 g l).take j:=λh=>by
   obtain⟨q,hq⟩:=Hb h;rw[List.getElem?_take] at hq;split at hq
   .have:=MT hnd hq a;omega
   .cases hq
  rw[et,Rb a];generalize ((I6 g l).take j).foldl (Nw (CA g m N)) (Hf g.Cards)=R at h1 h2 h3⊢;unfold tQ;simp only[eA hj,ax,au,hy,ho,hx,Bp];have z:=AaS P h4 aa;have k:=h4.dev;have n:=h4.nL;exact .bind ((T.and (doE z ⟨aa,aa⟩ h1 h2 λ_ q z f k1 k2 e=>by have:=h3 q z f k1 k2;rw[e] at this;exact hxS this) (Gc w aa h4 so x)).mono λv hv=> .some ⟨aq aa,⟨hv.1,RG h2 hod,Ah4 h3 h2 o x⟩,hv.2.1⟩)
 .unfold tQ;dsimp only;rw[eF,Bg];have hl2:(I6 g l).length=l.length:=Ht ..;rw[<-hl2,EY] at hr;exact .some ⟨hr.1.1,hr.1.2.1,hr.2.up aa⟩
theorem AmG{ids row vs:Bf}(hi:GV g ids)(ho:n8 g ids=some row)(hrn:row.Nodup)(hr:row.length<=1000)(hrm:∀x∈row,x∈g.IDs)(hv:vJ ids=some vs)(a:vs.length<=1000)(hvm:∀x∈vs,x∈g.IDs):T (zY g ids) λD=>∃cs,Af5 (CA g m N) (XL ⟨g.Cards,m,N⟩ row vs) (On (CA g m N) row)=some cs/\cs.Sublist row/\Rr (Y6 (CA g m N) cs) D/\Bk (Y6 (CA g m N) cs)/\Jq g 1000 D:=by
 unfold zY AV;rw[Bp];refine .bind ((Aes P hi ho hrn hr hrm hv a hvm).mono λe hdl=>?_);obtain⟨v,h1,h2⟩:=hdl;refine .bind ((Ah5 P h2).mono λr b=>?_);obtain⟨g1,g2,d,c⟩:=b;have hcs:Af5 (CA g m N) (XL ⟨g.Cards,m,N⟩ row vs) (On (CA g m N) row)=some (I6 g r):=by unfold Af5;rw[show(CA g m N).cards=g.Cards from rfl,h1,d];rfl
 refine .bind ((AkL P g1 g2 (hrn.sublist c)).mono λD hD=> .some ⟨I6 g r,hcs,c,hD⟩)
end
theorem AkM(z:Sz D)(h:Rr R D)(hR:Bk R):lu D=some (JJ R):=by
 obtain⟨a,b,_⟩:=Om hR;unfold lu;refine T.eq (.bind ((Aeh z.i).mono λv hv=> .some ?_));refine AaR (hv.1.trans (List.Perm.trans ?_ b.symm)) hv.2 a;refine(List.perm_ext_iff_of_nodup (List.nodup_append.1 h.nd).1 hR.ci.kd).2 λe=>?_;have hi:=h.in_ e;constructor
 .intro he;rw[Bz he] at hi;obtain⟨n,hm⟩:=Hq hi;exact Fm.2 ⟨_,hm,rfl⟩
 .intro he;obtain⟨q,hq,rfl⟩:=Fm.1 he;have hg:=JI hR.ci (k:=q.1) (v:=q.2.1) (n:=q.2.2) hq;rw[hg] at hi;split at hi
  .assumption
  .cases hi
theorem Ut:fg prog 115=some true:=aH
theorem Nl:Aa0 prog gl Bv (λx=>[.agg (Bv x)]) 134:=λs f fi_f fa_f fc_f a=>
 cy func134 λK=>Ow 1101 (λg=>sg [] []) (λs1=>sf [] [(7,iG (ah s)),(8,iG s1)]) [hc (a.im)] K (λg=>rv K) λs1 k5 h k6=>aF 9 (CB 14 Bi.ixZ 15 (Bi.ptZ Hk) λd=>ak λi e=>kV (λb=>aw [hz 16 [] (cS (a.cs (c:=0) e (aY (aG 20 (.agg (Bv d)) aH) (bf))) b)]<|aP c3 k6 []) λb=>aw [hz 16 [] (cS (a.cs (c:=0) e (aY (aG 20 (.agg (Bv d)) aH) (bf))) b)]<|cj k5 [hc (a.im)])<|aA c2 h []
theorem LW:Ab0 prog gl Bv (λx=>[.agg (Bv x)]) 67:=λs f fi_f fa_f fc_f a=>
 cy func67 λK=>ak λb e2=>aw [hz 7 [] (jf (c:=0) aH (Nl gl (a) e2) (aY (aG 20 (aE Bv s) aH) (aY (a.im) (bf))))]<|rv K
def JG(f:Bh)(a1:Bq):Fp:=
 (bif decide (f.Device=a1.By) then(some (decide (f.Seq<=a1.Seq))) else(some false)).bind λa=>some a
theorem UC{f a1}:DL prog gl (JG f a1) 69 [.agg (Bv f),.ptr (aJ a1) 0] bG:=
 cy func69 λK=>cN [1,0] (so [0] [(2,.ref 0 0)] [ob 0 123 (Bv f)] 1) []<|cC [1,0] (λa=>sk [] [(3,bG a)] [] 0) (λa=>rv K) λa k3=>aF 8 (rx k3)<|rx k3
def Aab(a:Ad)(device:Int):Fp:=
 some (Hw (a.in_.get device))
theorem UD{r_ device}:DL prog gl (Aab r_ device) 75 [.ptr (CM r_) 0,iG device] bG:=
 cy func75 λK=>aw [hm 10 (Sp r_.in_ device)]<|rv K
def SH(d:Int)(a1:Bj):Fp:=
 (Ab1 a1 d).bind λa=>some (!a)
theorem UE{d a1}:DL prog gl (SH d a1) 76 [iG d,.ptr [aE cZ a1] 0] bG:=
 cy func76 λK=>BU 6 (Dx gl) λa=>rv K
section
variable {gl:CO}
abbrev InV(gl:CO)(fi:FuncId)(fa fc:Bn)(p:Int->Bool):Prop:=T9 prog gl fi fa fc (λx:Int=>[iG x]) (λx:Bool=>bG x) (λk=>some (p k))
theorem Ac2{p:Int->Bool}(hv:InV gl fi fa fc p){l:Bj}(hn:l.length<=1000000):iV prog gl 73 [aE cZ l,.clo (.func fi) fa fc] 3 (l.filter p).length ((l.filter p).flatMap cZ):=by
 refine OW func73 ?_;refine pN (λk:Nat=>(s0 23 gl [(1,.clo (.func fi) fa fc),(5,.rsl 0 0 ((l.take k).filter p).length),(8,aE cZ l),(9,iG (ah l)),(10,iG (k:Int))] [(0,KS ((l.take k).filter p))] 1 0)) 1110122 (DV (n:=l.length) aa) [] [hc hv.im,hc (rZ.imm [])] (λB k w hs k5 a=>?_) [3] [(0,0)] [(0,.row)];unfold Ja at hs;split at hs
 .rename_i hlt;obtain rfl:=A9 hs;obtain⟨x,hx⟩:∃x,l[k]?=some x:=⟨_,DQ hlt⟩;have hz:=AH hx;have k5:=k5 _ rfl;have hl:((l.take k).filter p).length<=k:=JD (KY _ _) (by rw[Mh];omega);rw[JM,hx,Option.toList_some,RT] at k5;generalize (l.take k).filter p=q at k5 hl⊢;have hcs:=hv.cs (c:=1) (x:=x) rfl (aY (aG 20 (iG x) aH) bf);cases hp:p x with
  |true=>rw[hp] at hcs;rw[List.filter_cons_of_pos hp,List.filter_nil] at k5;exact jw [hr 11 (C5 hx),AA 12 (rZ.ixZ hz),AA 13 (rZ.p1Z tZ hz),Go.Proofs.YtghphhhpagagbaaGreatDoor.hz 16 [] hcs,Tn 20 rZ 8 q x aa,hbb 21 (Xl (q:=k) aa)] [hc hv.im,hc (el (q++[x])),hc (rZ.imm (q++[x]))] k5 [] [(0,2)] [(0,.row)]
  |false=>rw[hp] at hcs;rw[List.filter_cons_of_neg (by simp[hp]),List.filter_nil,Nf] at k5;exact jw [hr 11 (C5 hx),AA 12 (rZ.ixZ hz),AA 13 (rZ.p1Z tZ hz),Go.Proofs.YtghphhhpagagbaaGreatDoor.hz 16 [] hcs,hbb 21 (Xl (q:=k) aa)] [hc hv.im,hc (el q),hc (rZ.imm q)] k5 [] [(0,0)] [(0,.row)]
 .split at hs
  .rename_i he;subst he;rw[EY];exact EI [hr 11 (DG (s:=l))] (rZ.imm (l.filter p))
  .cases hs
end
def US(p:Nat->Bool)(N:JL):Bf:=(N.zipIdx.filter λq=>p q.2).map (·.1.id)
theorem AeW{p:Nat->Bool}{x:C3}(h:N[k]?=some x):US p (N.take (k+1))=US p (N.take k)++bif p k then[x.id] else[]:=by grind [US,JM]
theorem Ac3{p:Nat->Bool}:(US p N).length<=N.length:=by grind [US,List.length_zipIdx]
section
variable {gl:CO}
theorem AgT(a b:Ab):ba prog gl 123 [.agg (aj a),.agg (aj b)] (iG (GK a b)):=by
 have h1:=Tl (gl:=gl) a b;have h2:=Tl (gl:=gl) b a;unfold GK;refine Gh func123 ?_;cases c1:dt a b with
 |true=>rw[c1] at h1;exact Ar [hf 8 h1] []
 |false=>
  rw[c1] at h1;cases c2:dt b a with
  |true=>rw[c2] at h2;exact Ar [hf 8 h1,hf 12 h2] []
  |false=>rw[c2] at h2;exact Ar [hf 8 h1,hf 12 h2] []
theorem Aja:CmV gl 123 [] [] GK:=⟨aH,bf,bf,(by grind [AgT])⟩
abbrev NmV(gl:CO)(fi:FuncId)(fa fc:Bn)(p:Nat->Bool):Prop:=T9 prog gl fi fa fc (λx:Nat=>[iG (x:Int)]) (λx:Bool=>bG x) (λk=>bif decide (k<200) then some (p k) else none)
theorem Abh(hn:gg.nodes.length<=14){p:Nat->Bool}{fi:FuncId}{fa fc:Bn}(hv:NmV gl fi fa fc p)(h:OY GK (US p gg.nodes)=some r)(hle:r.length=(US p gg.nodes).length):iV prog gl 61 [.ptr (Ag gg) 0,.clo (.func fi) fa fc] 25 r.length (r.flatMap aj):=by
 rw[hle];refine OW func61 ?_;refine pN (λk:Nat=>(s0 30 gl [(1,.clo (.func fi) fa fc),(5,.rsl 0 0 (US p (gg.nodes.take k)).length),(11,aE d7 gg.nodes),(12,iG (ah gg.nodes)),(13,iG (k:Int))] [(0,BA (US p (gg.nodes.take k)))] 1 0)) 1110122 (DV (n:=gg.nodes.length) aa) [] [hc hv.im,hc (ac.imm [])] (λB k w hs k5 a=>?_) [25] [(0,0)] [(0,.row)];unfold Ja at hs;split at hs
 .rename_i hlt;obtain rfl:=A9 hs;obtain⟨x,hx⟩:∃x,gg.nodes[k]?=some x:=by simp_all
  have hz:=AH hx;have k5:=k5 _ rfl;have hl:(US p (gg.nodes.take k)).length<=k:=by grind [Ac3]
  rw[AeW hx] at k5;generalize US p (gg.nodes.take k)=l at k5 hl⊢;have hcs:=hv.cs (c:=2) (x:=k) (by rw[C6 (by grind)];rfl) (aY (aG 20 (iG (k:Int)) aH) bf);cases hp:p k with
  |true=>rw[hp] at k5 hcs;exact jw [hr 14 (C5 hx),AA 16 (az.ixZ hz),AA 17 (az.ptZ Ut hz),Go.Proofs.YtghphhhpagagbaaGreatDoor.hz 20 [] hcs,Tn 25 ac 24 l x.id aa,hbb 26 (Xl (q:=k) aa)] [hc hv.im,hc (el (l++[x.id])),hc (ac.imm (l++[x.id]))] k5 [] [(0,3)] [(0,.row)]
  |false=>rw[hp] at k5 hcs;rw[Bg,Nf] at k5;exact jw [hr 14 (C5 hx),AA 16 (az.ixZ hz),AA 17 (az.ptZ Ut hz),Go.Proofs.YtghphhhpagagbaaGreatDoor.hz 20 [] hcs,hbb 26 (Xl (q:=k) aa)] [hc hv.im,hc (el l),hc (ac.imm l)] k5 [] [(0,0)] [(0,.row)]
 .split at hs
  .rename_i he;subst he;rw[EY];exact EI [hr 14 (DG (s:=gg.nodes)),hso (gl:=gl) 28 1 Aja (JD Ac3 hn) h] (ac.imm r)
  .cases hs
theorem AgU(k:Nat):ba prog gl 62 [iG (k:Int)] (bG true):=by refine Gh func62 ?_;exact Ar [] []
theorem AgV{gg:Aj}(hn:gg.nodes.length<=14)(h:OY GK (US (λ_=>true) gg.nodes)=some r)(hle:r.length=(US (λ_=>true) gg.nodes).length):ba prog gl 24 [.ptr (Ag gg) 0] (aE aj r):=by have hN:=(Abh (gl:=gl) hn (fi:=62) (fa:=[]) (fc:=[]) ⟨aH,bf,bf,(by grind [AgU])⟩ h hle).fn ac.sz (ac.len _) (ac.imm _);refine Gh func24 ?_;exact Ar [hf 4 hN] []
def R1(gg:Aj)(l:Bf):Ot:=l.foldl (λs x=>match M3 gg x with|some y=>Q1 s y.past|none=>s) z4
theorem AeX(hg:Td gg)(hn:ids.length<=1000000):ba prog gl 83 [.ptr (Ag gg) 0,aE aj ids] (.agg (FSq (R1 gg ids))):=by
 refine Gh func83 ?_;refine pN (λk:Nat=>(s0 37 gl [(0,.ptr (Ag gg) 0),(4,.ref 0 0),(5,.ref 1 0),(10,aE aj ids),(11,iG (ah ids)),(12,iG (k:Int))] [(0,oA z4),(1,oA (R1 gg (ids.take k)))] 2 0)) 1110122 (DV (n:=ids.length) aa) [] [] (λB k w hs k5 a=>?_) [] [(0,0),(1,1)] [];unfold Ja at hs;split at hs
 .rename_i hlt;obtain rfl:=A9 hs;obtain⟨x,hx⟩:∃x,ids[k]?=some x:=by simp_all
  have hz:=AH hx;have k5:=k5 _ rfl;have e:R1 gg (ids.take (k+1))=match M3 gg x with|some y=>Q1 (R1 gg (ids.take k)) y.past|none=>R1 gg (ids.take k):=by unfold R1;rw[JM,hx,Option.toList_some,OO];rfl
  rw[e] at k5;generalize R1 gg (ids.take k)=s at k5⊢;have hk:=H7 gg.at_ x;cases em:gg.at_.get x with
  |none=>rw[em] at hk;rw[WY em] at k5;exact jw [hr 13 (C5 hx),AA 14 (ac.ixZ hz),AA 15 (ac.ptZ aW hz),hm 22 hk,hbb 35 (Xl (q:=k) aa)] [] k5 [] [(0,0),(1,1)] []
  |some n=>rw[em] at hk;obtain⟨j,y,rfl,hy,e2,_⟩:=Uh hg em;rw[e2] at k5;exact jw [hr 13 (C5 hx),AA 14 (ac.ixZ hz),AA 15 (ac.ptZ aW hz),hm 22 hk,AA 31 (az.ixZ hy),AA 33 (az.fsZ aap aaq 30 Cd hy),tN 34 [1] 3 [(1,oA s)] [.ref 1 0,.agg (FSq y.past)] [(0,oA (Q1 s y.past))] (TX gl s y.past) ⟨⟨rfl,.inl rfl⟩,trivial⟩ ⟨⟨rfl,.inl rfl⟩,trivial⟩,hbb 35 (Xl (q:=k) aa)] [] k5 [] [(0,0),(1,1)] []
 .split at hs
  .rename_i he;subst he;rw[EY];exact Ar [hr 13 (DG (s:=ids))] []
  .cases hs
end
section
variable {gl:CO}
theorem AgW(s:Ot)(hn:n<256):ba prog gl 84 [.ptr (FSq s) 0,iG (n:Int)] (bG (gW s n)):=by
 have h:=Xa (s:=s) hn;generalize gW s n=r at h⊢;have hm:u9 (n:Int) 64=some ((n%64:Nat):Int):=by grind [u9]
 have hcn:wJ ((n%64:Nat):Int)=some (n%64):=by grind [wJ]
 have hq:∀q:Nat,n/64=q->Gg (n:Int) 64=some (q:Int):=by grind [Gg,Mx]
 have hd:wI (Int.tdiv (n:Int) 64)=((n/64:Nat):Int):=by grind [bM]
 have ht:Int.tmod (n:Int) 64=((n%64:Nat):Int):=by grind
 unfold iX at h;rw[hd,ht,hcn] at h;refine Gh func84 ?_;have h4:n/64=0\/n/64=1\/n/64=2\/n/64=3:=aa;rcases h4 with e|e|e|e
 .rw[e] at h;obtain rfl:=A9 h;exact Ar [hbb 7 (Tt (hq 0 e)),hbb 12 (KO hm),hV 13 (Am (P:=prog) (t:=23) s.a0 hcn),hV 14 (ju (P:=prog) (t:=23) (Jo s.a0 (n%64)) 1)] []
 .rw[e] at h;obtain rfl:=A9 h;exact Ar [hbb 7 (Tt (hq 1 e)),hbb 12 (KO hm),hV 13 (Am (P:=prog) (t:=23) s.a1 hcn),hV 14 (ju (P:=prog) (t:=23) (Jo s.a1 (n%64)) 1)] []
 .rw[e] at h;obtain rfl:=A9 h;exact Ar [hbb 7 (Tt (hq 2 e)),hbb 12 (KO hm),hV 13 (Am (P:=prog) (t:=23) s.a2 hcn),hV 14 (ju (P:=prog) (t:=23) (Jo s.a2 (n%64)) 1)] []
 .rw[e] at h;obtain rfl:=A9 h;exact Ar [hbb 7 (Tt (hq 3 e)),hbb 12 (KO hm),hV 13 (Am (P:=prog) (t:=23) s.a3 hcn),hV 14 (ju (P:=prog) (t:=23) (Jo s.a3 (n%64)) 1)] []
theorem AgX(s:Ot):NmV gl 84 [.ptr (FSq s) 0] [] (gW s):=⟨aH,aY (aG 20 _ aH) bf,bf,(by grind [AgW])⟩
theorem AgY(hg:Td gg)(hn:gg.nodes.length<=14){ids r:Bf}(hi:ids.length<=1000000)(h:OY GK (US (gW (R1 gg ids)) gg.nodes)=some r)(hle:r.length=(US (gW (R1 gg ids)) gg.nodes).length):iV prog gl 31 [.ptr (Ag gg) 0,aE aj ids] 25 r.length (r.flatMap aj):=by refine OW func31 ?_;exact EI [hf 8 (AeX (gl:=gl) hg hi),ho 11 [.ptr (Ag gg) 0,.clo (.func 84) [.ptr (FSq (R1 gg ids)) 0] []] [] (Abh (gl:=gl) hn (AgX _) h hle) (kF r)] (ac.imm r)
theorem AeY{l:Bf}{x:Ab}{i c:Nat}(hn:l.length<=100000):oJ prog gl 133 [.rsl i 0 l.length,.agg (aj x)] [(i,BA l)] c (bG (l.any λy=>decide (x=y))) [] c:=
 PA aH (Jk gl (SM aa x)) (lR _) rfl λst h j y z h1 h2=>by
  match j with
  |0=>grind [Aau]
  |1=>cases h1;cases h2;exact jB (aG 20 (.agg (aj x)) aH)
  |j+2=>cases h1
def Lu(I:Gi)(p l:Bf):Bf:=l.foldl (λr x=>bif decide (0<I.lev x) then bif r.any λy=>decide (x=y) then r else r++[x] else r) p
theorem Abi{I:Gi}:∀{l p:Bf},(Lu I p l).length<=p.length+l.length
 |[],p=>Dq _
 |x::l,p=>by have a:Lu I p (x::l)=Lu I (bif decide (0<I.lev x) then bif p.any λy=>decide (x=y) then p else p++[x] else p) l:=rfl;rw[a];refine JD Abi ?_;grind
theorem AeZ(h:Q5 gl gg I){p:Bf}(hp:iV prog gl 31 [.ptr (Ag gg) 0,aE aj o.Past] 25 p.length (p.flatMap aj))(hn:p.length+o.Past.length<=100000):iV prog gl 66 [.ptr (Ag gg) 0,.agg (aJ o)] 25 (Lu I p o.Past).length ((Lu I p o.Past).flatMap aj):=by
 refine OW func66 ?_;refine pN (λk:Nat=>(s0 35 gl [(0,.ptr (Ag gg) 0),(5,.rsl 0 0 (Lu I p (o.Past.take k)).length),(13,aE aj o.Past),(14,iG (ah o.Past)),(15,iG (k:Int))] [(0,BA (Lu I p (o.Past.take k)))] 1 0)) 1110122 (DV (n:=o.Past.length) aa) [ho 11 [.ptr (Ag gg) 0,aE aj o.Past] [] hp (kF p)] [hc (el p),hc (ac.imm p)] (λB k w hs k5 d=>?_) [] [(0,1)] [(0,.row)];unfold Ja at hs;split at hs
 .rename_i hlt;obtain rfl:=A9 hs;obtain⟨x,hx⟩:∃x,o.Past[k]?=some x:=by simp_all
  have hz:=AH hx;have k5:=k5 _ rfl;have hl:(Lu I p (o.Past.take k)).length<=100000:=by grind [Abi]
  have e:Lu I p (o.Past.take (k+1))=bif decide (0<I.lev x) then bif(Lu I p (o.Past.take k)).any λy=>decide (x=y) then Lu I p (o.Past.take k) else Lu I p (o.Past.take k)++[x] else Lu I p (o.Past.take k):=by grind [Lu,JM,Option.toList_some]
  rw[e] at k5;generalize Lu I p (o.Past.take k)=l at k5 hl⊢;have b:=h.lev x;cases c1:decide (0<I.lev x) with
  |false=>rw[c1] at k5;exact jw [hr 16 (C5 hx),AA 17 (ac.ixZ hz),AA 18 (ac.ptZ aW hz),hf 21 b,hr 22 c1,hbb 33 (Xl (q:=k) aa)] [hc (el l),hc (ac.imm l)] k5 [] [(0,0)] [(0,.row)]
  |true=>
   rw[c1] at k5;have a:=AeY (gl:=gl) (l:=l) (x:=x) (i:=0) (c:=2) hl;cases c2:(l.any λy=>decide (x=y)) with
   |true=>rw[c2] at k5 a;exact jw [hr 16 (C5 hx),AA 17 (ac.ixZ hz),AA 18 (ac.ptZ aW hz),hf 21 b,hr 22 c1,Go.Proofs.YtghphhhpagagbaaGreatDoor.hz 26 [0] a,hbb 33 (Xl (q:=k) aa)] [hc (el l),hc (ac.imm l)] k5 [] [(0,0)] [(0,.row)]
   |false=>rw[c2] at k5 a;exact jw [hr 16 (C5 hx),AA 17 (ac.ixZ hz),AA 18 (ac.ptZ aW hz),hf 21 b,hr 22 c1,Go.Proofs.YtghphhhpagagbaaGreatDoor.hz 26 [0] a,Tn 32 ac 24 l x aa,hbb 33 (Xl (q:=k) aa)] [hc (el (l++[x])),hc (ac.imm (l++[x]))] k5 [] [(0,3)] [(0,.row)]
 .split at hs
  .rename_i he;subst he;rw[EY];exact EI [hr 16 (DG (s:=o.Past))] (ac.imm (Lu I p o.Past))
  .cases hs
end
abbrev haS(R:Ad)(sen:Bj):Bj:=sen.filter (PO R)
abbrev Abj(l:Bj)(d:Int):Bool:= !(l.any λy=>decide (d=y))
def Ae0(fk:Bool)(R:Ad)(o:Bq)(i:Ab)(sen:Bj):Bj:=bif fk then[] else bif decide (Ug R o≠0) then[] else haS (U2 R o i) sen++(JJ (U2 R o i)).filter (Abj (haS (U2 R o i) sen))
theorem AgZ(gl:CO)(R:Ad):InV gl 75 [.ptr (CM R) 0] [] (PO R):=⟨aH,aY (aG 20 (.ptr (CM R) 0) aH) bf,bf,λk r e=>by cases e;exact UD gl rfl⟩
theorem Ag0(gl:CO){l:Bj}(hl:l.length<=1000000):InV gl 76 [] [.ptr [aE cZ l] 0] (Abj l):=⟨aH,bf,aY (aG 20 (.ptr [aE cZ l] 0) aH) bf,λk r e=>by cases e;exact UE gl (by unfold SH;rw[SM aa k];rfl)⟩
theorem Acb{gl:CO}(hR:Bk R){l:Bj}(hl:l.length<=1000000){f:Nat->Nat}{c:Nat}(hnd:(XJ f).Nodup):oJ prog gl 73 [aE cZ l,.clo (.func 75) [.ref (f 0) 0] []] (B5 f R) c (.rsl c 0 (haS R l).length) [(c,some ⟨3,(haS R l).flatMap cZ,none⟩)] (c+1):=
 Adq aH (Ac2 (AgZ gl R) hl) (lZ _) rfl λst h i x y h1 h2=>by
  have hs:Rls f R st.σ:=λk ob ho=>h _ _ (by rw[Ho,LK (λa ha b hb e=>Ack hnd (List.mem_range.1 ha) (List.mem_range.1 hb) e) (List.mem_range.2 (D3 ho))];exact ho)
  match i with
  |0=>cases h1;cases h2;exact jB (aG 20 (aE cZ l) aH)
  |1=>
   cases h1;cases h2;refine SX rfl rfl (λj g d a b=>?_) λj g d a b=>by cases a
   match j with
   |0=>cases a;cases b;exact Afa hR hs
   |j+1=>cases a
  |i+2=>cases h1
section
variable {gg:Aj} {I:Gi} (h:Q5 fI gg I) {o:Bq} {i:Ab} {s:Bf} (hS:iV prog fI 66 [.ptr (Ag gg) 0,.agg (aJ o)] 25 s.length (s.flatMap aj)) {fr:List Bh} (hF:ba prog fI 68 [.ptr (Ag gg) 0,aE aj s] (aE Bv fr)) {fk:Bool} (hK:Aa1 fr (λf=>JG f o)=some fk) {R:Ad} (hR:Bk R) (hRl:Uz prog fI 30 [.ptr (Ag gg) 0,aE aj s] [] 0 0 (.ref 0 0) (B5 f0 R)) (hi:ba prog fI 70 [.agg (aJ o)] (.agg (aj i))) (hg:o.Guards.length<=1000000) (hp:Ug R o=0->WA o i) {sen:Bj} (hN:ba prog fI 74 [.ptr (Ag gg) 0,aE aj s] (aE cZ sen)) (hn:sen.length<=1000)
include hS hF hK hR hRl hi hg hp hN hn
theorem Ae1:iV prog fI 27 [.ptr (Ag gg) 0,.agg (aJ o)] 3 (Ae0 fk R o i sen).length ((Ae0 fk R o i sen).flatMap cZ):=by
 have a:=hS.fn ac.sz (ac.len _) (ac.imm _);have b:=LW fI (fi_f:=69) (fa_f:=[]) (fc_f:=[.ptr (aJ o) 0]) ⟨aH,bf,aY (aG 20 (.ptr (aJ o) 0) aH) bf,λf r e=>UC fI e⟩ hK;refine OW func27 ?_;unfold Ae0;cases fk with
 |true=>exact EI [hf 11 a,hf 14 hF,hq 16 [aE Bv fr,.clo (.func 69) [] [.ptr (aJ o) 0]] [] b] (rZ.imm [])
 |false=>
 rw[Bg];have hM:=AfO hR (o:=o) (i:=i) hg;generalize Ug R o=mm at hM hp⊢;cases cm:decide (mm≠0) with
 |true=>exact EI [hf 11 a,hf 14 hF,hq 16 [aE Bv fr,.clo (.func 69) [] [.ptr (aJ o) 0]] [] b,hrn 19 2 [.ptr (Ag gg) 0,aE aj s] hR hRl,hf 21 hi,hrr 25 (Qn 2) 16 [.agg (aJ o),.agg (aj i)] hR hM,hr 26 cm] (rZ.imm [])
 |false=>
  rw[Bg];have hp:=hp (Decidable.of_not_not (Lz cm));have hD:=AfG fI hR hp;have hQ:=RG hR hp;generalize U2 R o i=Q at hD hQ⊢;have hdl:(JJ Q).length<=1000:=by rw[(Om hQ).2.1.length_eq,Ht];have:=hQ.len;omega
  have hv:=Wz fI hQ;have hl:(haS Q sen).length<=1000:=JD (KY _ _) hn;have d:=Ac2 (Ag0 fI (l:=haS Q sen) aa) (l:=JJ Q) aa;have hap:aT 8 (haS Q sen) ((JJ Q).filter (Abj (haS Q sen)))=some (haS Q sen++(JJ Q).filter (Abj (haS Q sen))):=Bz (by have:=KY (Abj (haS Q sen)) (JJ Q);omega);have g:=Acb (gl:=fI) hQ (l:=sen) aa (f:=f0) (c:=14) Cd;refine pO 1111110 (s0 43 fI [(0,.ptr (Ag gg) 0),(3,.ptr (aJ o) 0),(5,aE aj s),(6,.ref 0 0),(7,.ref 14 0)] (B5 f0 R++[(14,XK i)]) 15 0) [hf 11 a,hf 14 hF,hq 16 [aE Bv fr,.clo (.func 69) [] [.ptr (aJ o) 0]] [] b,hrn 19 2 [.ptr (Ag gg) 0,aE aj s] hR hRl,hf 21 hi,hrr 25 (Qn 2) 16 [.agg (aJ o),.agg (aj i)] hR hM,hr 26 cm] (hc (eB (gs:=aJ o) aH)::rlB (Gu (Qn 2)++[(14,1)]) (Qn 2) hR) ?_ (ρ:=Gu (Qn 2)++[(14,1)]) (kd:=Nz);refine pO 11111110 (s0 43 fI [(0,.ptr (Ag gg) 0),(5,aE aj s),(6,.ref 0 0)] (B5 f0 Q) 14 0) [hrw 30 f0 15 [.agg (aJ o),.agg (aj i)] hR hQ hD] (rlB (Gu (fW f0 15)) (fW f0 15) hQ) ?_ (ρ:=Gu (fW f0 15)) (kd:=Nz);refine pO 111111110 (s0 43 fI [(6,.ref 0 0),(8,.ref 14 0)] (B5 f0 Q++[ob 14 22 [.rsl 15 0 (haS Q sen).length],(15,KS (haS Q sen))]) 16 0) [hf 33 hN,hz 36 (XJ f0) g] (rlB (Gu f0++[(14,15),(15,14)]) f0 hQ++[hc (el (haS Q sen)),hc (rZ.imm (haS Q sen))]) ?_ (ρ:=Gu f0++[(14,15),(15,14)]) (kd:=Nz++[(15,.row)]);exact EI [hrr 39 f0 17 [] hQ hv,ho 41 [aE cZ (JJ Q),.clo (.func 76) [] [.ptr [aE cZ (haS Q sen)] 0]] [hc (rZ.al (haS Q sen))] d (lZ _),dg 42 rZ hap] (rZ.imm _)
end
section
section
variable {P:Bu}
section
variable {ops:Array Oper} {K:St->Prop} {ty:Bo} {pos:String} {af:Array Edge} {rest:HA} {n:Nat} {gl:CO} {fr:Fr} {σ:aQ} {c p d j:Nat} {bars:Br} {rr:Bool}
end
section
variable {ops:Array Oper} {K:St->Prop} {ty:Bo} {pos:String} {af:Array Edge} {rest:HA} {n:Nat} {gl:CO} {fr:Fr} {σ:aQ} {c p d j:Nat} {bars:Br} {rr:Bool}
theorem AkY{op:Op}{gq:Option (Nat×Bool)}(hw:ce ⟨n,gl,fr,σ,c,p,rr⟩ ops ⟨some d,op,ty,pos,af,gq⟩=some false)(hd:d<n)(h:D8 P ops K rest ⟨n,gl,(d,.lit undef)::fr,σ,c,p,rr⟩):D8 P ops K (⟨some d,op,ty,pos,af,gq⟩::rest) ⟨n,gl,fr,σ,c,p,rr⟩:=by unfold D8;exact .inr ⟨hw,(by grind),h⟩
end
end
section
variable {P:Bu} {ops:Array Oper} {K:St->Prop} {op:Op} {ty:Bo} {pos:String} {af:Array Edge} {rest:HA} {n:Nat} {gl:CO} {fr:Fr} {σ:aQ} {c p d j:Nat} {bars:Br} {rr:Bool} {gq:Option (Nat×Bool)}
theorem zn(h:D8 P ops K rest ⟨n,gl,(d,.lit undef)::fr,σ,c,p,rr⟩)(hw:ce ⟨n,gl,fr,σ,c,p,rr⟩ ops ⟨some d,op,ty,pos,af,gq⟩=some false:=by kernel_rfl)(hd:d<n:=by decide):D8 P ops K (⟨some d,op,ty,pos,af,gq⟩::rest) ⟨n,gl,fr,σ,c,p,rr⟩:=AkY hw hd h
end
end
theorem Am1:bw prog 64=some 27:=aH
theorem Ajb(l:Md):∀g∈l.flatMap bv,∃v,g= .lit v:=by grind [bv]
section
def IK(g:Aj)(a:Ab):Option (Bq×Bool):=
 bif(!((g.at_.get a).isSome)) then(some (⟨0,0,0,0,[],0,0,0,0,[],⟨0,0,0⟩,0,[],[],⟨0,0,0⟩,[],0,0,[],0,[],⟨0,0⟩⟩,false)) else((Bt g.nodes (FR (g.at_.get a))).bind λb=>(pG b.o).bind λe=>some (e,true))
theorem Nn{g id_}:DL prog gl (IK g id_) 25 [.ptr (Ag g) 0,.agg (aj id_)] (λr=> .tup [.agg (aJ r.1),bG r.2]):=
 cy func25 λK=>aw [hm 14 (H7 g.at_ id_)]<|aF 18 (rv K)<|CB 25 az.ixZ 27 (az.fsZ GN Am1 0 Cd) λa=>BU 28 (Ds gl) λb=>rv K
def KE(g:Aj):Option Md:=
 (Fj g.cards).bind λa=>some a
theorem Q2{g}:LT prog gl (KE g) 81 [.ptr (Ag g) 0] 78 bv:=
 gc func81 λK=>ak λa e2=>aw [ho 7 [aE bv g.cards] [] (tn gl e2) (Ajb a)]<|mr c0 K (bT.imm _)
end
theorem sP(a:Ab):dt a a=false:=by grind [ye]
theorem AdK{a b:Ab}(h1:dt a b=false)(h2:dt b a=false):a=b:=by
 have n1:¬dt a b=true:=by rw[h1];simp
 have n2:¬dt b a=true:=by rw[h2];simp
 rw[ye] at n1 n2;obtain⟨a1,a2,a3⟩:=a;obtain⟨b1,b2,b3⟩:=b;grind
theorem Ae2(hn:gg.cards.length<=1000)(d:Int):hY gg d=some (((gg.cards.find? λc=>decide (c.Device=d)).getD S8),(gg.cards.find? λc=>decide (c.Device=d)).isSome):=by
 unfold hY;refine T.eq (.bind (T.forA gg.cards.length (λk acc=>∀(j:Nat) (c:DS),j<k->gg.cards[j]?=some c->c.Device≠d) aa (by grind) (λk acc hk hj=>?_) λacc hj=>?_))
 .obtain⟨x,hx⟩:∃x,gg.cards[k]?=some x:=⟨_,DQ hk⟩;unfold ij;dsimp only;rw[eA hk,ax,au,hx,Bp];refine .dec (λe=> .some (.some ?_)) λe=> .some ⟨aq aa,λj c' a b=>?_⟩
  .grind [List.find?_eq_some_iff_getElem]
  grind
 .unfold ij;dsimp only;rw[eF,Bg];have hf:gg.cards.find? (λc=>decide (c.Device=d))=none:=by grind [Hb]
  rw[hf];exact .some (.some rfl)
theorem Ag1{i:Int}{x:C3}(hx:Bt N i=some x)(hn:n<256){r:Bool}(h:iX x.past (n:Int)=some r):ba prog fI 84 [.ptr (N.flatMap d7) (i.toNat*35+30),iG (n:Int)] (bG r):=by
 have hm:u9 (n:Int) 64=some ((n%64:Nat):Int):=by grind [u9]
 have hcn:wJ ((n%64:Nat):Int)=some (n%64):=by grind [wJ]
 have hq:∀q:Nat,n/64=q->Gg (n:Int) 64=some (q:Int):=by grind [Gg,Mx]
 have hd:wI (Int.tdiv (n:Int) 64)=((n/64:Nat):Int):=by grind [bM]
 have ht:Int.tmod (n:Int) 64=((n%64:Nat):Int):=by rw[Int.tmod_eq_emod_of_nonneg aa];rfl
 unfold iX at h;rw[hd,ht,hcn] at h;refine Gh func84 ?_;have h4:n/64=0\/n/64=1\/n/64=2\/n/64=3:=aa;rcases h4 with e|e|e|e
 .rw[e] at h;obtain rfl:=A9 h;exact Ar [hbb 7 (Tt (hq 0 e)),AA 10 (az.fdZ tW 30 hx),hbb 12 (KO hm),hV 13 (Am (P:=prog) (t:=23) x.past.a0 hcn),hV 14 (ju (P:=prog) (t:=23) (Jo x.past.a0 (n%64)) 1)] []
 .rw[e] at h;obtain rfl:=A9 h;exact Ar [hbb 7 (Tt (hq 1 e)),AA 10 (az.fdZ tW 31 hx),hbb 12 (KO hm),hV 13 (Am (P:=prog) (t:=23) x.past.a1 hcn),hV 14 (ju (P:=prog) (t:=23) (Jo x.past.a1 (n%64)) 1)] []
 .rw[e] at h;obtain rfl:=A9 h;exact Ar [hbb 7 (Tt (hq 2 e)),AA 10 (az.fdZ tW 32 hx),hbb 12 (KO hm),hV 13 (Am (P:=prog) (t:=23) x.past.a2 hcn),hV 14 (ju (P:=prog) (t:=23) (Jo x.past.a2 (n%64)) 1)] []
 .rw[e] at h;obtain rfl:=A9 h;exact Ar [hbb 7 (Tt (hq 3 e)),AA 10 (az.fdZ tW 33 hx),hbb 12 (KO hm),hV 13 (Am (P:=prog) (t:=23) x.past.a3 hcn),hV 14 (ju (P:=prog) (t:=23) (Jo x.past.a3 (n%64)) 1)] []
theorem YF(h:Td gg):Q5 fI gg (OR gg) where
 op x:=by
  cases e:gg.at_.get x with
  |none=>
   have hr:IK gg x=some ((OR gg).o x,((OR gg).op x).isSome):=by grind [IK,Gi.o,OR,WY]
   exact Nn fI hr
  |some n=>
   obtain⟨k,y,rfl,hz,hn,hk,hm⟩:=Uh h e;have hr:IK gg x=some ((OR gg).o x,((OR gg).op x).isSome):=by grind [IK,Gi.o,OR,FR,Option.isSome_some,Td.cl]
   exact Nn fI hr
 bef x y:=by
  refine Gh func36 ?_;refine pO [1,0] (s0 44 fI [(0,.ptr (Ag gg) 0),(4,.ref 0 0),(5,.ref 1 0)] [(0,XK x),(1,XK y)] 2 0) [] [] ?_ [] [(0,0),(1,1)];show Gp _ _ (tH _ _ (bG (AfW gg x y))) _ _ _ _;unfold AfW;have h1:=H7 gg.at_ x;have h2:=H7 gg.at_ y;unfold FR at h1 h2;cases e1:gg.at_.get x with
  |none=>rw[e1] at h1;exact Ar [hm 17 h1,hm 26 h2] []
  |some n=>
   rw[e1] at h1;cases e2:gg.at_.get y with
   |none=>rw[e2] at h2;rw[WY e2];exact Ar [hm 17 h1,hm 26 h2] []
   |some q=>rw[e2] at h2;obtain⟨k,b,rfl,hz,hn,hk,hmm⟩:=Uh h e2;obtain⟨j,a,rfl,_,_,hj,_⟩:=Uh h e1;rw[hn];exact Ar [hm 17 h1,hm 26 h2,AA 39 (az.ixZ hz),hf 42 (Ag1 hz hj (Xa hj))] []
 lev x:=by
  refine HB fI ?_;unfold Fe FR;cases e:gg.at_.get x with
  |none=>show _=some (match M3 gg x with|some y=>y.level|none=>0);rw[WY e];rfl
  |some n=>obtain⟨k,y,rfl,hz,hn,hk,hm⟩:=Uh h e;show _=some (match M3 gg x with|some y=>y.level|none=>0);grind
 cards:=by
  have hr:KE gg=some gg.cards:=by grind [KE,Fj,aT,Td.nc]
  exact(Q2 fI hr).fn aH (bT.len _) (bT.imm _)
 card d:=uN fI (Ae2 h.nc d)
section
section
variable {g:Ba} {m:JN} {N:JL}
theorem VB(w:Fs g)(p:N8 g m N):Td ⟨g.Cards,m,N⟩ where
 pos x n e:=by have e:m.get x=some n:=e;rw[p.get] at e;cases hk:bu x g.IDs<;>grind [AbC]
 cl y hy:=by grind [N8,Hb,RM,Fs.ops]
 nc:=w.nC
end
end
section
theorem AdL(a:Ab):¬GK a a<0:=by grind [QI,sP]
theorem SI{a b:Ab}:JK I a b<0↔I.lev a<I.lev b\/(I.lev a=I.lev b/\dt a b=true):=by grind [JK,QI,AbD]
theorem Np(a:Ab):¬JK I a a<0:=by grind [SI,sP]
theorem SJ(I:Gi):OrN (JK I) λ_=>True:=by grind [OrN,SI,dt,EX]
section
variable {gl:CO}
end
end
theorem Acc(hl:ids.length<=1000000)(d s:Int):z9 ids d s=some (ON ids ⟨d,s⟩:Int):=by
 refine T.eq ?_;unfold z9;refine .bind ((T.forA ids.length (λk n=>n=(ON (ids.take k) ⟨d,s⟩:Int)) aa rfl (λk n hk hn=>?_) λn hn=>?_).mono (Q:=λn:Int=>n=(ON ids ⟨d,s⟩:Int)) λn hn=> .some hn)
 .obtain⟨y,hy,_⟩:=dk hk;unfold uf;simp only[eA hk,ax,au,hy,Bp];have h1:=TB (ids.take k) y ⟨d,s⟩;have h2:=Agh (ids.take k) ⟨d,s⟩;rw[Mh] at h2;rw[<-Rb hy] at h1;simp only[Bh.mk.injEq] at h1;have yes:y.By=d->y.Seq=s->wI (n+1)=(ON (ids.take (k+1)) ⟨d,s⟩:Int):=by grind [bM]
  have no:¬(y.By=d/\y.Seq=s)->n=(ON (ids.take (k+1)) ⟨d,s⟩:Int):=by grind
  by_cases c1:y.By=d
  .by_cases c2:y.Seq=s
   .simp only[c1,c2,decide_true,ax,Bp];exact .some ⟨aq aa,yes c1 c2⟩
   .simp only[c1,c2,decide_true,decide_false,ax,Bg,Bp];exact .some ⟨aq aa,no λc=>c2 c.2⟩
  .simp only[c1,decide_false,Bg,Bp];exact .some ⟨aq aa,no λc=>c1 c.1⟩
 .unfold uf;dsimp only;rw[eF,Bg];refine .some (show n=_ from ?_);rw[hn,EY]
def FsI(ids p:Bf)(d v:Int):Prop:=(v=0/\∀y∈p,y.By=d->¬2<=ON ids ⟨d,y.Seq⟩)\/(∃y∈p,y.By=d/\y.Seq=v/\2<=ON ids ⟨d,v⟩/\∀z∈p,z.By=d->2<=ON ids ⟨d,z.Seq⟩->v<=z.Seq)
theorem Uu{ids:Bf}(hl:ids.length<=1000000)(hs:∀x∈ids,1<=x.Seq)(d:Int):T (qN ids d) (FsI ids ids d):=by
 unfold qN;refine .bind ((T.forA ids.length (λk v=>FsI ids (ids.take k) d v) aa (.inl ⟨rfl,λy hy=>by cases hy⟩) (λk v hk hv=>?_) λv hv=>?_).mono (Q:=FsI ids ids d) λv hv=> .some hv)
 .obtain⟨y,hy,hm⟩:=dk hk;unfold qM;simp only[eA hk,ax,au,hy,Bp,Acc hl];have a:=hs y hm;have keep:(y.By=d->2<=ON ids ⟨d,y.Seq⟩->v≠0/\v<=y.Seq)->FsI ids (ids.take (k+1)) d v:=λh=>by
   rw[Rb hy];rcases hv with⟨h1,h2⟩|⟨z,h1,h2,h3,h4,h5⟩
   .refine .inl ⟨h1,λz hz hb hc=>?_⟩;rcases HU.1 hz with hz|hz
    .exact h2 z hz hb hc
    .simp at hz;subst hz;exact(h hb hc).1 h1
   .refine .inr ⟨z,by simp[h1],h2,h3,h4,λw hw hb hc=>?_⟩;rcases HU.1 hw with hw|hw
    .exact h5 w hw hb hc
    .simp at hw;subst hw;exact(h hb hc).2
  have new:y.By=d->2<=ON ids ⟨d,y.Seq⟩->(v=0\/y.Seq<v)->FsI ids (ids.take (k+1)) d y.Seq:=λhb hc h=>by
   rw[Rb hy];refine .inr ⟨y,aC,hb,rfl,hc,λw hw hb' b=>?_⟩;rcases HU.1 hw with hw|hw
   .rcases hv with⟨h1,h2⟩|⟨z,h1,h2,h3,h4,h5⟩
    all_goals grind
   grind
  by_cases c1:y.By=d
  .by_cases c2:2<=ON ids ⟨d,y.Seq⟩
   .have c2':(1:Int)<(ON ids ⟨d,y.Seq⟩:Int):=aa;by_cases c3:v=0
    .simp only[c1,c2',c3,decide_true,ax,Bp];exact .some ⟨aq aa,new c1 c2 (.inl c3)⟩
    .by_cases c4:y.Seq<v
     .simp only[c1,c2',c3,c4,decide_true,decide_false,ax,Bg,Bp];exact .some ⟨aq aa,new c1 c2 (.inr c4)⟩
     .simp only[c1,c2',c3,c4,decide_true,decide_false,ax,Bg,Bp];exact .some ⟨aq aa,keep λ_ _=>⟨c3,aa⟩⟩
   .have c2':¬(1:Int)<(ON ids ⟨d,y.Seq⟩:Int):=aa;simp only[c1,c2',decide_true,decide_false,ax,Bg,Bp];exact .some ⟨aq aa,keep λ_ h=>absurd h c2⟩
  .simp only[c1,decide_false,Bg,Bp];exact .some ⟨aq aa,keep λh=>absurd h c1⟩
 .unfold qM;dsimp only;rw[eF,Bg];rw[EY] at hv;exact .some hv
theorem AdM(hs:∀x∈ids,1<=x.Seq){v:Int}(h:FsI ids ids y.By v):voP ids y=(decide (0<v)&&decide (v<=y.Seq)):=by
 rw[Bool.eq_iff_iff];unfold voP;rw[List.any_eq_true];simp only[bA,decide_eq_true_eq];refine⟨λ⟨z,hz,h1,h2,h3⟩=>?_,λ⟨h1,h2⟩=>?_⟩
 .rcases h with⟨_,h5⟩|⟨w,k1,k2,k3,a,k5⟩
  all_goals grind
 .rcases h with⟨h5,_⟩|⟨w,k1,k2,k3,a,k5⟩
  all_goals grind
theorem Acd{ids:Bf}(hl:ids.length<=100000)(hd:ids.Nodup)(hs:∀x∈ids,1<=x.Seq):T (vJ ids) λr=>r.Perm (ids.filter (voP ids))/\r.Pairwise λx y=>GK x y<0:=by
 unfold vJ;refine .bind ((T.forA ids.length (λk acc=>acc=(ids.take k).filter (voP ids)) aa aC (λk acc hk hj=>?_) λacc hj=>?_).mono (Q:=λacc=>acc=ids.filter (voP ids)) λx hx=> .bind ((kg ?_).mono λv hv=> .some ?_))
 .obtain⟨y,hy,hm⟩:=dk hk;unfold un;simp only[eA hk,ax,au,hy,Bp];have hla:acc.length<=k:=by grind
  have e:(ids.take (k+1)).filter (voP ids)=acc++(if voP ids y then[y] else[]):=by rw[Rb hy,RT,<-hj];cases hp:voP ids y<;>simp[hp]
  refine .bind ((Uu aa hs y.By).mono λv hv=>?_);have hq:=AdM hs hv;by_cases c1:0<v
  .by_cases c2:v<=y.Seq
   .simp only[c1,c2,decide_true,ax,Bp];rw[hq,C6 c1,C6 c2] at e;exact .bind (.app cq (.some ⟨aq aa,by rw[e];rfl⟩))
   .simp only[c1,c2,decide_true,decide_false,ax,Bg,Bp];rw[hq,C6 c1,Dd c2] at e;exact .some ⟨aq aa,by rw[e];simp⟩
  .simp only[c1,decide_false,Bg,Bp];rw[hq,Dd c1] at e;exact .some ⟨aq aa,by rw[e];simp⟩
 .unfold un;dsimp only;rw[eF,Bg];refine .some (show acc=_ from ?_);rw[hj,EY]
 .grind
 .refine⟨hx▸hv.1,?_⟩;have hn:v.Nodup:=by grind
  refine(hv.2.and hn).imp λ{a b} h=>QI.2 ?_;cases h1:dt a b with
  |true=>rfl
  |false=>exact absurd (AdK h1 h.1) h.2
section
section
variable {g:Ba} {m:JN} {N:JL}
theorem VC(w:Fs g)(p:N8 g m N){i:Nat}(h:g.IDs[i]?=some x):∃y,N[i]?=some y/\(CA g m N).lev x=y.level/\0<=y.level/\y.level<=(i:Int)+1:=by obtain⟨y,h1,h2,h3⟩:=AbC w p (NR w h);refine⟨y,h1,?_,(p.nd i y h1).2.2.2⟩;show(match M3 ⟨g.Cards,m,N⟩ x with|some y=>y.level|none=>0)=_;rw[Uk w p,NR w h];grind
theorem AdN(w:Fs g)(p:N8 g m N):nZ g=some (N.map (·.level)):=by
 have nL:=w.nL;have nU:=w.nU;have pl:=p.len;refine T.eq ?_;unfold nZ;refine .bind (T.mono (Q:=λr=>r=N.map (·.level)) (T.forA g.L.length (λk acc=>acc=(N.take k).map (·.level)) aa aC (λk acc hk hj=>?_) λacc hj=>?_) λx hx=> .some hx)
 .obtain⟨u,hu,_⟩:=dk (l:=g.Up) (k:=k) aa;obtain⟨y,hy,_⟩:=dk (l:=N) (k:=k) aa;obtain⟨u1,e⟩:=w.up k u hu;have b:=p.lv k y u hy hu;unfold pd;dsimp only;rw[eA hk,ax];have hla:acc.length=k:=by grind
  have hin:AB (iP g (acc,(k:Int))) (1,0)=some y.level:=by
   refine T.eq ?_;refine T.loop (λs=>∃j:Nat,j<=u.length/\s.2=(j:Int)/\s.1=lvF N (u.take j)) (λs=>u.length-s.2.toNat) ⟨0,aa,rfl,rfl⟩ cq ?_;rintro⟨a,i⟩ ⟨j,f,rfl,rfl⟩;unfold iP;simp only[au,hu,Bp];rcases HR j u.length with hlt|hge
   .obtain⟨z,hz,hm⟩:=dk hlt;obtain⟨h,o⟩:=e z hm;obtain⟨n,rfl⟩:∃n:Nat,z=(n:Int):=⟨z.toNat,aa⟩;obtain⟨v,hv,_⟩:=dk (l:=N) (k:=n) aa;have hb:=(p.nd n v hv).2.2.2;have ha:acc[n]?=some v.level:=by grind
    rw[eA hlt,ax,hz,Bp,au,ha,Bp,bM aa aa];refine .some ⟨⟨j+1,aa,aq aa,?_⟩,?_⟩
    .rw[Rb hz,Abg];grind [lvN]
    grind [aq]
   .obtain rfl:j=u.length:=aa;rw[eF,Bg,EY];exact .some b.symm
  rw[hin,Bp];refine .bind (.app cq (.some ⟨aq aa,?_⟩));rw[Rb hy,List.map_append,hj];rfl
 .unfold pd;dsimp only;rw[eF,Bg];refine .some (show acc=_ from ?_);rw[hj,<-pl,EY]
theorem Sa(w:Fs g)(p:N8 g m N){i:Nat}(hx:g.IDs[i]?=some x)(hy:g.IDs[k]?=some y):vI g (N.map (·.level)) (i:Int) (k:Int)=some (decide (JK (CA g m N) x y<0)):=by
 obtain⟨a,h1,h2,_⟩:=VC w p hx;obtain⟨b,h3,h4,_⟩:=VC w p hy;have e1:(N.map (·.level))[i]?=some a.level:=by rw[LQ,h1];rfl
 have e2:(N.map (·.level))[k]?=some b.level:=by rw[LQ,h3];rfl
 grind [vI,au,pJ,SI]
theorem Ajd{cmp:α->α->Int}(hO:OrN cmp λ_=>True){l:List α}{x:α}(hp:l.Pairwise λa b=>cmp a b<0)(h1:∀i y,i<j->l[i]?=some y->cmp y x<0)(h2:∀y,l[j]?=some y->¬cmp y x<0)(hx:x∉l):(l.take j++[x]++l.drop j).Pairwise λa b=>cmp a b<0:=by
 have hpj:(l.take j++l.drop j).Pairwise λa b=>cmp a b<0:=by rw[O7];exact hp
 rw[List.pairwise_append] at hpj;have hlt:∀a∈l.take j,cmp a x<0:=by grind [Hb]
 have hgt:∀b∈l.drop j,cmp x b<0:=by grind [OrN,List.drop_eq_nil_of_le,List.drop_eq_getElem_cons,List.pairwise_cons]
 grind
theorem Uv(w:Fs g)(p:N8 g m N)(hl:ids.length<=1000)(hd:ids.Nodup)(hm:∀x∈ids,x∈g.IDs):T (n8 g ids) λr=>r.Perm ids/\r.Pairwise λx y=>JK (CA g m N) x y<0:=by
 have nL:=w.nL;have nI:=w.nI;unfold n8;rw[AdN w p,Bp];refine .bind (T.mono (Q:=λx:Bj=>EF g x/\(I6 g x).Perm ids/\(I6 g x).Pairwise λx y=>JK (CA g m N) x y<0) (T.forA ids.length (λk acc=>EF g acc/\(I6 g acc).Perm (ids.take k)/\(I6 g acc).Pairwise λx y=>JK (CA g m N) x y<0) aa ⟨.nil,by simp[I6],.nil⟩ (λk acc hk hj=>?_) λacc hj=>?_) λf h4=>?_)
 .obtain⟨y,hy,l⟩:=dk hk;obtain⟨b,u,o⟩:=hj;obtain⟨i,hi⟩:=Hb (hm y l);have hil:i<g.IDs.length:=(cr hi).1;have hpz:gO g y=(i:Int):=by unfold gO;rw[NR w hi]
  have hal:acc.length<=k:=by grind [List.Perm.length_eq,Ht,Mh]
  have hny:y∉I6 g acc:=by grind [Hb,MT]
  unfold qU;simp only[eA hk,ax,au,hy,Bp,qR,dC (show g.IDs.length<=1000000 by omega),hpz];rw[show decide ((i:Int)<0)=false from Dd aa,Bg];refine .bind (T.mono (Q:=λn:Int=>∃j:Nat,n=(j:Int)/\j<=acc.length/\(∀q z,q<j->(I6 g acc)[q]?=some z->JK (CA g m N) z y<0)/\∀z,(I6 g acc)[j]?=some z->¬JK (CA g m N) z y<0) (T.forI acc.length (λj=>∀q z,q<j->(I6 g acc)[q]?=some z->JK (CA g m N) z y<0) aa (λq z h=>aa) (λj hjl hq=>?_) λhq=>?_) λn hn=>?_)
  .obtain⟨z,hz,s⟩:=dk hjl;obtain⟨B,zn,rfl,t,a,hzz⟩:=O5 w b hz;unfold qT;simp only[eA hjl,ax,au,hz,Bp,Sa w p a hi];refine .dec (λhc=> .some ⟨aq aa,λq C v hz'=>?_⟩) λhc=> .some ⟨j,rfl,aa,hq,λC hz'=>?_⟩;all_goals grind
  .unfold qT;dsimp only;rw[eF,Bg,Bp,Bg];refine .some ⟨acc.length,rfl,Dq _,hq,λz hz=>?_⟩;grind
  .obtain⟨j,rfl,hjl,q1,A⟩:=hn;refine .bind (.pre aa aa (.bind (.app cq (.bind (.app cq (.bind (.suf aa aa (.bind (.app cq (.some ⟨aq aa,?_,?_⟩))))))))))
   .intro x hx;have:x∈acc++[(i:Int)]:=by grind
    exact b.snoc aa x this
   .have e:I6 g ([]++acc.take (j:Int).toNat++[(i:Int)]++acc.drop (j:Int).toNat)=(I6 g acc).take j++[y]++(I6 g acc).drop j:=by grind [Fa,List.map_take,List.map_drop]
    rw[e];refine⟨?_,Ajd (SJ _) o q1 A hny⟩;grind [Rb,Cy]
 .unfold qU;dsimp only;rw[eF,Bg];rw[EY] at hj;exact .some hj
 .obtain⟨h1,h2,h3⟩:=h4;refine .bind (T.mono (Q:=λr:Bf=>r=I6 g f) (T.forA f.length (λk acc=>acc=(I6 g f).take k) (by grind [List.Perm.length_eq,Ht]) aC (λk acc hk hj=>?_) λacc hj=>?_) (by grind [T.some]))
  .obtain⟨z,hz,s⟩:=dk hk;obtain⟨B,zn,rfl,t,a,hzz⟩:=O5 w h1 hz;have hxl:f.length<=1000:=by grind [List.Perm.length_eq]
   have hal:acc.length<=k:=by rw[hj,Mh];omega
   unfold qS;simp only[eA hk,ax,au,hz,a,Bp];refine .bind (.app cq (.some ⟨aq aa,?_⟩));rw[Rb hzz,hj]
  .unfold qS;dsimp only;rw[eF,Bg];refine .some (show acc=_ from ?_);grind [Ht]
end
end
section
theorem Ag2:1<=lvF N u:=by
 have key:∀(l:Bj) (a:Int),1<=a->1<=l.foldl (λa j=>Fo a (lvN N j+1)) a:=by intro l;induction l<;>grind [Fo]
 exact key u 1 (Int.le_refl _)
theorem Abk{a b:Bf}(h:a.Perm b)(f:Bh):ON a f=ON b f:=(h.filter _).length_eq
theorem Ae3{a b:Bf}(h:a.Perm b)(x:Ab):voP a x=voP b x:=by grind [voP,Abk]
section
variable {g:Ba} {m:JN} {N:JL} (P:Pg g m N)
include P
end
end
theorem Ac4{gg:Aj}{j:Nat}:∀(l:Bf) (s:Ot),gW (l.foldl (λs x=>match M3 gg x with|some y=>Q1 s y.past|none=>s) s) j=(gW s j||l.any λx=>match M3 gg x with|some y=>gW y.past j|none=>false)
 |[],s=>aC
 |x::l,s=>by rw[List.foldl_cons,Ac4 l,List.any_cons];grind [RP]
theorem Ag3{p:Nat->Bool}{N:JL}:x∈US p N↔∃(k:Nat) (y:C3),N[k]?=some y/\p k=true/\y.id=x:=by unfold US;simp only[Fm,Hj,List.mem_zipIdx_iff_getElem?,Prod.exists];grind
theorem Ag4{p:Nat->Bool}{N:JL}:(US p N).Sublist (N.map (·.id)):=by
 have h:(N.zipIdx.map (·.1.id))=N.map (·.id):=by rw[show(λq:C3×Nat=>q.1.id)=(λy:C3=>y.id)∘Prod.fst from rfl,<-It,List.zipIdx_map_fst]
 rw[<-h];exact List.filter_sublist.map _
theorem Ac5{I:Gi}{x:Ab}:∀{l p:Bf},x∈Lu I p l↔x∈p\/x∈l/\0<I.lev x
 |[],p=>by simp[Lu]
 |y::l,p=>by have a:Lu I p (y::l)=Lu I (bif decide (0<I.lev y) then bif p.any λz=>decide (y=z) then p else p++[y] else p) l:=rfl;rw[a,Ac5];grind
theorem Ae4{I:Gi}:∀{l p:Bf},p.Nodup->(Lu I p l).Nodup
 |[],p,h=>h
 |y::l,p,h=>by have a:Lu I p (y::l)=Lu I (bif decide (0<I.lev y) then bif p.any λz=>decide (y=z) then p else p++[y] else p) l:=rfl;rw[a];refine Ae4 ?_;grind
section
variable {g:Ba} {m:JN} {N:JL} (P:Pg g m N)
include P
theorem Aje:N.map (·.id)=g.IDs:=by
 refine List.ext_getElem? λk=>?_;have pl:=P.p.len;have nI:=P.w.nI;rw[LQ];cases hy:N[k]? with
 |none=>grind
 |some y=>rw[(P.p.nd k y hy).2.1];rfl
theorem Ac6{l:Bf}(hj:j<256):gW (R1 ⟨g.Cards,m,N⟩ l) j=true↔uX g l j:=by
 have z:gW z4 j=false:=by unfold gW z4;split<;>simp
 rw[show gW (R1 ⟨g.Cards,m,N⟩ l) j=_ from Ac4 l z4,z,Bool.false_or,List.any_eq_true];unfold uX;refine⟨λ⟨x,hx,h⟩=>⟨x,hx,?_⟩,λ⟨x,hx,n,h1,h2⟩=>⟨x,hx,?_⟩⟩
 .rw[Uk P.w P.p] at h;cases hk:bu x g.IDs with
  |none=>rw[hk] at h;simp at h
  |some n=>
   rw[hk,Bp] at h;cases hy:N[n]? with
   |none=>rw[hy] at h;simp at h
   |some y=>rw[hy] at h;exact⟨n,rfl,((P.p.nd n y hy).2.2.1 j hj).symm.trans h⟩
 .have hn:=(cr (gb h1).1).1;have pl:=P.p.len;have nI:=P.w.nI;obtain⟨y,hy⟩:∃y,N[n]?=some y:=⟨_,DQ aa⟩;rw[Uk P.w P.p,h1,Bp,hy];exact((P.p.nd n y hy).2.2.1 j hj).trans h2
theorem Ag5:0<(CA g m N).lev x↔x∈g.IDs:=by
 have pl:=P.p.len;have nI:=P.w.nI;cases hk:bu x g.IDs with
 |none=>
  have:(CA g m N).lev x=0:=by show(match M3 ⟨g.Cards,m,N⟩ x with|some y=>y.level|none=>0)=_;rw[Uk P.w P.p,hk];rfl
  grind [jv]
 |some k=>have hid:=(gb hk).1;obtain⟨y,a,c,_⟩:=VC P.w P.p hid;have hkl:=(cr hid).1;obtain⟨u,hu,_⟩:=dk (l:=g.Up) (k:=k) (by have:=P.w.nU;omega);have b:=P.p.lv k y u a hu;grind [Ag2]
theorem AkZ(h14:g.L.length<=14){l:Bf}(hl:l.length<=1000):∃v p,Mj g l=some v/\GV g v/\v.Nodup/\OY GK (US (gW (R1 ⟨g.Cards,m,N⟩ l)) N)=some p/\p.length=(US (gW (R1 ⟨g.Cards,m,N⟩ l)) N).length/\p.length<=14/\(Lu (CA g m N) p l).Perm v:=by
 have pl:=P.p.len;have nI:=P.w.nI;obtain⟨v,e,c,b,d,f⟩:=yf P.w (ids:=l) aa;have hs:=Ag4 (p:=gW (R1 ⟨g.Cards,m,N⟩ l)) (N:=N);rw[Aje P] at hs;have hle:=hs.length_le;obtain⟨p,e2,a,h⟩:=Sc PJ (P.w.nd.sublist hs) aa;have hpl:=a.length_eq;refine⟨v,p,e,c,b,e2,hpl,aa,(List.perm_ext_iff_of_nodup (Ae4 (a.nodup_iff.2 (P.w.nd.sublist hs))) b).2 λx=>?_⟩;rw[Ac5,d,a.mem_iff,Ag3,Ag5 P];refine or_congr_left ⟨λ⟨k,y,h1,h2,h3⟩=>?_,λ⟨k,h1,h2⟩=>?_⟩
 .have hk:=(cr h1).1;exact⟨k,h3▸(P.p.nd k y h1).2.1,(Ac6 P aa).1 h2⟩
 .have hk:=(cr h1).1;obtain⟨y,hy⟩:∃y,N[k]?=some y:=⟨_,DQ aa⟩;have:=(P.p.nd k y hy).2.1;grind [Ac6]
end
theorem Ajf{gl:CO}{gg:Aj}{o:Bq}{s:Bf}(hn:s.length<=14)(hp:s.Perm v)(hs:∀x∈v,1<=x.Seq):∃fr k w,ba prog gl 68 [.ptr (Ag gg) 0,aE aj s] (aE Bv fr)/\Aa1 fr (λf=>JG f o)=some k/\qN v o.By=some w/\k=(decide (0<w)&&decide (w<=o.Seq)):=by
 obtain⟨fs,hq,hi⟩:=AiA hn;have hl:=AaD (ids:=s) aa;have hI:=Agi s aa;have hfl:fs.length=(Um s).2.es.length:=by rw[hq.length_eq,Ht]
 have hF:=(AbL (gl:=gl) (gg:=gg) (ids:=s) (r:=fs) (n:=fs.length) aa aa hfl.symm hi).fn Bi.sz (Bi.len _) (Bi.imm _);obtain⟨w,e,hw⟩:=Uu (ids:=v) (by have:=hp.length_eq;omega) hs o.By;refine⟨fs,_,w,hF,?_,e,rfl⟩;rw[show(λf=>JG f o)=λf=>some (decide (f.Device=o.By)&&decide (f.Seq<=o.Seq)) from funext λf=>by unfold JG;cases decide (f.Device=o.By)<;>rfl,Abu (p:=λf:Bh=>decide (f.Device=o.By)&&decide (f.Seq<=o.Seq)) aa λ_ _=>rfl];congr 1;rw[Bool.eq_iff_iff,List.any_eq_true];simp only[bA,decide_eq_true_eq];have hm:∀f:Bh,f∈fs↔(Um s).2.get f.Device=some f.Seq:=λf=>by rw[hq.mem_iff,TC]
 have hc:∀f,ON v f=ON s f:=λf=>(Abk hp f).symm;have hex:∀{d q:Int},2<=ON s ⟨d,q⟩->∃y∈v,y.By=d/\y.Seq=q:=λ{d q} h=>by unfold ON at h;obtain⟨y,hy⟩:=List.exists_mem_of_length_pos (l:=s.filter λx=>decide (x.By=d)&&decide (x.Seq=q)) (Nat.lt_of_lt_of_le Cd h);rw[Hj] at hy;have:=hy.2;simp only[bA,decide_eq_true_eq] at this;exact⟨y,hp.mem_iff.1 hy.1,this.1,this.2⟩
 unfold FsI at hw;simp only[hc] at hw;refine⟨λ⟨f,hf,h1,h2⟩=>?_,λ⟨h1,h2⟩=>?_⟩
 .rw[hm] at hf;have h3:=hI.a _ _ hf;obtain⟨y,g,c,i⟩:=hex h3;rw[h1] at h3 c;rcases hw with⟨_,h5⟩|⟨z,k1,k2,k3,j,k5⟩
  .exact absurd (i▸h3) (h5 y g c)
  .have a:=k5 y g c (i▸h3);have b:=hs z k1;omega
 .rcases hw with⟨h5,_⟩|⟨z,k1,k2,k3,j,k5⟩
  .omega
  .obtain⟨q,q1,m⟩:=hI.b _ _ j;exact⟨⟨o.By,q⟩,(hm _).2 q1,rfl,by show q<=o.Seq;omega⟩
theorem Ak0{D':Dl}{i:Ab}(h:o7 D o i=some D'):D'.In=D.In:=by grind [o7,GE]
theorem Aih(h:Rr R D)(hR:Bk R)(d:Int):PO R d=decide (d∈JJ R):=by
 have hp:=(Om hR).2.1;have hi:=h.in_ d;unfold PO Hw;rw[Bool.eq_iff_iff,decide_eq_true_iff,hp.mem_iff,Fm];by_cases c:d∈D.In
 .grind [Hq]
 .rw[BB c] at hi;rw[hi];refine⟨(by grind),λ⟨q,hq,e⟩=>?_⟩;have hg:=JI hR.ci (k:=q.1) (v:=q.2.1) (n:=q.2.2) hq;grind
theorem af0{a b:Bj}(h1:a.length<=1000)(h2:b.length<=1000):AB (qn a b) ([],0)=some (b.filter (QF a)):=by
 refine T.eq (T.forA b.length (λk acc=>acc=(b.take k).filter (QF a)) aa aC (λk acc hk hj=>?_) λacc hj=>?_)
 .obtain⟨y,hy,hm⟩:=dk hk;subst hj;have hl:((b.take k).filter (QF a)).length<=1000:=by grind
  unfold qn;simp only[eA hk,ax,au,hy,Bp,cX (show a.length<=1000000 by omega)];refine .ite (λc=> .bind (.app cq (.some ⟨aq aa,?_⟩))) λc=> .some ⟨aq aa,?_⟩
  .grind [Rb]
  .rw[Rb hy,RT];simp[c]
 .unfold qn;dsimp only;rw[eF,Bg];subst hj;exact .some (show _=_ by rw[EY])
theorem af1{a b x:Bj}(h0:x.length<=1000)(h1:a.length<=1000)(h2:b.length<=1000):AB (qm a b) (x,0)=some (x++a.filter λd=> !QF b d):=by
 refine T.eq (T.forA a.length (λk acc=>acc=x++(a.take k).filter λd=> !QF b d) aa aC (λk acc hk hj=>?_) λacc hj=>?_)
 .obtain⟨y,hy,hm⟩:=dk hk;subst hj;have hl:((a.take k).filter λd=> !QF b d).length<=1000:=by grind
  unfold qm;simp only[eA hk,ax,au,hy,Bp,cX (show b.length<=1000000 by omega)];refine .ite (λc=> .bind (.app cq (.some ⟨aq aa,?_⟩))) λc=> .some ⟨aq aa,?_⟩
  .grind [Rb]
  .rw[Rb hy,RT];simp[c]
 .unfold qm;dsimp only;rw[eF,Bg];subst hj;exact .some (show _=_ by rw[EY])
section
variable {g:Ba} {m:JN} {N:JL} (P:Pg g m N)
include P
theorem Ak1(k:Jq g 1000 D)(h:Rr R D)(hR:Bk R){i:Ab}(so:Be o)(hp:WA o i):∃D',DM D o i=some D'/\lu D'=some (JJ (U2 R o i))/\∀d,PO (U2 R o i) d=decide (d∈JJ (U2 R o i)):=by
 obtain⟨D',e,k',_⟩:=Gc P.w Cd k so i;refine⟨D',e,?_⟩;have z:=AaS P k Cd;have hQ:=RG hR hp;have a:=k.dev;have b:=k.nL;by_cases c:o.Kind=9
 .have eD:DM D o i=o7 D o i:=by unfold DM;rw[ofE z.z,Bp];obtain⟨f,e3,_⟩:=XR z.z h (XQ D.Cards o.By);grind
  rw[eD] at e;have ei:=Ak0 e;have eQ:(U2 R o i).in_=R.in_:=by grind [U2,Aaj]
  have e1:JJ (U2 R o i)=JJ R:=by grind [JJ]
  have e2:lu D'=lu D:=by grind [lu]
  refine⟨by grind [AkM,Sy.z],λd=>?_⟩;rw[e1,<-Aih h hR d];grind [PO]
 .obtain⟨j,e2,h2⟩:=doE z (by grind) h hR (o:=o) (i:=i) (by grind);rw[e] at e2;obtain rfl:=A9 e2;exact⟨AkM ⟨by rw[k'.cards];exact P.w.nC,by grind [Jq],by grind [Jq],by grind [Jq]⟩ h2 hQ,Aih h2 hQ⟩
end
theorem Ace(hR:Bk R)(h:Ug R o=0):1<=o.By/\o.By<=6:=by
 unfold Ug at h;split at h
 .grind [Bk,DD]
 .cases c:PO R o.By with
  |false=>grind
  |true=>
   unfold PO Hw at c;cases hg:R.in_.get o.By with
   |none=>grind
   |some v=>grind [Bk,Hq]
section
variable {g:Ba} {m:JN} {N:JL} (P:Pg g m N)
include P
theorem Ae6(h14:g.L.length<=14)(j:∀(i:Nat) (o:Bq) (x:Ab),g.L[i]?=some o->g.IDs[i]?=some x->x.Seq=o.Seq)(so:Be o){i:Ab}(hid:pV o=some i)(k:ba prog fI 70 [.agg (aJ o)] (.agg (aj i)))(hp:1<=o.By/\o.By<=6->WA o i):∃l:Bj,iV prog fI 27 [.ptr (Ag ⟨g.Cards,m,N⟩) 0,.agg (aJ o)] 3 l.length (l.flatMap cZ)/\qo g o=some l/\l.length<=2000/\l.Nodup:=by
 have w:=P.w;have hpl:=so.nPast;have hgl:o.Guards.length<=1000000:=by grind [Be.nGuards]
 have nI:=w.nI;have pl:=P.p.len;have hG:=VB w P.p;have hI:=YF hG;have opx:∀x∈g.IDs,∃(i:Nat) (o:Bq),g.IDs[i]?=some x/\g.L[i]?=some o/\FF o:=by grind [Hb,Fs.op]
 have hseq:∀x∈g.IDs,1<=x.Seq/\x.Seq<=2147483647:=λx hx=>by obtain⟨i,o,h1,h2,W⟩:=opx x hx;rw[j i o x h2 h1];exact(T1 W.numbers).seq
 obtain⟨v,p,e1,n,c,e2,pe,H,a⟩:=AkZ P h14 hpl;have hv14:v.length<=14:=by have:=EC c n.sub;omega
 have J:=AgY (gl:=fI) hG (by show N.length<=14;omega) (ids:=o.Past) aa e2 pe;have hS:=AeZ hI J aa;generalize Lu (CA g m N) p o.Past=s at hS a;have hs14:s.length<=14:=by rw[a.length_eq];exact hv14
 have hsn:s.Nodup:=a.nodup_iff.2 c;have hsm:∀x∈s,x∈g.IDs:=by grind [GV.sub]
 obtain⟨fr,y,F,f1,f2,K,X⟩:=Ajf (gl:=fI) (gg:=⟨g.Cards,m,N⟩) (o:=o) hs14 a (by grind);obtain⟨row,A,B,C⟩:=Uv w P.p aa c n.sub;have hrl:row.length<=14:=by rw[B.length_eq];exact hv14
 have hrn:row.Nodup:=B.nodup_iff.2 c;have hrm:∀x∈row,x∈g.IDs:=by grind
 have hO:ba prog fI 47 [.ptr (Ag ⟨g.Cards,m,N⟩) 0,aE aj s] (aE aj row):=by obtain⟨r,e,q,d⟩:=Sc (SJ (CA g m N)) hsn hs14;have:r=row:=Tz (SJ (CA g m N)).tr Np (by grind) d C;grind [Xh,List.Perm.length_eq]
 obtain⟨vs,M,Y,O⟩:=Acd (ids:=v) aa c (by grind);have hvm:∀x∈vs,x∈g.IDs:=by grind
 have hvl:vs.length<=1000:=by grind [List.Perm.length_eq,KY]
 have hV:ba prog fI 238 [.ptr (Ag ⟨g.Cards,m,N⟩) 0,aE aj s] (aE aj vs):=by
  obtain⟨r,e,q,d⟩:=Ah0 (gl:=fI) (gg:=⟨g.Cards,m,N⟩) hs14 hsn (by grind);have hq:(s.filter (voP s)).Perm (v.filter (voP v)):=by rw[show voP s=voP v from funext (Ae3 a)];grind
  have:r=vs:=Tz PJ.tr AdL (by grind) d O;exact this▸e
 obtain⟨s1,s2⟩:=Ah8 P hrm;have hO2:ba prog fI 47 [.ptr (Ag ⟨g.Cards,m,N⟩) 0,aE aj row] (aE aj row):=by obtain⟨r,e,q,d⟩:=Sc (SJ (CA g m N)) hrn hrl;have:r=row:=Tz (SJ (CA g m N)).tr Np q d C;grind [Xh]
 have t:=Xf hI hO2 aa;have hN:=Xf hI hO aa;have f:=AaV P A aa hrm;obtain⟨D,S,cs,U,Z,u,b,E⟩:=AmG P (ids:=v) n A hrn aa hrm M hvl hvm;have hod:∀x∈row,WA ((CA g m N).o x) x:=λx hx=>by obtain⟨i,o,h1,h2,_⟩:=opx x (hrm x hx);rw[(P.op h2 h1).2];grind [Pg.od]
 have V:=Ad6 (I:=CA g m N) (ids:=s) (row:=row) (s:=On (CA g m N) row) (r:=cs) ⟨hI,P.cd,hod,by show row.length<=1000;omega⟩ hO hV hvl t aa U;have hcl:cs.length<=1000:=by grind
 have h:=AhH hI P.cd V (by grind) hcl;generalize Y6 (CA g m N) cs=R at u b h;generalize On (CA g m N) row=sen at s1 s2 hN f;refine⟨_,Ae1 hS f1 f2 b h k hgl (by grind [Ace]) hN aa,?_,?_⟩
 .unfold qo Ae0;rw[e1,Bp,K,Bp];have hj:(bif decide (0<F) then(some (decide (F<=o.Seq))) else(some false))=some y:=by grind
  rw[hj,Bp];cases y with
  |true=>rfl
  |false=>
  rw[Bg,Bg,S,Bp,hid,Bp,Aky (AaS P E aa).z u b hgl i,Bp];cases cm:decide (Ug R o≠0) with
  |true=>rfl
  |false=>
  have hp:=hp (Ace b (Decidable.of_not_not (Lz cm)));obtain⟨D',k1,k2,k3⟩:=Ak1 P E u b so hp;have hQ:=RG b hp;generalize U2 R o i=Q at k2 k3 hQ;have hdl:(JJ Q).length<=1000:=by rw[(Om hQ).2.1.length_eq,Ht];grind [Bk.len]
  rw[Bg,Bg,k1,Bp,k2,Bp,f,Bp,af0 hdl aa,Bp,af1 (by grind) hdl aa,Bp];have a1:sen.filter (QF (JJ Q))=haS Q sen:=by grind [List.filter_congr,KI]
  rw[a1];congr 2;grind [List.filter_congr,KI]
 .unfold Ae0;cases y with
  |true=>simp
  |false=>
  cases cm:decide (Ug R o≠0) with
  |true=>simp
  |false=>
  have hQ:=RG b (hp (Ace b (Decidable.of_not_not (Lz cm))));generalize U2 R o i=Q at hQ;have hdl:(JJ Q).length<=1000:=by rw[(Om hQ).2.1.length_eq,Ht];grind [Bk.len]
  have dn:(JJ Q).Nodup:=(Om hQ).2.1.nodup_iff.2 hQ.ci.kd;grind
end
def Pq{α:Type}(x:Option α)(Q:α->Prop):Prop:=∀v,x=some v->Q v
section
variable {α β:Type} {x:Option α} {f:α->Option β} {Q:β->Prop} {R:α->Prop}
theorem Pq.b(h:∀v,Pq (f v) Q):Pq (x.bind f) Q:=λw e=>by obtain⟨v,_,e⟩:=GE.1 e;exact h v w e
theorem Pq.m(h:Pq x R)(k:∀v,R v->Pq (f v) Q):Pq (x.bind f) Q:=λw e=>by obtain⟨v,e',e⟩:=GE.1 e;exact k v (h v e') w e
theorem Pq.i{c:Bool}{a b:Option α}(h1:c=true->Pq a R)(h2:c=false->Pq b R):Pq (bif c then a else b) R:=by
 cases c
 .exact h2 rfl
 .exact h1 rfl
theorem Pq.s{v:α}(h:R v):Pq (some v) R:=λw e=>A9 e▸h
end
theorem Pq.of{α:Type}{x:Option α}{Q:α->Prop}(h:T x Q):Pq x Q:=λv e=>by obtain⟨w,e',h⟩:=h;rw[e] at e';exact A9 e'▸h
def Kn(o:Bq):Prop:=o.Kind=9->1<=o.Need/\o.Need<=1000000
theorem AdO{n:Int}(h0:0<=n)(h1:n<=1000000):Pq (sc g ids o n) Kn:=by
 unfold sc;refine .b λk=> .b λl=> .b λp=> .i (λc=>?_) λc=>?_
 .refine .b λr=> .b λd=> .m (R:=λq=>0<=q/\q<=1) (λq e=>?_) λh hq=> .b λj=> .s λ_=>?_
  .have a:=Int.tdiv_nonneg h0 (show(0:Int)<=16 by decide);have b:=Int.tdiv_le_self 16 h0;rw[bM aa aa] at e;unfold u9 at e;split at e
   .cases e
   .rename_i hz;obtain rfl:=A9 e;have hm:0<iI 2 (ah d)/\iI 2 (ah d)<=2:=by unfold iI ah at*;split<;>split at hz<;>omega
    have:=Int.tmod_lt_of_pos (n.tdiv 16) hm.1;exact⟨Int.tmod_nonneg _ a,aa⟩
  .show 1<=wI (1+h)/\wI (1+h)<=1000000;rw[bM aa aa];omega
 .have c':=Lz c;refine .b λ_=> .b λ_=> .b λ_=> .b λ_=> .b λ_=> .b λ_=> .i (λ_=> .s λe=>absurd e c') λ_=> .s λe=>absurd e c'
theorem Ag6{n m:Int}(hm:c8 m):Pq (sd g n m) Kn:=by
 unfold sd;refine .b λy=> .m (.of (eX hm Cd)) λo h3=> .b λz=> .i (λ_=> .s λe=>absurd e (by show¬(1:Int)=9;decide)) λ_=> .b λd=> .b λp=> .b λj12=> .b λr=> .b λt=>?_;have hk:0<=wI (o.tdiv 20)/\wI (o.tdiv 20)<=1000000:=by have a:=Int.tdiv_nonneg h3.1 (show(0:Int)<=20 by decide);have b:=Int.tdiv_le_self 20 h3.1;rw[bM aa aa];omega
 have no:∀{k:Int},decide (d.Kind=k)=true->k≠9->∀{q:Int},d.Kind=9->1<=q/\q<=1000000:=λc hk _ e=>absurd ((DP c).symm.trans e) hk;refine .m (R:=λx:Bq×Bf=>Kn x.1) (.i (λc=> .b λ_=> .s λe=>no c Cd e) λ_=> .m (R:=λx:Bq×Bf=>Kn x.1) (.i (λc=> .b λ_=> .s λe=>no c Cd e) λ_=> .m (R:=λx:Bq×Bf=>Kn x.1) (.i (λc=> .s λe=>no c Cd e) λ_=> .m (R:=λx:Bq×Bf=>Kn x.1) (.i (λc=> .b λ_=> .b λ_=> .b λ_=> .s λe=>no c Cd e) λ_=> .m (R:=λx:Bq×Bf=>Kn x.1) (.i (λc=> .s λe=>no c Cd e) λ_=> .m (R:=λx:Bq×Bf=>Kn x.1) (.i (λc=> .s λe=>no c Cd e) λ_=> .m (R:=λb:Bool=>d.Kind=9->b=true) (.i (λ_=> .s λ_=>rfl) λc=>λ_ _ e=>absurd e (Lz c)) λu j=> .m (R:=λx:Bq×Bf=>Kn x.1) (.i (λ_=> .m (AdO hk.1 hk.2) λv h=> .b λ_=> .s h) λc=> .s λe=>absurd (j e) (by rw[c];decide)) λ_ h=> .s h) λ_ h=> .s h) λ_ h=> .s h) λ_ h=> .s h) λ_ h=> .s h) λ_ h=> .s h) λw l=>?_;exact .b λ_=> .b λ_=> .b λ_=> .b λ_=> .b λ_=> .s l
def R5(l:Md):Bool:=decide (l.length<=12)&&(List.range 12).all λk=>match l[k]?,l[k+1]? with
 |some a,some b=>decide (a.Device<=b.Device)&&(decide (0<=a.Device)&&decide (b.Device<=1000000))
 |_,_=>true
theorem OM{l:Md}(h:R5 l=true):xf l:=by unfold R5 at h;simp only[bA,decide_eq_true_eq] at h;refine⟨h.1,λk a b ha hb=>?_⟩;have hk:=(cr ha).1;have:=Gd.1 h.2 k (List.mem_range.2 aa);rw[ha,hb] at this;simpa using this
theorem Ls:xf u7:=OM aH
structure Aaa (r:Ba) (ms:Nat->JN) (N:JL):Prop where
 wf:Fs r
 ne:r.L≠[]
 run:Abf r ms N
 pg:N8 r (ms r.L.length) N
 gr:LS g0 r
 gC:r.Cards=u7
 n14:r.L.length<=14
abbrev oN3(N:JL)(n:Nat):Option Ob:=zQ (N.take n)
theorem Ui{r:Ba}{ms:Nat->JN}(e:vq l 14=some r)(h:Aaa r ms N):jg prog fI 10 [aE cZ l] [] 0 (.tup [.ref 0 0,.agg (aI r)]) [(0,oG r.Cards r.L.length 2),(1,oM (ms r.L.length)),(2,oN3 N r.L.length)] 3:=by refine pP func10 ?_;exact Ju .ret (s0 10 fI [(2,.ref 0 0),(3,.ptr (aI r) 0)] [(0,oG r.Cards r.L.length 2),(1,oM (ms r.L.length)),(2,oN3 N r.L.length)] 3 0) [.ref 0 0,.agg (aI r)] [hf 6 (Jm fI e),tN 8 [] 2 [] [.agg (aI r)] [ob 0 111 [aE bv r.Cards,.mref 3,.rsl 4 0 r.L.length],(1,oM (ms r.L.length)),(2,oN3 N r.L.length)] (ZC h.run) trivial ⟨⟨rfl,.inl rfl⟩,⟨rfl,rfl,rfl,rfl,.inr ⟨rfl,cf _⟩⟩,⟨rfl,.inr ⟨rfl,az.imm _⟩⟩,trivial⟩] [hc (eB (gs:=aI r) aH),hc (rfl:r.L.length=r.L.length),hc (cf (ms r.L.length)),hc (az.imm (N.take r.L.length))]
theorem neZ(a:Int):decide (a≠a)=false:=aC
theorem UT{gl:CO}{l:Bj}(hn:l.length<=1000000):ba prog gl 29 [aE cZ l,aE cZ l] (bG true):=by
 refine Gh func29 ?_;refine pN (λk:Nat=>(s0 26 gl [(0,aE cZ l),(1,aE cZ l),(5,iG (k:Int))] [] 0 0)) 1110122 (DV (n:=l.length) aa) [hr 10 (neZ (ah l))] [] (λB k w hs k5 a=>?_);unfold Ja at hs;split at hs
 .rename_i hlt;obtain rfl:=A9 hs;obtain⟨x,hx⟩:∃x,l[k]?=some x:=by simp_all
  have hz:=AH hx;have k5:=k5 _ rfl;exact jw [hr 14 (C5 hx),AA 19 (rZ.ixZ hz),AA 20 (rZ.p1Z tZ hz),AA 23 (rZ.ixZ hz),AA 24 (rZ.p1Z tZ hz),hr 25 (neZ x),hbb 16 (Xl (q:=k) aa)] [] k5 []
 .split at hs
  .rename_i he;subst he;exact Ar [hr 14 (DG (s:=l))] []
  .cases hs
theorem Nr{i:Ab}(so:Be o)(h:pV o=some i):i.By=o.By/\i.Seq=o.Seq:=by obtain⟨j,e,a,b,_⟩:=wN so;grind
theorem Aci{b:Ba}(h:LS b g)(hb:b.L=[]):∀(i:Nat) (o:Bq),g.L[i]?=some o->∃c∈g.Cards,c.Device=o.By:=by
 induction h with
 |base=>grind
 | @step g o id up row gr w sm _ e a hid hrow ih=>
  intro i d ho;have ho:(g.L++[o])[i]?=some d:=ho;rcases je ho with⟨_,h⟩|⟨_,rfl⟩
  .exact ih i d h
  .obtain⟨c,hc,_⟩:=a.card;exact⟨c,yd hc⟩
theorem Ac8{cs:Md}(h:cs.all KK=true){c:DS}(hc:c∈cs):1<=c.Device/\c.Device<=6/\1<=c.Member/\c.Member<=3:=by grind [KK]
theorem Ak7:u7.map (·.Device)=[1,2,3,4,5,6]:=aH
section
variable {r:Ba} {ms:Nat->JN} {N:JL}
theorem Ae9{b:Ba}{m:JN}(w:Fs r)(p:N8 r m N)(gr:LS b r)(hb:b.L=[])(hl:r.Cards.length<=1000)(h6:r.Cards.all KK=true)(hn:(r.Cards.map (·.Device)).Nodup):Pg r m N:=by have hcd:=Aci gr hb;refine⟨w,p,λi o x ho hx=>?_,(by grind),⟨hl,λc hc=>Ac8 h6 hc⟩,hn⟩;grind [Fs.ops,T1,FF.numbers,Be.nGuards,WA,Nr,Fs.ids,N7.k9,ah,Ac8]
theorem Ak8(h:Aaa r ms N):Pg r (ms r.L.length) N:=Ae9 h.wf h.pg h.gr rfl (by rw[h.gC,KL];decide) (h.gC▸Og) (by rw[h.gC,Ak7];decide)
end
theorem Ac9{m:JN}(P:Pg g m N)(h14:g.L.length<=14)(so:Be o)(hk:Kn o):∃l:Bj,iV prog fI 27 [Z8 g.Cards m N,.agg (aJ o)] 3 l.length (l.flatMap cZ)/\qo g o=some l/\l.length<=2000/\l.Nodup:=by
 obtain⟨i,e,hi⟩:=TU so;have hb:=Nr so hi;have hg:o.Guards.length<=1000000:=by grind [Be.nGuards]
 have:=Ae6 P h14 (λi o x ho hx=>(Nr (P.w.ops i o ho).1 (P.w.ids i o x ho hx)).2) so hi (TP fI so e) λb=>⟨hb.1,hg,hk,b⟩;grind [Ag,RJ]
theorem Ak9{r:Ba}{ms:Nat->JN}(h:Aaa r ms N)(ho:r.L[k]?=some o):Be o/\Kn o:=by obtain⟨sm,a,_⟩:=h.wf.ops k o ho;have f:=T1 a.numbers;have:=sm.nGuards;refine⟨sm,λhk=>?_⟩;grind [N7,ah]
theorem Ala{x:Option α}{Q:α->Prop}(h:T x Q):T x λv=>x=some v/\Q v:=by obtain⟨v,e,q⟩:=h;exact⟨v,e,e,q⟩
theorem Iv(h:T (qo g o) λl=>l.length<=3000):T (jm g o) λl=>l.length<=200000:=by unfold jm;refine .bindc (zh _) λa _=> .ite (λ_=> .some aC) λ_=> .bind (h.mono λb h4=>?_);grind [cX,T.some,Od]
theorem Oh(hl:l.length<=9223372036854775807)(hi:∀x∈l,c8 x){most:Int}(hm:most<=14)(hk:k<=1000)(w:Fs g)(gr:LS g0 g)(hg:g.L.length<=k):T (ly l most (g,(k:Int))) (Rd (λs'=>s'.2=((k+1:Nat):Int)/\(k:Int)<most/\Fs s'.1/\LS g0 s'.1/\(g.L≠[]->s'.1.L≠[])/\s'.1.L.length<=g.L.length+1) λv=>v=g/\(k=0->most<=0)):=by
 have e2:wI (2*(k:Int))=((2*k:Nat):Int):=by grind [bM]
 have e3:wI (((2*k:Nat):Int)+1)=((2*k+1:Nat):Int):=aq aa;have at_:∀(n:Nat) {Q:Int->Prop},(∀v,c8 v->Q v)->T (bif decide ((n:Int)<ah l) then((Bt l (n:Int)).bind λp=>some p) else(some 0)) Q:=λn Q q=>by refine .dec (λhp=>?_) λ_=> .some (q 0 dP);refine .bind (.ixl aa (by unfold ah at hp;omega) λy _ hy=> .some (q y (hi y hy)))
 unfold ly;simp only[e2,e3];refine .bind (T.mono (Q:=λb:Bool=>(b=true->(k:Int)<most)/\(b=false->k=0->most<=0)) (.dec (λhp=>?_) λhp=> .some ⟨λe=>(by cases e),λ_ e=>(by subst e;exact Int.not_lt.1 hp)⟩) λb hb=> .ite (λe=>?_) λe=> .some ⟨rfl,hb.2 e⟩)
 .have:(k:Int)<most:=hp;refine .ite (λ_=> .some ⟨λ_=>this,λe=>(by cases e)⟩) λh4=> .some ⟨λ_=>this,λ_ e=>?_⟩;subst e;exact absurd h4 (λe=>Bool.noConfusion e)
 have hk':=hb.1 e;have hw:wI ((k:Int)+1)=((k+1:Nat):Int):=aq aa;refine .bind (at_ (2*k) λD t=> .bind (at_ (2*k+1) λE f=>?_));obtain⟨ms,N,u,_,_,h4⟩:=OL gr rfl rfl Ls;have P:=Ae9 w h4 gr rfl (by rw[u];show u7.length<=1000;rw[KL];decide) (u▸Og) (by rw[u];show(u7.map (·.Device)).Nodup;rw[Ak7];decide);refine .bind (T.mono (Ala (N2 w t f)) λo ⟨z,c⟩=> .bind ((Iv (by obtain⟨_,_,e,h⟩:=Ac9 P aa c.nopath (Ag6 f o z);exact⟨_,e,aa⟩)).mono λF H=> .bindc (uW (eX f Cd)) λI _=> .bindc (.ite (λ_=> .some trivial) λ_=> .some trivial) λJ _=> .bindc (zh _) λK _=>?_));refine .bind (T.mono (Q:=λx:List Fk=>x.length<=1000/\∀y∈x,JF y) (T.loop (λs=>∃j:Nat,s.2=(j:Int)/\j<=5/\s.1.length<=j/\∀y∈s.1,JF y) (λs=>6-s.2.toNat) ⟨0,rfl,aa,aC,aC⟩ aC ?_) λA B=>?_)
 .rintro⟨a,i⟩ ⟨j,rfl,hj,ha,hs⟩;simp only at ha hs;have hwj:wI ((j:Int)+1)=((j+1:Nat):Int):=aq aa;unfold lw;refine .bind (T.mono (Q:=λb:Bool=>b=true->j<5) (.ite (λ_=> .ite (λ_=> .some λe=>?_) λ_=> .some λe=>by cases e) λ_=> .some λe=>by cases e) λb hb=> .ite (λe=>?_) λ_=> .some ⟨by grind,hs⟩)
  .grind
  .have:=hb e;refine .bind (.bind (.app cq (.some (.some ⟨⟨j+1,hwj,aa,by simp;omega,λy hy=>?_⟩,?_⟩))))
   .rcases HU.1 hy with hy|hy
    .grind
    .simp at hy;subst hy;exact⟨Mp _,aC,aC⟩
   grind
 .have so:Be {o with Path:=A}:=Hg c.iBy c.iSeq c.iKind c.iAt c.sPast c.iDevice c.iOld c.iMember c.iRole B c.epoch c.iN c.nBody c.sRefs c.of_ c.sGuards c.iNeed c.iWait c.sBoxes c.pub c.sHist;refine .bind ((Io so).mono λM C=>?_);obtain⟨s,rfl,hr,hs⟩:=C;refine .bind ((QG w (so.sig s) hs).mono λm d=> .dec (λh0=> .some ⟨hw,hk',d.1,?_,?_,?_⟩) λ_=> .some ⟨hw,hk',w,gr,λh=>h,Nat.le_succ _⟩)
  .rcases d.2 with⟨h,_⟩|⟨id,up,row,_,a,hid,hrow,hg⟩
   .grind
   .show LS g0 m.1;rw[hg];exact .step gr w (so.sig s) hr hs a hid hrow
  .rcases d.2 with⟨h,_⟩|⟨id,up,row,_,a,hid,hrow,hg⟩
   .grind
   .intro _;show m.1.L≠[];rw[hg];show g.L++[_]≠[];simp
  .rcases d.2 with⟨h,_⟩|⟨id,up,row,_,a,hid,hrow,hg⟩
   .grind
   .show m.1.L.length<=_;rw[hg];show(g.L++[_]).length<=_;simp
theorem Wf(hl:l.length<=9223372036854775807)(hi:∀x∈l,c8 x){most:Int}(h0:0<most)(hm:most<=14):T (vq l most) λg=>Fs g/\LS g0 g/\g.L≠[]/\(g.L.length:Int)<=most:=by
 unfold vq r8;rw[Bp,Oe,Bp];unfold Jf;rw[Bp];refine .bind (T.mono (Q:=λg:Ba=>Fs g/\LS g0 g/\g.L≠[]/\(g.L.length:Int)<=most) (T.loop (λs=>∃k:Nat,s.2=(k:Int)/\k<=1000/\Fs s.1/\LS g0 s.1/\(k=0->s.1=g0)/\(k≠0->s.1.L≠[])/\s.1.L.length<=k/\(k:Int)<=most) (λs=>1001-s.2.toNat) ⟨0,rfl,aa,Yu,.base,λ_=>rfl,(by grind),Nat.zero_le _,by grind⟩ aC ?_) λv hv=> .some hv);rintro⟨g,i⟩ ⟨k,rfl,hk,w,gr,hz,a,hlk,b⟩;have hlk:g.L.length<=k:=hlk;obtain⟨r,e,hr⟩:=Oh hl hi hm hk w gr hlk;refine⟨r,e,?_⟩;cases r with
 |inr v=>obtain⟨rfl,h⟩:=hr;constructor<;>grind
 |inl s=>obtain⟨h1,h2,h3,h4,h5⟩:=hr;refine⟨⟨k+1,h1,aa,h3,h4,(by grind),λ_=>?_,by grind,aa⟩,?_⟩;all_goals grind [KM]
theorem Xe(hl:l.length<=9223372036854775807)(hi:∀x∈l,c8 x):∃r ms N,vq l 14=some r/\Aaa r ms N:=by obtain⟨r,e,w,g,ne,hn⟩:=Wf hl hi (most:=14) Cd Cd;obtain⟨ms,N,a,_,h3,h4⟩:=OL g rfl rfl Ls;exact⟨r,ms,N,e,w,ne,h3,h4,g,a,aa⟩
section
variable {gl:CO}
abbrev DnV(gl:CO)(fi:FuncId)(fa fc:Bn)(p:Ab->Bool):Prop:=T9 prog gl fi fa fc (λx:Ab=>[.agg (aj x)]) (λx:Bool=>bG x) (λk=>some (p k))
theorem Abl{p:Ab->Bool}(hv:DnV gl fi fa fc p){l:Bf}(hn:l.length<=1000000):iV prog gl 46 [aE aj l,.clo (.func fi) fa fc] 25 (l.filter p).length ((l.filter p).flatMap aj):=by
 refine OW func46 ?_;refine pN (λk:Nat=>(s0 23 gl [(1,.clo (.func fi) fa fc),(5,.rsl 0 0 ((l.take k).filter p).length),(8,aE aj l),(9,iG (ah l)),(10,iG (k:Int))] [(0,BA ((l.take k).filter p))] 1 0)) 1110122 (DV (n:=l.length) aa) [] [hc hv.im,hc (ac.imm [])] (λB k w hs k5 a=>?_) [25] [(0,0)] [(0,.row)];unfold Ja at hs;split at hs
 .rename_i hlt;obtain rfl:=A9 hs;obtain⟨x,hx⟩:∃x,l[k]?=some x:=⟨_,DQ hlt⟩;have hz:=AH hx;have k5:=k5 _ rfl;have hl:((l.take k).filter p).length<=k:=JD (KY _ _) (by rw[Mh];omega);rw[JM,hx,Option.toList_some,RT] at k5;generalize (l.take k).filter p=q at k5 hl⊢;have hcs:=hv.cs (c:=2) (x:=x) rfl (aY (aG 20 (.agg (aj x)) aH) bf);cases hp:p x with
  |true=>rw[hp] at hcs;rw[List.filter_cons_of_pos hp,List.filter_nil] at k5;exact jw [hr 11 (C5 hx),AA 12 (ac.ixZ hz),AA 13 (ac.ptZ aW hz),Go.Proofs.YtghphhhpagagbaaGreatDoor.hz 16 [] hcs,Tn 20 ac 24 q x aa,hbb 21 (Xl (q:=k) aa)] [hc hv.im,hc (el (q++[x])),hc (ac.imm (q++[x]))] k5 [] [(0,3)] [(0,.row)]
  |false=>rw[hp] at hcs;rw[List.filter_cons_of_neg (by simp[hp]),List.filter_nil,Nf] at k5;exact jw [hr 11 (C5 hx),AA 12 (ac.ixZ hz),AA 13 (ac.ptZ aW hz),Go.Proofs.YtghphhhpagagbaaGreatDoor.hz 16 [] hcs,hbb 21 (Xl (q:=k) aa)] [hc hv.im,hc (el q),hc (ac.imm q)] k5 [] [(0,0)] [(0,.row)]
 .split at hs
  .rename_i he;subst he;rw[EY];exact EI [hr 11 (DG (s:=l))] (ac.imm (l.filter p))
  .cases hs
section
variable {gg:Aj}
theorem Ac7{l:Bj}{b:Bool}{ss:Lw}(hc:ba prog gl 104 [iG o.Kind] (bG b))(hA:b=true->ba prog gl 27 [.ptr (Ag gg) 0,.agg (aJ o)] (aE cZ l))(a:b=true->ba prog gl 26 [aE cZ l,iG o.By] (aE Jc ss)):ba prog gl 49 [.ptr (Ag gg) 0,.agg (aJ o)] (aE Jc (bif b then ss else[])):=by
 refine Gh func49 ?_;cases b with
 |false=>exact Ar [hf 7 hc] []
 |true=>exact Ar [hf 7 hc,hf 11 (hA rfl),hf 14 (a rfl)] []
theorem Ae7(h:Q5 gl gg I)(hS:ba prog gl 49 [.ptr (Ag gg) 0,.agg (aJ (I.o x))] (aE Jc ss)):ba prog gl 16 [.ptr (Ag gg) 0,.agg (aj x)] (aE Jc (bif(I.op x).isSome then ss else[])):=by
 have ho:=h.op x;refine Gh func16 ?_;generalize (I.op x).isSome=b at ho⊢;cases b with
 |false=>exact Ar [hf 10 ho] []
 |true=>exact Ar [hf 10 ho,hf 17 hS] []
def Abm(n:Nat)(o:Bq):Bool:=bif decide ((0:Int)<(n:Int)) then decide ((n:Int)=ah o.Path) else false
theorem Ag7(h:Q5 gl gg I)(hS:ba prog gl 49 [.ptr (Ag gg) 0,.agg (aJ (I.o x))] (aE Jc ss)):ba prog gl 48 [.agg (aj x),.ptr [.ptr (Ag gg) 0] 0] (bG (Abm ss.length (I.o x))):=by
 have ho:=h.op x;refine Gh func48 ?_;unfold Abm;cases c:decide ((0:Int)<(ss.length:Int)) with
 |false=>exact Ar [hf 10 ho,hf 15 hS,hr 18 c] []
 |true=>exact Ar [hf 10 ho,hf 15 hS,hr 18 c] []
theorem Acf(h:Q5 gl gg I){ss:Ab->Lw}(hS:∀x,ba prog gl 49 [.ptr (Ag gg) 0,.agg (aJ (I.o x))] (aE Jc (ss x)))(hO:ba prog gl 47 [.ptr (Ag gg) 0,aE aj ids] (aE aj row))(hn:row.length<=1000):ba prog gl 13 [.ptr (Ag gg) 0,aE aj ids] (aE aj (row.filter λx=>Abm (ss x).length (I.o x))):=by have hv:DnV gl 48 [] [.ptr [.ptr (Ag gg) 0] 0] (λx=>Abm (ss x).length (I.o x)):=⟨aH,bf,aY (aG 20 (.ptr [.ptr (Ag gg) 0] 0) aH) bf,λx r e=>by cases e;exact Ag7 h (hS x)⟩;have hF:=Abl hv (l:=row) aa;refine Gh func13 ?_;exact Ar [hf 7 hO,ho 9 [aE aj row,.clo (.func 48) [] [.ptr [.ptr (Ag gg) 0] 0]] [] hF (kF _)] [hc (ac.al (row.filter λx=>Abm (ss x).length (I.o x)))]
end
end
def AdF(k:Int):Bool:=(E5 k).getD false
theorem AeM{k:Int}(h:0<=k/\k<=13):E5 k=some (AdF k)/\ba prog fI 104 [iG k] (bG (AdF k)):=by
 have:k=0\/k=1\/k=2\/k=3\/k=4\/k=5\/k=6\/k=7\/k=8\/k=9\/k=10\/k=11\/k=12\/k=13:=aa;rcases this with rfl|rfl|rfl|rfl|rfl|rfl|rfl|rfl|rfl|rfl|rfl|rfl|rfl|rfl
 all_goals
  refine⟨aH,Gh func104 ?_⟩
  exact Ar [] []
def Aa9(g:Ba)(o:Bq):Bj:=(qo g o).getD []
def M4(g:Ba)(o:Bq):Lw:=bif AdF o.Kind then tpL o.By (Aa9 g o) else[]
theorem Ac0{m:JN}(P:Pg g m N)(h14:g.L.length<=14){o:Bq}(so:Be o)(hk:Kn o)(h13:0<=o.Kind/\o.Kind<=13):ba prog fI 49 [.ptr (Ag ⟨g.Cards,m,N⟩) 0,.agg (aJ o)] (aE Jc (M4 g o))/\jm g o=some (M4 g o)/\M1 o.By (M4 g o)/\ba prog fI 27 [.ptr (Ag ⟨g.Cards,m,N⟩) 0,.agg (aJ o)] (aE cZ (Aa9 g o))/\qo g o=some (Aa9 g o)/\(Aa9 g o).length<=2000:=by
 obtain⟨l,hA,e,hl,hn⟩:=Ac9 P h14 so hk;obtain⟨c1,c2⟩:=AeM h13;have hA':ba prog fI 27 [.ptr (Ag ⟨g.Cards,m,N⟩) 0,.agg (aJ o)] (aE cZ l):=by have:=rZ.fo hA;grind [Ag,RJ]
 have ea:Aa9 g o=l:=by unfold Aa9;rw[e];rfl
 unfold M4;rw[ea];refine⟨Ac7 c2 (λ_=>hA') (λ_=>Aa8 aa),?_,?_,hA',e,hl⟩
 .unfold jm;rw[c1,Bp];cases AdF o.Kind with
  |false=>rfl
  |true=>rw[Bool.not_true,Bg,e,Bp,cX aa,Bp,KI,AeL aa hn];unfold tpL;by_cases h:o.By∈l<;>simp[h]
 .cases AdF o.Kind with
  |false=>exact ZX
  |true=>exact Ai4 hl hn
section
set_option maxHeartbeats 2000000
theorem AgJ:fg prog 56=some false:=aH
def SD(g:Ba)(l:Bj)(a:Bf×Int):Option ((Bf×Int)⊕Bf):=
 (bif decide (a.2<ah l) then(some (decide (a.2<4))) else(some false)).bind λb=>bif b then((Bt l a.2).bind λc=>(iq c (ah g.IDs)).bind λd=>(Bt g.IDs d).bind λe=>(aT 24 a.1 [e]).bind λf=>some (.inl (f,wI (a.2+1)))) else(some (.inr a.1))
def Ud(g:Ba)(l:Bj):Option Bf:=
 (bif decide (ah l=0) then(some true) else(some (decide (ah g.L=0)))).bind λb=>bif b then((xt g).bind λc=>some c) else((AB (SD g l) ([],0)).bind λd=>(Mj g d).bind λa=>some a)
theorem SE{g l}:LT prog gl (Ud g l) 11 [.agg (aI g),aE cZ l] 25 aj:=
 gc func11 λK=>cN 1100 (so [0] [(2,.ref 0 0)] [ob 0 33 (aI g)] 1) []<|cC 1100 (λi=>sf [] [(15,bG i)]) (λi=>eH [15] (ak λp e5=>aw [ho 17 [.agg (aI g)] [] (DK gl e5) (kF p)]<|mr c0 K (ac.imm _))<|rdL 111101 11110122 (λj=>sg [2] [(5,aE aj j)]) (λa=>so [15] [(5,.rsl 1 0 a.1.length),(6,iG a.2)] [ob 1 25 (a.1.flatMap aj)] 2) [hc (ac.imm [])] (vs:=[25]) (ρ:=[(0,0),(1,1)]) (kd:=[(1,.row)]) (λj=>ak λk e16=>aw [ho 45 [.agg (aI g),aE aj j] [] (ua gl e16) (kF k)]<|mr c0 K (ac.imm _)) λa m k9=>cN 1111012200 (sf [] []) [hc (el a.1),hc (ac.imm a.1)] (ρ:=[(0,0),(1,1)]) (kd:=[(1,.row)])<|cC 1111012200 (λb=>sf [] [(25,bG b)]) (λb=>eH [25] (ak λq c=>ak λr n=>ak λs d=>ak λe o=>aw [AA 33 (rZ.ixZ c),AA 34 (rZ.p1Z tZ c),hf 38 (iL gl n),AA 39 (ac.ixZ d),AA 40 (ac.ptZ aW d),dg 42 ac o]<|cj m [hc (el e),hc (ac.imm e)] (ρ:=[(0,0),(1,3)]) (kd:=[(1,.row)]))<|aA c1 k9 [hc (ac.al a.1)]) λb f=>aF 21 (aA c0 f [hc (el a.1),hc (ac.imm a.1)] (ρ:=[(0,0),(1,1)]) (kd:=[(1,.row)]))<|aA c0 f [hc (el a.1),hc (ac.imm a.1)] (ρ:=[(0,0),(1,1)]) (kd:=[(1,.row)])) λi h=>aF 9 (aA c0 h [])<|aA c0 h []
def M2(g:Ba)(c:Bf)(s3:Bf×Int):Option ((Bf×Int)⊕Bf):=
 bif decide (s3.2<ah c) then((Bt c s3.2).bind λd=>(fC g d).bind λa=>bif decide (a<0) then(some (.inl (s3.1,wI (s3.2+1)))) else((Bt g.L a).bind λe=>(jm g e).bind λb=>(bif decide (0<ah b) then((Bt g.L a).bind λf=>some (decide (ah b=ah f.Path))) else(some false)).bind λh=>bif h then((Bt c s3.2).bind λi=>(aT 24 s3.1 [i]).bind λj=>some (.inl (j,wI (s3.2+1)))) else(some (.inl (s3.1,wI (s3.2+1)))))) else(some (.inr s3.1))
def R0(g:Ba)(ids:Bf):Option Bf:=
 (n8 g ids).bind λa=>(AB (M2 g a) ([],0)).bind λb=>some b
theorem XX{g ids}:LT prog gl (R0 g ids) 14 [.agg (aI g),aE aj ids] 25 aj:=
 gc func14 λK=>ak λo e2=>aw [hf 12 (ac.fo (G7 gl e2))]<|rdL 111101 11110122 (λi=>sp [] [(6,.rsl 0 0 i.length)] [ob 0 25 (i.flatMap aj)] 1) (λs3=>sp [] [(2,.ref 0 0),(5,aE aj o),(6,.rsl 1 0 s3.1.length),(7,iG s3.2)] [ob 0 33 (aI g),ob 1 25 (s3.1.flatMap aj)] 2) [hc (ac.imm [])] (vs:=[25]) (ρ:=[(0,0),(1,1)]) (kd:=[(1,.row)]) (λi=>mr c0 K (ac.imm _)) λs3 j k6=>aF 16 (ak λp b=>ak λk e16=>aw [AA 22 (ac.ixZ b),AA 23 (ac.ptZ aW b),hf 24 (dX gl e16)]<|aF 26 (cj j [hc (el s3.1),hc (ac.imm s3.1)] (ρ:=[(0,0),(1,1)]) (kd:=[(1,.row)]))<|ak λq c=>ak λl m=>aw [AA 31 (eJ.ixZ c),AA 32 (eJ.ptZ GN c),hf 33 (nH.fo (E6 gl m))]<|cN 111101221021110 (sf [] [(8,iG k),(9,iG (ah l))]) [hc (el s3.1),hc (ac.imm s3.1)] (ρ:=[(0,0),(1,1)]) (kd:=[(1,.row)])<|cC 111101221021110 (λa=>sf [8,9] [(47,bG a)]) (λa=>eH [47] (ak λr d=>ak λe n=>aw [AA 51 (ac.ixZ d),AA 52 (ac.ptZ aW d),dg 54 ac n]<|cj j [hc (el e),hc (ac.imm e)] (ρ:=[(0,0),(1,3)]) (kd:=[(1,.row)]))<|cj j [hc (el s3.1),hc (ac.imm s3.1)] (ρ:=[(0,0),(1,1)]) (kd:=[(1,.row)])) λa f=>aF 36 (ak λs h=>aw [AA 42 (eJ.ixZ h),AA 44 (eJ.fdZ AgJ 9 h)]<|aA c0 f [hc (el s3.1),hc (ac.imm s3.1)] (ρ:=[(0,0),(1,1)]) (kd:=[(1,.row)]))<|aA c0 f [hc (el s3.1),hc (ac.imm s3.1)] (ρ:=[(0,0),(1,1)]) (kd:=[(1,.row)]))<|aA c1 k6 [hc (el s3.1),hc (ac.imm s3.1)] (ρ:=[(0,1)]) (kd:=[(0,.row)])
def UQ(g:Ba)(commit:Ab):Option Lw:=
 (fC g commit).bind λa=>bif decide (a<0) then(some []) else((Bt g.L a).bind λb=>(jm g b).bind λc=>some c)
theorem Ab6{g commit}:LT prog gl (UQ g commit) 17 [.agg (aI g),.agg (aj commit)] 22 Jc:=
 gc func17 λK=>ak λb e2=>aw [hf 8 (dX gl e2)]<|aF 10 (mr c0 K (nH.imm _))<|ak λd e5=>ak λa e7=>aw [AA 15 (eJ.ixZ e5),AA 16 (eJ.ptZ GN e5),hz 17 [] (Sw (c:=2) aH (E6 gl e7) (eB aH) (nH.imm a))]<|mr c0 K (nH.imm _)
end
theorem Aba(w:Fs g)(hnd:g.IDs.Nodup){l:Bj}(hi:∀x∈l,c8 x):T (Ud g l) λv=>GV g v/\v.Nodup:=by
 have nL:=w.nL;have nI:=w.nI;unfold Ud;refine .bind (T.mono (Q:=λb:Bool=>b=false->0<g.L.length) (.dec (λ_=> .some λe=>by cases e) λ_=> .some λe=>by have:=Lz e;unfold ah at this;omega) λb hb=> .ite (λ_=> .bind ((Cz w).mono λv hv=> .some ⟨⟨λx hx=>hv.1.mem_iff.1 hx,by rw[hv.1.length_eq];omega⟩,hv.1.nodup_iff.2 hnd⟩)) λh=>?_);have hp:=hb h;refine .bind (T.mono (T.loop (Q:=λr:Bf=>r.length<=10) (λs=>0<=s.2/\s.2<=4/\(s.1.length:Int)<=s.2) (λs=>(5-s.2).toNat) ⟨aC,aC,aC⟩ (by show(5-(0:Int)).toNat<_;omega) ?_) λv hv=> .bind ((yf w aa).mono λr hr=> .some ⟨hr.1,hr.2.1⟩));rintro⟨a,i⟩ ⟨c,i1,d⟩;simp only at c i1 d;unfold SD;refine .bind (T.mono (Q:=λb:Bool=>b=true->i<l.length/\i<4) (.dec (λh1=> .some λe=>⟨h1,DP e⟩) λ_=> .some λe=>by cases e) λb hb=> .ite (λe=>?_) λ_=> .some (show a.length<=10 by omega));obtain⟨b1,b2⟩:=hb e;have hw:wI (i+1)=i+1:=bM aa aa;refine .bind (.ixl c b1 λy _ hy=> .bind ((eX (hi y hy) (by unfold ah;omega)).mono λv hv=> .bind (.ixl hv.1 hv.2 λz _ _=> .bind (.app (by simp only[List.length_singleton];omega) (.some ⟨⟨?_,?_,?_⟩,?_⟩)))))
 .show 0<=wI (i+1);omega
 .show wI (i+1)<=4;omega
 .show((a++[z]).length:Int)<=wI (i+1);rw[RU,List.length_singleton];omega
 .show(5-wI (i+1)).toNat<(5-i).toNat;omega
section
variable {g:Ba} {m:JN} {N:JL} (P:Pg g m N) (h14:g.L.length<=14) (hkn:∀(k:Nat) (o:Bq),g.L[k]?=some o->Kn o)
include P h14 hkn
theorem Abb(x:Ab):ba prog fI 49 [.ptr (Ag ⟨g.Cards,m,N⟩) 0,.agg (aJ ((CA g m N).o x))] (aE Jc (M4 g ((CA g m N).o x)))/\M1 x.By (M4 g ((CA g m N).o x))/\(x∉g.IDs->M4 g ((CA g m N).o x)=[])/\UQ g x=some (M4 g ((CA g m N).o x)):=by
 have w:=P.w;have nI:=w.nI;have nL:=w.nL;by_cases hx:x∈g.IDs
 .obtain⟨i,o,e1,e2,e3,_,so,a⟩:=w.place (lj.2 hx);obtain⟨h1,h2,h3,_⟩:=Ac0 P h14 so (hkn i o e3) (by have:=a.kind;omega);rw[(P.op e3 e2).2];rw[<-(Nr so (w.ids i o x e3 e2)).1] at h3;refine⟨h1,h3,λh=>absurd hx h,?_⟩;unfold UQ;rw[dC aa,Bp,e1,show decide ((i:Int)<0)=false from Dd aa,Bg,au,e3,Bp,h2];rfl
 .have e:(CA g m N).o x=ip:=by unfold Gi.o;rw[Af0 w P.p,jv.2 hx];rfl
  have hp:gO g x<0:=Int.not_le.1 λh=>hx (lj.1 h);have e2:M4 g ip=[]:=rfl;rw[e,e2];refine⟨Ac7 (b:=false) (l:=[]) (ss:=[]) (AeM (k:=0) Cd).2 (λh=>by cases h) (λh=>by cases h),ZX,λ_=>rfl,?_⟩;unfold UQ;rw[dC aa,Bp,C6 hp,ax]
theorem Abc(x:Ab):ba prog fI 16 [.ptr (Ag ⟨g.Cards,m,N⟩) 0,.agg (aj x)] (aE Jc (M4 g ((CA g m N).o x))):=by
 obtain⟨h1,_,h2,_⟩:=Abb P h14 hkn x;have h:=Ae7 (YF (VB P.w P.p)) h1;by_cases hx:x∈g.IDs
 .obtain⟨i,o,_,e2,e3,_⟩:=P.w.place (lj.2 hx);rw[show((CA g m N).op x).isSome=true by rw[(P.op e3 e2).1];rfl] at h;exact h
 .rw[show((CA g m N).op x).isSome=false by rw[Af0 P.w P.p,jv.2 hx];rfl] at h;rw[h2 hx];exact h
end
section
variable {g:Ba} {m:JN} {N:JL} (P:Pg g m N) (h14:g.L.length<=14) (hkn:∀(k:Nat) (o:Bq),g.L[k]?=some o->Kn o)
include P h14 hkn
def TD(g:Ba)(I:Gi)(x:Ab):Bool:=Abm (M4 g (I.o x)).length (I.o x)
theorem Pw(hv:GV g v)(a:v.Nodup):∃row:Bf,ba prog fI 13 [.ptr (Ag ⟨g.Cards,m,N⟩) 0,aE aj v] (aE aj (row.filter (TD g (CA g m N))))/\R0 g v=some (row.filter (TD g (CA g m N)))/\row.Perm v/\(row.Pairwise λx y=>JK (CA g m N) x y<0)/\row.length<=14:=by
 have w:=P.w;have nI:=w.nI;have hI:=YF (VB w P.p);have hv14:v.length<=14:=by have:=EC a hv.sub;omega
 obtain⟨row,l,b,f⟩:=Uv w P.p aa a hv.sub;have hrl:row.length<=14:=by rw[b.length_eq];exact hv14
 have hO:ba prog fI 47 [.ptr (Ag ⟨g.Cards,m,N⟩) 0,aE aj v] (aE aj row):=by obtain⟨r,e,j,q⟩:=Sc (SJ (CA g m N)) a hv14;have:r=row:=Tz (SJ (CA g m N)).tr Np (j.trans b.symm) q f;subst this;exact Xh (VB w P.p) hv14 e j.length_eq
 refine⟨row,Acf hI (λx=>(Abb P h14 hkn x).1) hO aa,?_,b,f,hrl⟩;unfold R0;rw[l,Bp];refine T.eq (.bind (T.mono (T.forA (Q:=λr:Bf=>r=row.filter (TD g (CA g m N))) row.length (λk acc=>acc=(row.take k).filter (TD g (CA g m N))) aa aC (λk acc hk hj=>?_) λacc hj=>?_) λ_ h=> .some h))
 .obtain⟨x,hx⟩:∃x,row[k]?=some x:=⟨_,DQ hk⟩;obtain⟨i,o,e1,e2,e3,_,so,s⟩:=w.place (lj.2 (hv.sub x (b.mem_iff.1 (bO hx))));obtain⟨_,hS,hl,_⟩:=Ac0 P h14 so (hkn i o e3) (by have:=s.kind;omega);have hl:=hl.n;have ha:acc.length<=14:=by rw[hj];refine JD (KY ..) ?_;rw[Mh];omega
  unfold M2;dsimp only;rw[eA hk,ax,au,hx,Bp,dC aa,Bp,e1,show decide ((i:Int)<0)=false from Dd aa,Bg,au,e3,Bp,hS,Bp];have hc:(bif decide (0<ah (M4 g o)) then(((some o:Option Bq)).bind λd=>some (decide (ah (M4 g o)=ah d.Path))) else(some false))=some (TD g (CA g m N) x):=by unfold TD;rw[(P.op e3 e2).2];unfold Abm ah;cases decide ((0:Int)<((M4 g o).length:Int))<;>rfl
  rw[hc,Bp,JM,hx,Option.toList_some,RT];cases c:TD g (CA g m N) x with
  |true=>rw[ax,Bp,show List.filter (TD g (CA g m N)) [x]=[x] by simp[c]];exact .bind (.app (by simp only[List.length_singleton];omega) (.some ⟨aq aa,by rw[hj]⟩))
  |false=>rw[Bg,show List.filter (TD g (CA g m N)) [x]=[] by simp[c],Nf];exact .some ⟨aq aa,hj⟩
 .unfold M2;dsimp only;rw[eF,Bg];exact .some (show acc=_ by rw[hj,EY])
end
section
variable {gl:CO}
theorem Ab7{l:Bf}(hn:l.length<=1000000):ba prog gl 12 [aE aj l,aE aj l] (bG true):=by
 refine Gh func12 ?_;refine pN (λk:Nat=>(s0 26 gl [(0,aE aj l),(1,aE aj l),(5,iG (k:Int))] [] 0 0)) 1110122 (DV (n:=l.length) aa) [hr 10 (neZ (ah l))] [] (λB k w hs k5 a=>?_);unfold Ja at hs;split at hs
 .rename_i hlt;obtain rfl:=A9 hs;obtain⟨x,hx⟩:∃x,l[k]?=some x:=⟨_,DQ hlt⟩;have hz:=AH hx;have k5:=k5 _ rfl;exact jw [hr 14 (C5 hx),AA 19 (ac.ixZ hz),AA 20 (ac.ptZ aW hz),AA 23 (ac.ixZ hz),AA 24 (ac.ptZ aW hz),hV 25 (dy x x (r:=false) aC),hbb 16 (Xl (q:=k) aa)] [] k5 []
 .split at hs
  .rename_i he;subst he;exact Ar [hr 14 (DG (s:=l))] []
  .cases hs
theorem Abd{l:Lw}(hn:l.length<=1000000)(hl:∀x∈l,x.length<=1000000):ba prog gl 15 [aE Jc l,aE Jc l] (bG true):=by
 refine Gh func15 ?_;refine pN (λk:Nat=>(s0 27 gl [(0,aE Jc l),(1,aE Jc l),(5,iG (k:Int))] [] 0 0)) 1110122 (DV (n:=l.length) aa) [hr 10 (neZ (ah l))] [] (λB k w hs k5 a=>?_);unfold Ja at hs;split at hs
 .rename_i hlt;obtain rfl:=A9 hs;obtain⟨x,hx⟩:∃x,l[k]?=some x:=⟨_,DQ hlt⟩;have hz:=AH hx;have k5:=k5 _ rfl;exact jw [hr 14 (C5 hx),AA 19 (nH.ixZ hz),AA 20 (nH.p1Z Vs hz),AA 23 (nH.ixZ hz),AA 24 (nH.p1Z Vs hz),hf 25 (UT (gl:=gl) (hl x (bO hx))),hbb 16 (Xl (q:=k) aa)] [] k5 []
 .split at hs
  .rename_i he;subst he;exact Ar [hr 14 (DG (s:=l))] []
  .cases hs
end
structure Vz where
 Set:Bj
 Pub:Nat
 By:Ab
 N:Int
def Hd(x:Vz):Bn:=[aE cZ x.Set,uG x.Pub,iG x.By.By,iG x.By.Seq,uG x.By.Sum,iG x.N]
def N4:Vz:=⟨[],0,⟨0,0,0⟩,0⟩
def LB(set:Bj)(d:Int):Bool:=decide (d∈set)
def SF(cs:Bf)(set:Bj):Bf:=cs.filter λx=>LB set x.By
def VA(b a:Bj):Bool:=bif decide ((a.length:Int)=(b.length:Int)) then !(a.any λd=> !LB b d) else false
def Ab9(I:Gi)(x y:Ab):Bool:=bif !decide (y=x) then !I.bef y x else false
def UB(I:Gi)(x:Ab)(n:Nat):Nat:=(((I.o x).Path[n]?).getD ⟨0,[]⟩).Pub
def OP(I:Gi)(ss:Ab->Lw)(cs:Bf)(set:Bj):Option Vz:=match(SF cs set).getLast? with
 |none=>match set with
  |[d]=>(I.card d).map λc=>⟨[d],c.Lead,⟨0,0,0⟩,0⟩
  |_=>none
 |some x=>if set.length=1 then some ⟨set,UB I x 0,x,0⟩ else if(SF cs set).any (Ab9 I x)=true then none else match(ss x).findIdx? (VA set) with
  |none=>none
  |some n=>some ⟨set,UB I x n,x,(n:Int)⟩
theorem AmS{s:List α}{f:α->Fp}{p:α->Bool}(hn:s.length<2305843009213693952)(hf:∀x∈s,f x=some (p x)):Uy s f=some (match s.findIdx? p with|some j=>(j:Int)|none=> -1):=by
 obtain⟨r,h1,h2⟩:=Ahj (s:=s) p hn (step:=Hx s f) (by grind [Hx,C5,AH]) (by grind [Hx,DG]);unfold Uy;rw[h1];rcases h2 with⟨rfl,h2⟩|⟨j,rfl,_,h2⟩
 .rw[show s.findIdx? p=none from(by grind)];rfl
 .rw[h2];rfl
section
variable {gl:CO}
theorem OQ:Aa0 prog gl Jc (λx=>[aE cZ x]) 120:=λs f fi_f fa_f fc_f a=>
 cy func120 λK=>Ow 1101 (λg=>sg [] []) (λs1=>sf [] [(7,iG (ah s)),(8,iG s1)]) [hc (a.im)] K (λg=>rv K) λs1 k5 h k6=>aF 9 (CB 14 nH.ixZ 15 (nH.p1Y Vs) λd=>ak λi e=>kV (λb=>aw [hz 16 [] (cS (a.cs (c:=0) e (aY (aG 20 (aE cZ d) aH) (bf))) b)]<|aP c3 k6 []) λb=>aw [hz 16 [] (cS (a.cs (c:=0) e (aY (aG 20 (aE cZ d) aH) (bf))) b)]<|cj k5 [hc (a.im)])<|aA c2 h []
theorem Aig{set:Bj}(hs:set.length<=1000000)(d:Int):ba prog gl 77 [aE cZ set,iG d] (bG (LB set d)):=Dx gl (by grind [SM,LB])
theorem AeQ{a b:Bj}(ha:a.length<=1000000)(hb:b.length<=1000000):ba prog gl 122 [aE cZ a,aE cZ b] (bG (VA b a)):=by
 have h1:∀d,ba prog gl 215 [iG d,.ptr [aE cZ b] 0] (bG (!LB b d)):=λd=>by refine Gh func215 ?_;exact Ar [hf 6 (Aig (gl:=gl) hb d)] []
 have h2:=ml gl (fi_f:=215) (fa_f:=[]) (fc_f:=[.ptr [aE cZ b] 0]) (f:=λd=>some (!LB b d)) ⟨aH,bf,aY (aG 20 (.ptr [aE cZ b] 0) aH) bf,λf r e=>by cases e;exact h1 f⟩ (Abu (s:=a) aa λ_ _=>rfl);refine Gh func122 ?_;unfold VA;cases c:decide ((a.length:Int)=(b.length:Int)) with
 |false=>exact Ar [hr 9 c] []
 |true=>exact Ar [hr 9 c,hq 13 [aE cZ a,.clo (.func 215) [] [.ptr [aE cZ b] 0]] [] h2] []
section
variable {gg:Aj} {I:Gi} (hI:Q5 gl gg I) {ss:Ab->Lw} (hS:∀x,ba prog gl 16 [.ptr (Ag gg) 0,.agg (aj x)] (aE Jc (ss x))) {cs:Bf} {set:Bj} (hn:cs.length<=1000) (hl:set.length<=1000000) (hp:∀x∈cs,0<(ss x).length/\(ss x).length=(I.o x).Path.length/\(ss x).length<=3000/\∀s∈ss x,s.length<=3000)
include hI hS hn hl hp
theorem Ai5:∃s,ba prog gl 57 [.ptr (Ag gg) 0,aE aj cs,aE cZ set] (.tup [.agg (Hd s),bG (OP I ss cs set).isSome])/\∀q,OP I ss cs set=some q->s=q:=by
 have h1:∀x,ba prog gl 116 [.agg (aj x),.ptr [aE cZ set] 0] (bG (LB set x.By)):=λx=>by refine Gh func116 ?_;exact Ar [hf 7 (Aig (gl:=gl) hl x.By)] []
 have hF:iV prog gl 46 [aE aj cs,.clo (.func 116) [] [.ptr [aE cZ set] 0]] 25 (SF cs set).length ((SF cs set).flatMap aj):=Abl ⟨aH,bf,aY (aG 20 (.ptr [aE cZ set] 0) aH) bf,(by grind)⟩ aa;have hK:∀l:Bj,l.length<=1000000->ba prog gl 117 [aE cZ l] (aE cZ l):=λl hl=>rZ.fo (uK gl (T.eq (.app (by grind) rfl)));have hm:∀x∈SF cs set,x∈cs/\LB set x.By=true:=λx hx=>Hj.1 hx;have hol:(SF cs set).length<=1000:=JD (KY ..) hn;unfold OP;generalize SF cs set=own at hF hm hol⊢;rcases List.eq_nil_or_concat own with rfl|⟨q,x,rfl⟩
 .match set with
  |[]=>exact⟨N4,Gh func57 (Ar [ho 17 [aE aj cs,.clo (.func 116) [] [.ptr [aE cZ []] 0]] [] hF (kF _)] []),(by grind)⟩
  |[d]=>
   refine⟨⟨[d],((I.card d).getD S8).Lead,⟨0,0,0⟩,0⟩,?_,λq e=>?_⟩
   .have e:((I.card d).map λc=>(⟨[d],c.Lead,⟨0,0,0⟩,0⟩:Vz)).isSome=(I.card d).isSome:=by grind
    show ba _ _ _ _ (.tup [.agg (Hd _),bG ((I.card d).map λc=>(⟨[d],c.Lead,⟨0,0,0⟩,0⟩:Vz)).isSome]);rw[e];refine Gh func57 ?_;exact Ar [ho 17 [aE aj cs,.clo (.func 116) [] [.ptr [aE cZ [d]] 0]] [] hF (kF _),hf 40 (hI.card d),hf 44 (hK [d] aC)] []
   .cases h:I.card d<;>grind
  |a::b::r=>exact⟨N4,Gh func57 (Ar [ho 17 [aE aj cs,.clo (.func 116) [] [.ptr [aE cZ (a::b::r)] 0]] [] hF (kF _),hr 20 (show decide (((a::b::r).length:Int)=0)=false from Dd cq),hr 24 (show decide ((1:Int)<((a::b::r).length:Int))=true from C6 cq)] []),λq e=>by cases e⟩
 .rw[List.concat_eq_append] at*;obtain⟨hx,hi⟩:=hm x aC;obtain⟨g,i,j,k⟩:=hp x hx;have hs:0<set.length:=by
   cases set with
   |nil=>exact absurd (DP hi) (K4)
   |cons a r=>simp
  have ex:Bt (q++[x]) (q.length:Int)=some x:=AH aC;have e52:lD .sub (iG (((q++[x]).length:Nat):Int)) (iG 1)=some (iG (q.length:Int)):=by rw[RU] at hol⊢;grind [dec]
  have ep:∀n,n<(ss x).length->∃y:Fk,Bt (I.o x).Path (n:Int)=some y/\UB I x n=y.Pub:=λn h=>by
   obtain⟨y,hy⟩:∃y,(I.o x).Path[n]?=some y:=by simp_all
   grind [AH,UB]
  have st:∀s b,Gp prog Tryz.f57 (tH prog Tryz.f57 (.tup [.agg (Hd s),bG b])) [] false [1,1,1,1,1,0] (s0 87 gl [(3,.ptr [.ptr (Ag gg) 0] 0),(5,.ptr [aE cZ set] 0),(6,.ref 0 0),(8,aE aj (q++[x])),(11,.ptr (aj x) 0)] [ob 0 48 (bF [0] (Hd N4))] 1 0)->ba prog gl 57 [.ptr (Ag gg) 0,aE aj cs,aE cZ set] (.tup [.agg (Hd s),bG b]):=λs b h=>by
   refine Gh func57 ?_;have hA:=ho 17 [aE aj cs,.clo (.func 116) [] [.ptr [aE cZ set] 0]] [] hF (kF _);have e1:decide ((set.length:Int)=0)=false:=Dd aa;have e2:decide (((q++[x]).length:Int)=0)=false:=by grind
   cases hb:decide ((1:Int)<(set.length:Int))<;>exact pO 1111110 _ [ho 17 [aE aj cs,.clo (.func 116) [] [.ptr [aE cZ set] 0]] [] hF (kF _),hr 20 e1,hr 24 hb,hr 28 e2,hr 34 e2,hbb 52 e52,AA 53 (ac.ixrZ 3 ex),AA 54 (ac.pt0Z aW ex)] [hc (eB (gs:=[.ptr (Ag gg) 0]) aH),hc (eB (gs:=[aE cZ set]) aH),hc (ac.al (q++[x])),hc (eB (gs:=aj x) aH)] h [] [(0,2)]
  have ho:=hI.op x;have h2:∀y,ba prog gl 119 [.agg (aj y),.ptr (aj x) 0,.ptr [.ptr (Ag gg) 0] 0] (bG (Ab9 I x y)):=λy=>by
   refine Gh func119 ?_;have hb:=hI.bef y x;unfold Ab9;cases c:decide (y=x) with
   |false=>exact Ar [hV 7 (dy y x (r:=true) (by rw[c];rfl)),hf 12 hb] []
   |true=>exact Ar [hV 7 (dy y x (r:=false) (by rw[c];rfl))] []
  have h3:=kP gl (fi_f:=119) (fa_f:=[]) (fc_f:=[.ptr (aj x) 0,.ptr [.ptr (Ag gg) 0] 0]) (f:=λy=>some (Ab9 I x y)) ⟨aH,bf,aY (aG 20 (.ptr (aj x) 0) aH) (aY (aG 20 (.ptr [.ptr (Ag gg) 0] 0) aH) bf),λy r e=>by cases e;exact h2 y⟩ (Abu (s:=q++[x]) aa λ_ _=>rfl);have h4:∀s,s.length<=1000000->ba prog gl 121 [aE cZ s,.ptr [aE cZ set] 0] (bG (VA set s)):=λs hs=>by refine Gh func121 ?_;exact Ar [hf 6 (AeQ (gl:=gl) hs hl)] []
  have h5:=OQ (gl:=gl) (fi_f:=121) (fa_f:=[]) (fc_f:=[.ptr [aE cZ set] 0]) (f:=λs=>if s.length<=1000000 then some (VA set s) else none) ⟨aH,bf,aY (aG 20 (.ptr [aE cZ set] 0) aH) bf,(by grind)⟩ (AmS (s:=ss x) (p:=VA set) aa (by grind));have hk:=hK set hl;have hS:=hS x;rw[show(q++[x]).getLast?=some x by simp];dsimp only;by_cases hb:set.length=1
  .rw[Bz hb];obtain⟨y,hy,hp⟩:=ep 0 g;rw[hp];refine⟨⟨set,y.Pub,x,0⟩,st _ _ ?_,(by grind)⟩;exact Ar [hr 57 (show decide ((1:Int)<(set.length:Int))=false from Dd aa),hf 73 ho,hf 77 hk,AA 81 (bZ.ixZ hy),AA 83 (bZ.fdZ tW 0 hy)] []
  .rw[BB hb];have hb:decide ((1:Int)<(set.length:Int))=true:=C6 aa;generalize (q++[x]).any (Ab9 I x)=t at h3⊢;cases t with
   |true=>rw[Bz rfl];exact⟨N4,st _ _ (Ar [hr 57 hb,hf 60 h3] []),(by grind)⟩
   |false=>
    rw[BB aC];cases hd:(ss x).findIdx? (VA set) with
    |none=>rw[hd] at h5;exact⟨N4,st _ _ (Ar [hr 57 hb,hf 60 h3,hf 64 hS,hf 66 h5] []),(by grind)⟩
    |some n=>rw[hd] at h5;obtain⟨y,hy,hp⟩:=ep n (by grind [List.findIdx?_eq_some_iff_getElem]);dsimp only;rw[hp];refine⟨⟨set,y.Pub,x,(n:Int)⟩,st _ _ ?_,(by grind)⟩;exact Ar [hr 57 hb,hf 60 h3,hf 64 hS,hf 66 h5,hr 68 (show decide ((n:Int)<0)=false from Dd aa),hf 73 ho,hf 77 hk,AA 81 (bZ.ixZ hy),AA 83 (bZ.fdZ tW 0 hy)] []
theorem Ai6(a:ba prog gl 13 [.ptr (Ag gg) 0,aE aj ids] (aE aj cs)):ba prog gl 21 [.ptr (Ag gg) 0,aE aj ids,aE cZ set] (.tup [.agg (Hd ((OP I ss cs set).getD N4)),bG (OP I ss cs set).isSome]):=by
 obtain⟨s,h1,h2⟩:=Ai5 hI hS hn hl hp;refine Gh func21 ?_;cases e:OP I ss cs set with
 |none=>rw[e] at h1;exact Ar [hf 14 a,hf 16 h1] []
 |some q=>rw[e] at h1;rw[h2 q e] at h1;exact Ar [hf 14 a,hf 16 h1] []
end
end
theorem AgP{N:JL}{j:Int}(h:j∈u):lvN N j<lvF N u:=by
 have key:∀(u:Bj) (a:Int),a<=u.foldl (λa j=>Fo a (lvN N j+1)) a/\∀j∈u,lvN N j+1<=u.foldl (λa j=>Fo a (lvN N j+1)) a:=by intro u;induction u<;>grind [Fo]
 have:=(key u 1).2 j h;unfold lvF;omega
section
variable {g:Ba} {m:JN} {N:JL} (P:Pg g m N)
include P
theorem AeR:∀(d i k:Nat) {y z:C3},i-k<=d->QN g i k=true->N[i]?=some y->N[k]?=some z->z.level<y.level
 |0,i,k,y,z,hd,h,_,_=>absurd (P.w.inlt i k h).1 aa
 |d+1,i,k,y,z,hd,h,hy,hz=>by
  have w:=P.w;have one:∀{i:Nat} {u:Bj} {y:C3},N[i]?=some y->g.Up[i]?=some u->(k:Int)∈u->z.level<y.level:=λ{i u y} h1 h2 h3=>by rw[P.p.lv i y u h1 h2];have:=AgP (N:=N) h3;grind [lvN]
  obtain⟨u,hu,h1|⟨j,v,h1,h2,h3⟩⟩:=w.la i k h
  .grind
  .have hj:=(w.inlt i j h1);obtain⟨q,hq⟩:∃q,N[j]?=some q:=by grind
   have hk:=(w.up j v h2).2 _ h3;exact Int.lt_trans (one hq h2 h3) (AeR d i j aa h1 hy hq)
theorem AgQ(h:(CA g m N).bef x y=true):JK (CA g m N) x y<0:=by
 rw[AcD P.w P.p] at h;split at h
 .rename_i i j hi hj;obtain⟨hi,_⟩:=gb hi;obtain⟨hj,_⟩:=gb hj;obtain⟨a,a1,a2,_⟩:=VC P.w P.p hi;obtain⟨b,b1,b2,_⟩:=VC P.w P.p hj;have:=AeR P _ _ _ (Dq _) h b1 a1;exact SI.2 (by grind)
 .cases h
end
theorem AgR{c:Ab}(hs:row.Pairwise λx y=>JK I x y<0)(hc:c∈row)(ht:∀y∈row,y≠c->JK I y c<0):∃l,row=l++[c]:=by
 obtain⟨l,r,rfl⟩:=List.append_of_mem hc;cases r with
 |nil=>grind
 |cons z r=>
  have h1:JK I c z<0:=by grind [List.pairwise_cons]
  have hz:z≠c:=λh=>Np c (h▸h1);exact absurd ((SJ I).tr _ _ _ h1 (by grind)) (Np c)
theorem AgS{I:Gi}{ss:Ab->Lw}{row:Bf}{p:Ab->Bool}{c:Ab}{s:Bj}{n:Nat}(hs:row.Pairwise λx y=>JK I x y<0)(hc:c∈row)(ht:∀y∈row,y≠c->I.bef y c=true/\JK I y c<0)(hp:p c=true)(hk:M1 c.By (ss c))(hn:(ss c)[n]?=some s):OP I ss (row.filter p) s=some ⟨s,UB I c n,c,(n:Int)⟩:=by
 obtain⟨l,rfl⟩:=AgR hs hc (by grind);have hm:=hk.m s (bO hn);have hin:LB s c.By=true:=C6 hm.1;have e:SF ((l++[c]).filter p) s=(l.filter p).filter (λx=>LB s x.By)++[c]:=by grind [SF]
 obtain⟨a,b⟩:=cr hn;have hlt:∀j t,j<n->(ss c)[j]?=some t->t.length<s.length:=by grind [M1,List.pairwise_iff_getElem,M1.p]
 have h0:0<s.length:=List.length_pos_of_mem hm.1;unfold OP;rw[e,show((l.filter p).filter (λx=>LB s x.By)++[c]).getLast?=some c by simp];dsimp only;by_cases h1:s.length=1
 .rw[Bz h1];have:n=0:=by
   rcases Nat.eq_zero_or_pos n with h|h
   all_goals grind [M1]
  subst this;rfl
 .rw[BB h1,BB ?_]
  .rw[show(ss c).findIdx? (VA s)=some n from List.findIdx?_eq_some_iff_getElem.2 ⟨a,?_,λj hj=>?_⟩];all_goals grind [VA,List.any_eq_false,LB]
  grind [Ab9]
section
variable {g:Ba} {m:JN} {N:JL} (P:Pg g m N) (h14:g.L.length<=14) (hkn:∀(k:Nat) (o:Bq),g.L[k]?=some o->Kn o)
include P h14
theorem AeS:∃al,ba prog fI 24 [.ptr (Ag ⟨g.Cards,m,N⟩) 0] (aE aj al)/\al.Perm g.IDs/\GV g al/\al.Nodup:=by
 have w:=P.w;have nI:=w.nI;have pl:=P.p.len;have e:US (λ_=>true) N=g.IDs:=by
  refine List.ext_getElem? λi=>?_;unfold US;rw[List.filter_eq_self.2 aC,LQ,List.getElem?_zipIdx];cases h:N[i]? with
  |none=>rw[List.getElem?_eq_none_iff] at h;exact(List.getElem?_eq_none aa).symm
  |some y=>exact(P.p.nd i y h).2.1.symm
 obtain⟨r,h1,h2,_⟩:=Sc PJ (l:=g.IDs) w.nd aa;refine⟨r,AgV (gg:=⟨g.Cards,m,N⟩) (by show N.length<=14;omega) (by show OY GK (US _ N)=_;rw[e];exact h1) (by show r.length=(US _ N).length;rw[e];exact h2.length_eq),h2,⟨λx hx=>h2.mem_iff.1 hx,by rw[h2.length_eq];omega⟩,h2.nodup_iff.2 w.nd⟩
include hkn
theorem ZZ(h:TD g (CA g m N) x=true):∃(i:Nat) (o:Bq),g.IDs[i]?=some x/\g.L[i]?=some o/\(CA g m N).o x=o/\(CA g m N).op x=some o/\0<(M4 g o).length/\(M4 g o).length=o.Path.length/\M1 x.By (M4 g o)/\M4 g o=tpL o.By (Aa9 g o)/\x.By=o.By/\Be o/\FF o:=by
 obtain⟨_,h2,h3,_⟩:=Abb P h14 hkn x;unfold TD Abm at h;have hp:0<(M4 g ((CA g m N).o x)).length:=by
  cases c:decide ((0:Int)<((M4 g ((CA g m N).o x)).length:Int)) with
  |true=>have:=DP c;omega
  |false=>rw[c] at h;cases h
 have hx:x∈g.IDs:=by
  by_cases hx:x∈g.IDs
  .exact hx
  .rw[h3 hx] at hp;cases hp
 obtain⟨i,o,_,e2,e3,_,so,d⟩:=P.w.place (lj.2 hx);obtain⟨b,a⟩:=P.op e3 e2;rw[a] at h h2 hp;rw[C6 aa,ax] at h;refine⟨i,o,e2,e3,a,b,hp,by have:=DP h;unfold ah at this;omega,h2,?_,(Nr so (P.w.ids i o x e3 e2)).1,so,d⟩;unfold M4 at hp⊢;cases c:AdF o.Kind with
 |true=>rfl
 |false=>rw[c] at hp;cases hp
theorem UR(hr:row.length<=14)(a:ba prog fI 13 [.ptr (Ag ⟨g.Cards,m,N⟩) 0,aE aj ids] (aE aj (row.filter (TD g (CA g m N))))){set:Bj}(hl:set.length<=1000000):ba prog fI 21 [.ptr (Ag ⟨g.Cards,m,N⟩) 0,aE aj ids,aE cZ set] (.tup [.agg (Hd ((OP (CA g m N) (λx=>M4 g ((CA g m N).o x)) (row.filter (TD g (CA g m N))) set).getD N4)),bG (OP (CA g m N) (λx=>M4 g ((CA g m N).o x)) (row.filter (TD g (CA g m N))) set).isSome]):=
 Ai6 (YF (VB P.w P.p)) (λx=>Abc P h14 hkn x) (JD (KY ..) aa) hl (λx hx=>by obtain⟨i,o,_,_,e,_,h1,h2,h3,_⟩:=ZZ P h14 hkn (Hj.1 hx).2;rw[e];exact⟨h1,h2,h3.n,λs hs=>(h3.m s hs).2.1⟩) a
end
theorem Z2{l:Bj}(hl:l.length<=9223372036854775807)(hi:∀x∈l,c8 x):∃(r:Ba) (m:JN) (N:JL),Pg r m N/\r.L.length<=14/\(∀(k:Nat) (o:Bq),r.L[k]?=some o->Kn o)/\LS g0 r/\r.Cards=u7/\jg prog fI 10 [aE cZ l] [] 0 (.tup [.ref 0 0,.agg (aI r)]) [(0,oG r.Cards N.length 2),(1,oM m),(2,zQ N)] 3:=by
 obtain⟨r,b,N,c,hM⟩:=Xe hl hi;have a:=Ui c hM;have pl:=hM.pg.len;have eN:oN3 N r.L.length=zQ N:=by grind
 rw[eN,<-pl] at a;exact⟨r,b N.length,N,by rw[pl];exact Ak8 hM,hM.n14,λk o h=>(Ak9 hM h).2,hM.gr,hM.gC,a⟩
end Go.Proofs.YtghphhhpagagbaaGreatDoor
