/- Texts. -/
import Derived.Test.YtnpdibmpndhkjaaGreatDoorD8
namespace Go.Proofs.YtnpdibmpndhkjaaGreatDoor
set_option linter.unusedSectionVars false
set_option linter.unusedVariables false
set_option linter.unusedSimpArgs false
open Go.RowKit Tryz
variable (gl:List (Nat×List G))
variable {α:Type}{a clock i j k kk n pub since:Nat}{b l label r s:List UInt8}{o:DOp}{c:Bool}{st:St}{gs:List G}{E:XEnv}{gl0:List (Nat×List G)}{t:TypeId}{q:Value×G}{seen:List Nat}{g:DGraphGraph}{L:List (Nat×Bool)}
theorem Cm:wY (n:Int)=UInt8.ofNat n:=by
 unfold wY;apply UInt8.toNat_inj.1;have e:IntKind.u8.wrap (n:Int)=((n%256:Nat):Int):=by show(n:Int)%256=_;omega
 rw[e];simp;omega
theorem ya(hk:k<18446744073709551616):jl k=some (nb k):=by
 unfold jl;refine T.eq (.bind ?_);refine T.loop (Q:=λx=>T _ _) (λs=>s.2++nb s.1=nb k/\s.1<18446744073709551616) (λs=>(nb s.1).length) ⟨rfl,hk⟩ (by have:=ow hk;show(nb k).length<_;omega) ?_;rintro⟨m,out⟩ ⟨h1,h2⟩;simp only at h1 h2;have hl:out.length+(nb m).length<=10:=by have:=congrArg List.length h1;rw[List.length_append] at this;rw[this];exact ow hk
 have hp:0<(nb m).length:=List.length_pos_iff.2 (Yj m);unfold DJ;dsimp only;refine .dec (λh=>?_) λh=>?_
 .have hm:¬m<128:=aa;refine .bind (.app cq (.some ?_));have e1:wU ((m/128:Nat):Int)=m/128:=rM aa;have e2:wY (((wY ((m%128:Nat):Int)).toNat:Int)+((128:UInt8).toNat:Int))=UInt8.ofNat (m%128+128):=by rw[Cm,UInt8.toNat_ofNat',show(m%128%2^8:Nat)=m%128 by omega,show((m%128:Nat):Int)+((128:UInt8).toNat:Int)=((m%128+128:Nat):Int) from rfl,Cm]
  refine⟨⟨?_,?_⟩,?_⟩
  .show(out++_)++nb (wU ((m/128:Nat):Int))=nb k;rw[e1,e2,<-h1,Er hm,List.append_assoc];rfl
  .show wU ((m/128:Nat):Int)<_;rw[e1];omega
  .show(nb (wU ((m/128:Nat):Int))).length<(nb m).length;rw[e1,Er hm];simp
 .have hm:m<128:=aa;refine .some ?_;show T _ _;refine .bind (.app cq (.some ?_));rw[Cm,<-h1,H6 hm]
theorem F4{n:Int}(h: -9223372036854775808<=n/\n<=9223372036854775807):cg n=some (nb (Mk n)):=by
 obtain⟨h1,h2⟩:=h;unfold cg;refine T.eq (.dec (λhn=>?_) λhn=>?_)
 .have e1:wI (n+1)=n+1:=bM aa aa;have e2:wI (0-(n+1))= -(n+1):=by rw[bM aa aa];omega
  have e3:wU (-(n+1))=(-(n+1)).toNat:=by obtain⟨m,hm⟩:∃m:Nat,-(n+1)=(m:Int):=⟨(-(n+1)).toNat,aa⟩;rw[hm,rM aa];rfl
  have e4:wU (((wU (((-(n+1)).toNat:Int)*((2:Nat):Int)):Nat):Int)+((1:Nat):Int))=Mk n:=by unfold Mk;rw[if_pos hn];generalize hm:(-(n+1)).toNat=m;rw[show(m:Int)*((2:Nat):Int)=((m*2:Nat):Int) by omega,rM aa,show((m*2:Nat):Int)+((1:Nat):Int)=((m*2+1:Nat):Int) by omega,rM aa]
  rw[e1,e2,e3,e4];exact .eqb (ya (FQ ⟨h1,h2⟩)) (.some rfl)
 .have e1:wU n=n.toNat:=by obtain⟨m,rfl⟩:∃m:Nat,n=(m:Int):=⟨n.toNat,aa⟩;rw[rM aa];rfl
  have e4:wU (((wU n:Nat):Int)*((2:Nat):Int))=Mk n:=by unfold Mk;rw[if_neg hn,e1];generalize hm:n.toNat=m;rw[show(m:Int)*((2:Nat):Int)=((m*2:Nat):Int) by omega,rM aa]
  rw[e4];exact .eqb (ya (FQ ⟨h1,h2⟩)) (.some rfl)
def bl(n:Nat):Nat:=if h:n=0 then 0 else bl (n/2)+1
theorem Mo(h:0<n):bl (n/2)<bl n:=by rw[bl.eq_1 n,dif_neg aa];omega
theorem QB:∀(k n:Nat),n<2^k->bl n<=k
 |0,n,h=>by
  have:n=0:=by simpa using h
  rw[bl.eq_1,dif_pos this];omega
 |k+1,n,h=>by
  rw[bl.eq_1];by_cases h0:n=0
  .rw[dif_pos h0];omega
  .rw[dif_neg h0];have:=QB k (n/2) (by rw[Nat.pow_succ] at h;omega);omega
theorem wL(a b:Nat):T (oQ a b) λv=>v<2305843009213693951:=⟨_,rfl,Nat.mod_lt _ a9⟩
theorem Il(a b:Nat):T (qi a b) λv=>v<2305843009213693951:=⟨_,rfl,Nat.mod_lt _ a9⟩
theorem An(h:n<18446744073709551616):wU ((n/2:Nat):Int)=n/2:=rM aa
theorem ka(a:Nat){n:Nat}(hn:n<18446744073709551616):T (iK a n) λv=>v<2305843009213693951:=by
 unfold iK;refine .bind (T.loop (λs=>s.1<2305843009213693951/\s.2.2<18446744073709551616) (λs=>bl s.2.2) ⟨by show(1:Nat)<_;decide,hn⟩ (by have:=QB 64 n (by simpa using hn);show bl n<_;omega) ?_);rintro⟨x,y,m⟩ ⟨hx,hm⟩;simp only at hx hm;unfold r6;dsimp only;refine .dec (λh=>?_) λh=> .some (.some hx);refine .bind (T.mono (Q:=λv=>v<2305843009213693951) (.ite (λ_=> .bind ((wL _ _).mono λ_ h=> .some h)) λ_=> .some hx) λv hv=>?_);refine .bind ((wL _ _).mono λw _=> .some ⟨⟨hv,?_⟩,?_⟩)
 .show wU ((m/2:Nat):Int)<_;rw[An hm];omega
 .show bl (wU ((m/2:Nat):Int))<bl m;rw[An hm];exact Mo aa
theorem Cn{b:List UInt8}(hb:b.length<=1099511627776):T (lr b) λr=>r.length<=b.length:=by
 unfold lr;refine .bind (T.loop (λs=>0<=s.2/\s.2<=b.length+6/\(s.1.length:Int)<=s.2/\s.1.length<=b.length) (λs=>(b.length+7-s.2).toNat) ⟨a9,by simp;omega,aC,aC⟩ cq ?_);rintro⟨a,i⟩ ⟨h0,h1,h2,h3⟩;simp only at h0 h1 h2 h3;unfold qh;dsimp only;refine .dec (λh=>?_) λh=> .some (.some h3);unfold ah at h;have e7:wI (i+7)=i+7:=bM aa aa;have em:0<=iI (ah b) (i+7)/\iI (ah b) (i+7)<=b.length:=by unfold iI ah;omega
 refine .bind (T.mono (Q:=λ_=>True) (T.loop (λs=>s.2<b.length) (λs=>(s.2+1-i).toNat) ?_ ?_ ?_) λx _=>?_)
 .show wI (iI (ah b) (wI (i+7))-1)<_;rw[e7,bM aa aa];omega
 .show(wI (iI (ah b) (wI (i+7))-1)+1-i).toNat<_;rw[e7,bM aa aa];omega
 .rintro⟨u,j⟩ hj;simp only at hj;unfold my;dsimp only;refine .dec (λh=>?_) λh=> .some trivial;refine .bind (.ixl aa hj λx _ _=> .some ⟨?_,?_⟩)
  .show wI (j-1)<_;rw[bM aa aa];omega
  .show(wI (j-1)+1-i).toNat<_;rw[bM aa aa];omega
 .refine .bind (.app cq (.some ⟨?_,?_⟩))
  .show 0<=wI (i+7)/\wI (i+7)<=_/\((a++[x]).length:Int)<=wI (i+7)/\(a++[x]).length<=_;rw[e7];simp;omega
  .show(b.length+7-wI (i+7)).toNat<_;rw[e7];omega
theorem T.strB{s:List UInt8}{Q:List UInt8->Prop}(h:s.length<=1099511627776)(q:Q s):T (Gk s) Q:=⟨s,by unfold Gk;rw[if_pos aa],q⟩
theorem Mp(z:Int):wU z<18446744073709551616:=by unfold wU;rw[IntKind.wrap_u64];omega
theorem F5{l:List Nat}(h1:label.length<=1000)(h2:l.length<=1099511627776):T (yA label l) λv=>v<18446744073709551616:=by
 unfold yA;refine .bind (.strB aa (.bind ((Cn (b:=label) aa).mono λw hw=> .bind (.app cq (.bind ?_)))));refine T.forA l.length (λk a=>a.length<=w.length+1+k) aa aC (λk a hk hj=>?_) λa hj=>?_
 .unfold qk;dsimp only;rw[eA hk,ax,au,cv hk,aL];exact .bind (.app cq (.some ⟨aq aa,by simp;omega⟩))
 .unfold qk;dsimp only;rw[eF,aM];refine .some (.bind (.app cq (.bind ?_)));have hl:(a++[0]).length<=w.length+2+l.length:=by simp;omega
  generalize a++[0]=v at hl;refine T.forA v.length (λ_ x=>x<18446744073709551616) aa (Mp _) (λk x hk _=>?_) λx hx=>?_
  .unfold qj;dsimp only;rw[eA hk,ax,au,cv hk];refine .bind ((wL _ _).mono λ_ _=> .bind (.some (.bind ((Il _ _).mono λ_ _=> .bind ((Il _ _).mono λ_ _=> .bind ((ka _ aa).mono λ_ h=> .some ⟨aq aa,Nat.lt_trans h a9⟩))))))
  .unfold qj;dsimp only;rw[eF,aM];exact .some (.some hx)
theorem yX{l:List Nat}(h1:label.length<=1000)(h2:l.length<=1099511627776):T (nM label l) λv=>1<=v/\v<=2305843009213693949:=by unfold nM;refine .bind ((F5 h1 h2).mono λv _=> .some ?_);rw[show((1:Nat):Int)+((v%2305843009213693949:Nat):Int)=((1+v%2305843009213693949:Nat):Int) by omega,rM aa];omega
theorem Im{kind:List UInt8}{d:Int}(h1:kind.length<=1000):T (lf kind d) λv=>1<=v/\v<=2305843009213693949:= .bind ((yX h1 aC).mono λ_ h=> .some h)
theorem QC{s:Nat}(h:s<18446744073709551616):T (xo s) λv=>v<2305843009213693951:= .bind ((ka _ h).mono λ_ h=> .some h)
theorem Co{label b:List UInt8}(h1:label.length<=1000)(h2:b.length<=1073741824):T (jI label b) λv=>v<18446744073709551616:= .bind ((Cn aa).mono λw hw=> .bind (.app cq (.bind ((F5 h1 cq).mono λ_ h=> .some h))))
theorem QD(h2:b.length<=1073741824):T (Ph b) λv=>v<18446744073709551616:= .bind ((Co a9 h2).mono λ_ h=> .some h)
theorem QE{r p:Nat}(h2:b.length<=1073741824):T (Pi r p b) λv=>v<18446744073709551616:= .bind ((QD h2).mono λ_ _=> .bind ((F5 a9 aC).mono λ_ h=> .some h))
theorem Kz{b:Nat}(hb:b<18446744073709551616):T (vp a b) λv=>v<2305843009213693950:=by
 unfold vp;refine .bind (.some (.bind ⟨_,rfl,.bind (.some (.bind ⟨_,rfl,.bind ?_⟩))⟩));have hq:b%2305843009213693950<2^64:=aa;refine T.loop (λs=>s.2.1<18446744073709551616/\s.2.2<2305843009213693950) (λs=>bl s.2.1) ⟨by show b%2305843009213693950<_;omega,by show(0:Nat)<_;decide⟩ (by have:=QB 64 _ hq;show bl (b%2305843009213693950)<_;omega) ?_;rintro⟨x,m,y⟩ ⟨hm,hy⟩;simp only at hm hy;unfold yC;dsimp only;refine .dec (λh=>?_) λh=> .some (.some hy);refine .bind (T.mono (Q:=λv=>v<2305843009213693950) (.ite (λ_=> .bind (.some (.bind ⟨_,rfl,.some (Nat.mod_lt _ a9)⟩))) λ_=> .some hy) λv hv=>?_);refine .bind (.some (.bind ⟨_,rfl,.some ⟨⟨?_,hv⟩,?_⟩⟩))
 .show wU ((m/2:Nat):Int)<_;rw[An hm];omega
 .show bl (wU ((m/2:Nat):Int))<bl m;rw[An hm];exact Mo aa
def c8(z:Int):Prop:= -9223372036854775808<=z/\z<=9223372036854775807
def fS(n:Nat):Prop:=n<18446744073709551616
theorem NY(hk:k<18446744073709551616)(hb:b.length<=1073741824):T (zX k b) λs=>fS s.R/\fS s.S:=by unfold zX;refine .bind ((QD hb).mono λc _=> .bind ((yX a9 aC).mono λd h3=> .bind ((ka _ aa).mono λe h5=> .bind ((QC hk).mono λf _=> .bind ((QE hb).mono λg _=> .bind ((Kz hk).mono λa _=> .bind (.some (.bind ⟨_,rfl,.some ⟨Nat.lt_trans h5 a9,Nat.lt_trans (Nat.mod_lt _ a9) a9⟩⟩))))))))
structure SmId (i:DIdent):Prop where
 a:c8 i.By
 b:c8 i.Seq
 c:fS i.Sum
structure SmBox (i:DBox):Prop where
 a:fS i.To
 b:fS i.Eph
 c:fS i.Body
 d:fS i.Tag
structure SmNode (i:DNode):Prop where
 a:fS i.Pub
 n:i.Boxes.length<=1000
 b:∀x∈i.Boxes,SmBox x
structure SmSealed (i:DSealed):Prop where
 a:SmId i.Of
 n:i.Body.length<=1000
structure SmOp (o:DOp):Prop where
 ints:∀z∈[o.By,o.Seq,o.Kind,o.At,o.Device,o.Old,o.Member,o.Role,o.N,o.Need,o.Wait],c8 z
 nPast:o.Past.length<=1000
 past:∀x∈o.Past,SmId x
 nPath:o.Path.length<=1000
 path:∀x∈o.Path,SmNode x
 epoch:SmId o.Epoch
 nBody:o.Body.length<=1000
 nRefs:o.Refs.length<=1000
 refs:∀x∈o.Refs,fS x
 of_:SmId o.Of
 nGuards:o.Guards.length<=1000
 guards:∀x∈o.Guards,c8 x
 nBoxes:o.Boxes.length<=1000
 boxes:∀x∈o.Boxes,SmBox x
 pub:fS o.Pub
 nHist:o.Hist.length<=1000
 hist:∀x∈o.Hist,SmSealed x
def aV(z:Int):List UInt8:=nb (Mk z)
def sN(i:DIdent):List UInt8:=aV i.By++aV i.Seq++nb i.Sum
def tM(s:List UInt8):List UInt8:=aV (s.length:Int)++s
def uT(b:DBox):List UInt8:=[b.To,b.Eph,b.Body,b.Tag].flatMap nb
def uU(l:List DBox):List UInt8:=aV (l.length:Int)++l.flatMap uT
def ke(n:DNode):List UInt8:=nb n.Pub++uU n.Boxes
def lX(x:DSealed):List UInt8:=sN x.Of++tM x.Body
def qc(o:DOp):List UInt8:=[o.By,o.Seq,o.Kind,o.At,(o.Past.length:Int)].flatMap aV++o.Past.flatMap sN++[o.Device,o.Old,o.Member,o.Role,(o.Path.length:Int)].flatMap aV++o.Path.flatMap ke++sN o.Epoch++aV o.N++tM o.Body++aV (o.Refs.length:Int)++o.Refs.flatMap nb++sN o.Of++aV (o.Guards.length:Int)++o.Guards.flatMap aV++[o.Need,o.Wait].flatMap aV++uU o.Boxes++nb o.Pub++aV (o.Hist.length:Int)++o.Hist.flatMap lX
theorem gH(h:fS k):(nb k).length<=10:=ow h
theorem aR{z:Int}(h:c8 z):(aV z).length<=10:=ow (FQ h)
theorem gN{i:DIdent}(h:SmId i):(sN i).length<=30:=by have h1:=aR h.a;have h2:=aR h.b;have h3:=gH h.c;simp only[sN,List.length_append];omega
theorem dO{l:List α}(h:l.length<=1000000):c8 (l.length:Int):=by unfold c8;omega
theorem Ao{b:DBox}(h:SmBox b):(uT b).length<=40:=by have h1:=gH h.a;have h2:=gH h.b;have h3:=gH h.c;have h4:=gH h.d;simp only[uT,List.flatMap_cons,List.flatMap_nil,List.length_append,List.length_nil];omega
theorem wM{l:List DBox}(hn:l.length<=1000)(h:∀x∈l,SmBox x):(uU l).length<=40010:=by have h1:=aR (dO (l:=l) aa);have h2:=d8 (l:=l) (enc:=uT) (c:=40) λx hx=>Ao (h x hx);simp only[uU,List.length_append];omega
theorem Ap(hn:s.length<=1000):(tM s).length<=1010:=by have h1:=aR (dO (l:=s) aa);simp only[tM,List.length_append];omega
theorem Aq{n:DNode}(h:SmNode n):(ke n).length<=40020:=by have h1:=gH h.a;have h2:=wM h.n h.b;simp only[ke,List.length_append];omega
theorem F6{n:DSealed}(h:SmSealed n):(lX n).length<=1040:=by have h1:=gN h.a;have h2:=Ap h.n;simp only[lX,List.length_append];omega
theorem oF(h:fS k):T (jl k) λv=>v=nb k:= .of (ya h) rfl
theorem cK{z:Int}(h:c8 z):T (cg z) λv=>v=aV z:= .of (F4 h) rfl
theorem l6{i:DIdent}(h:SmId i):T (iJ i) λv=>v=sN i:=by have h1:=aR h.a;have h2:=aR h.b;have h3:=gH h.c;unfold iJ;refine .bind ((cK h.a).mono ?_);rintro v rfl;refine .bind ((cK h.b).mono ?_);rintro v rfl;refine .bind (.app aa (.bind ((oF h.c).mono ?_)));rintro v rfl;exact .bind (.app (by rw[List.length_append];omega) (.some rfl))
theorem Ey(h:s.length<=1000):T (vu s) λv=>v=tM s:=by have h1:=aR (dO (l:=s) aa);refine .bind ((cK (dO (l:=s) aa)).mono ?_);rintro v rfl;exact .bind (.app aa (.some rfl))
theorem sO{l:List Int}(hn:l.length<=1000)(h:∀x∈l,c8 x):T (oS l) λv=>v=l.flatMap aV:=by
 refine .bind (T.mono (T.forE l [] aV 10 aa (λx hx=>aR (h x hx)) (λk a x hx hm hk hl=>?_) λa=>?_) λv hv=> .some (by rw[hv];rfl))
 .unfold tR;dsimp only;rw[eA hk,ax,au,hx,aL];refine .bind ((cK (h x hm)).mono ?_);rintro v rfl;have:=aR (h x hm);exact .bind (.app (by simp at hl;omega) (.some ⟨aq aa,rfl⟩))
 .unfold tR;dsimp only;rw[eF,aM]
theorem Ez{l:List Nat}(hn:l.length<=1000)(h:∀x∈l,fS x):T (vt l) λv=>v=l.flatMap nb:=by
 refine .bind (T.mono (T.forE l [] nb 10 aa (λx hx=>gH (h x hx)) (λk a x hx hm hk hl=>?_) λa=>?_) λv hv=> .some (by rw[hv];rfl))
 .unfold tS;dsimp only;rw[eA hk,ax,au,hx,aL];refine .bind ((oF (h x hm)).mono ?_);rintro v rfl;have:=gH (h x hm);exact .bind (.app (by simp at hl;omega) (.some ⟨aq aa,rfl⟩))
 .unfold tS;dsimp only;rw[eF,aM]
theorem Cp{l:List DBox}(hn:l.length<=1000)(h:∀x∈l,SmBox x):T (nQ l) λv=>v=uU l:=by
 have h1:=aR (dO (l:=l) aa);unfold nQ;refine .bind ((cK (dO (l:=l) aa)).mono ?_);rintro v rfl;refine .bind (T.mono (T.forE l (aV (ah l)) uT 40 aa (λx hx=>Ao (h x hx)) (λk e x hx hm hk hl=>?_) λe=>?_) λv hv=> .some (by rw[hv];rfl))
 .have hb:=h x hm;unfold qq;dsimp only;rw[eA hk,ax,au,hx];simp only[aL];refine .bind ((Ez aC (by intro y hy;simp at hy;rcases hy with rfl|rfl|rfl|rfl<;>first|exact hb.a|exact hb.b|exact hb.c|exact hb.d)).mono ?_);rintro v rfl;have h4:=Ao hb;unfold uT at h4;unfold ah at hl;exact .bind (.app aa (.some ⟨aq aa,rfl⟩))
 .unfold qq;dsimp only;rw[eF,aM]
theorem yY(h:SmOp o):(qc o).length<=50000000:=by have e1:=d8 (l:=o.Past) (enc:=sN) (c:=30) λx hx=>gN (h.past x hx);have e2:=d8 (l:=o.Path) (enc:=ke) (c:=40020) λx hx=>Aq (h.path x hx);have e3:=gN h.epoch;have e4:=gN h.of_;have e5:=Ap h.nBody;have e6:=d8 (l:=o.Refs) (enc:=nb) (c:=10) λx hx=>gH (h.refs x hx);have e7:=d8 (l:=o.Guards) (enc:=aV) (c:=10) λx hx=>aR (h.guards x hx);have e8:=wM h.nBoxes h.boxes;have e9:=d8 (l:=o.Hist) (enc:=lX) (c:=1040) λx hx=>F6 (h.hist x hx);have e10:=gH h.pub;have i1:=aR (h.ints o.By aC);have d:=aR (h.ints o.Seq aC);have e:=aR (h.ints o.Kind aC);have i4:=aR (h.ints o.At aC);have f:=aR (h.ints o.Device aC);have g:=aR (h.ints o.Old aC);have i:=aR (h.ints o.Member aC);have j:=aR (h.ints o.Role aC);have k:=aR (h.ints o.N aC);have a:=aR (h.ints o.Need aC);have b:=aR (h.ints o.Wait aC);have l1:=aR (dO (l:=o.Past) (by have:=h.nPast;omega));have l2:=aR (dO (l:=o.Path) (by have:=h.nPath;omega));have l3:=aR (dO (l:=o.Refs) (by have:=h.nRefs;omega));have l4:=aR (dO (l:=o.Guards) (by have:=h.nGuards;omega));have l5:=aR (dO (l:=o.Hist) (by have:=h.nHist;omega));have n1:=h.nPast;have n2:=h.nPath;have m:=h.nRefs;have n:=h.nGuards;have p:=h.nHist;simp only[qc,List.flatMap_cons,List.flatMap_nil,List.length_append,List.length_nil];omega
theorem uV(h:SmOp o):T (lz o) λv=>v=qc o:=by
 have e1:=d8 (l:=o.Past) (enc:=sN) (c:=30) λx hx=>gN (h.past x hx);have e2:=d8 (l:=o.Path) (enc:=ke) (c:=40020) λx hx=>Aq (h.path x hx);have e6:=d8 (l:=o.Refs) (enc:=nb) (c:=10) λx hx=>gH (h.refs x hx);have e7:=d8 (l:=o.Guards) (enc:=aV) (c:=10) λx hx=>aR (h.guards x hx);have n1:=h.nPast;have n2:=h.nPath;have q:=h.nRefs;have r:=h.nGuards;have s:=h.nHist;have l1:c8 (ah o.Past):=dO (l:=o.Past) aa;have l2:c8 (ah o.Path):=dO (l:=o.Path) aa;have l3:c8 (ah o.Refs):=dO (l:=o.Refs) aa;have l4:c8 (ah o.Guards):=dO (l:=o.Guards) aa;have l5:c8 (ah o.Hist):=dO (l:=o.Hist) aa;have A:∀z∈[o.By,o.Seq,o.Kind,o.At,ah o.Past],c8 z:=λz hz=>by simp only[List.mem_cons,List.not_mem_nil,or_false] at hz;rcases hz with rfl|rfl|rfl|rfl|rfl<;>first|exact l1|exact h.ints _ aC
 have B:∀z∈[o.Device,o.Old,o.Member,o.Role,ah o.Path],c8 z:=λz hz=>by simp only[List.mem_cons,List.not_mem_nil,or_false] at hz;rcases hz with rfl|rfl|rfl|rfl|rfl<;>first|exact l2|exact h.ints _ aC
 have C:∀z∈[o.Need,o.Wait],c8 z:=λz hz=>by simp only[List.mem_cons,List.not_mem_nil,or_false] at hz;rcases hz with rfl|rfl<;>exact h.ints _ aC
 have a5:([o.By,o.Seq,o.Kind,o.At,ah o.Past].flatMap aV).length<=50:=d8 λx hx=>aR (A x hx);have b5:([o.Device,o.Old,o.Member,o.Role,ah o.Path].flatMap aV).length<=50:=d8 λx hx=>aR (B x hx);have c2:([o.Need,o.Wait].flatMap aV).length<=20:=d8 λx hx=>aR (C x hx);unfold lz;refine .then (sO aC A) (.then (T.forE o.Past _ sN 30 aa (λx hx=>gN (h.past x hx)) (λk d x hx hm hk hl=>?_) λd=>?_) ?_)
 .unfold qt;dsimp only;rw[eA hk,ax,au,hx,aL];have:=gN (h.past x hm);exact .then (l6 (h.past x hm)) (.bind (.app aa (.some ⟨aq aa,rfl⟩)))
 .unfold qt;dsimp only;rw[eF,aM]
 refine .then (sO aC B) (.bind (.appL (n:=50+30000) (by rw[List.length_append];omega) b5 a9 λk1=>?_));refine .then (T.forE o.Path _ ke 40020 aa (λx hx=>Aq (h.path x hx)) (λk d x hx hm hk hl=>?_) λd=>?_) ?_
 .have hp:=h.path x hm;unfold qs;dsimp only;rw[eA hk,ax,au,hx];simp only[aL];have q1:=gH hp.a;have g:=wM hp.n hp.b;refine .then (oF hp.a) (.bind (.appL (n:=50000000) (m:=10) aa q1 a9 λe=> .then (Cp hp.n hp.b) (.bind (.appL e g a9 λ_=> .some ⟨aq aa,?_⟩))));simp[ke]
 .unfold qs;dsimp only;rw[eF,aM]
 have k2:∀(u:List UInt8),u.length<=30100->(u++o.Path.flatMap ke).length<=41000000:=λu hu=>by rw[List.length_append];omega
 refine .then (l6 h.epoch) (.bind (.appL (k2 _ k1) (gN h.epoch) a9 λk3=>?_));refine .then (cK (h.ints o.N aC)) (.bind (.appL k3 (aR (h.ints o.N aC)) a9 λi=>?_));refine .then (Ey h.nBody) (.bind (.appL i (Ap h.nBody) a9 λk5=>?_));refine .then (cK l3) (.bind (.appL k5 (aR l3) a9 λk6=>?_));refine .then (Ez h.nRefs h.refs) (.bind (.appL (m:=10000) k6 aa a9 λk7=>?_));refine .then (l6 h.of_) (.bind (.appL k7 (gN h.of_) a9 λj=>?_));refine .then (cK l4) (.bind (.appL j (aR l4) a9 λk9=>?_));refine .then (sO h.nGuards h.guards) (.bind (.appL (m:=10000) k9 aa a9 λk10=>?_));refine .then (sO aC C) (.bind (.appL k10 c2 a9 λk11=>?_));refine .then (Cp h.nBoxes h.boxes) (.bind (.appL k11 (wM h.nBoxes h.boxes) a9 λf=>?_));refine .then (oF h.pub) (.bind (.appL f (gH h.pub) a9 λk13=>?_));refine .then (cK l5) (.bind (.appL k13 (aR l5) a9 λp=>?_));refine .then (T.forE o.Hist _ lX 1040 aa (λx hx=>F6 (h.hist x hx)) (λk d x hx hm hk hl=>?_) λd=>?_) (.some rfl)
 .have hp:=h.hist x hm;unfold qr;dsimp only;rw[eA hk,ax,au,hx];simp only[aL];refine .then (l6 hp.a) (.bind (.appL (n:=50000000) aa (gN hp.a) a9 λe=> .then (Ey hp.n) (.bind (.appL e (Ap hp.n) a9 λ_=> .some ⟨aq aa,?_⟩))));simp[lX]
 .unfold qr;dsimp only;rw[eF,aM]
theorem wN(h:SmOp o):T (pV o) λi=>i.By=o.By/\i.Seq=o.Seq/\jI [111,112] (qc o)=some i.Sum/\SmId i:=by refine .then (uV h) (.bind ?_);obtain⟨v,e,hv⟩:=Co (label:=[111,112]) (b:=qc o) a9 (by have:=yY h;omega);exact⟨v,e,.some ⟨rfl,rfl,e,⟨h.ints _ aC,h.ints _ aC,hv⟩⟩⟩
theorem SmOp.sig{o:DOp}(h:SmOp o)(s:DSig):SmOp {o with Sig:=s}:=⟨h.ints,h.nPast,h.past,h.nPath,h.path,h.epoch,h.nBody,h.nRefs,h.refs,h.of_,h.nGuards,h.guards,h.nBoxes,h.boxes,h.pub,h.nHist,h.hist⟩
theorem Io(h:SmOp o):T (nR o) λr=>∃s:DSig,r={o with Sig:=s}/\fS s.R/\fS s.S:=by refine .bind ((Im a9).mono λv h1=> .then (uV h) (.bind ((NY aa (by have:=yY h;omega)).mono λs hs=> .some ⟨s,rfl,hs⟩)))
section
variable {P:Program}
def oI(κ:Nat->Option Nat)(σ1:aQ):aQ->Prop
 |[]=>True
 |(k,some o)::U=>(match ag σ1 k with|some o1=>MB κ o1 o|none=>False)/\oI κ σ1 U
 |(_,none)::U=>oI κ σ1 U
theorem oI.get{κ:Nat->Option Nat}{σ1:aQ}:∀{U:aQ},oI κ σ1 U->∀k o,(k,some o)∈U->∃o1,ag σ1 k=some o1/\MB κ o1 o
 |[],_,k,o,hq=>by cases hq
 |(k,some o)::U,h,k',o',hq=>by
  rcases List.mem_cons.1 hq with e|hq
  .cases e;have h1:=h.1;split at h1
   .rename_i o1 e1;exact⟨o1,e1,h1⟩
   .exact h1.elim
  .exact oI.get h.2 k' o' hq
 |(_,none)::U,h,k',o',hq=>by
  rcases List.mem_cons.1 hq with e|hq
  .cases e
  .exact oI.get (U:=U) h k' o' hq
def zO(L:List Nat)(c:Nat)(U:aQ):aQ:=U.map λq=>((eD L c q.1).getD 0,q.2)
theorem YS{gl:List (Nat×List G)}{fid:FuncId}{gs0 gs:List G}{σ0 σ1 σR:aQ}{r g:G}{c1 c c':Nat}(L:List Nat)(U:aQ)(hM:jg P gl fid gs0 σ0 L.length r σ1 c1)
  (hin:w6 (vi L) σR σ0 0 L) (b:oI (eD L c) σ1 U) (hlt:L.all (λi=>Nat.blt i c)=true:=by kernel_rfl) (hnd:decide L.Nodup=true:=by kernel_rfl) (hgs:gs.map (qg (vi L) 20)=gs0:=by kernel_rfl)
  (hk0:σ0.all (λq=>Nat.blt q.1 L.length)=true:=by kernel_rfl) (hcov:(List.range L.length).all (λk=>U.any λq=>Nat.beq q.1 k)=true:=by kernel_rfl) (hg:qg (eD L c) 20 r=g:=by kernel_rfl) (hc:c+(c1-L.length)=c':=by kernel_rfl) (n:σR.all (λq=>q.2.isSome)=true:=by kernel_rfl):oJ P gl fid gs σR c g (zO L c U) c':=by
 intro o st y xs ats fst cap ho hd hf d hgl hq hsc
 have j:=hin.get
 have hgetR:∀i o,ag σR i=some o->ag st.σ i=some o:=λi o m=>by
  have:∀l:aQ,(∀q∈l,q∈σR)->ag l i=some o->ag st.σ i=some o:=by
   intro l;induction l with
   |nil=>intro _ h;cases h
   |cons q t ih=>
    intro hs h;rw[show(q::t:aQ)=(q.1,q.2)::t from rfl,am] at h;split at h
    .rename_i e;subst e;rw[hq q (hs q aC)];exact h
    .exact ih (λx hx=>hs x (by simp[hx])) h
  exact this σR (λ_ h=>h) m
 have key:=MD (o:=o) (st:=st) (f:=y) (xs:=xs) (ats:=ats) (fid:=fid) (fst:=fst) (cap:=cap) L (gs0:=gs0) (σ0:=σ0) (r:=r) (σ1:=σ1) (c1:=c1) ho hd hf (by rw[hgl];exact hM) (λk i hk=>by
   have:=List.all_eq_true.1 hlt i (bO hk);rw[hsc];exact cm this) (of_decide_eq_true hnd) (by rw[d,hgs]) (λk i hk=>by
   obtain⟨o,o0,h1,h2,h3⟩:=j k i hk;rw[Nat.zero_add] at h2;exact⟨o,o0,hgetR i o h1,h2,h3⟩) (λk o hkk=>by
   have:∀l:aQ,(∀q∈l,q∈σ0)->ag l k=some o->k<L.length:=by
    intro l;induction l with
    |nil=>intro _ h;cases h
    |cons q t ih=>
     intro hs h;rw[show(q::t:aQ)=(q.1,q.2)::t from rfl,am] at h;split at h
     .rename_i e;subst e;exact cm (List.all_eq_true.1 hk0 q (hs q aC))
     .exact ih (λx hx=>hs x (by simp[hx])) h
   exact this σ0 (λ_ h=>h) hkk) (zO L c U++st.σ) (λi o m=>by
   have:∀l:aQ,(∀q∈l,q∈U)->ag (zO L c l++st.σ) i=some o->(∃k,(k,some o)∈U/\eD L c k=some i)\/(ag st.σ i=some o/\∀q∈l,eD L c q.1≠some i):=by
    intro l;induction l with
    |nil=>intro _ h;exact .inr ⟨h,λq hq=>by cases hq⟩
    |cons q t ih=>
     intro hs h;obtain⟨p,hi'⟩:=Gl L c q.1;rw[show zO L c (q::t)++st.σ=((eD L c q.1).getD 0,q.2)::(zO L c t++st.σ) from rfl,hi',Option.getD_some,am] at h;split at h
     .rename_i e;subst e;exact .inl ⟨q.1,by rw[<-h];exact hs q aC,hi'⟩
     .rename_i hne;rcases ih (λx hx=>hs x (by simp[hx])) h with h|⟨h,h2⟩
      .exact .inl h
      .refine .inr ⟨h,λx hx=>?_⟩;rcases List.mem_cons.1 hx with rfl|hx
       .rw[hi'];intro e;cases e;exact hne rfl
       .exact h2 x hx
   rcases this U (λ_ h=>h) m with⟨k,a,h1⟩|⟨h1,h2⟩
   .obtain⟨o1,e1,e2⟩:=b.get k o a;exact .inl ⟨k,o1,by rw[hsc];exact h1,e1,by rw[hsc];exact e2⟩
   .refine .inr ⟨h1,λhi=>?_⟩;obtain⟨k,hk⟩:=List.getElem?_of_mem hi;have hkl:=(cr hk).1;obtain⟨q,a,he⟩:=List.any_eq_true.1 (List.all_eq_true.1 hcov k (List.mem_range.2 hkl));refine h2 q a ?_;rw[bc he];unfold eD;rw[hk])
 have:=key.gs (st':={st with σ:=zO L c U++st.σ,c:=c'}.put o.dst g) λs hs=>by rw[hs,hsc,hg,hc]
 exact this
def tN(d:Nat)(L:List Nat)(c:Nat)(σR:aQ)(gs:List G)(U:aQ){gl:List (Nat×List G)}{fid:FuncId}{gs0:List G}{σ0 σ1:aQ}{r:G}{c1:Nat}(hM:jg P gl fid gs0 σ0 L.length r σ1 c1)
  (hin:w6 (vi L) σR σ0 0 L) (a:oI (eD L c) σ1 U) (hlt:L.all (λi=>Nat.blt i c)=true:=by kernel_rfl) (hnd:decide L.Nodup=true:=by kernel_rfl) (hgs:gs.map (qg (vi L) 20)=gs0:=by kernel_rfl)
  (hk0:σ0.all (λq=>Nat.blt q.1 L.length)=true:=by kernel_rfl) (hcov:(List.range L.length).all (λk=>U.any λq=>Nat.beq q.1 k)=true:=by kernel_rfl) (b:σR.all (λq=>q.2.isSome)=true:=by kernel_rfl):HP:=
 hz d L (P:=P) (gl:=gl) (f:=fid) (gs:=gs) (σR:=σR) (c:=c) (g:=qg (eD L c) 20 r) (U:=zO L c U) (c':=c+(c1-L.length)) (YS L U hM hin a hlt hnd hgs hk0 hcov rfl rfl b)
end
section
attribute [local irreducible] Tr dz Gp
abbrev oO(i:Nat)(l:List UInt8):Option Ob:=some ⟨78,[.rsl i 0 l.length],none⟩
abbrev oY(l:List UInt8):Option Ob:=some ⟨5,l.flatMap cY,none⟩
theorem MN{P:Program}{t:TypeId}(y:UInt8):∀p q:Operand,b8 P .or t p q (gY y) (gY 128)=some (gY (UInt8.ofNat (y.toNat%128+128))):=λp q=>by rw[Yk aa];exact V6
def Gv(s:Bool×List UInt8×Nat):Option ((Bool×List UInt8×Nat)⊕(Bool×List UInt8×Nat)):=
 bif decide (((128:Nat):Int)<=(s.2.2:Int)) then(aT 1 s.2.1 [UInt8.ofNat ((wY (s.2.2:Int)).toNat%128+128)]).bind λa=>some (.inl (true,a,cw s.2.2 7)) else some (.inr s)
theorem WH(l:List UInt8)(n:Nat)(hn:n<18446744073709551616)(hl:l.length<=100000000000000):T (loop Gv (false,l,n)) λr=>T (aT 1 r.2.1 [wY (r.2.2:Int)]) λv=>v=l++nb n:=by
 refine T.loop (λs=>s.2.1++nb s.2.2=l++nb n/\s.2.2<18446744073709551616) (λs=>(nb s.2.2).length) ⟨rfl,hn⟩ (by have:=ow hn;show(nb n).length<_;omega) ?_;rintro⟨a,o,m⟩ ⟨h1,h2⟩;simp only at h1 h2;have hln:o.length+(nb m).length<=l.length+10:=by have:=congrArg List.length h1;rw[List.length_append,List.length_append] at this;have:=ow hn;omega
 unfold Gv;dsimp only;refine .dec (λh=>?_) λh=>?_
 .have hm:¬m<128:=aa;refine .bind (.app cq (.some ?_));have e1:cw m 7=m/128:=by unfold cw;congr 1
  have e2:(wY (m:Int)).toNat%128+128=m%128+128:=by rw[Cm,UInt8.toNat_ofNat'];omega
  refine⟨⟨?_,?_⟩,?_⟩
  .show(o++_)++nb (cw m 7)=_;rw[e1,e2,<-h1,Er hm,List.append_assoc];rfl
  .show cw m 7<_;rw[e1];omega
  .show(nb (cw m 7)).length<_;rw[e1,Er hm];simp
 .have hm:m<128:=aa;refine .some ?_;show T _ _;refine .app cq ?_;rw[Cm,<-h1,H6 hm]
def MO(s:Bool×List UInt8×Nat):St:=match s.1 with
 |true=>(s0 31 gl [(0,.ref 0 0),(1,uG s.2.2)] [(0,oO 2 s.2.1),(2,oY s.2.1)] 3 2)
 |false=>(s0 31 gl [(0,.ref 0 0),(1,uG s.2.2)] [(0,oO 1 s.2.1),(1,oY s.2.1)] 2 2)
theorem gC{l r:List UInt8}(hn:n<18446744073709551616)(hl:l.length<=100000000000000)(d:l++nb n=r):jg prog gl 29 [.ref 0 0,uG n] [(0,oO 1 l),(1,oY l)] 2 (.tup []) [(0,oO 2 r),(2,oY r)] 3:=by
 obtain⟨⟨f,o,m⟩,hL,v,c,e⟩:=WH l n hn hl;obtain rfl:=e.trans d;refine pP func29 ?_;refine Ix [0] (MO gl (f,o,m)) ?_ λh=>?_
 .cases f
  .exact mt .normal (s0 31 gl [] [(0,oO 2 v),(2,oY v)] 3 2) [] [hv 26 (Iz (m:Int)),dg 28 rY c] [hc (el v),hc (rY.imm v)] (ρ:=[(0,0),(1,1),(2,3)]) (kd:=[(2,.row)])
  .exact mt .normal (s0 31 gl [] [(0,oO 2 v),(2,oY v)] 3 2) [] [hv 26 (Iz (m:Int)),dg 28 rY c] [hc (el v),hc (rY.imm v)] (ρ:=[(0,0),(1,1),(2,4)]) (kd:=[(2,.row)])
 refine pN (MO gl) [0,2,2] hL [] [hc (el l),hc (rY.imm l)] (λB s w hs k5 i=>?_) (kd:=[(1,.row)]);obtain⟨g,j,b⟩:=s;unfold Gv at hs;rcases bC hs with⟨b1,hs⟩|⟨b1,hs⟩
 .obtain⟨a,ea,hs⟩:=bS hs;obtain rfl:=bn hs;have k:=k5 _ rfl;cases g
  .exact jw (J:=MO gl (true,a,cw b 7)) [hr 5 b1,hv 12 (Iz (b:Int)),hV 13 (MN (P:=prog) (t:=5) (wY (b:Int))),dg 15 rY ea,hV 19 (nx (P:=prog) (t:=23) (k':= .u64) b 7)] [hc (el a),hc (rY.imm a)] k (ρ:=[(0,0),(1,1),(2,3)]) (kd:=[(2,.row)])
  .exact jw (J:=MO gl (true,a,cw b 7)) [hr 5 b1,hv 12 (Iz (b:Int)),hV 13 (MN (P:=prog) (t:=5) (wY (b:Int))),dg 15 rY ea,hV 19 (nx (P:=prog) (t:=23) (k':= .u64) b 7)] [hc (el a),hc (rY.imm a)] k (ρ:=[(0,0),(1,1),(2,4)]) (kd:=[(2,.row)])
 .obtain rfl:=bn hs;obtain e:=i _ rfl;cases e;cases f
  .exact yl [0] [hr 5 b1] [hc (el o),hc (rY.imm o)] h (kd:=[(1,.row)])
  .exact yl [0] [hr 5 b1] [hc (el o),hc (rY.imm o)] h (ρ:=rI 3) (kd:=[(2,.row)])
theorem WI{P:Program}{t:TypeId}{n:Int}(h:c8 n):∀p q:Operand,b8 P .xor t p q (uG (fN (wU n) 1)) (uG (wU (Tf n 63)))=some (uG (Mk n)):=λp q=>by
 have e1:((fN (wU n) 1:Nat):Int)=IntKind.u64.wrap (IntKind.u64.wrap n*2^1):=by have h1:=zk n;rw[<-h1,IntKind.wrap_u64];unfold fN;rw[show(2^min 1 64:Nat)=2 from rfl,show((2:Int)^1)=2 from rfl];omega
 have e2:((wU (Tf n 63):Nat):Int)=IntKind.u64.wrap (n.fdiv (2^63)):=by rw[zk];rfl
 rw[e1,e2];exact Ym h
theorem TL{n:Int}(h:c8 n):ba prog gl 55 [iG n] (uG (Mk n)):=by refine Gh func55 ?_;exact Ar [hv 4 (C8 n),hV 5 (Ks (P:=prog) (t:=23) (k':= .u64) (wU n) 1),hV 7 (V9 (P:=prog) (t:=3) (k':= .u64) n 63),hv 8 (C8 (Tf n 63)),hV 9 (WI (P:=prog) (t:=23) h)] []
theorem cA{l r:List UInt8}{n:Int}(hn:c8 n)(hl:l.length<=100000000000000)(a:l++aV n=r):jg prog gl 27 [.ref 0 0,iG n] [(0,oO 1 l),(1,oY l)] 2 (.tup []) [(0,oO 2 r),(2,oY r)] 3:=by refine pP func27 ?_;exact mt .normal (s0 8 gl [] [(0,oO 2 r),(2,oY r)] 3 2) [] [hf 6 (TL gl hn),tN 7 [0,1] 2 [(0,oO 1 l),(1,oY l)] [.ref 0 0,uG (Mk n)] [(0,oO 2 r),(1,none),(2,oY r)] (gC gl (FQ hn) hl a) ⟨⟨rfl,.inl rfl⟩,⟨rfl,.inr ⟨rfl,rY.imm l⟩⟩,trivial⟩ ⟨⟨rfl,.inl rfl⟩,⟨rfl,.inr ⟨rfl,rY.imm r⟩⟩,trivial⟩] [hc (el r),hc (rY.imm r)] (ρ:=rI 3) (kd:=[(2,.row)])
def gD(d i k c:Nat)(gs:List G){gl:List (Nat×List G)}{fid:FuncId}{gs0:List G}{l r:List UInt8}(h:jg prog gl fid gs0 [(0,oO 1 l),(1,oY l)] [i,k].length (.tup []) [(0,oO 2 r),(2,oY r)] 3)
  (hin:w6 (vi [i,k]) [(i,oO k l),(k,oY l)] [(0,oO 1 l),(1,oY l)] 0 [i,k]:=by exact⟨⟨rfl,.inl rfl⟩,⟨rfl,.inr ⟨rfl,rY.imm _⟩⟩,trivial⟩) (a:oI (eD [i,k] c) [(0,oO 2 r),(2,oY r)] [(0,oO c r),(1,none),(2,oY r)]:=by exact⟨⟨rfl,.inl rfl⟩,⟨rfl,.inr ⟨rfl,rY.imm _⟩⟩,trivial⟩)
  (hlt:[i,k].all (λi=>Nat.blt i c)=true:=by kernel_rfl) (hnd:decide [i,k].Nodup=true:=by kernel_rfl) (hgs:gs.map (qg (vi [i,k]) 20)=gs0:=by kernel_rfl):HP:=
 tN d [i,k] c [(i,oO k l),(k,oY l)] gs [(0,oO c r),(1,none),(2,oY r)] h hin a hlt hnd hgs (by rfl) (by rfl) (by rfl)
theorem aaT(a b c d:List α):a++b++c++d=a++(b++c++d):=by simp only[List.append_assoc]
theorem kh{l r:List UInt8}{i:DIdent}(hi:SmId i)(hl:l.length<=10000000000000)(d:l++sN i=r):jg prog gl 30 [.ref 0 0,.agg (aj i)] [(0,oO 1 l),(1,oY l)] 2 (.tup []) [(0,oO 2 r),(2,oY r)] 3:=by
 have h1:=aR hi.a;have h2:=aR hi.b;have e:l++aV i.By++aV i.Seq++nb i.Sum=r:=by rw[aaT];exact d
 refine pP func30 ?_;exact mt .normal (s0 16 gl [] [(0,oO 2 r),(2,oY r)] 3 2) [] [gD 7 0 1 3 [.ref 0 0,iG i.By] (cA gl hi.a aa (r:=l++aV i.By) rfl),gD 11 0 3 4 [.ref 0 0,iG i.Seq] (cA gl hi.b cq (r:=l++aV i.By++aV i.Seq) rfl),gD 15 0 4 5 [.ref 0 0,uG i.Sum] (gC gl hi.c cq e)] [hc (el r),hc (rY.imm r)] (ρ:=[(0,0),(1,1),(2,5)]) (kd:=[(2,.row)])
theorem CR{l r s:List UInt8}(hs:s.length<=1000000)(hl:l.length<=10000000000000)(a:l++tM s=r):jg prog gl 261 [.ref 0 0,sG s] [(0,oO 1 l),(1,oY l)] 2 (.tup []) [(0,oO 2 r),(2,oY r)] 3:=by
 have h1:=aR (dO hs);have e:aT 1 (l++aV (s.length:Int)) s=some r:=by unfold aT;rw[if_pos cq,<-a,tM,List.append_assoc]
 refine pP func261 ?_;exact mt .normal (s0 17 gl [] [(0,oO 2 r),(2,oY r)] 3 2) [] [hL 6 s,gD 7 0 1 2 [.ref 0 0,iG (ah s)] (cA gl (dO hs) aa (r:=l++aV (s.length:Int)) rfl),XZ 14 e] [hc (el r),hc (rY.imm r)] (ρ:=[(0,0),(1,1),(2,3)]) (kd:=[(2,.row)])
theorem K4{l r:List UInt8}(b:Bool)(hl:l.length<=10000000000000)(a:l++aV (if b then 1 else 0)=r):jg prog gl 28 [.ref 0 0,bG b] [(0,oO 1 l),(1,oY l)] 2 (.tup []) [(0,oO 2 r),(2,oY r)] 3:=by
 refine pP func28 ?_;cases b
 .exact mt .normal (s0 9 gl [] [(0,oO 2 r),(2,oY r)] 3 2) [] [gD 8 0 1 2 [.ref 0 0,iG 0] (cA gl (n:=0) (by unfold c8;omega) aa (r:=r) a)] [hc (el r),hc (rY.imm r)] (ρ:=rI 3) (kd:=[(2,.row)])
 .exact mt .normal (s0 9 gl [] [(0,oO 2 r),(2,oY r)] 3 2) [] [gD 8 0 1 2 [.ref 0 0,iG 1] (cA gl (n:=1) (by unfold c8;omega) aa (r:=r) a)] [hc (el r),hc (rY.imm r)] (ρ:=rI 3) (kd:=[(2,.row)])
theorem rS{l:List UInt8}(hl:l.length<=10000000000000):jg prog gl 31 [.ref 0 0] [(0,oO 1 l),(1,oY l)] 2 (.rsl 2 0 l.length) [(0,oO 1 l),(1,oY l),(2,oY l)] 3:=by refine pP func31 ?_;exact mt .ret (s0 8 gl [(2,.rsl 2 0 l.length)] [(0,oO 1 l),(1,oY l),(2,oY l)] 3 2) [.rsl 2 0 l.length] [YL 7 rY (show aT 1 [] l=some l by unfold aT;rw[if_pos cq];rfl)] [hc (el l),hc (el l),hc (rY.imm l),hc (rY.imm l)] (ρ:=rI 3) (kd:=[(1,.row),(2,.row)])
end
section
attribute [local irreducible] Tr dz Gp
section
def md{α:Type}(N:Nat)(enc:α->List UInt8)(ok:α->Bool)(L:List α)(s:Bool×List UInt8×Int):Option ((Bool×List UInt8×Int)⊕(Bool×List UInt8)):=
 bif decide (s.2.2<ah L) then(aS L s.2.2).bind λy=>bif ok y&&decide (s.2.1.length<=N) then some (.inl (true,s.2.1++enc y,wI (s.2.2+1))) else none else some (.inr (s.1,s.2.1))
theorem zp(N:Nat){enc:α->List UInt8}{ok:α->Bool}{L:List α}(c:Nat)(b:Bool){l:List UInt8}(hok:∀x∈L,ok x=true)(hc:∀x∈L,(enc x).length<=c)(hn:L.length<=1000000)(hl:l.length+L.length*c<=N):loop (md N enc ok L) (b,l,0)=some (b||decide (0<L.length),l++L.flatMap enc):=by
 have h:T (loop (md N enc ok L) (b,l,0)) λr=>r=(b||decide (0<L.length),l++L.flatMap enc):=by
  refine T.loop (λs=>∃k:Nat,s.2.2=(k:Int)/\k<=L.length/\s.2.1=l++(L.take k).flatMap enc/\s.1=(b||decide (0<k))) (λs=>L.length-s.2.2.toNat) ⟨0,rfl,aa,aC,aC⟩ (by show L.length-_<_;omega) ?_;rintro⟨d,a,i⟩ ⟨k,h1,h2,h3,h0⟩;simp only at h1 h2 h3 h0;subst h1;subst h3;subst h0;unfold md;refine .dec (λh=>?_) λh=>?_
  .have hk:k<L.length:=by unfold ah at h;dsimp only at h;omega
   refine .bind (.ix (by dsimp only;omega) (x:=L[k]) (by rw[Int.toNat_natCast,cv hk]) ?_);have hm:L[k]∈L:=List.getElem_mem hk;have h4:((L.take k).flatMap enc).length<=(L.take k).length*c:=d8 λx hx=>hc x (List.mem_of_mem_take hx);have h5:(L.take k).length*c<=L.length*c:=Nat.mul_le_mul_right c (by rw[List.length_take];omega);rw[hok _ hm,Bool.true_and,decide_eq_true (by show(l++_).length<=_;rw[List.length_append];omega),ax];refine .some ⟨⟨k+1,aq aa,hk,?_,aC⟩,?_⟩
   .show(l++_)++enc L[k]=_;rw[List.append_assoc,List.take_succ_eq_append_getElem hk,List.flatMap_append];simp
   .show L.length-(wI ((k:Int)+1)).toNat<L.length-((k:Int)).toNat;rw[aq aa];omega
  .have hk:k=L.length:=by unfold ah at h;dsimp only at h;omega
   refine .some ?_;show((b||decide (0<k)),l++(L.take k).flatMap enc)=_;rw[hk,List.take_length]
 exact h.eq
instance (z:Int):Decidable (c8 z):=by unfold c8;infer_instance
instance (n:Nat):Decidable (fS n):=by unfold fS;infer_instance
def okI(z:Int):Bool:=decide (c8 z)
def okU(n:Nat):Bool:=decide (fS n)
theorem rT{N:Nat}{x:Option α}{r:α}(h:(bif c&&decide (n<=N) then x else none)=some r):c=true/\n<=N/\x=some r:=by
 cases c
 .cases h
 .rw[Bool.true_and] at h;rcases bC h with⟨h1,h⟩|⟨h1,h⟩
  .exact⟨rfl,of_decide_eq_true h1,h⟩
  .cases h
variable {P:Program}
end
abbrev bx:Option Ob:=some ⟨121,[.ref 1 0],none⟩
abbrev bb:Option Ob:=some ⟨321,[.clo (.func 256) [] [.ref 0 0]],none⟩
def oN(k:Nat):Bool->Nat:=λb=>bif b then k else 2
instance (x:DIdent):Decidable (SmId x):=decidable_of_iff (c8 x.By/\c8 x.Seq/\fS x.Sum) ⟨λ⟨a,b,c⟩=>⟨a,b,c⟩,λ⟨a,b,c⟩=>⟨a,b,c⟩⟩
instance (x:DBox):Decidable (SmBox x):=decidable_of_iff (fS x.To/\fS x.Eph/\fS x.Body/\fS x.Tag) ⟨λ⟨a,b,c,d⟩=>⟨a,b,c,d⟩,λ⟨a,b,c,d⟩=>⟨a,b,c,d⟩⟩
instance (x:DNode):Decidable (SmNode x):=decidable_of_iff (fS x.Pub/\x.Boxes.length<=1000/\∀b∈x.Boxes,SmBox b) ⟨λ⟨a,b,c⟩=>⟨a,b,c⟩,λ⟨a,b,c⟩=>⟨a,b,c⟩⟩
instance (x:DSealed):Decidable (SmSealed x):=decidable_of_iff (SmId x.Of/\x.Body.length<=1000) ⟨λ⟨a,b⟩=>⟨a,b⟩,λ⟨a,b⟩=>⟨a,b⟩⟩
def WJ(L:List Int)(s:Bool×List UInt8×Int):St:=match s.1 with
 |true=>(s0 15 gl [(1,.ref 0 0),(5,.rsl 3 0 L.length),(6,iG (ah L)),(7,iG s.2.2)] [(0,bx),(1,oO 4 s.2.1),(4,oY s.2.1),ob 3 3 (L.flatMap cZ)] 5 4)
 |false=>(s0 15 gl [(1,.ref 0 0),(5,.rsl 3 0 L.length),(6,iG (ah L)),(7,iG s.2.2)] [(0,bx),(1,oO 2 s.2.1),(2,oY s.2.1),ob 3 3 (L.flatMap cZ)] 4 4)
theorem CS{L:List Int}(hL:∀x∈L,c8 x)(hn:L.length<=1000000)(h0:0<L.length)(hl:l.length<=900000000000)(c:l++L.flatMap aV=r):jg prog gl 255 [.rsl 3 0 L.length,.ref 0 0] [(0,bx),(1,oO 2 l),(2,oY l),ob 3 3 (L.flatMap cZ)] 4 (.tup []) [(0,bx),(1,oO 4 r),(4,oY r),ob 3 3 (L.flatMap cZ)] 5:=by
 have hs:=zp 1000000000000 (enc:=aV) (ok:=okI) (L:=L) 10 false (l:=l) (λx hx=>decide_eq_true (hL x hx)) (λx hx=>aR (hL x hx)) hn aa;rw[c,decide_eq_true h0,Bool.false_or] at hs;refine pP func255 ?_;refine pN (WJ gl L) [1,2,2] hs [] [hc (rfl:L.length=L.length),hc (el l),hc (rY.imm l),hc (rZ.imm L)] (λB s w hs k5 d=>?_) (kd:=[(2,.row),(3,.row)]) (ρ:=rI 4);obtain⟨e,a,i⟩:=s;unfold md at hs;rcases bC hs with⟨b1,hs⟩|⟨b1,hs⟩
 .obtain⟨y,b,hs⟩:=bS hs;obtain⟨f,hacc,hs⟩:=rT hs;obtain rfl:=bn hs;have hy:c8 y:=of_decide_eq_true f;have hacc:a.length<=1000000000000:=hacc;have k:=k5 _ rfl;cases e
  .exact jw (J:=WJ gl L (true,a++aV y,wI (i+1))) [hr 8 b1,hv 9 (rZ.ixrZ 3 b),hv 10 (rZ.p10Z tZ b),gD 13 1 2 4 [.ref 1 0,iG y] (cA gl hy aa (r:=a++aV y) rfl)] [hc (rfl:L.length=L.length),hc (el (a++aV y)),hc (rY.imm (a++aV y)),hc (rZ.imm L)] k (ρ:=rI 5) (kd:=[(4,.row),(3,.row)])
  .exact jw (J:=WJ gl L (true,a++aV y,wI (i+1))) [hr 8 b1,hv 9 (rZ.ixrZ 3 b),hv 10 (rZ.p10Z tZ b),gD 13 1 4 5 [.ref 1 0,iG y] (cA gl hy aa (r:=a++aV y) rfl)] [hc (rfl:L.length=L.length),hc (el (a++aV y)),hc (rY.imm (a++aV y)),hc (rZ.imm L)] k (ρ:=rI 4++[(4,5)]) (kd:=[(4,.row),(3,.row)])
 .obtain rfl:=bn hs;cases d _ rfl;exact mt .normal (s0 15 gl [] [(0,bx),(1,oO 4 a),(4,oY a),ob 3 3 (L.flatMap cZ)] 5 4) [] [hr 8 b1] [hc (el a),hc (rY.imm a),hc (rZ.imm L)] (ρ:=rI 5) (kd:=[(4,.row),(3,.row)])
def WK(x:DBox)(s:Bool×List UInt8×Int):St:=match s.1 with
 |true=>(s0 23 gl [(1,.ref 0 0),(13,.rsl 3 0 4),(14,iG 4),(15,iG s.2.2)] [(0,bx),(1,oO 4 s.2.1),(4,oY s.2.1),ob 3 23 ([x.To,x.Eph,x.Body,x.Tag].flatMap cW)] 5 3)
 |false=>(s0 23 gl [(1,.ref 0 0),(13,.rsl 3 0 4),(14,iG 4),(15,iG s.2.2)] [(0,bx),(1,oO 2 s.2.1),(2,oY s.2.1),ob 3 23 ([x.To,x.Eph,x.Body,x.Tag].flatMap cW)] 4 3)
theorem Ri{l r:List UInt8}{x:DBox}(hx:SmBox x)(hl:l.length<=900000000000)(g:l++uT x=r):jg prog gl 256 [.agg (cz x),.ref 0 0] [(0,bx),(1,oO 2 l),(2,oY l)] 3 (.tup []) [(0,bx),(1,oO 3 r),(3,oY r)] 4:=by
 have hU:∀n∈[x.To,x.Eph,x.Body,x.Tag],fS n:=λn hn=>by
  simp only[List.mem_cons,List.not_mem_nil,or_false] at hn;rcases hn with rfl|rfl|rfl|rfl
  .exact hx.a
  .exact hx.b
  .exact hx.c
  .exact hx.d
 have hs:=zp 1000000000000 (enc:=nb) (ok:=okU) (L:=[x.To,x.Eph,x.Body,x.Tag]) 10 false (l:=l) (λx hx=>decide_eq_true (hU x hx)) (λx hx=>gH (hU x hx)) aC cq;rw[show l++[x.To,x.Eph,x.Body,x.Tag].flatMap nb=r from g,decide_eq_true (show 0<[x.To,x.Eph,x.Body,x.Tag].length by simp),Bool.false_or] at hs;refine pP func256 ?_;refine pN (WK gl x) [1,1,2,2] hs [] [hc (rfl:(4:Nat)=4),hc (el l),hc (rY.imm l),hc (rW.imm [x.To,x.Eph,x.Body,x.Tag])] (λB s w hs k5 h=>?_) (kd:=[(2,.row),(3,.row)]) (ρ:=rI 3++[(3,4)]);obtain⟨j,e,i⟩:=s;unfold md at hs;rcases bC hs with⟨b1,hs⟩|⟨b1,hs⟩
 .obtain⟨y,f,hs⟩:=bS hs;obtain⟨m,hacc,hs⟩:=rT hs;obtain rfl:=bn hs;have hy:fS y:=of_decide_eq_true m;have hacc:e.length<=1000000000000:=hacc;have k:=k5 _ rfl;cases j
  .exact jw (J:=WK gl x (true,e++nb y,wI (i+1))) [hr 16 b1,hv 17 (rW.ixrZ 3 f),hv 18 (rW.p10Z tW f),gD 21 1 2 4 [.ref 1 0,uG y] (gC gl hy aa (r:=e++nb y) rfl)] [hc (rfl:(4:Nat)=4),hc (el (e++nb y)),hc (rY.imm (e++nb y)),hc (rW.imm [x.To,x.Eph,x.Body,x.Tag])] k (ρ:=rI 5) (kd:=[(4,.row),(3,.row)])
  .exact jw (J:=WK gl x (true,e++nb y,wI (i+1))) [hr 16 b1,hv 17 (rW.ixrZ 3 f),hv 18 (rW.p10Z tW f),gD 21 1 4 5 [.ref 1 0,uG y] (gC gl hy aa (r:=e++nb y) rfl)] [hc (rfl:(4:Nat)=4),hc (el (e++nb y)),hc (rY.imm (e++nb y)),hc (rW.imm [x.To,x.Eph,x.Body,x.Tag])] k (ρ:=rI 4++[(4,5)]) (kd:=[(4,.row),(3,.row)])
 .obtain rfl:=bn hs;cases h _ rfl;exact mt .normal (s0 23 gl [] [(0,bx),(1,oO 3 e),(3,oY e)] 4 3) [] [hr 16 b1] [hc (el e),hc (rY.imm e)] (ρ:=rI 3++[(3,4)]) (kd:=[(3,.row)])
abbrev sW(k:Nat)(l:List UInt8):aQ:=[(0,bx),(1,oO k l),(k,oY l),(3,bb)]
def IN(d k c:Nat)(gs:List G){gl:List (Nat×List G)}{fid:FuncId}{gs0:List G}{l r:List UInt8}(h:jg prog gl fid gs0 (sW 2 l) [0,1,k,3].length (.tup []) (sW 4 r) 5)
  (hin:w6 (vi [0,1,k,3]) (sW k l) (sW 2 l) 0 [0,1,k,3]:=by exact⟨⟨rfl,.inl rfl⟩,⟨rfl,.inl rfl⟩,⟨rfl,.inr ⟨rfl,rY.imm _⟩⟩,⟨rfl,.inl rfl⟩,trivial⟩) (a:oI (eD [0,1,k,3] c) (sW 4 r) [(0,bx),(1,oO c r),(2,none),(3,bb),(4,oY r)]:=by exact⟨⟨rfl,.inl rfl⟩,⟨rfl,.inl rfl⟩,⟨rfl,.inl rfl⟩,⟨rfl,.inr ⟨rfl,rY.imm _⟩⟩,trivial⟩)
  (hlt:[0,1,k,3].all (λi=>Nat.blt i c)=true:=by kernel_rfl) (hnd:decide [0,1,k,3].Nodup=true:=by kernel_rfl) (hgs:gs.map (qg (vi [0,1,k,3]) 20)=gs0:=by kernel_rfl):HP:=
 tN d [0,1,k,3] c (sW k l) gs [(0,bx),(1,oO c r),(2,none),(3,bb),(4,oY r)] h hin a hlt hnd hgs (by rfl) (by rfl) (by rfl)
def Zc(d k c:Nat)(gs:List G){gl:List (Nat×List G)}{fid:FuncId}{gs0:List G}{l r:List UInt8}(h:jg prog gl fid gs0 [(0,bx),(1,oO 2 l),(2,oY l)] [0,1,k].length (.tup []) [(0,bx),(1,oO 3 r),(3,oY r)] 4)
  (hin:w6 (vi [0,1,k]) [(0,bx),(1,oO k l),(k,oY l)] [(0,bx),(1,oO 2 l),(2,oY l)] 0 [0,1,k]:=by exact⟨⟨rfl,.inl rfl⟩,⟨rfl,.inl rfl⟩,⟨rfl,.inr ⟨rfl,rY.imm _⟩⟩,trivial⟩) (a:oI (eD [0,1,k] c) [(0,bx),(1,oO 3 r),(3,oY r)] [(0,bx),(1,oO c r),(2,none),(3,oY r)]:=by exact⟨⟨rfl,.inl rfl⟩,⟨rfl,.inl rfl⟩,⟨rfl,.inr ⟨rfl,rY.imm _⟩⟩,trivial⟩)
  (hlt:[0,1,k].all (λi=>Nat.blt i c)=true:=by kernel_rfl) (hnd:decide [0,1,k].Nodup=true:=by kernel_rfl) (hgs:gs.map (qg (vi [0,1,k]) 20)=gs0:=by kernel_rfl):HP:=
 tN d [0,1,k] c [(0,bx),(1,oO k l),(k,oY l)] gs [(0,bx),(1,oO c r),(2,none),(3,oY r)] h hin a hlt hnd hgs (by rfl) (by rfl) (by rfl)
theorem Rj{L:List DIdent}(hL:∀x∈L,SmId x)(hn:L.length<=1000)(hl:l.length<=900000000000)(b:l++(aV (L.length:Int)++L.flatMap sN)=r):jg prog gl 257 [.ref 1 0,aE aj L,.clo (.func 30) [.ref 1 0] []] (sW 2 l) 4 (.tup []) (sW 4 r) 5:=by
 have h1:=aR (dO (l:=L) aa);have hs:=zp 1000000000000 (enc:=sN) (ok:=λx=>decide (SmId x)) (L:=L) 30 true (l:=l++aV (L.length:Int)) (λx hx=>decide_eq_true (hL x hx)) (λx hx=>gN (hL x hx)) aa cq;rw[List.append_assoc,b,Bool.true_or] at hs;refine pP func257 ?_;refine pN (λs:Bool×List UInt8×Int=>(s0 22 gl [(2,.clo (.func 30) [.ref 1 0] []),(12,aE aj L),(13,iG (ah L)),(14,iG s.2.2)] (sW 4 s.2.1) 5 4)) 11122 hs [gD 11 1 2 4 [.ref 1 0,iG (ah L)] (cA gl (dO (l:=L) aa) aa (r:=l++aV (L.length:Int)) rfl)] [hc (el (l++aV (L.length:Int))),hc (rY.imm (l++aV (L.length:Int)))] (λB s w hs k5 d=>?_) (kd:=[(4,.row),(999999,.clo)]) (ρ:=rI 5);obtain⟨f,a,i⟩:=s;unfold md at hs;rcases bC hs with⟨b1,hs⟩|⟨b1,hs⟩
 .obtain⟨y,c,hs⟩:=bS hs;obtain⟨e,hacc,hs⟩:=rT hs;obtain rfl:=bn hs;have hy:SmId y:=of_decide_eq_true e;have hacc:a.length<=1000000000000:=hacc;exact jw [hr 15 b1,hv 16 (ac.ixZ c),hv 17 (ac.ptZ aW c),gD 20 1 4 6 [.ref 1 0,.agg (aj y)] (kh gl hy aa (r:=a++sN y) rfl)] [hc (el (a++sN y)),hc (rY.imm (a++sN y))] (k5 _ rfl) (ρ:=rI 4++[(4,6)]) (kd:=[(4,.row),(999999,.clo)])
 .obtain rfl:=bn hs;cases d _ rfl;exact mt .normal (s0 22 gl [] (sW 4 a) 5 4) [] [hr 15 b1] [hc (el a),hc (rY.imm a)] (ρ:=rI 5) (kd:=[(4,.row),(999999,.clo)])
theorem IO_q{l r:List UInt8}{L:List DBox}(hL:∀x∈L,SmBox x)(hn:L.length<=1000)(hl:l.length<=800000000000)(b:l++(aV (L.length:Int)++L.flatMap uT)=r):jg prog gl 260 [.ref 1 0,aE cz L,.clo (.func 256) [] [.ref 0 0]] (sW 2 l) 4 (.tup []) (sW 4 r) 5:=by
 have h1:=aR (dO (l:=L) aa);have hs:=zp 900000000000 (enc:=uT) (ok:=λx=>decide (SmBox x)) (L:=L) 40 true (l:=l++aV (L.length:Int)) (λx hx=>decide_eq_true (hL x hx)) (λx hx=>Ao (hL x hx)) aa cq;rw[List.append_assoc,b,Bool.true_or] at hs;refine pP func260 ?_;refine pN (λs:Bool×List UInt8×Int=>(s0 22 gl [(2,.clo (.func 256) [] [.ref 0 0]),(12,aE cz L),(13,iG (ah L)),(14,iG s.2.2)] (sW 4 s.2.1) 5 4)) 11122 hs [gD 11 1 2 4 [.ref 1 0,iG (ah L)] (cA gl (dO (l:=L) aa) aa (r:=l++aV (L.length:Int)) rfl)] [hc (el (l++aV (L.length:Int))),hc (rY.imm (l++aV (L.length:Int)))] (λB s w hs k5 d=>?_) (kd:=[(4,.row),(999999,.clo)]) (ρ:=rI 5);obtain⟨f,a,i⟩:=s;unfold md at hs;rcases bC hs with⟨b1,hs⟩|⟨b1,hs⟩
 .obtain⟨y,c,hs⟩:=bS hs;obtain⟨e,hacc,hs⟩:=rT hs;obtain rfl:=bn hs;have hy:SmBox y:=of_decide_eq_true e;have hacc:a.length<=900000000000:=hacc;exact jw [hr 15 b1,hv 16 (dl.ixZ c),hv 17 (dl.ptZ UL c),Zc 20 4 6 [.agg (cz y),.ref 0 0] (Ri gl hy aa (r:=a++uT y) rfl)] [hc (el (a++uT y)),hc (rY.imm (a++uT y))] (k5 _ rfl) (ρ:=rI 4++[(4,6)]) (kd:=[(4,.row),(999999,.clo)])
 .obtain rfl:=bn hs;cases d _ rfl;exact mt .normal (s0 22 gl [] (sW 4 a) 5 4) [] [hr 15 b1] [hc (el a),hc (rY.imm a)] (ρ:=rI 5) (kd:=[(4,.row),(999999,.clo)])
theorem TM{L:List Nat}(hL:∀x∈L,fS x)(hn:L.length<=1000)(hl:l.length<=900000000000)(b:l++(aV (L.length:Int)++L.flatMap nb)=r):jg prog gl 262 [.ref 1 0,aE cW L,.clo (.func 29) [.ref 1 0] []] (sW 2 l) 4 (.tup []) (sW 4 r) 5:=by
 have h1:=aR (dO (l:=L) aa);have hs:=zp 1000000000000 (enc:=nb) (ok:=λx=>decide (fS x)) (L:=L) 10 true (l:=l++aV (L.length:Int)) (λx hx=>decide_eq_true (hL x hx)) (λx hx=>gH (hL x hx)) aa cq;rw[List.append_assoc,b,Bool.true_or] at hs;refine pP func262 ?_;refine pN (λs:Bool×List UInt8×Int=>(s0 22 gl [(2,.clo (.func 29) [.ref 1 0] []),(12,aE cW L),(13,iG (ah L)),(14,iG s.2.2)] (sW 4 s.2.1) 5 4)) 11122 hs [gD 11 1 2 4 [.ref 1 0,iG (ah L)] (cA gl (dO (l:=L) aa) aa (r:=l++aV (L.length:Int)) rfl)] [hc (el (l++aV (L.length:Int))),hc (rY.imm (l++aV (L.length:Int)))] (λB s w hs k5 d=>?_) (kd:=[(4,.row),(999999,.clo)]) (ρ:=rI 5);obtain⟨f,a,i⟩:=s;unfold md at hs;rcases bC hs with⟨b1,hs⟩|⟨b1,hs⟩
 .obtain⟨y,c,hs⟩:=bS hs;obtain⟨e,hacc,hs⟩:=rT hs;obtain rfl:=bn hs;have hy:fS y:=of_decide_eq_true e;have hacc:a.length<=1000000000000:=hacc;exact jw [hr 15 b1,hv 16 (rW.ixZ c),hv 17 (rW.p1Z tW c),gD 20 1 4 5 [.ref 1 0,uG y] (gC gl hy aa (r:=a++nb y) rfl)] [hc (el (a++nb y)),hc (rY.imm (a++nb y))] (k5 _ rfl) (ρ:=rI 4++[(4,5)]) (kd:=[(4,.row),(999999,.clo)])
 .obtain rfl:=bn hs;cases d _ rfl;exact mt .normal (s0 22 gl [] (sW 4 a) 5 4) [] [hr 15 b1] [hc (el a),hc (rY.imm a)] (ρ:=rI 5) (kd:=[(4,.row),(999999,.clo)])
theorem TN{L:List Int}(hL:∀x∈L,c8 x)(hn:L.length<=1000)(hl:l.length<=900000000000)(b:l++(aV (L.length:Int)++L.flatMap aV)=r):jg prog gl 263 [.ref 1 0,aE cZ L,.clo (.func 27) [.ref 1 0] []] (sW 2 l) 4 (.tup []) (sW 4 r) 5:=by
 have h1:=aR (dO (l:=L) aa);have hs:=zp 1000000000000 (enc:=aV) (ok:=λx=>decide (c8 x)) (L:=L) 10 true (l:=l++aV (L.length:Int)) (λx hx=>decide_eq_true (hL x hx)) (λx hx=>aR (hL x hx)) aa cq;rw[List.append_assoc,b,Bool.true_or] at hs;refine pP func263 ?_;refine pN (λs:Bool×List UInt8×Int=>(s0 22 gl [(2,.clo (.func 27) [.ref 1 0] []),(12,aE cZ L),(13,iG (ah L)),(14,iG s.2.2)] (sW 4 s.2.1) 5 4)) 11122 hs [gD 11 1 2 4 [.ref 1 0,iG (ah L)] (cA gl (dO (l:=L) aa) aa (r:=l++aV (L.length:Int)) rfl)] [hc (el (l++aV (L.length:Int))),hc (rY.imm (l++aV (L.length:Int)))] (λB s w hs k5 d=>?_) (kd:=[(4,.row),(999999,.clo)]) (ρ:=rI 5);obtain⟨f,a,i⟩:=s;unfold md at hs;rcases bC hs with⟨b1,hs⟩|⟨b1,hs⟩
 .obtain⟨y,c,hs⟩:=bS hs;obtain⟨e,hacc,hs⟩:=rT hs;obtain rfl:=bn hs;have hy:c8 y:=of_decide_eq_true e;have hacc:a.length<=1000000000000:=hacc;exact jw [hr 15 b1,hv 16 (rZ.ixZ c),hv 17 (rZ.p1Z tZ c),gD 20 1 4 5 [.ref 1 0,iG y] (cA gl hy aa (r:=a++aV y) rfl)] [hc (el (a++aV y)),hc (rY.imm (a++aV y))] (k5 _ rfl) (ρ:=rI 4++[(4,5)]) (kd:=[(4,.row),(999999,.clo)])
 .obtain rfl:=bn hs;cases d _ rfl;exact mt .normal (s0 22 gl [] (sW 4 a) 5 4) [] [hr 15 b1] [hc (el a),hc (rY.imm a)] (ρ:=rI 5) (kd:=[(4,.row),(999999,.clo)])
theorem Rl{l r:List UInt8}{x:DNode}(hx:SmNode x)(hl:l.length<=700000000000)(c:l++ke x=r):jg prog gl 259 [.agg (bY x),.ref 0 0,.ref 3 0] (sW 2 l) 4 (.tup []) (sW 4 r) 5:=by
 have h1:=gH hx.a;have e:l++nb x.Pub++(aV (x.Boxes.length:Int)++x.Boxes.flatMap uT)=r:=by rw[<-c];simp only[ke,uU,List.append_assoc]
 refine pP func259 ?_;exact mt .normal (s0 13 gl [] (sW 4 r) 5 4) [] [gD 7 1 2 5 [.ref 1 0,uG x.Pub] (gC gl hx.a aa (r:=l++nb x.Pub) rfl),IN 12 5 6 [.ref 1 0,aE cz x.Boxes,.clo (.func 256) [] [.ref 0 0]] (IO_q gl hx.b hx.n cq e)] [hc (el r),hc (rY.imm r)] (ρ:=rI 4++[(4,6)]) (kd:=[(4,.row),(999999,.clo)])
theorem Rm{l r:List UInt8}{x:DSealed}(hx:SmSealed x)(hl:l.length<=9000000000000)(b:l++lX x=r):jg prog gl 265 [.agg (bp x),.ref 0 0] [(0,bx),(1,oO 2 l),(2,oY l)] 3 (.tup []) [(0,bx),(1,oO 3 r),(3,oY r)] 4:=by
 have h1:=gN hx.a;have e:l++sN x.Of++tM x.Body=r:=by rw[<-b];simp only[lX,List.append_assoc]
 refine pP func265 ?_;exact mt .normal (s0 12 gl [] [(0,bx),(1,oO 3 r),(3,oY r)] 4 3) [] [gD 6 1 2 4 [.ref 1 0,.agg (aj x.Of)] (kh gl hx.a aa (r:=l++sN x.Of) rfl),XY 10 x.Body,gD 11 1 4 5 [.ref 1 0,sG x.Body] (CR gl (by have:=hx.n;omega) cq e)] [hc (el r),hc (rY.imm r)] (ρ:=rI 3++[(3,5)]) (kd:=[(3,.row)])
theorem Ro{L:List DNode}(hL:∀x∈L,SmNode x)(hn:L.length<=1000)(hl:l.length<=600000000000)(b:l++(aV (L.length:Int)++L.flatMap ke)=r):jg prog gl 258 [.ref 1 0,aE bY L,.clo (.func 259) [] [.ref 0 0,.ref 3 0]] (sW 2 l) 4 (.tup []) (sW 4 r) 5:=by
 have h1:=aR (dO (l:=L) aa);have hs:=zp 700000000000 (enc:=ke) (ok:=λx=>decide (SmNode x)) (L:=L) 40020 true (l:=l++aV (L.length:Int)) (λx hx=>decide_eq_true (hL x hx)) (λx hx=>Aq (hL x hx)) aa cq;rw[List.append_assoc,b,Bool.true_or] at hs;refine pP func258 ?_;refine pN (λs:Bool×List UInt8×Int=>(s0 22 gl [(2,.clo (.func 259) [] [.ref 0 0,.ref 3 0]),(12,aE bY L),(13,iG (ah L)),(14,iG s.2.2)] (sW 4 s.2.1) 5 4)) 11122 hs [gD 11 1 2 4 [.ref 1 0,iG (ah L)] (cA gl (dO (l:=L) aa) aa (r:=l++aV (L.length:Int)) rfl)] [hc (el (l++aV (L.length:Int))),hc (rY.imm (l++aV (L.length:Int)))] (λB s w hs k5 d=>?_) (kd:=[(4,.row),(999999,.clo)]) (ρ:=rI 5);obtain⟨f,a,i⟩:=s;unfold md at hs;rcases bC hs with⟨b1,hs⟩|⟨b1,hs⟩
 .obtain⟨y,c,hs⟩:=bS hs;obtain⟨e,hacc,hs⟩:=rT hs;obtain rfl:=bn hs;have hy:SmNode y:=of_decide_eq_true e;have hacc:a.length<=700000000000:=hacc;exact jw [hr 15 b1,hv 16 (bZ.ixZ c),hv 17 (bZ.ptZ Pc c),IN 20 4 6 [.agg (bY y),.ref 0 0,.ref 3 0] (Rl gl hy aa (r:=a++ke y) rfl)] [hc (el (a++ke y)),hc (rY.imm (a++ke y))] (k5 _ rfl) (ρ:=rI 4++[(4,6)]) (kd:=[(4,.row),(999999,.clo)])
 .obtain rfl:=bn hs;cases d _ rfl;exact mt .normal (s0 22 gl [] (sW 4 a) 5 4) [] [hr 15 b1] [hc (el a),hc (rY.imm a)] (ρ:=rI 5) (kd:=[(4,.row),(999999,.clo)])
theorem Rp{L:List DSealed}(hL:∀x∈L,SmSealed x)(hn:L.length<=1000)(hl:l.length<=900000000000)(b:l++(aV (L.length:Int)++L.flatMap lX)=r):jg prog gl 264 [.ref 1 0,aE bp L,.clo (.func 265) [] [.ref 0 0]] (sW 2 l) 4 (.tup []) (sW 4 r) 5:=by
 have h1:=aR (dO (l:=L) aa);have hs:=zp 1000000000000 (enc:=lX) (ok:=λx=>decide (SmSealed x)) (L:=L) 1040 true (l:=l++aV (L.length:Int)) (λx hx=>decide_eq_true (hL x hx)) (λx hx=>F6 (hL x hx)) aa cq;rw[List.append_assoc,b,Bool.true_or] at hs;refine pP func264 ?_;refine pN (λs:Bool×List UInt8×Int=>(s0 22 gl [(2,.clo (.func 265) [] [.ref 0 0]),(12,aE bp L),(13,iG (ah L)),(14,iG s.2.2)] (sW 4 s.2.1) 5 4)) 11122 hs [gD 11 1 2 4 [.ref 1 0,iG (ah L)] (cA gl (dO (l:=L) aa) aa (r:=l++aV (L.length:Int)) rfl)] [hc (el (l++aV (L.length:Int))),hc (rY.imm (l++aV (L.length:Int)))] (λB s w hs k5 d=>?_) (kd:=[(4,.row),(999999,.clo)]) (ρ:=rI 5);obtain⟨f,a,i⟩:=s;unfold md at hs;rcases bC hs with⟨b1,hs⟩|⟨b1,hs⟩
 .obtain⟨y,c,hs⟩:=bS hs;obtain⟨e,hacc,hs⟩:=rT hs;obtain rfl:=bn hs;have hy:SmSealed y:=of_decide_eq_true e;have hacc:a.length<=1000000000000:=hacc;exact jw [hr 15 b1,hv 16 (bH.ixZ c),hv 17 (bH.ptZ GM c),Zc 20 4 6 [.agg (bp y),.ref 0 0] (Rm gl hy aa (r:=a++lX y) rfl)] [hc (el (a++lX y)),hc (rY.imm (a++lX y))] (k5 _ rfl) (ρ:=rI 4++[(4,6)]) (kd:=[(4,.row),(999999,.clo)])
 .obtain rfl:=bn hs;cases d _ rfl;exact mt .normal (s0 22 gl [] (sW 4 a) 5 4) [] [hr 15 b1] [hc (el a),hc (rY.imm a)] (ρ:=rI 5) (kd:=[(4,.row),(999999,.clo)])
end
section
attribute [local irreducible] Tr dz Gp
noncomputable abbrev OZ:Code:=bq 111012 (ai Tryz.f252)
abbrev WL(l:List Nat):Fr:=[(1,aE cW l),(5,.ref 0 0)]
noncomputable abbrev TO(l:List Nat)(st:LoopState):Option Ob:=some ⟨0,[],some (.loop st none 40 (WL l) (Dy OZ) (Dz OZ) (DA OZ))⟩
noncomputable abbrev K5(l:List Nat)(s k:Nat)(a b:LoopState):aQ:=[(0,Ku s k),(1,TO l a),(2,Kx 1),(3,rL b)]
def Z3(d j c s k w:Nat){s':Nat}{gl:List (Nat×List G)}(h:kE s k w=some s')
  (hin:w6 (vi [0,j]) [(0,Ku s k),(j,Ci [w])] [(0,Ku s k),(1,Ci [w])] 0 [0,j]:=by exact⟨⟨rfl,.inl rfl⟩,⟨rfl,.inl rfl⟩,trivial⟩) (hlt:[0,j].all (λi=>Nat.blt i c)=true:=by kernel_rfl) (hnd:decide [0,j].Nodup=true:=by kernel_rfl) (hgs:[G.ref 0 0,.rsl j 0 1].map (qg (vi [0,j]) 20)=[.ref 0 0,.rsl 1 0 1]:=by kernel_rfl):HP:=
 hmc d [0,j] c [(0,Ku s k),(j,Ci [w])] [.ref 0 0,.rsl j 0 1] [(0,⟨380,[uG s',uG (k1 k)],none⟩),(1,⟨23,[w].flatMap cW,none⟩)] (Qy gl h) hin ⟨⟨rfl,.inl rfl⟩,⟨rfl,.inl rfl⟩,trivial⟩ hlt hnd hgs (by rfl) (by rfl) (by rfl)
theorem ES{l:List Nat}{r:Nat}(h:x6 label l=some r):ba prog gl 252 [sG label,aE cW l] (uG r):=by
 unfold x6 at h;obtain⟨t,et,h⟩:=bS h;obtain⟨a,ea,h⟩:=bS h;obtain⟨s1,e1,h⟩:=bS h;obtain⟨c,o,h⟩:=bS h;refine Gh func252 ?_;refine pO 111012 (s0 40 gl [(1,aE cW l),(5,.ref 0 0),(15,ny t)] [(0,Ku (wU (ah label)) 0)] 1 0) [hL 10 label,hv 11 (C8 (ah label)),hcB 14 et,hf 15 (Ic gl t)] [hc (aG 20 (ny t) aH)] ?_ [] [(0,0)];refine Xt (fst:=[]) (cap:=[.ptr [aE cY t] 0]) Tryz.f335 func335 ?_;refine YR [1,1,2] (s0 29 gl [(2,.ref 2 0),(8,Kv t)] [(2,Kx 1),(1,some ⟨0,[],some (.loop .ready none 40 [(1,aE cW l),(5,.ref 0 0),(15,ny t)] (Dy OZ) (Dz OZ) (DA OZ))⟩),(0,Ku (wU (ah label)) 0)] 3 2) [hf 8 (Ie gl t)] ?_;refine Xt (fst:=[]) (cap:=[.ptr [aE cY t] 0,.ptr [iG 7] 0]) Tryz.f377 func377 ?_;refine pN (λx:(Nat×Nat)×Int=>(s0 31 gl [(0,.yld 3),(1,.ptr [aE cY t] 0),(2,.ptr [iG 7] 0),(4,iG x.2)] (K5 l x.1.1 x.1.2 .ready .ready) 4 4)) 1122 ea [] [] (λB x w hs k5 e=>?_) [] r4;unfold F1 at hs;rcases bC hs with⟨b1,hs⟩|⟨b1,hs⟩
 .obtain⟨q0,e0,hs⟩:=bS hs;obtain⟨y,d,hs⟩:=bS hs;obtain⟨q,p,hs⟩:=bS hs;obtain⟨w,ew,hs⟩:=bS hs;obtain⟨s,es,hs⟩:=bS hs;obtain rfl:=bn hs;refine pO 112210210 (s0 31 gl [(0,.yld 3),(1,.ptr [aE cY t] 0),(2,.ptr [iG 7] 0),(4,iG x.2),(5,iG (iI 7 (ah q0)))] (K5 l x.1.1 x.1.2 .ready .ready) 4 4) [hr 9 b1,hv 16 (rY.sufZI e0)] [] ?_ [] r4;refine Xw (i:=3) (j:=10) (n:=29) (t:=0) (t2:=0) (pe:=none) (fr:=[(2,.ref 2 0)]) (ps:=Dy Kw) (a:=Dz Kw) (b:=DA Kw) (s1:=(s0 31 gl (Ti t q x.2 (iI 7 (ah q0))) (K5 l x.1.1 x.1.2 .ready .ready) 4 4))
   (s3:=(s0 31 gl ([(30,bG false),(29,bG true)]++Ti t q x.2 (iI 7 (ah q0))) ((3,rL .ready)::K5 l s (k1 x.1.2) .ready .busy) 4 4))
   (K5 l s (k1 x.1.2) .ready .busy) 4 (.loop .ready none 29 [(2,.ref 2 0)] (Dy Kw) (Dz Kw) (DA Kw)) [hcv 28 (g:=aE cY q) (Yp rY d p)] [] ?_ ?_
  .refine C9 .normal ⟨29,gl,[(2,.ref 2 0),(3,aE cY q)],K5 l x.1.1 x.1.2 .ready .ready,4,4,true⟩ [] [] (Xv Tryz.f335 ?_ rfl) [] r4;refine Ix 12101 ⟨29,gl,[(2,.ref 2 0),(4,uG w)],K5 l x.1.1 x.1.2 .ready .busy,4,4,true⟩ ?_ λu=>?_
   .refine pO 12110 ⟨29,gl,[(2,.ref 2 0),(4,uG w)],K5 l x.1.1 x.1.2 .ready .busy,4,4,true⟩ [] [] ?_ [] r4;refine Xw (i:=1) (j:=2) (n:=40) (t:=0) (t2:=0) (pe:=none) (fr:=WL l) (ps:=Dy OZ) (a:=Dz OZ) (b:=DA OZ) (s1:=⟨29,gl,[(26,uG w),(25,.yld 1),(2,.ref 2 0),(4,uG w)],K5 l x.1.1 x.1.2 .ready .busy,4,4,true⟩)
     (s3:=⟨29,gl,[(28,bG false),(27,bG true),(26,uG w),(25,.yld 1),(2,.ref 2 0),(4,uG w)],(1,TO l .ready)::K5 l s (k1 x.1.2) .busy .busy,4,4,true⟩)
     (K5 l s (k1 x.1.2) .busy .busy) 4 (.loop .ready none 40 (WL l) (Dy OZ) (Dz OZ) (DA OZ)) [] [] ?_ ?_
    .refine C9 .normal ⟨40,gl,[(5,.ref 0 0),(6,uG w)],K5 l x.1.1 x.1.2 .ready .busy,4,4,true⟩ [] [] (Xv Tryz.f252 ?_ rfl) [] r4;exact C9 .normal ⟨40,gl,[],K5 l s (k1 x.1.2) .busy .busy,4,4,true⟩ [Z3 (gl:=gl) 19 4 5 x.1.1 x.1.2 w es] [] (jy rfl rfl rfl rfl rfl rfl) [] r4
    .exact C9 .normal ⟨29,gl,[],K5 l s (k1 x.1.2) .ready .busy,4,4,true⟩ [] [] (jy rfl rfl rfl rfl rfl rfl) [] r4
   refine pN (λz:Nat×Int=>⟨29,gl,[(2,.ref 2 0),(4,uG z.1),(10,aE cY q),(11,iG (ah q)),(12,iG z.2)],K5 l x.1.1 x.1.2 .ready .busy,4,4,true⟩) [2,1,0,1,2,2] ew [] [] (λC z v hz k m=>?_) [] r4;unfold oD at hz;rcases bC hz with⟨c1,hz⟩|⟨c1,hz⟩
   .obtain⟨f,e1,hz⟩:=bS hz;obtain⟨n1,e2,hz⟩:=bS hz;obtain rfl:=bn hz;exact jw [hr 13 c1,hv 15 (rY.ixZ e1),hv 16 (rY.p1Z tY e1),hv 19 (C8 (f.toNat:Int)),hV 22 (sM (P:=prog) (t:=23) (wU (f.toNat:Int)) e2),hV 23 (jc (P:=prog) (t:=23) z.1 (fN (wU (f.toNat:Int)) n1))] [] (k _ rfl) [] r4
   .obtain rfl:=bn hz;obtain rfl:=m _ rfl;exact yl 12101 [hr 13 c1] [] u [] r4
  .exact jw [] [] (k5 _ rfl) [] r4
 .obtain rfl:=bn hs;obtain rfl:=e _ rfl;refine C9 .normal (s0 31 gl [] [(0,Ku x.1.1 x.1.2),(1,TO l .ready),(3,rL .ready)] 4 4) [hr 9 b1] [] (Xu ?_ rfl) [] r4;refine C9 .normal (s0 29 gl [] [(0,Ku x.1.1 x.1.2),(1,TO l .ready)] 2 2) [] [] (Xu ?_ rfl) [] [(0,0),(1,1)];refine pN (λx:(Nat×Nat)×Int=>(s0 40 gl [(5,.ref 0 0),(25,aE cW l),(26,iG (ah l)),(27,iG x.2)] [(0,Ku x.1.1 x.1.2)] 1 0)) 111110122 o [hv 22 (C8 (ah l)),Z3 (gl:=gl) 24 2 3 x.1.1 x.1.2 (wU (ah l)) e1] [] (λB z v hz k5 e=>?_) [] [(0,0)];unfold F3 at hz;rcases bC hz with⟨c1,hz⟩|⟨c1,hz⟩
  .obtain⟨y,d,hz⟩:=bS hz;obtain⟨n,A,hz⟩:=bS hz;obtain⟨s,es,hz⟩:=bS hz;obtain rfl:=bn hz;exact jw [hr 28 c1,hv 29 (rW.ixZ d),hv 30 (rW.p1Z tW d),hf 32 (dr gl A),Z3 (gl:=gl) 34 1 2 z.1.1 z.1.2 n es] [] (k5 _ rfl) [] [(0,0)]
  .obtain rfl:=bn hz;obtain rfl:=e _ rfl;exact Ar [hr 28 c1,Z3 (gl:=gl) 37 1 2 z.1.1 z.1.2 0 h] []
def lk(label b:List UInt8):Option Nat:=(Cj b).bind λw=>(aT 8 w [wU (ah b)]).bind λl=>x6 label l
theorem xd{r:Nat}(h:lk label b=some r):ba prog gl 170 [sG label,aE cY b] (uG r):=by unfold lk at h;obtain⟨w,ew,h⟩:=bS h;obtain⟨l,el',h⟩:=bS h;refine Gh func170 ?_;exact Ar [hf 7 (Ic gl b),ho 8 [ny b] [] (Ky gl ew) (Gj (λx g hg=>by simp only[cW,List.mem_singleton] at hg;exact⟨_,hg⟩) w),hv 11 (C8 (ah b)),dg 13 rW el',hq 14 [sG label,aE cW l] [hc (rW.al l)] (ES gl h)] []
end
section
attribute [local irreducible] Tr dz Gp
section
def Xy(o:DOp):List UInt8:=[]++[o.By,o.Seq,o.Kind,o.At].flatMap aV
def Xz(o:DOp):List UInt8:=Xy o++(aV (o.Past.length:Int)++o.Past.flatMap sN)
def XA(o:DOp):List UInt8:=Xz o++[o.Device,o.Old,o.Member,o.Role].flatMap aV
def XB(o:DOp):List UInt8:=XA o++(aV (o.Path.length:Int)++o.Path.flatMap ke)
def XC(o:DOp):List UInt8:=XB o++sN o.Epoch
def XD(o:DOp):List UInt8:=XC o++aV o.N
def XE(o:DOp):List UInt8:=XD o++tM o.Body
def XG(o:DOp):List UInt8:=XE o++(aV (o.Refs.length:Int)++o.Refs.flatMap nb)
def XH(o:DOp):List UInt8:=XG o++sN o.Of
def Ox(o:DOp):List UInt8:=XH o++(aV (o.Guards.length:Int)++o.Guards.flatMap aV)
def Oy(o:DOp):List UInt8:=Ox o++[o.Need,o.Wait].flatMap aV
def Oz(o:DOp):List UInt8:=Oy o++(aV (o.Boxes.length:Int)++o.Boxes.flatMap uT)
def OA(o:DOp):List UInt8:=Oz o++nb o.Pub
def IP(o:DOp):List UInt8:=OA o++(aV (o.Hist.length:Int)++o.Hist.flatMap lX)
theorem Rq(o:DOp):IP o=qc o:=by simp only[Xy,Xz,XA,XB,XC,XD,XE,XG,XH,Ox,Oy,Oz,OA,IP,qc,uU,List.flatMap_cons,List.flatMap_nil,List.append_assoc,List.append_nil,List.nil_append]
theorem aaU(o:DOp):[]++[o.By,o.Seq,o.Kind,o.At].flatMap aV=Xy o:=rfl
theorem Zd(o:DOp):Xy o++(aV (o.Past.length:Int)++o.Past.flatMap sN)=Xz o:=rfl
theorem Ze(o:DOp):Xz o++[o.Device,o.Old,o.Member,o.Role].flatMap aV=XA o:=rfl
theorem Zf(o:DOp):XA o++(aV (o.Path.length:Int)++o.Path.flatMap ke)=XB o:=rfl
theorem Zg(o:DOp):XB o++sN o.Epoch=XC o:=rfl
theorem Zh(o:DOp):XC o++aV o.N=XD o:=rfl
theorem Zi(o:DOp):XD o++tM o.Body=XE o:=rfl
theorem Zj(o:DOp):XE o++(aV (o.Refs.length:Int)++o.Refs.flatMap nb)=XG o:=rfl
theorem Zk(o:DOp):XG o++sN o.Of=XH o:=rfl
theorem Vd(o:DOp):XH o++(aV (o.Guards.length:Int)++o.Guards.flatMap aV)=Ox o:=rfl
theorem Ve(o:DOp):Ox o++[o.Need,o.Wait].flatMap aV=Oy o:=rfl
theorem Vf(o:DOp):Oy o++(aV (o.Boxes.length:Int)++o.Boxes.flatMap uT)=Oz o:=rfl
theorem Vg(o:DOp):Oz o++nb o.Pub=OA o:=rfl
theorem Vh(o:DOp):OA o++(aV (o.Hist.length:Int)++o.Hist.flatMap lX)=IP o:=rfl
def Rr(d k j c:Nat){gl:List (Nat×List G)}{fid:FuncId}{L:List Int}{l r:List UInt8}(h:jg prog gl fid [.rsl 3 0 L.length,.ref 0 0] [(0,bx),(1,oO 2 l),(2,oY l),ob 3 3 (L.flatMap cZ)] [0,1,k,j].length (.tup []) [(0,bx),(1,oO 4 r),(4,oY r),ob 3 3 (L.flatMap cZ)] 5)
  (hin:w6 (vi [0,1,k,j]) [(0,bx),(1,oO k l),(k,oY l),(j,some ⟨3,L.flatMap cZ,none⟩)] [(0,bx),(1,oO 2 l),(2,oY l),ob 3 3 (L.flatMap cZ)] 0 [0,1,k,j]:=by exact⟨⟨rfl,.inl rfl⟩,⟨rfl,.inl rfl⟩,⟨rfl,.inr ⟨rfl,rY.imm _⟩⟩,⟨rfl,.inr ⟨rfl,rZ.imm _⟩⟩,trivial⟩) (a:oI (eD [0,1,k,j] c) [(0,bx),(1,oO 4 r),(4,oY r),ob 3 3 (L.flatMap cZ)] [(0,bx),(1,oO c r),(2,none),ob 3 3 (L.flatMap cZ),(4,oY r)]:=by exact⟨⟨rfl,.inl rfl⟩,⟨rfl,.inl rfl⟩,⟨rfl,.inr ⟨rfl,rZ.imm _⟩⟩,⟨rfl,.inr ⟨rfl,rY.imm _⟩⟩,trivial⟩)
  (hlt:[0,1,k,j].all (λi=>Nat.blt i c)=true:=by kernel_rfl) (hnd:decide [0,1,k,j].Nodup=true:=by kernel_rfl) (hgs:[G.rsl j 0 L.length,.ref 0 0].map (qg (vi [0,1,k,j]) 20)=[.rsl 3 0 L.length,.ref 0 0]:=by kernel_rfl):HP:=
 tN d [0,1,k,j] c [(0,bx),(1,oO k l),(k,oY l),(j,some ⟨3,L.flatMap cZ,none⟩)] [.rsl j 0 L.length,.ref 0 0] [(0,bx),(1,oO c r),(2,none),ob 3 3 (L.flatMap cZ),(4,oY r)] h hin a hlt hnd hgs (by rfl) (by rfl) (by rfl)
attribute [local irreducible] Xy Xz XA XB XC XD XE XG XH Ox Oy Oz OA IP
set_option maxHeartbeats 2000000 in
theorem MP(ho:SmOp o):jg prog gl 171 [.agg (aJ o)] [] 0 (.ref 0 0) [(0,oO 1 (qc o)),(1,oY (qc o))] 2:=by
 have hI:∀l:List Int,(∀z∈l,z∈[o.By,o.Seq,o.Kind,o.At,o.Device,o.Old,o.Member,o.Role,o.N,o.Need,o.Wait])->∀z∈l,c8 z:=λl hl z hz=>ho.ints z (hl z hz);have a:=yY ho;rw[<-Rq] at a;have h13:(OA o).length<=50000000:=Nat.le_trans (by rw[<-Vh,List.length_append];omega) a;have h12:(Oz o).length<=50000000:=Nat.le_trans (by rw[<-Vg,List.length_append];omega) h13;have h11:(Oy o).length<=50000000:=Nat.le_trans (by rw[<-Vf,List.length_append];omega) h12;have h10:(Ox o).length<=50000000:=Nat.le_trans (by rw[<-Ve,List.length_append];omega) h11;have h9:(XH o).length<=50000000:=Nat.le_trans (by rw[<-Vd,List.length_append];omega) h10;have h8:(XG o).length<=50000000:=Nat.le_trans (by rw[<-Zk,List.length_append];omega) h9;have h7:(XE o).length<=50000000:=Nat.le_trans (by rw[<-Zj,List.length_append];omega) h8;have h6:(XD o).length<=50000000:=Nat.le_trans (by rw[<-Zi,List.length_append];omega) h7;have h5:(XC o).length<=50000000:=Nat.le_trans (by rw[<-Zh,List.length_append];omega) h6;have h4:(XB o).length<=50000000:=Nat.le_trans (by rw[<-Zg,List.length_append];omega) h5;have h3:(XA o).length<=50000000:=Nat.le_trans (by rw[<-Zf,List.length_append];omega) h4;have h2:(Xz o).length<=50000000:=Nat.le_trans (by rw[<-Ze,List.length_append];omega) h3;have h1:(Xy o).length<=50000000:=Nat.le_trans (by rw[<-Zd,List.length_append];omega) h2;rw[<-Rq o];refine pP func171 ?_;refine pO 111110 (s0 94 gl [(1,.ptr (aJ o) 0),(3,.ref 0 0),(4,.clo (.func 255) [] [.ref 0 0]),(5,.ref 3 0)] (sW 2 []) 4 0) [] [hc (eB (gs:=aJ o) aH),hc (rY.imm [])] ?_ (vs:=[5]) (ρ:=[(0,2),(1,1),(2,4),(3,3)]) (kd:=[(2,.row),(999999,.clo)]);exact mt .ret (s0 94 gl [(2,.ref 0 0)] [(0,oO 1 (IP o)),(1,oY (IP o))] 2 0) [.ref 0 0] [Rr 20 2 4 5 (L:=[o.By,o.Seq,o.Kind,o.At]) (CS gl (hI _ aC) aC aC aC (aaU o)),
  IN 26 5 6 [.ref 1 0,aE aj o.Past,.clo (.func 30) [.ref 1 0] []] (Rj gl ho.past ho.nPast aa (Zd o)),
  Rr 37 6 7 8 (L:=[o.Device,o.Old,o.Member,o.Role]) (CS gl (hI _ aC) aC aC aa (Ze o)),
  IN 42 8 9 [.ref 1 0,aE bY o.Path,.clo (.func 259) [] [.ref 0 0,.ref 3 0]] (Ro gl ho.path ho.nPath aa (Zf o)),
  gD 46 1 9 10 [.ref 1 0,.agg (aj o.Epoch)] (kh gl ho.epoch aa (Zg o)),
  gD 50 1 10 11 [.ref 1 0,iG o.N] (cA gl (ho.ints _ aC) aa (Zh o)),
  XY 54 o.Body,gD 55 1 11 12 [.ref 1 0,sG o.Body] (CR gl (by have:=ho.nBody;omega) aa (Zi o)),
  IN 61 12 13 [.ref 1 0,aE cW o.Refs,.clo (.func 29) [.ref 1 0] []] (TM gl ho.refs ho.nRefs aa (Zj o)),
  gD 65 1 13 14 [.ref 1 0,.agg (aj o.Of)] (kh gl ho.of_ aa (Zk o)),
  IN 71 14 15 [.ref 1 0,aE cZ o.Guards,.clo (.func 27) [.ref 1 0] []] (TN gl ho.guards ho.nGuards aa (Vd o)),
  Rr 78 15 16 17 (L:=[o.Need,o.Wait]) (CS gl (hI _ aC) aC aC aa (Ve o)),
  IN 83 17 18 [.ref 1 0,aE cz o.Boxes,.clo (.func 256) [] [.ref 0 0]] (IO_q gl ho.boxes ho.nBoxes aa (Vf o)),
  gD 87 1 18 19 [.ref 1 0,uG o.Pub] (gC gl ho.pub aa (Vg o)),
  IN 92 19 20 [.ref 1 0,aE bp o.Hist,.clo (.func 265) [] [.ref 0 0]] (Rp gl ho.hist ho.nHist aa (Vh o))]
  [hc (el (IP o)),hc (rY.imm (IP o))] (ρ:=[(0,1),(1,20)]) (kd:=[(1,.row)])
attribute [local irreducible] qc
def Rs(o:DOp):Option DIdent:=(lk [111,112] (qc o)).bind λv=>some ⟨o.By,o.Seq,v⟩
theorem TP(ho:SmOp o){r:DIdent}(h:Rs o=some r):ba prog gl 97 [.agg (aJ o)] (.agg (aj r)):=by
 unfold Rs at h;obtain⟨v,b,h⟩:=bS h;obtain rfl:=bn h;have a:=yY ho;refine Gh func97 ?_;refine pO [1,0] (s0 12 gl [(1,.ptr (aJ o) 0),(2,.ref 0 0)] [ob 0 50 [iG 0,iG 0,uG 0]] 1 0) [] [hc (eB (gs:=aJ o) aH)] ?_ [] [(0,1)];exact Ar [tN 8 [] 1 [] [.agg (aJ o)] [(0,oO 2 (qc o)),(1,oY (qc o))] (MP gl ho) trivial ⟨⟨rfl,.inl rfl⟩,⟨rfl,.inr ⟨rfl,rY.imm _⟩⟩,trivial⟩,
  tN 9 [1,2] 3 [(1,oO 2 (qc o)),(2,oY (qc o))] [.ref 1 0] [(0,oO 2 (qc o)),(1,oY (qc o)),(2,oY (qc o))] (rS gl (l:=qc o) aa) ⟨⟨rfl,.inl rfl⟩,⟨rfl,.inr ⟨rfl,rY.imm _⟩⟩,trivial⟩ ⟨⟨rfl,.inl rfl⟩,⟨rfl,.inr ⟨rfl,rY.imm _⟩⟩,⟨rfl,.inr ⟨rfl,rY.imm _⟩⟩,trivial⟩,
  hq 10 [sG [111,112],aE cY (qc o)] [hc (rY.al (qc o))] (xd gl b)] []
end
end
theorem gP(n:Nat):wU (n:Int)=n%18446744073709551616:=by have:=zk (n:Int);rw[IntKind.wrap_u64] at this;omega
theorem K6(a b:Nat):wU ((a:Int)*(b:Int))=a*b%18446744073709551616:=by rw[<-Int.natCast_mul,gP]
theorem me(a b:Nat):wU ((a:Int)+(b:Int))=(a+b)%18446744073709551616:=by rw[<-Int.natCast_add,gP]
theorem Zl{b:Nat}(h:b<=a):wU ((a:Int)-(b:Int))=(a-b)%18446744073709551616:=by rw[<-Int.natCast_sub h,gP]
abbrev PF:Nat:=2305843009213693951
theorem TQ(a:Nat):cw a 32=a/4294967296:=rfl
theorem TR(a:Nat):cw a 61=a/2305843009213693952:=rfl
theorem WM(a:Nat):fN a 3=a*8%18446744073709551616:=rfl
theorem Gw{a:Nat}(h:a<18446744073709551616):bD a 4294967295=a%4294967296:=by unfold bD;rw[Nat.mod_eq_of_lt h];exact Nat.and_two_pow_sub_one_eq_mod a 32
theorem TS(h:a<18446744073709551616):bD a 2305843009213693951=a%2305843009213693952:=by unfold bD;rw[Nat.mod_eq_of_lt h];exact Nat.and_two_pow_sub_one_eq_mod a 61
theorem du(h:n<18446744073709551616):eR n=some (n%PF):=by
 unfold eR;rw[TS h,TR,me];have e:(n%2305843009213693952+n/2305843009213693952)%18446744073709551616=n%2305843009213693952+n/2305843009213693952:=Nat.mod_eq_of_lt aa;rw[e];by_cases h1:2305843009213693951<=n%2305843009213693952+n/2305843009213693952
 .rw[decide_eq_true aa,ax,Zl h1];exact congrArg some (show _=n%2305843009213693951 by omega)
 .rw[decide_eq_false aa,aM];exact congrArg some (show _=n%2305843009213693951 by omega)
theorem Gx{x y:Nat}(hx:x<18446744073709551616)(hy:y<18446744073709551616):sL x y=some (x*y/18446744073709551616,x*y%18446744073709551616):=by unfold sL;simp only[K6,me,TQ,Gw hx,Gw hy];obtain⟨h1,h2,h3,h4⟩:=Lib.mul64_hi x y hx hy;have ha:=Lib.half_mul_le (a:=x/4294967296) (b:=y/4294967296) aa aa;have hb:=Lib.half_mul_le (a:=x/4294967296) (b:=y%4294967296) aa aa;have hc:=Lib.half_mul_le (a:=x%4294967296) (b:=y/4294967296) aa aa;have hd:=Lib.half_mul_le (a:=x%4294967296) (b:=y%4294967296) aa aa;rw[Gw (Nat.mod_lt _ a9)];rw[<-h4];generalize (x/4294967296)*(y/4294967296)=a at*;generalize (x/4294967296)*(y%4294967296)=b at*;generalize (x%4294967296)*(y/4294967296)=c at*;generalize (x%4294967296)*(y%4294967296)=d at*;congr 2;omega
theorem Rt(a b:Nat)(hi lo:Nat)(h:hi*18446744073709551616+lo=a%2305843009213693951*(b%2305843009213693951))(hl:lo<18446744073709551616):hi<288230376151711744/\(lo%2305843009213693951+hi*8)%2305843009213693951=a*b%2305843009213693951:=by have h1:a%2305843009213693951*(b%2305843009213693951)<=2305843009213693950*2305843009213693950:=Nat.mul_le_mul aa aa;rw[Nat.mul_mod a b,<-h];omega
theorem nc{b:Nat}(ha:a<18446744073709551616)(hb:b<18446744073709551616):jZ a b=some (a*b%PF):=by
 unfold jZ;rw[du ha,aL,du hb,aL];have hA:a%PF<2305843009213693951:=Nat.mod_lt _ a9;have hB:b%PF<2305843009213693951:=Nat.mod_lt _ a9;rw[Gx aa aa,aL];dsimp only;have hlo:a%PF*(b%PF)%18446744073709551616<18446744073709551616:=Nat.mod_lt _ a9;rw[du hlo,aL];obtain⟨h1,h2⟩:=Rt a b (a%PF*(b%PF)/18446744073709551616) (a%PF*(b%PF)%18446744073709551616) (Nat.div_add_mod' _ _) hlo;rw[WM,me];generalize a%PF*(b%PF)/18446744073709551616=hi at*;generalize a%PF*(b%PF)%18446744073709551616=lo at*;have e:(lo%PF+hi*8%18446744073709551616)%18446744073709551616=lo%PF+hi*8:=by show(lo%2305843009213693951+_)%_=lo%2305843009213693951+_;omega
 rw[e,du (by show lo%2305843009213693951+_<_;omega),aL];exact congrArg some h2
theorem IQ{b:Nat}(ha:a<18446744073709551616)(hb:b<18446744073709551616):wG a b=some ((a+b)%PF):=by unfold wG;have hA:a%PF<2305843009213693951:=Nat.mod_lt _ a9;have hB:b%PF<2305843009213693951:=Nat.mod_lt _ a9;rw[du ha,aL,du hb,aL,me,du (Nat.mod_lt _ a9),aL];congr 1;show(a%2305843009213693951+b%2305843009213693951)%18446744073709551616%2305843009213693951=(a+b)%2305843009213693951;omega
theorem Ru(A B:Nat)(L M H:Nat)(hL:L=A%4294967296*(B%4294967296))(hM:M=A/4294967296*(B%4294967296)+A%4294967296*(B/4294967296))(a:H=A/4294967296*(B/4294967296)):
  (L%2305843009213693951+M%536870912*4294967296+M/536870912+8*H)%2305843009213693951=A*B%2305843009213693951:=by
 have hx:A*B=L+M*4294967296+H*18446744073709551616:=by
  have e:A*B=(A/4294967296)*(B/4294967296)*(4294967296*4294967296)+((A/4294967296)*(B%4294967296)+(A%4294967296)*(B/4294967296))*4294967296+(A%4294967296)*(B%4294967296):=by rw[<-Lib.split_mul,Nat.div_add_mod' A 4294967296,Nat.div_add_mod' B 4294967296]
  rw[e,hL,hM,a];omega
 rw[hx]
 omega
theorem ll{b:Nat}:oQ a b=some (a*b%PF):=by
 unfold oQ;have hA:a%2305843009213693951<2305843009213693951:=Nat.mod_lt _ a9;have hB:b%2305843009213693951<2305843009213693951:=Nat.mod_lt _ a9;generalize hAe:a%2305843009213693951=A at*;generalize hBe:b%2305843009213693951=B at*;have h0:A%4294967296*(B%4294967296)<=4294967295*4294967295:=Nat.mul_le_mul aa aa;have h1:A/4294967296*(B%4294967296)<=536870911*4294967295:=Nat.mul_le_mul aa aa;have h2:A%4294967296*(B/4294967296)<=4294967295*536870911:=Nat.mul_le_mul aa aa;have h3:A/4294967296*(B/4294967296)<=536870911*536870911:=Nat.mul_le_mul aa aa;have key:=Ru A B _ _ _ rfl rfl rfl;have e:A*B%2305843009213693951=a*b%2305843009213693951:=by rw[<-hAe,<-hBe,<-Nat.mul_mod]
 have ea:wU ((A/4294967296:Nat):Int)=A/4294967296:=by rw[gP];omega
 have eb:wU ((B/4294967296:Nat):Int)=B/4294967296:=by rw[gP];omega
 simp only[ea,eb,K6,me,gP];show some _=some (a*b%2305843009213693951);rw[<-e,<-key];congr 1;generalize A%4294967296*(B%4294967296)=p at*;generalize A/4294967296*(B%4294967296)=q at*;generalize A%4294967296*(B/4294967296)=s at*;generalize A/4294967296*(B/4294967296)=t at*;have e1:p%18446744073709551616=p:=Nat.mod_eq_of_lt aa;have e2:q%18446744073709551616=q:=Nat.mod_eq_of_lt aa;have e3:s%18446744073709551616=s:=Nat.mod_eq_of_lt aa;have e4:t%18446744073709551616=t:=Nat.mod_eq_of_lt aa;have e5:(q+s)%18446744073709551616=q+s:=Nat.mod_eq_of_lt aa;rw[e1,e2,e3,e4,e5];generalize q+s=m at*;have e6:m%536870912*4294967296%18446744073709551616=m%536870912*4294967296:=Nat.mod_eq_of_lt aa;have e7:m/536870912%18446744073709551616=m/536870912:=Nat.mod_eq_of_lt aa;have e8:8*t%18446744073709551616=8*t:=Nat.mod_eq_of_lt aa;rw[e6,e7,e8];have e9:(p%2305843009213693951+m%536870912*4294967296)%18446744073709551616=p%2305843009213693951+m%536870912*4294967296:=Nat.mod_eq_of_lt aa;rw[e9];have e10:(p%2305843009213693951+m%536870912*4294967296+m/536870912)%18446744073709551616=p%2305843009213693951+m%536870912*4294967296+m/536870912:=Nat.mod_eq_of_lt aa;rw[e10];rw[Nat.mod_eq_of_lt (a:=p%2305843009213693951+m%536870912*4294967296+m/536870912+8*t) aa]
theorem yq{b:Nat}:qi a b=some ((a+b)%PF):=by unfold qi;rw[me];congr 1;show _=(a+b)%2305843009213693951;omega
section
variable {σ1 σ2 ρ1 ρ2:Type}
def Sim(R:σ1->σ2->Prop)(Q:ρ1->ρ2->Prop):σ1⊕ρ1->σ2⊕ρ2->Prop
 | .inl a,.inl b=>R a b
 | .inr a,.inr b=>Q a b
 |_,_=>False
theorem MQ{s1:σ1->Option (σ1⊕ρ1)}{s2:σ2->Option (σ2⊕ρ2)}(R:σ1->σ2->Prop)(Q:ρ1->ρ2->Prop)(h:∀a b,R a b->∀v,s2 b=some v->∃u,s1 a=some u/\Sim R Q u v):∀(n:Nat) (a:σ1) (b:σ2) (r:ρ2),R a b->KN s2 n b=some r->∃q,KN s1 n a=some q/\Q q r
 |0,a,b,r,_,hl=>by cases hl
 |n+1,a,b,r,c,hl=>by
  unfold KN at hl⊢;cases hb:s2 b with
  |none=>rw[hb] at hl;cases hl
  |some v=>
   rw[hb] at hl;obtain⟨u,hu,hs⟩:=h a b c v hb;rw[hu];cases u with
   |inl a'=>
    cases v with
    |inl b'=>exact MQ R Q h n a' b' r hs hl
    |inr b'=>exact hs.elim
   |inr a'=>
    cases v with
    |inl b'=>exact hs.elim
    |inr b'=>dsimp only at hl⊢;cases hl;exact⟨a',rfl,hs⟩
theorem Rv{s1:σ1->Option (σ1⊕ρ1)}{s2:σ2->Option (σ2⊕ρ2)}(R:σ1->σ2->Prop)(Q:ρ1->ρ2->Prop)(h:∀a b,R a b->∀v,s2 b=some v->∃u,s1 a=some u/\Sim R Q u v){a:σ1}{b:σ2}{r:ρ2}(c:R a b)(hl:loop s2 b=some r):∃q,loop s1 a=some q/\Q q r:=MQ R Q h _ a b r c hl
end
theorem WN(h:n<18446744073709551616):bD n 1=n%2:=by unfold bD;rw[Nat.mod_eq_of_lt h];exact Nat.and_two_pow_sub_one_eq_mod n 1
theorem WO(n:Nat):cw n 1=n/2:=rfl
theorem CT(n:Nat):n%PF<2305843009213693951:=Nat.mod_lt _ a9
theorem nf{r:Nat}(ha:a<18446744073709551616)(hn:n<18446744073709551616)(h:iK a n=some r):j7 a n=some r:=by
 unfold iK at h;obtain⟨x,hx,h⟩:=bS h;cases h;unfold j7;rw[du ha,aL];have hst:∀(s t:Nat×Nat×Nat),(λ(s:Nat×Nat×Nat) (t:Nat×Nat×Nat)=>t=(s.2.2,s.1,s.2.1)/\s.1<2305843009213693951/\s.2.1<18446744073709551616/\s.2.2<2305843009213693951) s t->∀v,r6 t=some v->∃u,mW s=some u/\Sim (λ(s:Nat×Nat×Nat) (t:Nat×Nat×Nat)=>t=(s.2.2,s.1,s.2.1)/\s.1<2305843009213693951/\s.2.1<18446744073709551616/\s.2.2<2305843009213693951) (λa b=>a=b) u v:=by
  intro s t e v hv;obtain⟨b,m,o⟩:=s;obtain⟨rfl,k1,k2,k3⟩:=e;dsimp only at k1 k2 k3;unfold r6 at hv;unfold mW;dsimp only at hv⊢;rw[WN k2,WO];have hm:∀x y:Nat,x<2305843009213693951->y<2305843009213693951->jZ x y=some (x*y%PF):=λx y h1 h2=>nc aa aa;rcases bC hv with⟨c,hv⟩|⟨c,hv⟩
  .rw[c,ax];obtain⟨j,hj,hv⟩:=bS hv;obtain⟨w,hw,hv⟩:=bS hv;cases hv;rw[ll] at hw;cases hw;refine⟨.inl (b*b%PF,m/2,j),?_,?_⟩
   .rw[hm b b k1 k1];rcases bC hj with⟨d,hj⟩|⟨d,hj⟩
    .obtain⟨w,hw,hj⟩:=bS hj;cases hj;rw[ll] at hw;cases hw;rw[d,ax,hm o b k3 k1];rfl
    .cases hj;rw[d,aM];rfl
   .refine⟨?_,CT _,by show m/2<_;omega,?_⟩
    .show(j,b*b%PF,wU ((m/2:Nat):Int))=(j,b*b%PF,m/2);rw[gP,Nat.mod_eq_of_lt (a:=m/2) aa]
    .show j<_;rcases bC hj with⟨d,hj⟩|⟨d,hj⟩
     .obtain⟨w,hw,hj⟩:=bS hj;cases hj;rw[ll] at hw;cases hw;exact CT _
     .cases hj;exact k3
  .rw[c,aM];cases hv;exact⟨_,rfl,rfl⟩
 obtain⟨q,h1,h2⟩:=Rv _ _ hst (a:=(a%PF,n,1)) ⟨rfl,CT a,hn,show 1<2305843009213693951 by decide⟩ hx;rw[h1,h2]
def DB:Nat->Nat->List Nat->Option Nat
 |s,_,[]=>some s
 |s,k,w::r=>(kE s k w).bind λs'=>DB s' (k+1) r
def Z4(s k w:Nat):Nat:=(37*s%PF+(w+(k+1))%PF)%PF
theorem CU{s k w:Nat}(hs:s<18446744073709551616)(hw:w<9223372036854775808)(hk:k<4611686018427387904):∃r,iK (Z4 s k w) 17=some r/\kE s k w=some r/\r<2305843009213693951:=by
 obtain⟨r,h1,h2⟩:=ka (Z4 s k w) (n:=17) a9;refine⟨r,h1,?_,h2⟩;have hp:Z4 s k w<2305843009213693951:=CT _;unfold kE;rw[nc a9 hs,aL];have e:wU ((w:Int)+((wU ((k:Int)+((1:Nat):Int)):Nat):Int))=w+(k+1):=by rw[me k 1,me,Nat.mod_eq_of_lt (show k+1<18446744073709551616 by omega),Nat.mod_eq_of_lt aa]
 have m1:=CT (37*s);have m2:=CT (w+(k+1));rw[e,du aa,aL,IQ aa aa,aL];exact nf (by show Z4 s k w<_;omega) a9 h1
theorem Vi:∀(l:List Nat) (s k:Nat),s<18446744073709551616->(∀w∈l,w<9223372036854775808)->k+l.length<4611686018427387904->T (DB s k l) λr=>r<18446744073709551616
 |[],s,k,hs,_,_=>⟨s,rfl,hs⟩
 |w::r,s,k,hs,hw,hk=>by simp only[List.length_cons] at hk;obtain⟨s',h1,h2,h3⟩:=CU (s:=s) (k:=k) (w:=w) hs (hw w aC) aa;unfold DB;exact .eqb h2 (Vi r s' (k+1) aa (λx hx=>hw x (by simp[hx])) aa)
theorem Au:∀(l m:List Nat) (s k:Nat),DB s k (l++m)=(DB s k l).bind λs'=>DB s' (k+l.length) m
 |[],m,s,k=>rfl
 |w::r,m,s,k=>by show(kE s k w).bind (λs'=>DB s' (k+1) (r++m))=((kE s k w).bind λs'=>DB s' (k+1) r).bind _;rw[Option.bind_assoc];congr 1;funext s';rw[Au r m s' (k+1),List.length_cons,Nat.add_assoc,Nat.add_comm 1]
def xi:List UInt8->Nat
 |[]=>0
 |x::r=>x.toNat+256*xi r
theorem Gy:∀l:List UInt8,xi l<256^l.length
 |[]=>a9
 |x::r=>by have:=Gy r;have:=x.toNat_lt;show x.toNat+256*xi r<256^(r.length+1);rw[Nat.pow_succ];omega
theorem MR:∀(l m:List UInt8),xi (l++m)=xi l+256^l.length*xi m
 |[],m=>by simp[xi]
 |x::r,m=>by show x.toNat+256*xi (r++m)=x.toNat+256*xi r+256^(r.length+1)*xi m;rw[MR r m,Nat.pow_succ,Nat.mul_add,Nat.mul_comm (256^r.length) 256,Nat.mul_assoc,Nat.add_assoc]
theorem WP{l:List UInt8}(h:l.length<=7):xi l<72057594037927936:=Nat.lt_of_lt_of_le (Gy l) (Nat.le_trans (Nat.pow_le_pow_right a9 h) a9)
def ws(b:List UInt8):List Nat:=match b with
 |[]=>[]
 |x::r=>xi ((x::r).take 7)::ws ((x::r).drop 7)
 termination_by b.length
 decreasing_by simp;omega
theorem Gz(h:0<b.length):ws b=xi (b.take 7)::ws (b.drop 7):=by
 cases b with
 |nil=>simp at h
 |cons x r=>rw[ws]
theorem vc:ws []=[]:=by rw[ws]
theorem CV:∀(n:Nat) (b:List UInt8),b.length<=n->(ws b).length<=b.length
 |0,b,h=>by obtain rfl:b=[]:=List.eq_nil_of_length_eq_zero aa;rw[vc];exact Nat.le_refl _
 |n+1,b,h=>by
  by_cases hb:0<b.length
  .rw[Gz hb,List.length_cons];have:=CV n (b.drop 7) (by rw[List.length_drop];omega);rw[List.length_drop] at this;omega
  .obtain rfl:b=[]:=List.eq_nil_of_length_eq_zero aa;rw[vc];exact Nat.le_refl _
theorem Rx:∀(n:Nat) (b:List UInt8),b.length<=n->∀w∈ws b,w<9223372036854775808
 |0,b,h,w,hw=>by obtain rfl:b=[]:=List.eq_nil_of_length_eq_zero aa;rw[vc] at hw;cases hw
 |n+1,b,h,w,hw=>by
  by_cases hb:0<b.length
  .rw[Gz hb] at hw;rcases List.mem_cons.1 hw with rfl|hw
   .have:=WP (l:=b.take 7) (by rw[List.length_take];omega);omega
   .exact Rx n (b.drop 7) (by rw[List.length_drop];omega) w hw
  .obtain rfl:b=[]:=List.eq_nil_of_length_eq_zero aa;rw[vc] at hw;cases hw
theorem WQ{a b k:Nat}(h:a<2^k):a|||b*2^k=a+b*2^k:=by have:=Nat.two_pow_add_eq_or_of_lt h b;rw[Nat.or_comm,Nat.mul_comm,<-this,Nat.add_comm]
theorem Zm(k:Nat):256^k=2^(8*k):=by rw[Nat.pow_mul]
theorem IR{q:List UInt8}(hq:q.length<=7):loop (oD q) (0,0)=some (xi q):=by
 refine T.eq (T.loop (λs=>∃i:Nat,s.2=(i:Int)/\i<=q.length/\s.1=xi (q.take i)) (λs=>q.length-s.2.toNat) ⟨0,rfl,aa,by simp[xi]⟩ (by show q.length-_<_;omega) ?_);rintro⟨w,j⟩ ⟨i,rfl,h2,rfl⟩;unfold oD;dsimp only;refine .dec (λh=>?_) λh=>?_
 .unfold ah at h;have hi:i<q.length:=aa;refine .bind (.ix aa (x:=q[i]) (by rw[Int.toNat_natCast,cv hi]) ?_);have e8:wI (8*(i:Int))=((8*i:Nat):Int):=by rw[bM aa aa];omega
  refine .bind (x:=wJ _) ⟨8*i,by rw[e8];unfold wJ;rw[if_neg aa];rfl,?_⟩;refine .some ⟨⟨i+1,aq aa,hi,?_⟩,?_⟩
  .show gM (xi (q.take i)) (fN (wU ((q[i].toNat:Nat):Int)) (8*i))=xi (q.take (i+1));have hx:=q[i].toNat_lt;have hl:=Gy (q.take i);rw[List.length_take,Nat.min_eq_left h2,Zm] at hl;have hp:(2:Nat)^(8*i)<=2^48:=Nat.pow_le_pow_right a9 aa;rw[List.take_succ_eq_append_getElem hi,MR,List.length_take,Nat.min_eq_left h2,Zm];unfold gM fN;rw[gP,Nat.min_eq_left (by omega:8*i<=64),Nat.mod_eq_of_lt (a:=q[i].toNat) aa];have hb:q[i].toNat*2^(8*i)<=255*2^48:=Nat.mul_le_mul aa hp;rw[Nat.mod_eq_of_lt (a:=xi (q.take i)) aa,Nat.mod_eq_of_lt (a:=q[i].toNat*2^(8*i)) aa,Nat.mod_eq_of_lt (a:=q[i].toNat*2^(8*i)) aa,WQ hl];show _=xi (q.take i)+2^(8*i)*(q[i].toNat+256*0);rw[Nat.mul_zero,Nat.add_zero,Nat.mul_comm]
  .show q.length-(wI ((i:Int)+1)).toNat<q.length-((i:Int)).toNat;rw[aq aa];omega
 .unfold ah at h;have hi:i=q.length:=aa;refine .some ?_;show xi (q.take i)=_;rw[hi,List.take_length]
theorem WR:iI 7 (n:Int)=((min 7 n:Nat):Int):=by unfold iI;omega
theorem yr(hb:b.length<=1099511627776)(hi:i<b.length):mc b (i:Int)=some (b.drop i)/\tq b (wI ((i:Int)+iI 7 (ah (b.drop i))))=some (b.take (i+min 7 (b.length-i)))/\mc (b.take (i+min 7 (b.length-i))) (i:Int)=some ((b.drop i).take 7)/\wI ((i:Int)+7)=((i+7:Nat):Int):=by
 refine⟨?_,?_,?_,?_⟩
 .unfold mc;rw[if_pos aa];rfl
 .unfold ah;rw[List.length_drop,WR,bM aa aa];unfold tq;rw[if_pos aa];congr 2
 .unfold mc;rw[if_pos ⟨aa,by rw[List.length_take];omega⟩,Int.toNat_natCast,List.drop_take];congr 1;rw[show i+min 7 (b.length-i)-i=min 7 (b.length-i) by omega];by_cases h:7<=b.length-i
  .rw[Nat.min_eq_left h]
  .rw[Nat.min_eq_right aa,List.take_of_length_le (by rw[List.length_drop];omega),List.take_of_length_le (by rw[List.length_drop];omega)]
 .rw[bM aa aa];omega
theorem Ry(hi:i<b.length):ws (b.drop i)=xi ((b.drop i).take 7)::ws (b.drop (i+7)):=by rw[Gz (by rw[List.length_drop];omega),List.drop_drop]
theorem Vj:((b.take 7)).length<=7:=by rw[List.length_take];omega
theorem WS(hb:b.length<=1099511627776){s r:Nat}(hk:k+b.length<4611686018427387904)(h:DB s k (ws b)=some r):loop (F1 b) ((s,k),0)=some (r,k+(ws b).length):=by
 refine T.eq (T.loop (λx=>∃i:Nat,x.2=(i:Int)/\i<=b.length+6/\x.1.2<=k+i/\DB x.1.1 x.1.2 (ws (b.drop i))=some r/\x.1.2+(ws (b.drop i)).length=k+(ws b).length) (λx=>b.length+7-x.2.toNat) ⟨0,rfl,aa,aC,h,rfl⟩ (by show b.length+7-_<_;omega) ?_);rintro⟨⟨s1,a⟩,z⟩ ⟨i,rfl,h2,h3,h4,h5⟩;dsimp only at h3 h4 h5;unfold F1;dsimp only;refine .dec (λh=>?_) λh=>?_
 .unfold ah at h;have hi:i<b.length:=aa;obtain⟨c1,c2,c3,c4⟩:=yr hb hi;rw[Ry hi] at h4 h5;refine .eqb c1 (.eqb c2 (.eqb c3 (.eqb (IR Vj) ?_)));unfold DB at h4;obtain⟨s',e1,e2⟩:=bS h4;refine .eqb e1 (.some ⟨⟨i+7,c4,aa,?_,?_,?_⟩,?_⟩)
  .show k1 a<=_;unfold k1;rw[me a 1,Nat.mod_eq_of_lt aa];omega
  .show DB s' (k1 a) _=_;unfold k1;rw[me a 1,Nat.mod_eq_of_lt aa];exact e2
  .show k1 a+_=_;unfold k1;rw[me a 1,Nat.mod_eq_of_lt aa,<-h5,List.length_cons];omega
  .show b.length+7-(wI ((i:Int)+7)).toNat<b.length+7-((i:Int)).toNat;rw[c4];omega
 .unfold ah at h;have e:b.drop i=[]:=List.drop_eq_nil_of_le aa;rw[e,vc] at h4 h5;refine .some ?_;show(s1,a)=_;rw[<-h5,<-bn h4];rfl
theorem OB(hb:b.length<=1099511627776):Cj b=some (ws b):=by
 have hln:=CV _ b (Nat.le_refl _);refine T.eq (T.loop (λx=>∃i:Nat,x.2=(i:Int)/\i<=b.length+6/\x.1++ws (b.drop i)=ws b) (λx=>b.length+7-x.2.toNat) ⟨0,rfl,aa,rfl⟩ (by show b.length+7-_<_;omega) ?_);rintro⟨a,z⟩ ⟨i,rfl,h2,h3⟩;dsimp only at h3;unfold xZ;dsimp only;refine .dec (λh=>?_) λh=>?_
 .unfold ah at h;have hi:i<b.length:=aa;obtain⟨c1,c2,c3,c4⟩:=yr hb hi;rw[Ry hi] at h3;have hl:=congrArg List.length h3;rw[List.length_append,List.length_cons] at hl;refine .eqb c1 (.eqb c2 (.eqb c3 (.eqb (IR Vj) (.bind (.app cq (.some ⟨⟨i+7,c4,aa,?_⟩,?_⟩))))))
  .rw[<-h3,List.append_assoc];rfl
  .show b.length+7-(wI ((i:Int)+7)).toNat<b.length+7-((i:Int)).toNat;rw[c4];omega
 .unfold ah at h;have e:b.drop i=[]:=List.drop_eq_nil_of_le aa;rw[e,vc,List.append_nil] at h3;exact .some h3
theorem zq(hb:b.length<=1099511627776):lr b=some (ws b):=by
 have hln:=CV _ b (Nat.le_refl _);unfold lr;refine T.eq (.bind (T.loop (λx=>∃i:Nat,x.2=(i:Int)/\i<=b.length+6/\x.1++ws (b.drop i)=ws b) (λx=>b.length+7-x.2.toNat) ⟨0,rfl,aa,rfl⟩ (by show b.length+7-_<_;omega) ?_));rintro⟨c,z⟩ ⟨i,rfl,h2,h3⟩;dsimp only at h3;unfold qh;dsimp only;refine .dec (λh=>?_) λh=>?_
 .unfold ah at h;have hi:i<b.length:=aa;have c4:=(yr hb hi).2.2.2;rw[Ry hi] at h3;have hl:=congrArg List.length h3;rw[List.length_append,List.length_cons] at hl;generalize hq:(b.drop i).take 7=q at h3;have hq7:q.length=min 7 (b.length-i):=by rw[<-hq,List.length_take,List.length_drop]
  have em:iI (ah b) (((i+7:Nat):Int))=((i+q.length:Nat):Int):=by unfold iI ah;omega
  have inner:loop (my b (c,(i:Int))) (0,wI (iI (ah b) (wI ((i:Int)+7))-1))=some (xi q):=by
   rw[c4,em,bM aa aa];refine T.eq (T.loop (λx=>∃j:Nat,x.2=((i+j:Nat):Int)-1/\j<=q.length/\x.1=xi (q.drop j)) (λx=>(x.2+1-i).toNat) ⟨q.length,aC,Nat.le_refl _,by rw[List.drop_length];rfl⟩ (by show(_-1+1-_:Int).toNat<_;omega) ?_);rintro⟨w,y⟩ ⟨j,rfl,f,rfl⟩;unfold my;dsimp only;refine .dec (λd=>?_) λd=>?_
   .have hj:0<j:=aa;have hjq:j-1<q.length:=aa;have hx:b[i+(j-1)]?=some q[j-1]:=by rw[<-cv hjq,<-hq,List.getElem?_take,if_pos aa,List.getElem?_drop]
    refine .bind (.ix aa (x:=q[j-1]) (by rw[<-hx];congr 1;omega) (.some ⟨⟨j-1,?_,aa,?_⟩,?_⟩))
    .show wI _=_;rw[bM aa aa];omega
    .show wU (((wU (((xi (q.drop j):Nat):Int)*((256:Nat):Int)):Nat):Int)+((wU ((q[j-1].toNat:Nat):Int):Nat):Int))=xi (q.drop (j-1));rw[List.drop_eq_getElem_cons hjq,show j-1+1=j by omega];show _=q[j-1].toNat+256*xi (q.drop j);have h6:=Gy (q.drop j);rw[List.length_drop] at h6;have h7:(256:Nat)^(q.length-j)<=256^6:=Nat.pow_le_pow_right a9 aa;have hx:=q[j-1].toNat_lt;rw[K6,gP q[j-1].toNat,me,Nat.mod_eq_of_lt (a:=xi (q.drop j)*256) aa,Nat.mod_eq_of_lt (a:=q[j-1].toNat) aa,Nat.mod_eq_of_lt aa];omega
    .show(wI _+1-_:Int).toNat<_;rw[bM aa aa];show _<(((i+j:Nat):Int)-1+1-i).toNat;omega
   .obtain rfl:j=0:=aa;exact .some rfl
  refine .eqb inner (.bind (.app cq (.some ⟨⟨i+7,c4,aa,?_⟩,?_⟩)))
  .rw[<-h3,List.append_assoc];rfl
  .show b.length+7-(wI ((i:Int)+7)).toNat<b.length+7-((i:Int)).toNat;rw[c4];omega
 .unfold ah at h;have e:b.drop i=[]:=List.drop_eq_nil_of_le aa;rw[e,vc,List.append_nil] at h3;exact .some (.some h3)
theorem WT{l:List Nat}(hl:l.length<=1099511627776)(hw:∀w∈l,w<18446744073709551616){s r:Nat}(hk:k+l.length<4611686018427387904)(h:DB s k (l.map (·%PF))=some r):loop (F3 l) ((s,k),0)=some (r,k+l.length):=by
 refine T.eq (T.loop (λx=>∃i:Nat,x.2=(i:Int)/\i<=l.length/\x.1.2=k+i/\DB x.1.1 x.1.2 ((l.drop i).map (·%PF))=some r) (λx=>l.length-x.2.toNat) ⟨0,rfl,aa,aC,h⟩ (by show l.length-_<_;omega) ?_);rintro⟨⟨s1,a⟩,z⟩ ⟨i,rfl,h2,h3,h4⟩;dsimp only at h3 h4;subst h3;unfold F3;dsimp only;refine .dec (λh=>?_) λh=>?_
 .unfold ah at h;have hi:i<l.length:=aa;rw[List.drop_eq_getElem_cons hi,List.map_cons] at h4;unfold DB at h4;obtain⟨s',e1,e2⟩:=bS h4;refine .bind (.ix aa (x:=l[i]) (by rw[Int.toNat_natCast,cv hi]) ?_);refine .eqb (du (hw _ (List.getElem_mem hi))) (.eqb e1 (.some ⟨⟨i+1,aq aa,hi,?_,?_⟩,?_⟩))
  .show k1 (k+i)=_;unfold k1;rw[me (k+i) 1,Nat.mod_eq_of_lt aa];omega
  .show DB s' (k1 (k+i)) _=_;unfold k1;rw[me (k+i) 1,Nat.mod_eq_of_lt aa];exact e2
  .show l.length-(wI ((i:Int)+1)).toNat<l.length-((i:Int)).toNat;rw[aq aa];omega
 .unfold ah at h;obtain rfl:i=l.length:=aa;rw[List.drop_length] at h4;refine .some ?_;show(s1,k+l.length)=_;rw[<-bn h4]
theorem TT{s w:Nat}(hs:s<18446744073709551616)(hw:w<9223372036854775808)(hk:k<4611686018427387904){r:Nat}(h:kE s k w=some r):((oQ 37 s).bind λa=>(qi w (k+1)).bind λb=>(qi a b).bind λc=>iK c 17)=some r:=by obtain⟨r',h1,h2,_⟩:=CU hs hw hk;rw[h] at h2;cases h2;rw[ll,aL,yq,aL,yq,aL];exact h1
theorem K7{l:List Nat}(hl:l.length<=2199023255552)(hw:∀w∈l,w<9223372036854775808){s r:Nat}(hs:s<18446744073709551616)(h:DB s 0 l=some r):loop (qj l) (s,0)=some r:=by
 refine T.eq (T.loop (λx=>∃i:Nat,x.2=(i:Int)/\i<=l.length/\x.1<18446744073709551616/\DB x.1 i (l.drop i)=some r) (λx=>l.length-x.2.toNat) ⟨0,rfl,aa,hs,h⟩ (by show l.length-_<_;omega) ?_);rintro⟨s1,z⟩ ⟨i,rfl,h2,h3,h4⟩;dsimp only at h3 h4;unfold qj;dsimp only;refine .dec (λh=>?_) λh=>?_
 .unfold ah at h;have hi:i<l.length:=aa;rw[List.drop_eq_getElem_cons hi] at h4;unfold DB at h4;obtain⟨s',e1,e2⟩:=bS h4;have a:=hw _ (List.getElem_mem hi);obtain⟨r',_,e3,e4⟩:=CU h3 a (show i<4611686018427387904 by omega);rw[e1] at e3;cases e3;have key:=TT h3 a aa e1;have ek:wU (wI ((i:Int)+1))=i+1:=by rw[aq aa,gP];omega
  rw[ek];obtain⟨b,m1,key⟩:=bS key;obtain⟨c,m2,key⟩:=bS key;obtain⟨d,e,key⟩:=bS key;refine .eqb m1 (.bind (.ix aa (x:=l[i]) (by rw[Int.toNat_natCast,cv hi]) (.eqb m2 (.eqb e (.eqb key (.some ⟨⟨i+1,aq aa,hi,by show s'<_;omega,e2⟩,?_⟩))))));show l.length-(wI ((i:Int)+1)).toNat<l.length-((i:Int)).toNat;rw[aq aa];omega
 .unfold ah at h;obtain rfl:i=l.length:=aa;rw[List.drop_length] at h4;refine .some ?_;show s1=r;exact bn h4
theorem K8{l v:List Nat}(hv:v.length+l.length<=2199023255552):loop (qk l) (v,0)=some (v++l.map (·%PF)):=by
 refine T.eq (T.loop (λx=>∃i:Nat,x.2=(i:Int)/\i<=l.length/\x.1=v++(l.take i).map (·%PF)) (λx=>l.length-x.2.toNat) ⟨0,rfl,aa,aC⟩ (by show l.length-_<_;omega) ?_);rintro⟨a,z⟩ ⟨i,rfl,h2,rfl⟩;unfold qk;dsimp only;refine .dec (λh=>?_) λh=>?_
 .unfold ah at h;have hi:i<l.length:=aa;refine .bind (.ix aa (x:=l[i]) (by rw[Int.toNat_natCast,cv hi]) (.bind (.app cq (.some ⟨⟨i+1,aq aa,hi,?_⟩,?_⟩))))
  .show(v++_)++[l[i]%PF]=_;rw[List.take_succ_eq_append_getElem hi,List.map_append,List.append_assoc];rfl
  .show l.length-(wI ((i:Int)+1)).toNat<l.length-((i:Int)).toNat;rw[aq aa];omega
 .unfold ah at h;obtain rfl:i=l.length:=aa;rw[List.take_length];exact .some rfl
theorem ET{label:List UInt8}{l:List Nat}(h1:label.length<=1000)(h2:l.length<=1099511627776)(hw:∀w∈l,w<18446744073709551616):T (x6 label l) λr=>yA label l=some r/\r<18446744073709551616:=by
 have hln:=CV _ label (Nat.le_refl _);have hwl:∀w∈ws label++[l.length]++l.map (·%PF)++[0],w<9223372036854775808:=λw hm=>by
  simp only[List.mem_append,List.mem_singleton,List.mem_map] at hm;rcases hm with((hm|rfl)|⟨x,_,rfl⟩)|rfl
  .exact Rx _ label (Nat.le_refl _) w hm
  .omega
  .have:=CT x;omega
  .decide
 obtain⟨r,e,hr⟩:=Vi (ws label++[l.length]++l.map (·%PF)++[0]) label.length 0 aa hwl cq;have ew:wU (ah label)=label.length:=by unfold ah;rw[gP];omega
 have el':wU (ah l)=l.length:=by unfold ah;rw[gP];omega
 have eb:Gk label=some label:=by unfold Gk;rw[if_pos aa]
 refine⟨r,?_,?_,hr⟩
 .have e:=e;rw[Au,Au,Au] at e;obtain⟨a3,e,b⟩:=bS e;obtain⟨a2,e,f2⟩:=bS e;obtain⟨a1,e,f1⟩:=bS e;unfold x6;rw[eb,aL,ew,el',WS aa aa e,aL];have f1':kE a1 (0+(ws label).length) l.length=some a2:=by unfold DB at f1;obtain⟨q,q1,a⟩:=bS f1;rw[q1];exact a
  dsimp only;rw[f1',aL];have ek:k1 (0+(ws label).length)=0+(ws label++[l.length]).length:=by unfold k1;rw[me _ 1,Nat.mod_eq_of_lt aa,List.length_append];simp
  rw[ek,WT h2 hw cq f2,aL];dsimp only;unfold DB at b;obtain⟨q,q1,a⟩:=bS b;rw[show 0+(ws label++[l.length]).length+l.length=0+(ws label++[l.length]++l.map (·%PF)).length by simp;omega,q1];exact a
 .unfold yA;rw[eb,aL,zq aa,aL,el',ew];have a1:aT 8 (ws label) [l.length]=some (ws label++[l.length]):=by unfold aT;rw[if_pos cq]
  rw[a1,aL,K8 cq,aL];have a2:aT 8 (ws label++[l.length]++l.map (·%PF)) [0]=some (ws label++[l.length]++l.map (·%PF)++[0]):=by unfold aT;rw[if_pos cq]
  rw[a2,aL,K7 cq hwl aa e,aL]
theorem xe{label b:List UInt8}(h1:label.length<=1000)(h2:b.length<=1073741824):T (lk label b) λr=>jI label b=some r/\r<18446744073709551616:=by
 have hln:=CV _ b (Nat.le_refl _);unfold lk jI;rw[OB aa,aL,zq aa,aL];have el':wU (ah b)=b.length:=by unfold ah;rw[gP];omega
 have a1:aT 8 (ws b) [b.length]=some (ws b++[b.length]):=by unfold aT;rw[if_pos cq]
 rw[el',a1,aL,aL];refine(ET h1 cq λw hw=>?_).mono λr hr=>⟨by rw[hr.1,aL],hr.2⟩;simp only[List.mem_append,List.mem_singleton] at hw;rcases hw with hw|rfl
 .have:=Rx _ b (Nat.le_refl _) w hw;omega
 .omega
theorem TU(h:SmOp o):T (Rs o) λi=>pV o=some i:=by obtain⟨i,e,e1,e2,e3,_⟩:=wN h;obtain⟨v,f1,f2,_⟩:=xe (label:=[111,112]) (b:=qc o) a9 (by have:=yY h;omega);refine⟨i,?_,e⟩;unfold Rs;rw[f1,aL];rw[f2] at e3;cases e3;rw[<-e1,<-e2]
section
attribute [local irreducible] Tr dz Gp
def mg(a:Nat):Option Nat:=
 (j7 37 a).bind λb=>some b
theorem yv{r:Nat}(h:mg a=some r):ba prog gl 11 [uG a] (uG r):=by unfold mg at h;refine Gh func11 ?_;obtain⟨b,e2,h⟩:=bS h;obtain rfl:=bn h;exact Ar [hf 4 (mX gl e2)] []
def xh(pub:Nat)(d:Nat)(b:List UInt8):Option (Nat×Nat):=
 (lk [115,105,103,110,101,100] b).bind λa=>(x6 [115,105,103] ([d,pub,a]:List Nat)).bind λc=>some (a,c)
theorem I7{r_:Nat}{r:Nat×Nat}(h:xh pub r_ b=some r):ba prog gl 267 [uG pub,uG r_,aE cY b] (.tup [uG r.1,uG r.2]):=by unfold xh at h;refine Gh func267 ?_;obtain⟨a,e2,h⟩:=bS h;obtain⟨c,e4,h⟩:=bS h;obtain rfl:=bn h;exact Ar [hf 9 (xd gl e2),hq 15 [sG [115,105,103],aE cW ([r_,pub,a]:List Nat)] [hc (rW.al ([r_,pub,a]:List Nat))] (ES gl e4)] []
def lq(pub:Nat)(b:List UInt8)(s:DSig):Option Bool:=
 ((iB pub 1 2305843009213693950).bind λa=>bif(!a) then(some true) else((iB s.R 1 2305843009213693950).bind λc=>bif(!c) then(some true) else((iB s.S 0 2305843009213693949).bind λd=>some (!d)))).bind λg=>bif g then(some false) else((xh pub s.R b).bind λh=>(j7 37 s.S).bind λi=>(j7 pub h.2).bind λe=>(jZ s.R e).bind λf=>some (decide ((i:Int)=(f:Int))))
theorem GF{s:DSig}{r:Bool}(h:lq pub b s=some r):ba prog gl 172 [uG pub,aE cY b,.agg (yy s)] (bG r):=by
 unfold lq at h;refine Gh func172 ?_;refine pO 11100 (s0 46 gl [(0,uG pub),(1,aE cY b),(5,.ref 0 0),(7,.clo (.func 266) [] [])] [ob 0 97 (yy s)] 1 0) [] [hc (aG 20 (.clo (.func 266) [] []) aH)] ?_;obtain⟨k,e4,h⟩:=bS h;refine Ix 11100 (s0 46 gl [(0,uG pub),(1,aE cY b),(5,.ref 0 0),(27,bG k)] [ob 0 97 (yy s)] 1 0) ?_ λj=>?_
 .rcases bC h with⟨b5,h⟩|⟨b5,h⟩
  .rw[b5];obtain rfl:=bn h;exact Ar [] []
  .rw[b5];obtain⟨q,e7,h⟩:=bS h;obtain⟨t,e9,h⟩:=bS h;obtain⟨l,f,h⟩:=bS h;obtain⟨m,g,h⟩:=bS h;obtain rfl:=bn h;exact Ar [hf 33 (I7 gl e7),hf 38 (mX gl e9),hf 43 (mX gl f),hf 44 (j0 gl g)] []
 obtain⟨n,c,e4⟩:=bS e4;rcases bC e4 with⟨a,e4⟩|⟨a,e4⟩
 .obtain rfl:=bn e4;exact yl 11100 [hf 12 (eS gl c),hr 13 a] [] j
 .obtain⟨o,e,e4⟩:=bS e4;rcases bC e4 with⟨d,e4⟩|⟨d,e4⟩
  .obtain rfl:=bn e4;exact yl 11100 [hf 12 (eS gl c),hr 13 a,hf 18 (eS gl e),hr 20 d] [] j
  .obtain⟨p,i,e4⟩:=bS e4;obtain rfl:=bn e4;exact yl 11100 [hf 12 (eS gl c),hr 13 a,hf 18 (eS gl e),hr 20 d,hf 25 (eS gl i)] [] j
end
section
variable {P:Program} {l:List Oper} {cx:Cx} {Q:Exit->Act->World->Prop}
abbrev Dn:=Nat->Bool
def dn(L:Array Bool):Dn:=λi=>L.getD i false
def Dn.add(D:Dn)(j:Nat):Dn:=λi=>if j=i then true else D i
theorem PS{I:Dn->St->Prop}(hg:∀(j:Nat) (o:Oper),l[j]?=some o->o.guard=none)
  (hed:∀(j:Nat) (o:Oper),l[j]?=some o->∀e∈o.after,Region.binds .any e=true->e.on<j)
  (hs:∀(D:Dn) (s:St) (j:Nat) (o:Oper),I D s->l[j]?=some o->D j=false->(∀e∈o.after,Region.binds .any e=true->D e.on=true)->th P o s (λs'=>I (D.add j) s'))
  (hq:∀D s a w,I D s->(∀j,j<l.length->D j=true)->mh P cx s a w->Q .normal a w):
  ∀(fuel:Nat) (L:Array Bool) (a:Act) (w:World) (s:St),L.toList.count false<=fuel->L.size=l.length->I (dn L) s->mh P cx s a w->wpAnyIn cx.F cx.nn P .any l.toArray Q fuel L a w:=by
 have empty:∀(L:Array Bool),L.size=l.length->Region.ready .any l.toArray L=[]->∀j,j<l.length->L.getD j false=true:=by
  intro L hsz hr j;induction j using Nat.strongRecOn with
  |_ j ih=>
   intro hj;cases h:L.getD j false with
   |true=>rfl
   |false=>
    have:j∈Region.ready .any l.toArray L:=by
     rw[mem_ready];have ho:l[j]?=some (l[j]'hj):=cv hj;refine⟨?_,l[j]'hj,aC,λe he hbe=>?_⟩
     .have hs:j<L.size:=by rw[hsz];exact hj
      simp[hs] at h⊢;exact h
     .have:=hed j _ ho e he hbe;exact ih e.on this aa
    rw[hr] at this;cases this
 intro fuel
 induction fuel with
 |zero=>
  intro L a w s hc hsz hI R
  have hall:∀j,j<l.length->L.getD j false=true:=by
   intro j hj;have hs:j<L.size:=by rw[hsz];exact hj
   have h0:L.toList.count false=0:=aa;rw[List.count_eq_zero] at h0;cases h:L.getD j false with
   |true=>rfl
   |false=>simp[hs] at h;exact absurd (by rw[<-h];simp:false∈L.toList) h0
  refine⟨?_,hq _ s a w hI hall R⟩
  cases hr:Region.ready .any l.toArray L with
  |nil=>rfl
  |cons x xs=>
   have hx:x∈Region.ready .any l.toArray L:=by rw[hr];simp
   obtain⟨h1,o,ho,_⟩:=mem_ready.1 hx
   have hxl:x<l.length:=by have:=(Array.getElem?_eq_some_iff.1 ho).1;simpa using this
   have hs:x<L.size:=by rw[hsz];exact hxl
   have:=hall x hxl
   simp[hs] at h1 this
   rw[h1] at this;cases this
 |succ fuel ih=>
  intro L a w s hc hsz hI R
  refine⟨λhr=>hq _ s a w hI (empty L hsz hr) R,λj hj=>?_⟩
  obtain⟨h1,o,ho',hr⟩:=mem_ready.1 hj
  have ho:l[j]?=some o:=by simpa using ho'
  have hjl:=(cr ho).1
  have hs':j<L.size:=by rw[hsz];exact hjl
  have hL:L.getD j false=false:=by simp[hs'] at h1⊢;exact h1
  have hcnt:(L.setIfInBounds j true).toList.count false<=fuel:=by have:=om L.toList j (by simp[hs'] at h1;simp[hs',h1]);rw[Array.toList_setIfInBounds];omega
  have hD:dn (L.setIfInBounds j true)=(dn L).add j:=by funext i;exact cI hs'
  unfold wpOpIn
  simp only[ho']
  obtain⟨β,c⟩:=R
  have hw:ce s l.toArray o=some true:=by unfold ce;rw[hg j o ho]
  rw[if_pos (cT c hw)]
  refine hs (dn L) s j o hI ho hL hr cx a w _ Q ⟨β,c⟩ λs' b d w' r'=>?_
  exact ih _ d w' s' hcnt (by simp[hsz]) (by rw[hD];exact b) r'
theorem Do{id:Nat}{Q:Exit->St->Prop}(hm:P.follows .mixedOrders=true)(I:Dn->St->Prop)(hg:∀(j:Nat) (o:Oper),l[j]?=some o->o.guard=none)
  (hed:∀(j:Nat) (o:Oper),l[j]?=some o->∀e∈o.after,Region.binds .any e=true->e.on<j) (h0:I (λ_=>false) st)
  (hs:∀(D:Dn) (s:St) (j:Nat) (o:Oper),I D s->l[j]?=some o->D j=false->(∀e∈o.after,Region.binds .any e=true->D e.on=true)->th P o s (λs'=>I (D.add j) s'))
  (hq:∀D s,I D s->(∀j,j<l.length->D j=true)->Q .normal s):Tr P (.region id l.toArray true) st Q:=λcx a w R ⟨β,r⟩ k=>by
 refine wpIn_region_any hm ?_
 have hr:RelB P cx st a {w with drawn:=w.drawn+1} β:=r.world ⟨rfl,rfl,rfl,Nat.le_refl _,λ_ _ _=>rfl,Nat.le_succ _⟩
 have hno:dn (Array.replicate l.toArray.size false)=λ_=>false:=by
  funext i;show(Array.replicate l.toArray.size false).getD i false=false;rw[Array.getD_eq_getD_getElem?];cases hx:(Array.replicate l.toArray.size false)[i]? with
  |none=>rfl
  |some b=>rw[Array.getElem?_replicate] at hx;split at hx<;>cases hx;rfl
 refine PS (cx:=cx) (I:=I) hg hed hs (λD s c w' hI hall r'=>k .normal s c w' (hq D s hI hall) r') _ _ _ _ st ?_ aC (by rw[hno];exact h0) ⟨β,hr⟩
 simp
end
section
variable {P:Program}
abbrev Yb:=List (FuncId×List G×G)
def HE(T:Yb)(rest:pW):pW:=λfid gs gl=>match T with
 |[]=>rest fid gs gl
 |q::r=>bif Nat.beq q.1 fid&&fe (Sh 12) q.2.1 gs then some q.2.2 else HE r rest fid gs gl
theorem VC{gl:List (Nat×List G)}{f:FuncId}{r:G}(h:ba P [] f gs r):ba P gl f gs r:=λw S vs hS _ hsz a=>h w S vs hS (λ_ _ h=>by cases h) hsz a
theorem BB{rest:pW}(hr:dD P rest):∀{T:Yb},(∀q∈T,ba P [] q.1 q.2.1 q.2.2/\zD q.2.2/\aK P q.1=true)->dD P (HE T rest)
 |[],_,fid,gs,gl,r,h=>hr fid gs gl r h
 |q::T,hT,fid,gs,gl,r,h=>by
  unfold HE at h;cases hc:(Nat.beq q.1 fid&&fe (Sh 12) q.2.1 gs) with
  |true=>rw[hc] at h;simp only[bA] at hc;cases h;have e1:=bc hc.1;have e2:=bi (lK 12) hc.2;subst e1;subst e2;obtain⟨a,b,c⟩:=hT q aC;exact⟨VC a,b,c⟩
  |false=>rw[hc] at h;exact BB hr (λd hq=>hT d (by simp[hq])) fid gs gl r h
noncomputable def SP(P:Program)(E:XEnv)(k:Nat)(q:FuncId×List G×G):Bool:=match Bc P E (Ht P E k) q.1 q.2.1 [] with
 |some r=>Sh 12 r q.2.2
 |none=>false
theorem PP(hm:P.follows .mixedOrders=true)(ht:dD P E.tp)(hk:gI P E){T:Yb}(h:T.all (SP P E k)=true):∀q∈T,ba P [] q.1 q.2.1 q.2.2/\zD q.2.2/\aK P q.1=true:=λq hq=>by
 have:=List.all_eq_true.1 h q hq;unfold SP at this;split at this
 .rename_i r hr;rw[<-lK 12 _ _ this];exact xB (rc hm ht hk k).toRunOk ht _ _ _ _ hr
 .cases this
end
section
variable {P:Program}
structure KE where
 f:FuncId
 gs:List G
 σ:aQ
 c:Nat
 l:List XR
def Mh(a:List (Nat×List G)):List KE->FuncId->List G->List (Nat×List G)->aQ->Nat->Option (List XR)
 |[],_,_,_,_,_=>none
 |q::r,fid,gs,gl,σ,c=>bif dE (Nat.beq q.c c) (dE (Nat.beq q.f fid) (dE (fe (iF 16) q.gs gs) (dE (fe (re 16) q.σ σ) (fe (PB 16) a gl)))) then some q.l else Mh a r fid gs gl σ c
noncomputable def NP(P:Program)(E:XEnv)(a:List (Nat×List G))(k:Nat)(q:KE):Bool:=match ra P (Ht P E k) q.f q.gs a q.σ q.c with
 |some l=>fe (PC 16) l q.l
 |none=>false
structure KF where
 f:FuncId
 gs:List G
 R:List Nat
 σ:aQ
 c:Nat
 g:G
 U:aQ
 c':Nat
def KF.x(q:KF):XF:=(q.g,q.U,q.R,true,q.c')
def Mi(a:List (Nat×List G)):List KF->FuncId->List G->List (Nat×List G)->List Nat->aQ->Nat->Option XF
 |[],_,_,_,_,_,_=>none
 |q::r,fid,gs,gl,R,σ,c=>bif dE (Nat.beq q.c c) (dE (Nat.beq q.f fid) (dE (fe (iF 16) q.gs gs) (dE (Bn q.R R) (dE (fe (re 16) q.σ σ) (fe (PB 16) a gl))))) then some q.x else Mi a r fid gs gl R σ c
def Yi(k:Nat)(x:XF)(q:KF):Bool:=dE (Nat.beq x.2.2.2.2 q.c') (dE (iF k x.1 q.g) (dE (fe (re k) x.2.1 q.U) (dE (Bn x.2.2.1 q.R) x.2.2.2.1)))
theorem NQ{x:XF}{q:KF}(h:Yi k x q=true):x=q.x:=by obtain⟨h1,h2⟩:=aZ h;obtain⟨h2,h3⟩:=aZ h2;obtain⟨h3,h4⟩:=aZ h3;obtain⟨h4,h5⟩:=aZ h4;exact Prod.ext (cc k _ _ h2) (Prod.ext (bi (λ_ _=>jS) h3) (Prod.ext (rf h4) (Prod.ext h5 (bc h1))))
noncomputable def Td(P:Program)(E:XEnv)(a:List (Nat×List G))(k:Nat)(q:KF):Bool:=match mK P (Ht P E k) q.f q.gs a q.R q.σ q.c with
 |some x=>Yi 16 x q
 |none=>false
def NR(P:Program)(a:List (Nat×List G))(q:KE):Prop:=∃run,RunOk P run/\ra P run q.f q.gs a q.σ q.c=some q.l
def Te(P:Program)(a:List (Nat×List G))(q:KF):Prop:=Qt P q.f q.gs a q.R q.σ q.c q.x
def lS(pf:FuncId->Bool)(tp:pW)(a:List (Nat×List G))(T:List KE)(U:List KF):XEnv:={pf:=pf,tp:=tp,kc:=Mh a T,kcF:=Mi a U}
theorem lT{pf:FuncId->Bool}{tp:pW}{T:List KE}{U:List KF}(h:∀q∈T,NR P gl0 q)(h':∀q∈U,Te P gl0 q):gI P (lS pf tp gl0 T U):=by
 refine⟨λfid gs gl σ c l hl=>?_,λfid gs gl R σ c x hl=>?_⟩
 .replace hl:Mh gl0 T fid gs gl σ c=some l:=hl;clear h';induction T with
  |nil=>cases hl
  |cons q r ih=>
   unfold Mh at hl;cases hc:dE (Nat.beq q.c c) (dE (Nat.beq q.f fid) (dE (fe (iF 16) q.gs gs) (dE (fe (re 16) q.σ σ) (fe (PB 16) gl0 gl)))) with
   |true=>rw[hc] at hl;cases hl;obtain⟨h1,h2⟩:=aZ hc;obtain⟨h2,h3⟩:=aZ h2;obtain⟨h3,h4⟩:=aZ h3;obtain⟨h4,h5⟩:=aZ h4;rw[<-bc h1,<-bc h2,<-bi (cc 16) h3,<-bi (λ_ _=>jS) h4,<-bi (λ_ _=>DY) h5];exact h q aC
   |false=>rw[hc] at hl;exact ih (λa hq=>h a (by simp[hq])) hl
 .replace hl:Mi gl0 U fid gs gl R σ c=some x:=hl;clear h;induction U with
  |nil=>cases hl
  |cons q r ih=>
   unfold Mi at hl;cases hc:dE (Nat.beq q.c c) (dE (Nat.beq q.f fid) (dE (fe (iF 16) q.gs gs) (dE (Bn q.R R) (dE (fe (re 16) q.σ σ) (fe (PB 16) gl0 gl))))) with
   |true=>rw[hc] at hl;cases hl;obtain⟨h1,h2⟩:=aZ hc;obtain⟨h2,h3⟩:=aZ h2;obtain⟨h3,h4⟩:=aZ h3;obtain⟨h4,h5⟩:=aZ h4;obtain⟨h5,h6⟩:=aZ h5;rw[<-bc h1,<-bc h2,<-bi (cc 16) h3,<-rf h4,<-bi (λ_ _=>jS) h5,<-bi (λ_ _=>DY) h6];exact h' q aC
   |false=>rw[hc] at hl;exact ih (λa hq=>h' a (by simp[hq])) hl
theorem Aj(hm:P.follows .mixedOrders=true)(ht:dD P E.tp)(hk:gI P E){q:KE}(h:NP P E gl0 k q=true):NR P gl0 q:=by
 unfold NP at h;split at h
 .rename_i l hl;have e:=bi (f:=PC 16) (λ_ _=>DZ) h;exact⟨_,(rc hm ht hk k).toRunOk,by rw[<-e];exact hl⟩
 .cases h
theorem Mj(hm:P.follows .mixedOrders=true)(ht:dD P E.tp)(hk:gI P E){q:KF}(h:Td P E gl0 k q=true):Te P gl0 q:=by
 unfold Td at h;split at h
 .rename_i x hx;exact NS (rc hm ht hk k).toRunOk (by rw[hx,NQ h])
 .cases h
end
section
variable {P:Program}
def rk(o:Oper)(t:Tmp):Bool:=match o.dst with
 |some d=>Nat.beq d t
 |none=>false
theorem xJ{o:Oper}{t:Tmp}:rk o t=true↔o.dst=some t:=by
 unfold rk;split
 .rename_i d hd;rw[hd];exact⟨(λh=>by rw[bc h]),(λh=>by cases h;exact Nat.beq_refl _)⟩
 .rename_i hd;rw[hd];exact⟨(λh=>by cases h),(λh=>by cases h)⟩
def PT(l:List Oper)(i:Nat)(t:Tmp):Bool:=match l[i]? with
 |some o=>rk o t
 |none=>false
theorem JY{l:List Oper}{t:Tmp}(h:PT l i t=true):bX l i=some t:=by
 unfold PT at h;split at h
 .rename_i o ho;simp[bX,ho,xJ.1 h]
 .cases h
def rl(o:Oper):Option Value:=match o.op with
 | .insert _ _ (.const k) _=>some k
 |_=>none
def Fx(d:TypeDesc)(a b:Value):Bool:=match Instr.sameNow d a b with
 |some false=>true
 |_=>false
theorem yN{d:TypeDesc}{a b:Value}(h:Fx d a b=true):Instr.sameNow d a b=some false:=by
 unfold Fx at h;split at h
 .assumption
 .cases h
def LY(d:TypeDesc)(o a:Oper):Bool:=match rl o,rl a with
 |some k,some k'=>Fx d k k'&&Fx d k' k
 |_,_=>true
def rn(d:TypeDesc):List Oper->Bool
 |[]=>true
 |o::r=>r.all (LY d o)&&rn d r
theorem tD{d:TypeDesc}:∀{l:List Oper},rn d l=true->∀(i j:Nat) (o a:Oper) (k k':Value),i≠j->l[i]?=some o->l[j]?=some a->rl o=some k->rl a=some k'->Instr.sameNow d k k'=some false
 |[],_,i,j,o,a,k,k',_,h,_,_,_=>by cases h
 |x::r,h,i,j,o,a,k,k',hne,hi,hj,hk,hk'=>by
  simp only[rn,bA] at h;have key:∀(i:Nat) (a:Oper) (k k':Value),r[i]?=some a->rl x=some k->rl a=some k'->Instr.sameNow d k k'=some false/\Instr.sameNow d k' k=some false:=by intro i a k k' hi hk hk';have:=List.all_eq_true.1 h.1 a (bO hi);unfold LY at this;rw[hk,hk'] at this;simp only[bA] at this;exact⟨yN this.1,yN this.2⟩
  cases i with
  |zero=>
   cases j with
   |zero=>exact absurd rfl hne
   |succ j=>simp only[List.getElem?_cons_zero,bg] at hi;subst hi;exact(key j a k k' (by simpa using hj) hk hk').1
  |succ i=>
   cases j with
   |zero=>simp only[List.getElem?_cons_zero,bg] at hj;subst hj;exact(key i o k' k (by simpa using hi) hk' hk).2
   |succ j=>exact tD h.2 i j o a k k' aa (by simpa using hi) (by simpa using hj) hk hk'
def BD:List Oper->Bool
 |[]=>true
 |o::r=>(match o.dst with
  |some d=>r.all λa=> !rk a d
  |none=>true)&&BD r
def PU(l:List Oper)(o:Oper):Operand->Bool
 | .tmp t=>(o.after.toList.any λe=>Region.binds .any e&&PT l e.on t)||l.all λa=> !rk a t
 |_=>true
def wh(o:Oper):Nat->Bool
 |0=>true
 |n+1=>p8 o n&&wh o n
theorem tE{o:Oper}:∀{n:Nat},wh o n=true->∀i,i<n->p8 o i=true
 |n+1,h,i,hi=>by
  simp only[wh,bA] at h;rcases Nat.lt_or_ge i n with h1|h1
  .exact tE h.2 i h1
  .obtain rfl:i=n:=aa;exact h.1
def VD(P:Program)(n:Nat)(T kt:TypeId)(l:List Oper)(N1:Nat)(j:Nat)(o:Oper):Bool:=
 o.guard.isNone&&(o.after.toList.all λe=> !Region.binds .any e||Nat.blt e.on j)&&pj n o.dst&&(o.op.operands.toList.all (PU l o))&&(match o.op with
 | .makeMap t none=>Nat.beq j 0&&Nat.beq t T&&o.dst.isSome
 | .insert t _ (.const k) _=>Nat.beq t T&&o.dst.isNone&&p8 o 0&&rB P false kt k&&(match k with
  | .int .. =>true
  |_=>false)
 | .range t _=>Nat.beq j N1&&Nat.beq t T&&o.dst.isSome&&p8 o (N1-1)
 | .makeMap .. | .insert .. =>false
 |_=>o.dst.isSome)
def LZ(P:Program)(n:Nat)(T kt:TypeId)(l:List Oper)(N1:Nat):Nat->List Oper->Bool
 |_,[]=>true
 |j,o::r=>VD P n T kt l N1 j o&&LZ P n T kt l N1 (j+1) r
theorem BE{n:Nat}{T kt:TypeId}{l:List Oper}{N1:Nat}:∀{m:List Oper} {j:Nat},LZ P n T kt l N1 j m=true->∀(i:Nat) (o:Oper),m[i]?=some o->VD P n T kt l N1 (j+i) o=true
 |[],j,_,i,o,h=>by cases h
 |x::r,j,h,i,o,hi=>by
  simp only[LZ,bA] at h;cases i with
  |zero=>simp only[List.getElem?_cons_zero,bg] at hi;subst hi;exact h.1
  |succ i=>have:=BE h.2 i o (by simpa using hi);rwa [show j+1+i=j+(i+1) by omega] at this
def wi(o:Oper):Bool:=match o.op with
 | .makeMap _ none=>true
 |_=>false
def HF(o:Oper):Bool:=match o.op with
 | .range .. =>true
 |_=>false
def JZ(P:Program)(n:Nat)(T kt et:TypeId)(l:List Oper)(N1:Nat):Bool:=
 (match pB P T with
 |some (k,e)=>Nat.beq k kt&&Nat.beq e et
 |none=>false)&&(match P.underlying kt with
 |some d=>rn d l
 |none=>false)&&BD l&&LZ P n T kt l N1 0 l&&Nat.beq l.length (N1+1)&&Nat.blt 0 N1&&(match l[0]?,l[N1]? with
 |some o,some o'=>wi o&&HF o'
 |_,_=>false)&&(match l[N1-1]? with
 |some o=>wh o (N1-1)
 |none=>false)
def VE(P:Program)(a:St)(mi:Nat)(o:Oper):Prop:=∃d,o.dst=some d/\∀s:St,s.n=a.n->s.gl=a.gl->(∀x∈o.op.operands,aB s x=aB a x)->(∀i,i≠mi->i≠mi+1->ag s.σ i=ag a.σ i)->GS P o s (s.put (some d) (aD a.fr d))
def lN(P:Program)(a:St)(mi:Nat)(o:Oper):Prop:=match o.op with
 | .makeMap .. =>(match o.dst with
  |some d=>iF 16 (aD a.fr d) (.mref mi)
  |none=>false)=true
 | .insert _ x _ _=>iF 16 (aB a x) (.mref mi)=true
 | .range _ x=>(iF 16 (aB a x) (.mref mi)&&(match o.dst with
  |some d=>iF 16 (aD a.fr d) (.ref (mi+1) 0)
  |none=>false))=true
 |_=>VE P a mi o
def mM(a:St)(o:Oper):Option (Value×G):=match o.op with
 | .insert _ _ (.const k) y=>some (k,aB a y)
 |_=>none
structure MapOf (ents:List (Value×G)) (es:List (Value×G×Nat)) (clock:Nat):Prop where
 sub:∀e∈es,(e.1,e.2.1)∈ents
 sup:∀q∈ents,∃n,(q.1,q.2,n)∈es
 lt:∀e∈es,e.2.2<clock
 nd:(es.map (·.2.2)).Nodup
section lit
variable {E:XEnv} {run:bR} {l:List Oper} {st:St} {T kt et:TypeId} {N1:Nat} {vals:Fr}
abbrev iH(st:St)(vals:Fr):St:={st with fr:=vals++st.fr}
structure MInv (st:St) (T:TypeId) (l:List Oper) (N1:Nat) (vals:Fr) (D:Dn) (s:St):Prop where
 n:s.n=st.n
 gl:s.gl=st.gl
 pr:s.pr=st.pr
 f1:∀j t,D j=true->bX l j=some t->aD s.fr t=aD (iH st vals).fr t
 f2:∀t,(∀j,D j=true->bX l j≠some t)->aD s.fr t=aD st.fr t
 σ:∀i,i≠st.c->i≠st.c+1->ag s.σ i=ag st.σ i
 c:s.c=if D N1 then st.c+2 else if D 0 then st.c+1 else st.c
 ins:∀j o q,D j=true->l[j]?=some o->mM (iH st vals) o=some q->D 0=true
 last:D N1=true->∀j,j<N1->D j=true
 pen:D (N1-1)=true->∀j,j<N1-1->D j=true
 m:D 0=true->∃es clock,ag s.σ st.c=some ⟨T,[],some (.map es clock)⟩/\(∀e∈es,∃j o,D j=true/\l[j]?=some o/\mM (iH st vals) o=some (e.1,e.2.1))/\(∀j o q,D j=true->l[j]?=some o->mM (iH st vals) o=some q->∃n,(q.1,q.2,n)∈es)/\(∀e∈es,e.2.2<clock)/\(es.map (·.2.2)).Nodup/\
  (D N1=true->ag s.σ (st.c+1)=some ⟨T,[],some (.iter (some st.c) clock [] clock)⟩)
theorem BF(s:St)(d:Option Tmp)(g:G):(s.put d g).σ=s.σ/\(s.put d g).c=s.c/\(s.put d g).n=s.n/\(s.put d g).gl=s.gl/\(s.put d g).pr=s.pr:=by cases d<;>exact⟨rfl,rfl,rfl,rfl,rfl⟩
theorem HG(s:St)(d:Option Tmp)(g:G)(t:Tmp):aD (s.put d g).fr t=if d=some t then g else aD s.fr t:=by
 cases d with
 |none=>simp[St.put]
 |some d=>show aD ((d,g)::s.fr) t=_;rw[aO];by_cases e:d=t<;>simp[e]
theorem L1{d:TypeDesc}{k:Value}:∀{ks:List Value} {n:Nat},(∀u∈ks,Instr.sameNow d k u=some false)->B6 d k ks n=some none
 |[],n,h=>rfl
 |u::r,n,h=>by unfold B6;rw[h u aC];exact L1 λu hu=>h u (by simp[hu])
theorem tF{D:Dn}(h:D i=true):D.add j i=true:=by
 unfold Dn.add;split
 .rfl
 .exact h
theorem HH{D:Dn}:D.add j j=true:=by simp[Dn.add]
theorem L2{D:Dn}(h:D.add j i=true):i=j\/D i=true:=by
 unfold Dn.add at h;split at h
 .rename_i e;exact .inl e.symm
 .exact .inr h
theorem ro{D:Dn}(h:i≠j):D.add j i=D i:=by unfold Dn.add;rw[if_neg (λe=>h e.symm)]
theorem MInv.frames{D:Dn}{s:St}(h:MInv st T l N1 vals D s)(hp:BD l=true){j:Nat}{o:Oper}(ho:l[j]?=some o){g:G}(hg:∀t,o.dst=some t->g=aD (iH st vals).fr t)(s':St)(hs:s'.fr=s.fr):
  (∀i t,D.add j i=true->bX l i=some t->aD (s'.put o.dst g).fr t=aD (iH st vals).fr t)/\∀t,(∀i,D.add j i=true->bX l i≠some t)->aD (s'.put o.dst g).fr t=aD st.fr t:=by
 refine⟨λi t hi ht=>?_,λt ht=>?_⟩
 .rw[HG,hs]
  split
  .rename_i e;exact hg t e
  .rename_i e
   rcases L2 hi with rfl|hi
   .exfalso
    apply e
    simpa[bX,ho] using ht
   .exact h.f1 i t hi ht
 .rw[HG,hs,if_neg (λe=>ht j HH (by simp[bX,ho,e]))]
  exact h.f2 t λi hi=>ht i (tF hi)
theorem SR{D:Dn}{s:St}(h:MInv st T l N1 vals D s)(hv:∀q∈vals,∃o∈l,rk o q.1=true){o:Oper}(hr:∀e∈o.after,Region.binds .any e=true->D e.on=true){x:Operand}(hx:PU l o x=true):aB s x=aB (iH st vals) x:=by
 cases x with
 |const v=>rfl
 |global g=>simp only[aB,h.gl]
 |func f=>rfl
 |tmp t=>
  show aD s.fr t=aD (vals++st.fr) t;simp only[PU,Bool.or_eq_true,List.any_eq_true,bA,List.all_eq_true,Bool.not_eq_true'] at hx;rcases hx with⟨e,he,hb,hd⟩|hx
  .exact h.f1 e.on t (hr e (by simpa using he) hb) (JY hd)
  .have hn:∀j,bX l j≠some t:=λj hj=>by have hj:(l[j]?).bind (·.dst)=some t:=hj;rw[Option.bind_eq_some_iff] at hj;obtain⟨a,ho',hd'⟩:=hj;have:=hx a (bO ho');rw[xJ.2 hd'] at this;cases this
   rw[h.f2 t λj _=>hn j];have:∀(V:Fr),(∀q∈V,∃o∈l,rk o q.1=true)->aD (V++st.fr) t=aD st.fr t:=by
    intro V;induction V with
    |nil=>intro _;rfl
    |cons q r ih=>
     intro hV;rw[List.cons_append,aO,if_neg (λe=>by obtain⟨a,ho',hd'⟩:=hV q aC;have:=hx a ho';rw[e] at hd';rw[hd'] at this;cases this)]
     exact ih λq hq=>hV q (by simp[hq])
   exact(this vals hv).symm
theorem PV{t:Tmp}(hv:∀q∈vals,∃o∈l,rk o q.1=true)(hn:∀j,bX l j≠some t):aD (vals++st.fr) t=aD st.fr t:=by
 have:∀(V:Fr),(∀q∈V,∃o∈l,rk o q.1=true)->aD (V++st.fr) t=aD st.fr t:=by
  intro V;induction V with
  |nil=>intro _;rfl
  |cons q r ih=>
   intro hV;rw[List.cons_append,aO,if_neg (λe=>by obtain⟨a,ho',hd'⟩:=hV q aC;rw[e] at hd';obtain⟨j,hj⟩:=List.mem_iff_getElem?.1 ho';exact hn j (by simp[bX,hj,xJ.1 hd']))]
   exact ih λq hq=>hV q (by simp[hq])
 exact this vals hv
theorem L3{σ:aQ}{T:TypeId}{es:List (Value×G×Nat)}(h:ag σ i=some ⟨T,[],some (.map es clock)⟩):gn σ (.mref i)=some (i,T,es,clock):=by unfold gn;simp only[h]
theorem NA{sA:St}{o:Oper}(h:mM sA o=some q):rl o=some q.1:=by
 unfold mM at h;unfold rl;split at h
 .rename_i t x k y ho;cases h;rfl
 .cases h
theorem J0(hm:P.follows .mixedOrders=true){id:Nat}(hs:JZ P st.n T kt et l N1=true)(hv0:(vals.all λq=>l.any λo=>rk o q.1)=true)(hd:∀o∈l,lN P (iH st vals) st.c o){Q:Exit->St->Prop}
  (hQ:∀es clock,MapOf (l.filterMap (mM (iH st vals))) es clock->Q .normal {st with fr:=vals++st.fr,σ:=(st.c+1,some ⟨T,[],some (.iter (some st.c) clock [] clock)⟩)::(st.c,some ⟨T,[],some (.map es clock)⟩)::st.σ,c:=st.c+2}):Tr P (.region id l.toArray true) st Q:=by
 unfold JZ at hs
 simp only[bA] at hs
 obtain⟨⟨⟨⟨⟨⟨⟨h1,h2⟩,h3⟩,h4⟩,h5⟩,h6⟩,h7⟩,h8⟩:=hs
 have Y:=bc h5
 have hNp:0<N1:=cm h6
 have hT:pB P T=some (kt,et):=by
  split at h1
  .rename_i k e hk;simp only[bA] at h1;rw[hk,bc h1.1,bc h1.2]
  .cases h1
 obtain⟨d,Z,hkp⟩:∃d,P.underlying kt=some d/\rn d l=true:=by
  split at h2
  .rename_i d hd;exact⟨d,hd,h2⟩
  .cases h2
 obtain⟨o0,oN,ho0,hoN,hk0,hkN⟩:∃o0 oN,l[0]?=some o0/\l[N1]?=some oN/\wi o0=true/\HF oN=true:=by
  split at h7
  .rename_i a b ha hb;simp only[bA] at h7;exact⟨a,b,ha,hb,h7.1,h7.2⟩
  .cases h7
 have hop:=λj o (ho:l[j]?=some o)=>by have:=BE h4 j o ho;rw[Nat.zero_add] at this;unfold VD at this;simp only[bA] at this;exact this
 have hv:=hv0
 simp only[List.all_eq_true,List.any_eq_true] at hv
 have hval:∀j o,l[j]?=some o->lN P (iH st vals) st.c o:=λj o ho=>hd o (bO ho)
 refine Tr.eqv (Do hm (MInv st T l N1 vals) (λj o ho=>?_) (λj o ho e he hb=>?_) ?_ (λD s j o I ho hD C=>?_) (λD s I hall=>?_))
 .have:=(hop j o ho).1.1.1.1
  simpa using this
 .have:=List.all_eq_true.1 (hop j o ho).1.1.1.2 e (by simpa using he)
  rw[hb] at this
  simp only[Bool.not_true,Bool.false_or] at this
  exact cm this
 .exact{n:=rfl,gl:=rfl,pr:=rfl,f1:=(λj t h=>by cases h),f2:=λ_ _=>rfl,σ:=λ_ _ _=>rfl,c:=rfl,ins:=(λj o q h=>by cases h),last:=(λh=>by cases h),pen:=(λh=>by cases h),m:=(λh=>by cases h)}
 .obtain⟨⟨⟨⟨-,-⟩,hdk⟩,hops⟩,f⟩:=hop j o ho
  have hdk':∀d,o.dst=some d->d<s.n:=by rw[I.n];exact eN hdk
  have hx:∀x∈o.op.operands,aB s x=aB (iH st vals) x:=λx hx=>SR I hv C (List.all_eq_true.1 hops x (by simpa using hx))
  have hjl:j<N1+1:=by rw[<-Y];exact(cr ho).1
  have v:=hval j o ho
  have h0:wi o=false->j≠0:=λh e=>by subst e;rw[ho0] at ho;cases ho;rw[hk0] at h;cases h
  have hN:HF o=false->j≠N1:=λh e=>by subst e;rw[hoN] at ho;cases ho;rw[hkN] at h;cases h
  have hDN:D N1=false:=by
   cases hx:D N1 with
   |false=>rfl
   |true=>
    rcases Nat.lt_or_ge j N1 with h|h
    .rw[I.last hx j h] at hD;cases hD
    .obtain rfl:j=N1:=aa;rw[hx] at hD;cases hD
  have hpen:D.add j (N1-1)=true->∀i,i<N1-1->D.add j i=true:=λh i hi=>by
   rcases L2 h with e|h
   .rw[e,ho] at h8;obtain⟨e',he,hb,A⟩:=fJ (tE h8 i aa);refine tF ?_;rw[<-A];exact C e' he hb
   .exact tF (I.pen h i hi)
  obtain⟨w,O,ty,z,M,N⟩:=o
  have entj:∀{i:Nat} {p:Oper} {q:Value×G},mM (iH st vals) ⟨w,O,ty,z,M,N⟩=none->l[i]?=some p->mM (iH st vals) p=some q->D.add j i=true->D i=true:=λhno ho' hq hi=>by
   rcases L2 hi with rfl|hi
   .rw[ho] at ho';cases ho';rw[hno] at hq;cases hq
   .exact hi
  have value:wi ⟨w,O,ty,z,M,N⟩=false->HF ⟨w,O,ty,z,M,N⟩=false->mM (iH st vals) ⟨w,O,ty,z,M,N⟩=none->VE P (iH st vals) st.c ⟨w,O,ty,z,M,N⟩->th P ⟨w,O,ty,z,M,N⟩ s (λs'=>MInv st T l N1 vals (D.add j) s'):=by
   intro hk hg hno hvv;obtain⟨d,hdd,R⟩:=hvv;obtain rfl:w=some d:=hdd;focus
    generalize hgd:aD (iH st vals).fr d=g at R
    refine(R s I.n I.gl hx I.σ).gsn.eqv λs' hs'=>⟨s',?_,Eqv.refl _⟩
    subst hs'
    obtain⟨f1,f2⟩:=I.frames h3 ho (g:=g) (λt e=>by cases e;exact hgd.symm) s rfl
    have hj0:=h0 hk
    have B:=hN hg
    obtain⟨F,S,U,V,W⟩:=BF s (some d) g
    refine{n:=U.trans I.n,gl:=V.trans I.gl,pr:=W.trans I.pr,f1:=f1,f2:=f2,σ:=λi h1 h2=>by rw[F];exact I.σ i h1 h2,c:=by rw[S,ro (Ne.symm B),ro (Ne.symm hj0)];exact I.c,ins:=λi p q hi ho' hq=>tF (I.ins i p q (entj hno ho' hq hi) ho' hq),last:=(λh=>by rw[ro (Ne.symm B),hDN] at h;cases h),pen:=hpen,m:=λh=>?_}
    rw[ro (Ne.symm hj0)] at h
    obtain⟨es,clock,m1,m2,J,H,K,X⟩:=I.m h
    refine⟨es,clock,by rw[F];exact m1,λe he=>?_,λi p q hi ho' hq=>J i p q (entj hno ho' hq hi) ho' hq,H,K,(λh=>by rw[ro (Ne.symm B),hDN] at h;cases h)⟩
    obtain⟨i,p,hi,ho',hq⟩:=m2 e he
    exact⟨i,p,tF hi,ho',hq⟩
  dsimp only at f
  split at f
  ·
   rename_i t
   simp only[bA] at f
   obtain rfl:=bc f.1.1
   obtain rfl:=bc f.1.2
   obtain⟨d,rfl⟩:=Option.isSome_iff_exists.1 f.2
   have hsc:s.c=st.c:=by rw[I.c,hDN,hD];rfl
   refine(B8 (t:=t) (r:=none) rfl hdk' rfl).gsn.eqv λs' hs'=>⟨s',?_,Eqv.refl _⟩
   subst hs'
   rw[hsc]
   obtain⟨f1,f2⟩:=I.frames h3 ho (g:= .mref st.c) (λt e=>by cases e;unfold lN at v;exact(cc 16 _ _ v).symm) {s with σ:=(st.c,some ⟨t,[],some (.map [] 0)⟩)::s.σ,c:=st.c+1} rfl
   obtain⟨F,S,U,V,W⟩:=BF {s with σ:=(st.c,some ⟨t,[],some (.map [] 0)⟩)::s.σ,c:=st.c+1} (some d) (.mref st.c)
   have hadd:D.add 0 N1=false:=by rw[ro aa];exact hDN
   refine{n:=U.trans I.n,gl:=V.trans I.gl,pr:=W.trans I.pr,f1:=f1,f2:=f2,σ:=λi h1 h2=>?_,c:=by rw[S,hadd,HH];rfl,ins:=λi p q hi ho' hq=>HH,last:=(λh=>by rw[hadd] at h;cases h),pen:=hpen,m:=λ_=>?_}
   .rw[F,am,if_neg (λe=>h1 e.symm)]
    exact I.σ i h1 h2
   .refine⟨[],0,by rw[F,am,if_pos rfl],(λe he=>by cases he),λi p q hi ho' hq=>?_,(λe he=>by cases he),aC,(λh=>by rw[hadd] at h;cases h)⟩
    have:=I.ins i p q (entj rfl ho' hq hi) ho' hq
    rw[hD] at this;cases this
  ·
   rename_i t x k y
   simp only[bA] at f
   obtain⟨⟨⟨⟨k1,k2⟩,k3⟩,k4⟩,k5⟩:=f
   obtain rfl:=bc k1
   obtain rfl:w=none:=by simpa using k2
   have hj0:=h0 rfl
   have B:=hN rfl
   have hD0:D 0=true:=by obtain⟨e,he,hb,A⟩:=fJ k3;rw[<-A];exact C e he hb
   obtain⟨es,clock,m1,m2,J,H,K,X⟩:=I.m hD0
   have hxm:aB s x= .mref st.c:=(hx x fK).trans (cc 16 _ _ v)
   have hy:aB s y=aB (iH st vals) y:=hx y fK
   have hgk:cD (aB s (.const k))=some k:=by
    split at k5
    .rfl
    .cases k5
   have hent:mM (iH st vals) ⟨none,.insert t x (.const k) y,ty,z,M,N⟩=some (k,aB (iH st vals) y):=rfl
   have hkey:B7 P kt k (es.map (·.1))=some none:=by unfold B7;rw[Z];simp only;rw[L1 λu hu=>?_];obtain⟨e,he,rfl⟩:=List.mem_map.1 hu;obtain⟨i,p,hi,ho',hq⟩:=m2 e he;exact tD hkp j i _ p k e.1 (λe=>by subst e;rw[hD] at hi;cases hi) ho ho' rfl (NA hq)
   have hput:dZ P s.σ t (aB s x) (aB s (.const k)) (aB s y)=some (st.c,⟨t,[],some (.map (es++[(k,aB (iH st vals) y,clock)]) (clock+1))⟩):=by unfold dZ;rw[hT,hgk,hxm,L3 m1];simp only[k4,ax,hkey,hy]
   refine(iW (.inr rfl) hdk' hput).gsn.eqv λs' hs'=>⟨s',?_,Eqv.refl _⟩
   subst hs'
   obtain⟨f1,f2⟩:=I.frames h3 ho (g:= .lit undef) (λt e=>by cases e) {s with σ:=(st.c,some ⟨t,[],some (.map (es++[(k,aB (iH st vals) y,clock)]) (clock+1))⟩)::s.σ} rfl
   have hadd:D.add j N1=false:=by rw[ro (Ne.symm B)];exact hDN
   refine{n:=I.n,gl:=I.gl,pr:=I.pr,f1:=f1,f2:=f2,σ:=λi h1 h2=>?_,c:=(by show s.c=_;rw[hadd,ro (Ne.symm hj0)];have:=I.c;rw[hDN] at this;exact this),ins:=λi p q hi ho' hq=>tF hD0,last:=(λh=>by rw[hadd] at h;cases h),pen:=hpen,m:=λ_=>?_}
   .show ag ((st.c,_)::s.σ) i=_
    rw[am,if_neg (λe=>h1 e.symm)]
    exact I.σ i h1 h2
   .refine⟨es++[(k,aB (iH st vals) y,clock)],clock+1,?_,λe he=>?_,λi p q hi ho' hq=>?_,λe he=>?_,?_,(λh=>by rw[hadd] at h;cases h)⟩
    .show ag ((st.c,_)::s.σ) st.c=_
     rw[am,if_pos rfl]
    .rcases List.mem_append.1 he with he|he
     .obtain⟨i,p,hi,ho',hq⟩:=m2 e he
      exact⟨i,p,tF hi,ho',hq⟩
     .obtain rfl:=List.mem_singleton.1 he
      exact⟨j,_,HH,ho,hent⟩
    .rcases L2 hi with rfl|hi
     .rw[ho] at ho'
      cases ho'
      rw[hent] at hq
      cases hq
      exact⟨clock,aC⟩
     .obtain⟨n,hn⟩:=J i p q hi ho' hq
      exact⟨n,List.mem_append_left _ hn⟩
    .rcases List.mem_append.1 he with he|he
     .have:=H e he;omega
     .obtain rfl:=List.mem_singleton.1 he
      exact Nat.lt_succ_self _
    .rw[List.map_append,List.nodup_append]
     refine⟨K,aC,λa ha b hb e=>?_⟩
     simp only[List.map_cons,List.map_nil,List.mem_singleton] at hb
     obtain⟨e',he',rfl⟩:=List.mem_map.1 ha
     have:=H e' he'
     omega
  ·
   rename_i t x
   simp only[bA] at f
   obtain⟨⟨⟨k1,k2⟩,k3⟩,k4⟩:=f
   obtain rfl:=bc k1
   obtain rfl:=bc k2
   obtain⟨d,rfl⟩:=Option.isSome_iff_exists.1 k3
   have hp1:D (j-1)=true:=by obtain⟨e,he,hb,A⟩:=fJ k4;rw[<-A];exact C e he hb
   have hall:∀i,i<j->D i=true:=λi hi=>by
    rcases Nat.lt_or_ge i (j-1) with h|h
    .exact I.pen hp1 i h
    .obtain rfl:i=j-1:=aa;exact hp1
   have hD0:=hall 0 hNp
   obtain⟨es,clock,m1,m2,J,H,K,X⟩:=I.m hD0
   have hva':iF 16 (aB (iH st vals) x) (.mref st.c)=true/\iF 16 (aD (iH st vals).fr d) (.ref (st.c+1) 0)=true:=by unfold lN at v;simpa only[bA] using v
   have hxm:aB s x= .mref st.c:=(hx x fK).trans (cc 16 _ _ hva'.1)
   have hsc:s.c=st.c+1:=by rw[I.c,hDN,hD0];rfl
   have hrg:B9 P s.σ t (aB s x)=some (.iter (some st.c) clock [] clock):=by unfold B9;rw[hT,hxm];simp only[L3 m1]
   refine(H2 rfl hdk' hrg).gsn.eqv λs' hs'=>⟨s',?_,Eqv.refl _⟩
   subst hs'
   rw[hsc]
   obtain⟨f1,f2⟩:=I.frames h3 ho (g:= .ref (st.c+1) 0) (λt e=>by cases e;exact(cc 16 _ _ hva'.2).symm) {s with σ:=(st.c+1,some ⟨t,[],some (.iter (some st.c) clock [] clock)⟩)::s.σ,c:=st.c+1+1} rfl
   obtain⟨F,S,U,V,W⟩:=BF {s with σ:=(st.c+1,some ⟨t,[],some (.iter (some st.c) clock [] clock)⟩)::s.σ,c:=st.c+1+1} (some d) (.ref (st.c+1) 0)
   refine{n:=U.trans I.n,gl:=V.trans I.gl,pr:=W.trans I.pr,f1:=f1,f2:=f2,σ:=λi h1 h2=>?_,c:=by rw[S,HH];rfl,ins:=λi p q hi ho' hq=>tF hD0,last:=λ_ i hi=>tF (hall i hi),pen:=hpen,m:=λ_=>?_}
   .rw[F,am,if_neg (λe=>h2 e.symm)]
    exact I.σ i h1 h2
   .refine⟨es,clock,?_,λe he=>?_,λi p q hi ho' hq=>J i p q (entj rfl ho' hq hi) ho' hq,H,K,λ_=>?_⟩
    .rw[F,am,if_neg aa];exact m1
    .obtain⟨i,p,hi,ho',hq⟩:=m2 e he
     exact⟨i,p,tF hi,ho',hq⟩
    .rw[F,am,if_pos rfl]
  .cases f
  .cases f
  .rename_i c1 c2 c3 c4 c5
   refine value ?_ ?_ ?_ ?_
   .unfold wi
    dsimp only
    split
    .rename_i a;exact absurd rfl (c1 a)
    .rfl
   .unfold HF
    dsimp only
    split
    .rename_i a b;exact absurd rfl (c3 a b)
    .rfl
   .unfold mM
    dsimp only
    split
    .rename_i a b c d;exact absurd rfl (c2 a b c d)
    .rfl
   .unfold lN at v
    dsimp only at v
    split at v
    .rename_i a b;exact absurd rfl (c4 a b)
    .rename_i a b c d;exact absurd rfl (c5 a b c d)
    .rename_i a b;exact absurd rfl (c3 a b)
    .exact v
 .have hD0:D 0=true:=hall 0 aa
  have hDN:D N1=true:=hall N1 aa
  obtain⟨es,clock,m1,m2,J,H,K,X⟩:=I.m hD0
  refine⟨_,?_,hQ es clock {sub:=λe he=>?_,sup:=λq hq=>?_,lt:=H,nd:=K}⟩
  .have L:=I.pr
   simp only[St.pr,Prod.mk.injEq] at L
   refine⟨I.n.symm,I.gl.symm,λi=>?_,λi=>?_,?_,L.1.symm,L.2.symm⟩
   .by_cases hx:∃j,bX l j=some i
    .obtain⟨j,hj⟩:=hx
     have hjl:j<l.length:=by
      rcases Nat.lt_or_ge j l.length with h|h
      .exact h
      .simp[bX,List.getElem?_eq_none h] at hj
     exact(I.f1 j i (hall j hjl) hj).symm
    .rw[I.f2 i λj _ hj=>hx ⟨j,hj⟩]
     exact PV hv λj hj=>hx ⟨j,hj⟩
   .show ag ((st.c+1,_)::(st.c,_)::st.σ) i=ag s.σ i
    rw[am,am]
    split
    .rename_i e;rw[<-e];exact(X hDN).symm
    .rename_i e1
     split
     .rename_i e;rw[<-e];exact m1.symm
     .rename_i e2
      exact(I.σ i (λe=>e2 e.symm) (λe=>e1 e.symm)).symm
   .rw[I.c,hDN];rfl
  .obtain⟨j,p,_,ho',hq⟩:=m2 e he
   exact List.mem_filterMap.2 ⟨p,bO ho',hq⟩
  .obtain⟨p,ho',hq'⟩:=List.mem_filterMap.1 hq
   obtain⟨j,hj⟩:=List.mem_iff_getElem?.1 ho'
   exact J j p q (hall j (cr hj).1) hj hq'
end lit
end
abbrev oE:=List (Value×G×Nat)
def Wa(k:Value):Nat:=match k with
 | .int _ (.ofNat n)=>n
 |_=>0
def Yq(g:G):Bool:=match g with
 | .lit (.bool true)=>true
 |_=>false
def If(k:Value)(g:G):Nat:=bif Yq g then Wa k else 0
def iC(seen:List Nat):oE->Nat
 |[]=>0
 |e::r=>(bif seen.contains e.2.2 then If e.1 e.2.1 else 0)|||iC seen r
def Ck:oE->Nat
 |[]=>0
 |e::r=>If e.1 e.2.1|||Ck r
theorem jd{m:Nat}:(seen++[n]).contains m=(seen.contains m||(m==n)):=by rw[Bool.eq_iff_iff];simp
theorem Eu{seen:List Nat}{n:Nat}:∀{es:oE},n∉es.map (·.2.2)->iC (seen++[n]) es=iC seen es
 |[],_=>rfl
 |e::r,h=>by
  simp only[List.map_cons,List.mem_cons,not_or] at h;unfold iC;rw[Eu h.2,jd];have:(e.2.2==n)=false:=by rw[beq_eq_false_iff_ne];exact λx=>h.1 x.symm
  rw[this,Bool.or_false]
theorem Ev{seen:List Nat}{k:Value}{g:G}{n:Nat}(hn:n∉seen):∀{es:oE},(k,g,n)∈es->(es.map (·.2.2)).Nodup->iC (seen++[n]) es=iC seen es|||If k g
 |e::r,h,hd=>by
  simp only[List.map_cons,List.nodup_cons] at hd;unfold iC;have hs:seen.contains n=false:=by
   cases hc:seen.contains n with
   |false=>rfl
   |true=>exact absurd (by simpa using hc) hn
  rcases List.mem_cons.1 h with rfl|h
  .rw[Eu hd.1,jd];simp only[hs,Bool.false_or,BEq.rfl,ax,aM,Nat.zero_or];rw[Nat.or_comm]
  .have hne:e.2.2≠n:=λx=>hd.1 (by rw[x];exact List.mem_map.2 ⟨_,h,rfl⟩);rw[Ev hn h hd.2,jd];have:(e.2.2==n)=false:=by rw[beq_eq_false_iff_ne];exact hne
   rw[this,Bool.or_false,Nat.or_assoc]
theorem Ew{seen:List Nat}:∀{es:oE},(∀e∈es,e.2.2∈seen)->iC seen es=Ck es
 |[],_=>rfl
 |e::r,h=>by
  unfold iC Ck;rw[Ew λe he=>h e (by simp[he])];have:seen.contains e.2.2=true:=by simpa using h e aC
  rw[this];rfl
theorem Ex:∀{es:oE},iC [] es=0
 |[]=>rfl
 |e::r=>by unfold iC;rw[Ex];simp
theorem Ig{seen:List Nat}{b:Nat}:∀{es:oE},(∀e∈es,Wa e.1<2^b)->iC seen es<2^b
 |[],_=>Nat.two_pow_pos b
 |e::r,h=>by
  unfold iC;refine Nat.or_lt_two_pow ?_ (Ig λe he=>h e (by simp[he]));have:=h e aC;cases seen.contains e.2.2 with
  |false=>exact Nat.two_pow_pos b
  |true=>
   show If e.1 e.2.1<2^b;unfold If;cases Yq e.2.1 with
   |false=>exact Nat.two_pow_pos b
   |true=>exact this
theorem Ih{es:oE}(hb:∀e∈es,e.2.2<since)(h:none∈rD es since seen):∀e∈es,e.2.2∈seen:=by
 intro e he;unfold rD at h;simp only[List.mem_append,List.mem_map] at h;rcases h with h|⟨x,_,hx⟩
 .split at h
  .rename_i hemp;rw[List.isEmpty_iff,List.filter_eq_nil_iff] at hemp;by_cases hs:e.2.2∈seen
   .exact hs
   .exfalso;refine hemp e (List.mem_filter.2 ⟨he,by simpa using hs⟩) (by simpa using hb e he)
  .cases h
 .cases hx
theorem Ii{es:oE}{k:Value}{g:G}(h:some (k,g,n)∈rD es since seen):(k,g,n)∈es/\n∉seen:=by
 unfold rD at h;simp only[List.mem_append,List.mem_map] at h;rcases h with h|⟨x,hx,hxe⟩
 .split at h
  .simp at h
  .cases h
 .cases hxe;have hm:(k,g,n)∈es.filter λe=> !seen.contains e.2.2:=by
   rcases hx with hx|hx
   .exact(List.mem_filter.1 hx).1
   .exact(List.mem_filter.1 hx).1
  obtain⟨h1,h2⟩:=List.mem_filter.1 hm;refine⟨h1,λhs=>?_⟩;simp[hs] at h2
section
variable {P:Program}
theorem NB{es:oE}{k:Value}{g:G}(h:(k,g,n)∈es)(hn:n∉seen):(es.filter λe=> !(seen++[n]).contains e.2.2).length<(es.filter λe=> !seen.contains e.2.2).length:=by
 induction es with
 |nil=>cases h
 |cons e r ih=>
  have mono:∀(r:oE),(r.filter λe=> !(seen++[n]).contains e.2.2).length<=(r.filter λe=> !seen.contains e.2.2).length:=by
   intro r;induction r with
   |nil=>exact Nat.le_refl _
   |cons x s ih=>
    rw[List.filter_cons,List.filter_cons,jd];cases hs:seen.contains x.2.2 with
    |true=>simp only[Bool.true_or,Bool.not_true];exact ih
    |false=>
     cases hx:(x.2.2==n) with
     |true=>simp only[Bool.or_true,Bool.not_true,Bool.not_false];exact Nat.le_succ_of_le ih
     |false=>simp only[Bool.or_false,Bool.not_false];exact Nat.succ_le_succ ih
  rw[List.filter_cons,List.filter_cons,jd];rcases List.mem_cons.1 h with rfl|h
  .have hs:seen.contains n=false:=by
    cases hc:seen.contains n with
    |false=>rfl
    |true=>exact absurd (by simpa using hc) hn
   simp only[hs,BEq.rfl,Bool.or_true,Bool.not_true,Bool.not_false];exact Nat.lt_succ_of_le (mono r)
  .have:=ih h;cases hs:seen.contains e.2.2 with
   |true=>simp only[Bool.true_or,Bool.not_true];exact this
   |false=>
    cases hx:(e.2.2==n) with
    |true=>simp only[Bool.or_true,Bool.not_true,Bool.not_false];exact Nat.lt_succ_of_lt this
    |false=>simp only[Bool.or_false,Bool.not_false];exact Nat.succ_lt_succ this
theorem J1{it a b iti mi clock since id b0:Nat}{T ty ty1 ty2:TypeId}{pos1 pos2:String}{af1 af2:Array Edge}{bd:Code}{es:oE}{S:List Nat->St}{Q:Exit->St->Prop}(I:List Nat->Prop)(hI:I [])
  (hlt:∀e∈es,e.2.2<clock) (c:since=clock) (h0:Le P st (S [])) (i:∀seen,gR (S seen).σ (aB (S seen) (.tmp it))=some (iti,T,some mi,since,seen,clock)) (hmap:∀seen,gn (S seen).σ (.mref mi)=some (mi,ty,es,clock))
  (hn:∀seen,a<(S seen).n/\b<(S seen).n)
  (body:∀seen k g n,I seen->(k,g,n)∈es->n∉seen->Tr P bd {S seen with fr:=(b,.lit (.bool true))::(a,.tup [.lit (.bool true),db k,g])::(S seen).fr,σ:=(iti,some ⟨T,[],some (.iter (some mi) since (seen++[n]) clock)⟩)::(S seen).σ} (uE (λs=>I (seen++[n])/\Le P s (S (seen++[n]))) (pu b0 Q)))
  (fin:∀seen,I seen->(∀e∈es,e.2.2∈seen)->Q .normal {S seen with fr:=(b,.lit (.bool false))::(a,.tup [.lit (.bool false)])::(S seen).fr}):
  Tr P (.block b0 (.loop (.seq (.region id #[⟨some a,.next (.tmp it) false,ty1,pos1,af1,none⟩,⟨some b,.extract (.tmp a) 0,ty2,pos2,af2,none⟩] false) (.seq (.cond (.tmp b) .skip (.exit b0)) bd)))) st Q:=by
 refine BI (L4 (λq:{seen:List Nat//I seen}=>S q.1) (λq=>(es.filter λe=> !q.1.contains e.2.2).length) ⟨[],hI⟩ h0 λ⟨seen,f⟩=>?_)
 dsimp only
 have hok:pD es seen clock=true:=by
  unfold pD;cases es with
  |nil=>simp
  |cons e r=>have:=hlt e aC;simp only[List.isEmpty_cons,List.all_cons,show decide (e.2.2>=clock)=false from decide_eq_false aa,Bool.false_and,Bool.and_false,Bool.not_false]
 refine BH (lG (l:=[⟨some a,.next (.tmp it) false,ty1,pos1,af1,none⟩,⟨some b,.extract (.tmp a) 0,ty2,pos2,af2,none⟩]) (.inl ⟨rfl,?_⟩))
 refine(Mf rfl (λd e=>by cases e;exact(hn seen).1) (i seen) (hmap seen) hok).eqv λs hs=>⟨s,?_,Eqv.refl _⟩
 have ext:∀(g:G) (r:List G) (s1:St),s1.n=(S seen).n->aD s1.fr a= .tup (g::r)->∀{K:St->Prop},K (s1.put (some b) g)->vU P #[⟨some a,.next (.tmp it) false,ty1,pos1,af1,none⟩,⟨some b,.extract (.tmp a) 0,ty2,pos2,af2,none⟩] K [⟨some b,.extract (.tmp a) 0,ty2,pos2,af2,none⟩] s1:=by intro g r s1 h1 h2 K m;refine .inl ⟨rfl,((fM (g:=g) (λd e=>by cases e;rw[h1];exact(hn seen).2) ?_).gsn).eqv λs2 j=>⟨s2,by rw[j];exact m,Eqv.refl _⟩⟩;rw[J9];show HS 0 (aD s1.fr a)=some g;rw[h2];rfl
 rcases hs with⟨hc,rfl⟩|⟨k,g,n,hc,rfl⟩
 .refine ext (.lit (.bool false)) [] _ ?_ ?_ ?_
  .rfl
  .show aD ((a,_)::_) a=_
   rw[aO,if_pos rfl]
  refine wm (BH (wk (t:=false) ?_ (Fz ?_)))
  .show aD ((b,_)::_) b=_
   rw[aO,if_pos rfl]
  refine DU aC (DU aC ?_)
  simp only[pu,if_pos]
  exact fin seen f (Ih (λe he=>by rw[c];exact hlt e he) hc)
 .obtain⟨h1,h2⟩:=Ii hc
  refine ext (.lit (.bool true)) [db k,g] _ ?_ ?_ ?_
  .rfl
  .show aD ((a,_)::_) a=_
   rw[aO,if_pos rfl]
  refine wm (BH (wk (t:=true) ?_ (Fy ?_)))
  .show aD ((b,_)::_) b=_
   rw[aO,if_pos rfl]
  exact wm (Tr.mono (body seen k g n f h1 h2) λe s hs=>Hu (λs h=>⟨⟨seen++[n],h.1⟩,h.2,NB h1 h2⟩) (λ_ _ h=>h) hs)
end
section
variable {P:Program} {sA:St} {mi:Nat} {hs:List Hn}
def YT(d:Nat){σ:aQ}{x g:G}(h:jr σ x=some g):HP:=⟨some (.m d g),jr σ x=some g,h⟩
theorem EK{n:Nat}{k:Value}{g:G}:∀{es:oE},(es.map (·.2.2)).Nodup->(k,g,n)∈es->es.find? (λe=>Nat.beq e.2.2 n)=some (k,g,n)
 |[],_,h=>by cases h
 |e::r,hd,h=>by
  rw[List.map_cons,List.nodup_cons] at hd;rcases List.mem_cons.1 h with rfl|h
  .simp
  .have hne:e.2.2≠n:=λe2=>hd.1 (by rw[e2];exact List.mem_map.2 ⟨_,h,rfl⟩);have hb:Nat.beq e.2.2 n=false:=by
    cases hb:Nat.beq e.2.2 n with
    |true=>exact absurd (bc hb) hne
    |false=>rfl
   rw[List.find?_cons,hb];exact EK hd.2 h
theorem yo{σ:aQ}{g:G}{iti mi since clock n:Nat}{T ty:TypeId}{seen:List Nat}{es:oE}{k:Value}{v:G}(hi:gR σ g=some (iti,T,some mi,since,seen++[n],clock))(hm:gn σ (.mref mi)=some (mi,ty,es,clock))(hd:(es.map (·.2.2)).Nodup)(h:(k,v,n)∈es):jr σ g=some (.tup [db k,v]):=by unfold jr;rw[hi];simp only[hm,List.getLast?_append,List.getLast?_singleton,Option.some_or,Nat.beq_refl,ax,EK hd h]
def ZY(P:Program)(hs:List Hn)(sA:St)(o:Oper):Option (List Prop×G):=match Ol o hs with
 |some (.v _ g)=>some ([EM P o sA g],g)
 |some (.b _ g)=>match o.op with
  | .binOp op t x y _=>some ([lD op (aB sA x) (aB sA y)=some g],g)
  |_=>none
 |some (.f _ g)=>match ge sA o with
  |some (fid,gs)=>bif aK P fid&&gs.all (nF 20) then some ([ba P sA.gl fid gs g],g) else none
  |none=>none
 |none=>match iE P E0 ko o sA with
  |some g=>some ([],g)
  |none=>none
 |_=>none
def ZZ(hs:List Hn)(sA:St)(o:Oper):Bool:=match Ol o hs with
 |some (.f _ _)=>true
 |_=>(dF sA o).isEmpty
theorem Wr{o:Oper}{C:List Prop}{g:G}{d:Nat}(h:ZY P hs sA o=some (C,g))(hC:∀p∈C,p)(hd:o.dst=some d)(hn:d<sA.n)(hr:ZZ hs sA o=true)(hg:aD sA.fr d=g):VE P sA mi o:=by
 refine⟨d,hd,λs e1 e2 e3 e4=>?_⟩;have hdd:∀x,o.dst=some x->x<s.n:=λx hx=>by rw[hd] at hx;cases hx;rw[e1];exact hn
 rw[hg];rw[show s.put (some d) g=s.put o.dst g by rw[hd]];have hev:(dF sA o).isEmpty=true->aX P (aB s) s.σ o=aX P (aB sA) sA.σ o:=λhr=>by rw[jW e3];refine vZ λt x hx i hi=>?_;exfalso;obtain⟨b,f,ty,c,j,k⟩:=o;obtain rfl:f=_:=hx;unfold dF at hr;dsimp only at hr;rw[List.isEmpty_iff.1 hr] at hi;cases hi
 unfold ZY at h;unfold ZZ at hr;split at h
 .rename_i hq;rw[hq] at hr;cases h;exact fM hdd ((hev hr).trans (w7 (hC _ (List.mem_singleton.2 rfl))))
 .rename_i hq;rw[hq] at hr;split at h
  .rename_i f t x y u ho;cases h;refine fM hdd ((hev hr).trans ?_);have hb:=hC _ (List.mem_singleton.2 rfl);clear hr hev hq;obtain⟨b,e,ty,c,j,k⟩:=o;obtain rfl:e=_:=ho;rw[rA];exact jo hb
  .cases h
 .split at h
  .rename_i fid gs a;cases hk:(aK P fid&&gs.all (nF 20)) with
   |false=>rw[hk] at h;cases h
   |true=>
    rw[hk] at h;cases h;simp only[bA] at hk;obtain⟨x,xs,ats,fst,cap,ho,hx,rfl⟩:=cM a;have hF:=hC _ (List.mem_singleton.2 rfl);have hops:∀y∈o.op.operands,aB s y=aB sA y:=e3;rw[ho] at hops;have hxe:aB s x= .clo (.func fid) fst cap:=by rw[<-hx];exact hops x zG
    have hxs:xs.toList.map (aB s)=xs.toList.map (aB sA):=List.map_congr_left λy hy=>hops y (by simp[Op.operands,Call.operands];exact .inr (by simpa using hy));refine wt ho hdd hxe hk.1 (λg hg=>?_) ?_
    .rw[hxs] at hg;exact aG 20 g (List.all_eq_true.1 hk.2 g hg)
    .rw[hxs,e2];exact hF
  .cases h
 .rename_i hq;rw[hq] at hr;split at h
  .rename_i l hx;cases h;refine mD dT IH hdd ?_;rw[<-hx];refine mJ e2 (λi hi=>?_) e3;rw[List.isEmpty_iff.1 hr] at hi;cases hi
  .cases h
 .cases h
def IC(P:Program)(hs:List Hn)(mi:Nat):List Oper->St->Fr->Option Fr
 |[],s,V=>some V
 |o::r,s,V=>match o.op with
  | .makeMap .. =>(match o.dst with
   |some d=>IC P hs mi r {s with fr:=(d,.mref mi)::s.fr} ((d,.mref mi)::V)
   |none=>none)
  | .insert .. =>IC P hs mi r s V
  | .range .. =>(match o.dst with
   |some d=>IC P hs mi r {s with fr:=(d,.ref (mi+1) 0)::s.fr} ((d,.ref (mi+1) 0)::V)
   |none=>none)
  |_=>(match o.dst,ZY P hs s o with
   |some d,some (_,g)=>IC P hs mi r {s with fr:=(d,g)::s.fr} ((d,g)::V)
   |_,_=>none)
def U3(P:Program)(hs:List Hn)(st:St)(l:List Oper):Fr:=(IC P hs st.c l st []).getD []
def EL(P:Program)(hs:List Hn)(sA:St)(mi:Nat):List Oper->Option (List Prop×List G×List G)
 |[]=>some ([],[],[])
 |o::r=>match EL P hs sA mi r with
  |none=>none
  |some (C,a,b)=>match o.op with
   | .makeMap .. =>bif(match o.dst with
    |some d=>iF 16 (aD sA.fr d) (.mref mi)
    |none=>false) then some (C,a,b) else none
   | .insert _ x _ _=>bif iF 16 (aB sA x) (.mref mi) then some (C,a,b) else none
   | .range _ x=>bif(iF 16 (aB sA x) (.mref mi)&&(match o.dst with
    |some d=>iF 16 (aD sA.fr d) (.ref (mi+1) 0)
    |none=>false)) then some (C,a,b) else none
   |_=>match o.dst with
    |some d=>bif Nat.blt d sA.n&&ZZ hs sA o then(match ZY P hs sA o with
     |some (D,g)=>some (D++C,g::a,aD sA.fr d::b)
     |none=>none) else none
    |none=>none
theorem KR{a r:α}(h:(bif c then some a else none)=some r):c=true/\a=r:=by
 cases c
 .cases h
 .cases h;exact⟨rfl,rfl⟩
theorem IE:∀(l:List Oper) (C:List Prop) (a b:List G),EL P hs sA mi l=some (C,a,b)->(∀p∈C,p)->a=b->∀o∈l,lN P sA mi o
 |[],C,a,b,h,_,_,o,ho=>by cases ho
 |x::r,C,a,b,h,hC,c,o,ho=>by
  unfold EL at h;split at h
  .cases h
  rename_i f a1 b1 h1;have rest:(∀p∈f,p)->a1=b1->o∈r->lN P sA mi o:=λhc he hm=>IE r f a1 b1 h1 hc he o hm;split at h
  .rename_i e;obtain⟨hb,hq⟩:=KR h;cases hq;rcases List.mem_cons.1 ho with rfl|ho
   .unfold lN;rw[e];exact hb
   .exact rest hC c ho
  .rename_i e;obtain⟨hb,hq⟩:=KR h;cases hq;rcases List.mem_cons.1 ho with rfl|ho
   .unfold lN;rw[e];exact hb
   .exact rest hC c ho
  .rename_i e;obtain⟨hb,hq⟩:=KR h;cases hq;rcases List.mem_cons.1 ho with rfl|ho
   .unfold lN;rw[e];exact hb
   .exact rest hC c ho
  .rename_i c1 c2 c3;split at h
   .rename_i d hd;cases hk:(Nat.blt d sA.n&&ZZ hs sA x) with
    |false=>rw[hk] at h;cases h
    |true=>
     rw[hk] at h;simp only[ax] at h;simp only[bA] at hk;split at h
     .rename_i D g hv;cases h;simp only[List.cons.injEq] at c;rcases List.mem_cons.1 ho with rfl|ho
      .unfold lN;split
       .rename_i e;exact absurd e (c1 _ _)
       .rename_i e;exact absurd e (c2 _ _ _ _)
       .rename_i e;exact absurd e (c3 _ _)
       .exact Wr hv (λp hp=>hC p (List.mem_append_left _ hp)) hd (cm hk.1) hk.2 c.1.symm
      .exact rest (λp hp=>hC p (List.mem_append_right _ hp)) c.2 ho
     .cases h
   .cases h
end
section
variable {P:Program} [M:Mix P] {st:St} {Q:Exit->St->Prop} {fn:Func} {Bs:List (St->Prop)} {m:Bool} {p:List Nat}
def Ws(x:Option (List Prop×List G×List G)):List G:=match x with|some (_,a,_)=>a|none=>[]
def IF:Code->List Oper
 | .region _ ops true=>ops.toList
 |_=>[]
def aaG:Code->Bool
 | .region _ _ true=>true
 |_=>false
theorem dMl(T e et:TypeId)(b:Nat)(A:List HP)
  (a:∀es clock,MapOf ((IF (bq p (ai fn))).filterMap (mM (iH st (U3 P (bK A) st (IF (bq p (ai fn))))))) es clock->Gp P fn Q Bs true p {st with fr:=U3 P (bK A) st (IF (bq p (ai fn)))++st.fr,σ:=(st.c+1,some ⟨T,[],some (.iter (some st.c) clock [] clock)⟩)::(st.c,some ⟨T,[],some (.map es clock)⟩)::st.σ,c:=st.c+2})
  (hc:EL P (bK A) (iH st (U3 P (bK A) st (IF (bq p (ai fn))))) st.c (IF (bq p (ai fn)))=some (pR A,Ws (EL P (bK A) (iH st (U3 P (bK A) st (IF (bq p (ai fn))))) st.c (IF (bq p (ai fn)))),Ws (EL P (bK A) (iH st (U3 P (bK A) st (IF (bq p (ai fn))))) st.c (IF (bq p (ai fn))))):=by kernel_rfl)
  (hs:JZ P st.n T e et (IF (bq p (ai fn))) b=true:=by kernel_rfl) (hv:((U3 P (bK A) st (IF (bq p (ai fn)))).all λq=>(IF (bq p (ai fn))).any λo=>rk o q.1)=true:=by kernel_rfl) (hi:aaG (bq p (ai fn))=true:=by kernel_rfl):Gp P fn Q Bs false p st:=by
 show Tr P (bq p (ai fn)) st (dz P (bE p (ai fn) Bs []) Q)
 generalize hcd:bq p (ai fn)=c at a hc hs hv hi⊢
 generalize Ws _=gs at hc
 cases c with
 |region id ops d=>
  cases d with
  |false=>cases hi
  |true=>
   have:=J0 (id:=id) M.mx hs hv (IE _ _ _ _ hc (wR A) rfl) (Q:=dz P (bE p (ai fn) Bs []) Q) a
   rw[show ops=(IF (.region id ops true)).toArray from Array.toArray_toList.symm]
   exact this
 |_=>cases hi
theorem dRe(J:St)(O:List HP)(a:Gp P fn Q Bs false p J)(vs:List TypeId:=[])(ρ:List (Nat×Nat):=OY J)(kd:List (Nat×Rk):=[])(e:Iw P vs ρ kd J st=some (pR O,J):=by kernel_rfl):Gp P fn Q Bs false p st:=Tr.le a (sR e (wR O))
def U4(c a b:Nat):List Oper->Bool
 |[⟨some a1,.next (.tmp it1) false,_,_,_,none⟩,⟨some b1,.extract (.tmp a2) 0,_,_,_,none⟩]=>Nat.beq a1 a&&Nat.beq it1 c&&Nat.beq b1 b&&Nat.beq a2 a
 |_=>false
def Wt(c a b b0:Nat):Code->Bool
 | .block b1 (.loop (.seq (.region _ ops false) (.seq (.cond (.tmp b') .skip (.exit b2)) _)))=>Nat.beq b1 b0&&Nat.beq b2 b0&&Nat.beq b' b&&U4 c a b ops.toList
 |_=>false
def YU:Code->Code
 | .block _ (.loop (.seq _ (.seq _ bd)))=>bd
 |_=> .skip
theorem Ty{it b b0:Nat}{c:Code}(h:Wt it a b b0 c=true):∃id g i d f j k,c= .block b0 (.loop (.seq (.region id #[⟨some a,.next (.tmp it) false,g,d,j,none⟩,⟨some b,.extract (.tmp a) 0,i,f,k,none⟩] false) (.seq (.cond (.tmp b) .skip (.exit b0)) (YU c)))):=by
 unfold Wt at h;split at h
 .rename_i b1 id ops t b2 bd;simp only[bA] at h;obtain⟨⟨⟨h1,h2⟩,h3⟩,h4⟩:=h;obtain rfl:=bc h1;obtain rfl:=bc h2;obtain rfl:=bc h3;unfold U4 at h4;split at h4
  .rename_i a1 s l n f1 o a2 t2 q f2 hops;simp only[bA] at h4;obtain⟨⟨⟨k1,k2⟩,k3⟩,r⟩:=h4;obtain rfl:=bc k1;obtain rfl:=bc k2;obtain rfl:=bc k3;obtain rfl:=bc r;have e:=congrArg List.toArray hops;rw[Array.toArray_toList] at e;refine⟨id,l,t2,n,q,f1,f2,?_⟩;rw[e];rfl
  .cases h4
 .cases h
theorem dMw(j a b b0:Nat){iti mi clock since:Nat}{T ty:TypeId}{es:oE}(S:List Nat->St)(I:List Nat->Prop)(hI:I [])
  (hlt:∀e∈es,e.2.2<clock) (c:since=clock) (h0:Le P st (S [])) (f:∀seen,gR (S seen).σ (aB (S seen) (.tmp j))=some (iti,T,some mi,since,seen,clock)) (hmap:∀seen,gn (S seen).σ (.mref mi)=some (mi,ty,es,clock))
  (hn:∀seen,a<(S seen).n/\b<(S seen).n)
  (body:∀(B:St->Prop) seen k g n,I seen->(k,g,n)∈es->n∉seen->(I (seen++[n])->B (S (seen++[n])))->Gp P fn Q (Bs++[B]) false (p++[2,2,1,1]) {S seen with fr:=(b,.lit (.bool true))::(a,.tup [.lit (.bool true),db k,g])::(S seen).fr,σ:=(iti,some ⟨T,[],some (.iter (some mi) since (seen++[n]) clock)⟩)::(S seen).σ})
  (fin:∀seen,I seen->(∀e∈es,e.2.2∈seen)->Gp P fn Q Bs true p {S seen with fr:=(b,.lit (.bool false))::(a,.tup [.lit (.bool false)])::(S seen).fr})
  (d:Wt j a b b0 (bq p (ai fn))=true:=by kernel_rfl) (i:YU (bq p (ai fn))=bq (p++[2,2,1,1]) (ai fn):=by kernel_rfl)
  (q:∀B,bE (p++[2,2,1,1]) (ai fn) (Bs++[B]) []= .lp B:: .blk b0::bE p (ai fn) Bs []:=by intro B;kernel_rfl):Gp P fn Q Bs false p st:=by
 show Tr P (bq p (ai fn)) st (dz P (bE p (ai fn) Bs []) Q)
 obtain⟨id,r,s,l,o,v,w,hcd⟩:=Ty d
 rw[hcd,i]
 refine J1 (iti:=iti) (mi:=mi) (clock:=clock) (since:=since) (T:=T) (ty:=ty) (es:=es) (S:=S) I hI hlt c h0 f hmap hn (λseen k g n hi hm hns=>?_) λseen hi hs=>fin seen hi hs
 have:=body (λt=>t=S (seen++[n])/\I (seen++[n])) seen k g n hi hm hns λh=>⟨rfl,h⟩
 unfold Gp at this
 rw[q] at this
 refine Tr.mono this λe t ht=>?_
 unfold dz at ht
 cases e with
 |normal=>
  unfold uE at ht⊢
  obtain⟨u,hu,rfl,hx⟩:=ht
  exact⟨hx,hu⟩
 |_=>unfold uE at ht⊢;exact ht
end
section
attribute [local irreducible] Tr dz Gp
def rU(o:DOp):List (Nat×Bool):=[(1,decide (o.Device≠0)),(2,decide (o.Old≠0)),(4,decide (o.Member≠0)),(8,decide (o.Role≠0)),(16,decide (0<ah o.Path)),(32,!decide (o.Epoch=⟨0,0,0⟩)),(64,decide (o.N≠0)),(128,decide (0<ah o.Body)),(256,decide (0<ah o.Refs)),(512,!decide (o.Of=⟨0,0,0⟩)),(1024,decide (0<ah o.Guards)),(2048,decide (o.Need≠0)),(4096,decide (o.Wait≠0)),(8192,decide (0<ah o.Boxes)),(16384,decide ((o.Pub:Int)≠((0:Nat):Int))),(32768,decide (0<ah o.Hist))]
def K9(q:Nat×Bool):Value×G:=(.int .i64 (.ofNat q.1),bG q.2)
def La:List (Nat×Bool)->Nat
 |[]=>0
 |q::r=>(bif q.2 then q.1 else 0)|||La r
noncomputable def WU:List Oper:=IF (bq 11100 (ai Tryz.f160))
noncomputable abbrev stP(o:DOp):St:=(s0 75 gl [(1,.ptr (aJ o) 0),(3,iG 0)] [] 0 0)
def hsP(o:DOp):List HP:=[hV 26 (dy o.Epoch ⟨0,0,0⟩ rfl),hV 41 (dy o.Of ⟨0,0,0⟩ rfl)]
theorem Zn(o:DOp):WU.filterMap (mM (iH (stP gl o) (U3 prog (bK (hsP o)) (stP gl o) WU)))=(rU o).map K9:=aH
theorem sY(h:∀q∈L,q.1<1048576)(hq:q∈L.map K9):∃m b,q.1= .int .i64 (.ofNat m)/\m<1048576/\q.2=bG b:=by obtain⟨x,hx,rfl⟩:=List.mem_map.1 hq;exact⟨x.1,x.2,rfl,h x hx,rfl⟩
theorem MS(i:Nat):∀(l:List (Nat×Bool)),(La l).testBit i=true↔∃q∈l,(bif q.2 then q.1 else 0).testBit i=true
 |[]=>by simp[La]
 |q::r=>by unfold La;rw[Nat.testBit_or,Bool.or_eq_true,MS i r];simp
theorem EU(i:Nat):∀(es:oE),(Ck es).testBit i=true↔∃e∈es,(If e.1 e.2.1).testBit i=true
 |[]=>by simp[Ck]
 |e::r=>by unfold Ck;rw[Nat.testBit_or,Bool.or_eq_true,EU i r];simp
theorem IS(q:Nat×Bool):If (K9 q).1 (K9 q).2=bif q.2 then q.1 else 0:=by obtain⟨n,b⟩:=q;cases b<;>rfl
theorem Lb{es:oE}(h:MapOf (L.map K9) es clock):Ck es=La L:=by
 refine Nat.eq_of_testBit_eq λi=>?_;rw[Bool.eq_iff_iff,EU,MS];constructor
 .rintro⟨e,he,hb⟩;obtain⟨q,hq,a⟩:=List.mem_map.1 (h.sub e he);refine⟨q,hq,?_⟩;rw[<-IS,a];exact hb
 .rintro⟨q,hq,hb⟩;obtain⟨n,hn⟩:=h.sup (K9 q) (List.mem_map.2 ⟨q,hq,rfl⟩);refine⟨_,hn,?_⟩;dsimp only;rw[IS];exact hb
abbrev O3:TypeId:=145
abbrev Sj(clock:Nat)(seen:List Nat):Option Ob:=some ⟨O3,[],some (.iter (some 0) clock seen clock)⟩
abbrev Vk(es:oE)(clock:Nat):Option Ob:=some ⟨O3,[],some (.map es clock)⟩
theorem Zo{P:Program}{t:TypeId}{b:Nat}(ha:a<1048576)(hb:b<1048576):∀p q:Operand,b8 P .or t p q (iG (a:Int)) (.lit (.int .i64 (.ofNat b)))=some (iG ((a|||b:Nat):Int)):=λp q=>SS aa aa
theorem TV(o:DOp):ba prog gl 160 [.agg (aJ o)] (iG ((La (rU o):Nat):Int)):=by
 refine Gh func160 ?_;refine pO 11100 (stP gl o) [] [hc (eB (gs:=aJ o) aH)] ?_ [] [];refine dMl O3 3 4 74 (hsP o) λes clock hM=>?_;rw[show IF (bq 11100 (ai Tryz.f160))=WU from rfl,Zn gl o] at hM;have hb:∀q∈rU o,q.1<1048576:=λq hq=>by simp only[rU,List.mem_cons,List.not_mem_nil,or_false] at hq;rcases hq with rfl|rfl|rfl|rfl|rfl|rfl|rfl|rfl|rfl|rfl|rfl|rfl|rfl|rfl|rfl|rfl<;>exact cm rfl
 have him:∀q∈es,bB q.2.1:=λq hq=>by obtain⟨m,b,_,_,e⟩:=sY hb (hM.sub q hq);have e:q.2.1=_:=e;rw[e];exact mN _
 have hk:∀e∈es,Wa e.1<2^20:=λe he=>by obtain⟨m,b,e1,e2,_⟩:=sY hb (hM.sub e he);have e1:e.1=_:=e1;rw[e1];exact e2
 have hlt:∀seen,iC seen es<1048576:=λseen=>Ig hk;refine dNx 11101 ?_;refine dRe (s0 75 gl [(3,iG 0),(64,.ref 1 0)] [(1,Sj clock []),(0,Vk es clock)] 2 0) [hc him] ?_ [] [(0,0),(1,1)];refine dMw 64 65 66 0 (iti:=1) (mi:=0) (clock:=clock) (since:=clock) (T:=O3) (ty:=O3) (es:=es) (λseen=>(s0 75 gl [(3,iG ((iC seen es:Nat):Int)),(64,.ref 1 0)] [(1,Sj clock seen),(0,Vk es clock)] 2 0)) (λ_=>True) trivial hM.lt rfl ?_ (λseen=>rfl) (λseen=>rfl) (λseen=>⟨show 65<75 by decide,show 66<75 by decide⟩) (λB seen k g n _ hm hn a=>?_) (λseen _ hs=>?_)
 .rw[Ex];exact Le.refl _
 .obtain⟨m,b,e1,e2,e3⟩:=sY hb (hM.sub _ hm);have e1:k=_:=e1;have e3:g=_:=e3;subst e1 e3;have hge:jr [(1,Sj clock (seen++[n])),(1,Sj clock seen),(0,Vk es clock)] (.ref 1 0)=some (.tup [db (.int .i64 (.ofNat m)),bG b]):=yo (iti:=1) (mi:=0) (since:=clock) (clock:=clock) (T:=O3) (ty:=O3) (seen:=seen) rfl rfl hM.nd hm;have a:=a trivial;rw[Ev hn hm hM.nd] at a;cases b
  .exact jw [YT 67 hge] [hc him] (show B (s0 75 gl [(3,iG ((iC seen es:Nat):Int)),(64,.ref 1 0)] [(1,Sj clock (seen++[n])),(0,Vk es clock)] 2 0) by rw[show iC seen es|||If (.int .i64 (.ofNat m)) (bG false)=iC seen es from Nat.or_zero _] at a;exact a) [] [(0,0),(1,1)]
  .exact jw (J:=(s0 75 gl [(3,iG ((iC seen es|||m:Nat):Int)),(64,.ref 1 0)] [(1,Sj clock (seen++[n])),(0,Vk es clock)] 2 0)) [YT 67 hge,hV 73 (Zo (P:=prog) (t:=3) (hlt seen) e2)] [hc him] a [] [(0,0),(1,1)]
 .have e:iC seen es=La (rU o):=by rw[Ew hs,Lb hM]
  rw[<-e];exact Ar [] []
end
section
attribute [local irreducible] Tr dz Gp
def xj(n a b:Int):Bool:=decide (a<=n)&&decide (n<=b)
theorem ib(n a b:Int):FV n a b=some (xj n a b):=by unfold FV xj;cases decide (a<=n)<;>rfl
theorem inT(n a b:Int)(h:xj n a b=true):FV n a b=some true:=by rw[ib,h]
def WV(n:Nat):Bool:=decide ((n:Int)<((2305843009213693951:Nat):Int))
def Rz(i:DIdent):Bool:=xj i.By 1 12&&(xj i.Seq 1 2147483647&&WV i.Sum)
theorem GA(n:Nat):Kq n=some (WV n):=by unfold Kq WV;rfl
theorem Zp(x y z:Bool):(((some x).bind λb=>bif b then((some y).bind λc=>bif c then((some z).bind λa=>some a) else(some false)) else(some false)).bind λd=>some d)=some (x&&(y&&z)):=by cases x<;>cases y<;>rfl
theorem pS(i:DIdent):Al i=some (Rz i):=by have h:=Zp (xj i.By 1 12) (xj i.Seq 1 2147483647) (WV i.Sum);rw[<-ib,<-ib,<-GA] at h;exact h
def Z5(n:Nat):Bool:=decide (((1:Nat):Int)<=(n:Int))&&decide ((n:Int)<((2305843009213693951:Nat):Int))
theorem Zq(y z:Bool):((bif y then(some z) else(some false)).bind λa=>some a)=some (y&&z):=by cases y<;>rfl
theorem rV(n:Nat):rJ n=some (Z5 n):=Zq _ _
def GB(o:DOp):Bool:=bif decide (o.Kind=3) then(xj o.Member 1 8&&decide (o.Device=0))||(decide (o.Member=0)&&decide (o.Device≠0)) else xj o.Member 1 8
def GH(o:DOp):Int:=bif decide (o.Kind=3) then 0 else 1
def Sk(o:DOp):Int:=bif decide (o.Kind=1) then 0 else 1
def Sl(o:DOp):Int:=bif decide (o.Kind=1) then 20 else ah o.Guards
def OC(o:DOp):List (Nat×Bool):=[(1,xj o.Device (GH o) 12),(2,xj o.Old 1 12),(4,GB o),(8,xj o.Role 1 3),(64,xj o.N 0 2147483647),(4096,xj o.Wait 0 2147483647),(2048,xj o.Need (Sk o) (Sl o)),(32,Rz o.Epoch),(512,Rz o.Of),(16384,Z5 o.Pub)]
noncomputable def RA:List Oper:=IF (bq 111111100 (ai Tryz.f161))
noncomputable abbrev Zr(o:DOp)(k:Nat):St:=(s0 136 gl [(1,iG (k:Int)),(2,.ptr (aJ o) 0),(5,iG (GH o)),(6,iG (Sk o)),(7,iG (Sl o)),(8,bG (GB o))] [] 0 0)
def hsR(o:DOp):List HP:=[hf 62 (eE gl (ib o.Device (GH o) 12)),hf 65 (eE gl (ib o.Old 1 12)),hf 69 (eE gl (ib o.Role 1 3)),hf 72 (eE gl (ib o.N 0 2147483647)),hf 75 (eE gl (ib o.Wait 0 2147483647)),hf 80 (eE gl (ib o.Need (Sk o) (Sl o))),hf 83 (pH gl (pS o.Epoch)),hf 86 (pH gl (pS o.Of)),hf 89 (iz gl (rV o.Pub))]
theorem aaY(o:DOp)(k:Nat):RA.filterMap (mM (iH (Zr gl o k) (U3 prog (bK (hsR gl o)) (Zr gl o k) RA)))=(OC o).map K9:=aH
theorem WW{P:Program}{t:TypeId}{b:Nat}(ha:a<1048576)(hb:b<1048576):∀p q:Operand,b8 P .and t p q (iG (a:Int)) (.lit (.int .i64 (.ofNat b)))=some (iG ((a&&&b:Nat):Int)):=λp q=>by have e:=V8 (P:=P) (t:=t) (a:Int) (b:Int) p q;refine Eq.trans e ?_;have h1:a&&&b<=a:=Nat.and_le_left;unfold Yn;rw[BitVec.toNat_and,BitVec.toNat_ofInt,BitVec.toNat_ofInt];rw[show(((a:Int)%((2^IntKind.i64.bits:Nat):Int)).toNat)=a by show((a:Int)%18446744073709551616).toNat=a;omega,show(((b:Int)%((2^IntKind.i64.bits:Nat):Int)).toNat)=b by show((b:Int)%18446744073709551616).toNat=b;omega];rw[show IntKind.i64.wrap (((a&&&b:Nat)):Int)=((a&&&b:Nat):Int) from bM aa aa]
structure RgOk (o:DOp) (k:Nat):Prop where
 by_:xj o.By 1 12=true
 seq:xj o.Seq 1 2147483647=true
 at_:xj o.At 0 2147483647=true
 ents:∀q∈OC o,k&&&q.1≠0->q.2=true
 guards:sK o.Guards (λz=>uR z)=some true
 refs:kQ o.Refs (λz=>Kq z)=some true
 past:mU o.Past (λz=>Al z)=some true
 path:js o.Path (λz=>uP z)=some true
 boxes:oz o.Boxes (λz=>wB z)=some true
 hist:gz o.Hist (λz=>uQ z)=some true
theorem IT(hk:k<1048576)(h:RgOk o k):ba prog gl 161 [.agg (aJ o),iG (k:Int)] (bG true):=by
 refine Gh func161 ?_;refine pO 1111100 (s0 136 gl [(1,iG (k:Int)),(2,.ptr (aJ o) 0),(5,iG 1),(6,iG 1),(7,iG (ah o.Guards)),(8,bG (xj o.Member 1 8))] [] 0 0) [hf 16 (eE gl (inT _ _ _ h.by_)),hf 21 (eE gl (inT _ _ _ h.seq)),hf 27 (eE gl (inT _ _ _ h.at_)),hf 35 (eE gl (ib o.Member 1 8))] [hc (eB (gs:=aJ o) aH)] ?_ [] [];refine Ix 111110 (s0 136 gl [(1,iG (k:Int)),(2,.ptr (aJ o) 0),(5,iG (GH o)),(6,iG 1),(7,iG (ah o.Guards)),(8,bG (GB o))] [] 0 0) ?_ λa=>?_;rotate_left
 .unfold GH GB at a;cases e:decide (o.Kind=3) with
  |false=>rw[e] at a;exact yl 111110 [hr 38 e] [] a [] []
  |true=>
   rw[e] at a;simp only[ax] at a;generalize hm0:xj o.Member 1 8=m0 at a⊢;cases hD:decide (o.Device=0) with
   |false=>have hD':decide (o.Device≠0)=true:=decide_eq_true (of_decide_eq_false hD);rw[hD,hD'] at a;cases hM:decide (o.Member=0)<;>rw[hM] at a<;>cases m0<;>exact yl 111110 [hr 38 e,hr 43 hD,hr 48 hM,hr 52 hD'] [] a [] []
   |true=>have hD':decide (o.Device≠0)=false:=decide_eq_false λh=>h (of_decide_eq_true hD);rw[hD,hD'] at a;cases hM:decide (o.Member=0)<;>rw[hM] at a<;>cases m0<;>exact yl 111110 [hr 38 e,hr 43 hD,hr 48 hM,hr 52 hD'] [] a [] []
 refine pO 11111100 (s0 136 gl [(1,iG (k:Int)),(2,.ptr (aJ o) 0),(5,iG (GH o)),(6,iG 1),(7,iG (ah o.Guards)),(8,bG (GB o))] [] 0 0) [] [] ?_ [] [];refine Ix 1111110 (Zr gl o k) ?_ λa=>?_;rotate_left
 .unfold Zr Sk Sl at a;cases e:decide (o.Kind=1)<;>rw[e] at a<;>exact yl 1111110 [hr 57 e] [] a [] []
 refine pO 111111100 (Zr gl o k) [] [] ?_ [] [];refine dMl O3 3 4 43 (hsR gl o) λes clock hM=>?_;rw[show IF (bq 111111100 (ai Tryz.f161))=RA from rfl,aaY gl o k] at hM;have hb:∀q∈OC o,q.1<1048576:=λq hq=>by simp only[OC,List.mem_cons,List.not_mem_nil,or_false] at hq;rcases hq with rfl|rfl|rfl|rfl|rfl|rfl|rfl|rfl|rfl|rfl<;>exact cm rfl
 have him:∀q∈es,bB q.2.1:=λq hq=>by obtain⟨m,b,_,_,e⟩:=sY hb (hM.sub q hq);have e:q.2.1=_:=e;rw[e];exact mN _
 refine dNx 111111101 ?_;refine dRe (s0 136 gl [(1,iG (k:Int)),(2,.ptr (aJ o) 0),(91,.ref 1 0)] [(1,Sj clock []),(0,Vk es clock)] 2 0) [hc him] ?_ [] [(0,0),(1,1)];refine dMw 91 92 93 0 (iti:=1) (mi:=0) (clock:=clock) (since:=clock) (T:=O3) (ty:=O3) (es:=es) (λseen=>(s0 136 gl [(1,iG (k:Int)),(2,.ptr (aJ o) 0),(91,.ref 1 0)] [(1,Sj clock seen),(0,Vk es clock)] 2 0)) (λ_=>True) trivial hM.lt rfl (Le.refl _) (λseen=>rfl) (λseen=>rfl) (λseen=>⟨show 92<136 by decide,show 93<136 by decide⟩) (λB seen i g n _ hm hn f=>?_) (λseen _ hs=>?_)
 .have hmem:=hM.sub _ hm;obtain⟨⟨m,b⟩,hq,d⟩:=List.mem_map.1 hmem;have e1:(.int .i64 (.ofNat m):Value)=i:=congrArg Prod.fst d;have e3:bG b=g:=congrArg Prod.snd d;subst e1 e3;have hm2:m<1048576:=hb _ hq;have hent:=h.ents _ hq;dsimp only at hent;have hge:jr [(1,Sj clock (seen++[n])),(1,Sj clock seen),(0,Vk es clock)] (.ref 1 0)=some (.tup [db (.int .i64 (.ofNat m)),bG b]):=yo (iti:=1) (mi:=0) (since:=clock) (clock:=clock) (T:=O3) (ty:=O3) (seen:=seen) rfl rfl hM.nd hm;have hVa:∀p q:Operand,b8 prog .and 3 p q (iG (k:Int)) (.lit (.int .i64 (.ofNat m)))=some (iG ((k&&&m:Nat):Int)):=WW hk hm2;by_cases h0:k&&&m=0
  .exact jw [YT 94 hge,hV 99 hVa,hr 100 (show decide (((k&&&m:Nat):Int)≠0)=false from decide_eq_false aa)] [hc him] (f trivial) [] [(0,0),(1,1)]
  .obtain rfl:b=true:=hent h0;exact jw [YT 94 hge,hV 99 hVa,hr 100 (show decide (((k&&&m:Nat):Int)≠0)=true from decide_eq_true aa)] [hc him] (f trivial) [] [(0,0),(1,1)]
 .exact Ar [hz 108 [] (jf (c:=2) aH (FW gl (⟨aH,bf,eB aH,λ_ _ e=>Dw gl e⟩) h.guards) (eB aH)),
   hz 112 [] (jf (c:=2) aH (zL gl (⟨aH,bf,eB aH,λ_ _ e=>Ak gl e⟩) h.refs) (eB aH)),
   hz 117 [] (jf (c:=2) aH (Ch gl (⟨aH,bf,eB aH,λ_ _ e=>pH gl e⟩) h.past) (eB aH)),
   hz 123 [] (jf (c:=2) aH (tK gl (⟨aH,bf,eB aH,λ_ _ e=>Du gl e⟩) h.path) (eB aH)),
   hz 128 [] (jf (c:=2) aH (wA gl (⟨aH,bf,eB aH,λ_ _ e=>Cf gl e⟩) h.boxes) (eB aH)),
   hz 134 [] (jf (c:=2) aH (pY gl (⟨aH,bf,eB aH,λ_ _ e=>Dv gl e⟩) h.hist) (eB aH))] []
end
section
attribute [local irreducible] Tr dz Gp
def nG:List Int:=[0,2064,32793,21,16,12,480,640,512,31744,8704,8705,512,33299]
def Sn(n:Nat):G:= .clo (.func n) [] []
def IU:List G:=[.lit .nilFunc,.lit .nilFunc,Sn 423,Sn 425,.lit .nilFunc,Sn 426,Sn 427,.lit .nilFunc,Sn 428,Sn 429,Sn 431,Sn 432,Sn 431,Sn 433]
def fI:List (Nat×List G):=[(0,nG.flatMap cZ),(1,IU)]
theorem WX:ArrTy prog 241 3 14 1:=⟨aH,aH,aH⟩
theorem kIx{i x:Int}(h:aS nG i=some x):fh prog 241 (.ptr (nG.flatMap cZ) 0) i=some (.ptr (nG.flatMap cZ) (i.toNat*1)):=WX.ix h rfl
structure ChkOk (o:DOp) (kk:Nat):Prop where
 lo:decide (o.Kind<1)=false
 hi:decide (13<o.Kind)=false
 kind:aS nG o.Kind=some (kk:Int)
 kb:kk<1048576
 bits:wH ((La (rU o):Nat):Int) (kk:Int)=0
 rg:RgOk o kk
 long:FX o=some false
 nPast:o.Past.length<=1000000
 nGuards:o.Guards.length<=1000000
 past:∀(k:Nat) (a b:DIdent),o.Past[k]?=some a->o.Past[k+1]?=some b->pE a b=some true
 guards:∀(k:Nat) (a b:Int),o.Guards[k]?=some a->o.Guards[k+1]?=some b->a<b
 create:decide (ah o.Past=0)=decide (o.Kind=1)
def Lc(l:List DIdent)(i:Int):Option (Int⊕Unit):=bif decide (i<wI (ah l-1)) then(aS l i).bind λa=>(aS l (wI (i+1))).bind λb=>(pE a b).bind λv=>bif v then some (.inl (wI (i+1))) else none else some (.inr ())
def Ld(l:List Int)(i:Int):Option (Int⊕Unit):=bif decide (i<wI (ah l-1)) then(aS l i).bind λa=>(aS l (wI (i+1))).bind λb=>bif decide (a<b) then some (.inl (wI (i+1))) else none else some (.inr ())
theorem Zs(h:ChkOk o kk):loop (Lc o.Past) 0=some ():=by have hn:=h.nPast;have hw:wI (ah o.Past-1)=(o.Past.length:Int)-1:=bM (by unfold ah;omega) (by unfold ah;omega);refine T.eq (T.loop (λi=>∃k:Nat,i=(k:Int)/\k<=o.Past.length) (λi=>o.Past.length-i.toNat) ⟨0,rfl,aa⟩ (by show o.Past.length-_<_;omega) ?_);rintro i ⟨k,rfl,hk⟩;unfold Lc;rw[hw];refine .dec (λa=>?_) λa=> .some rfl;have h1:k<o.Past.length:=aa;have h2:k+1<o.Past.length:=aa;have ew:wI ((k:Int)+1)=((k+1:Nat):Int):=aq aa;refine .bind (.ix aa (x:=o.Past[k]) (by rw[Int.toNat_natCast,cv h1]) (.bind (.ix (by rw[ew];omega) (x:=o.Past[k+1]) (by rw[ew,Int.toNat_natCast,cv h2]) (.eqb (h.past k _ _ (cv h1) (cv h2)) (.some ⟨⟨k+1,ew,aa⟩,?_⟩)))));show o.Past.length-(wI ((k:Int)+1)).toNat<o.Past.length-((k:Int)).toNat;rw[ew];omega
theorem Zt(h:ChkOk o kk):loop (Ld o.Guards) 0=some ():=by have hn:=h.nGuards;have hw:wI (ah o.Guards-1)=(o.Guards.length:Int)-1:=bM (by unfold ah;omega) (by unfold ah;omega);refine T.eq (T.loop (λi=>∃k:Nat,i=(k:Int)/\k<=o.Guards.length) (λi=>o.Guards.length-i.toNat) ⟨0,rfl,aa⟩ (by show o.Guards.length-_<_;omega) ?_);rintro i ⟨k,rfl,hk⟩;unfold Ld;rw[hw];refine .dec (λa=>?_) λa=> .some rfl;have h1:k<o.Guards.length:=aa;have h2:k+1<o.Guards.length:=aa;have ew:wI ((k:Int)+1)=((k+1:Nat):Int):=aq aa;refine .bind (.ix aa (x:=o.Guards[k]) (by rw[Int.toNat_natCast,cv h1]) (.bind (.ix (by rw[ew];omega) (x:=o.Guards[k+1]) (by rw[ew,Int.toNat_natCast,cv h2]) ?_)));rw[decide_eq_true (h.guards k _ _ (cv h1) (cv h2)),ax];refine .some ⟨⟨k+1,ew,aa⟩,?_⟩;show o.Guards.length-(wI ((k:Int)+1)).toNat<o.Guards.length-((k:Int)).toNat;rw[ew];omega
theorem IW(h:ChkOk o kk):ba prog fI 95 [.agg (aJ o)] (iG 0):=by
 refine Gh func95 ?_;refine pO 111100 (s0 93 fI [(1,.ptr (aJ o) 0),(3,bG true)] [] 0 0) [hr 8 h.lo,hr 12 h.hi,hf 16 (TV fI o),hv 19 (kIx h.kind),hv 20 (rZ.p1Z tZ h.kind),hV 21 (NW (P:=prog) (t:=3) ((La (rU o):Nat):Int) (kk:Int)),hr 22 (show decide (wH ((La (rU o):Nat):Int) (kk:Int)≠0)=false from decide_eq_false λe=>e h.bits)] [hc (eB (gs:=aJ o) aH)] ?_ [] [];refine Ix 111101 (s0 93 fI [(1,.ptr (aJ o) 0),(3,bG true)] [] 0 0) ?_ λkk1=>?_;rotate_left
 .refine pN (λi:Int=>(s0 93 fI [(1,.ptr (aJ o) 0),(3,bG true),(27,iG (wI (ah o.Past-1))),(28,iG i)] [] 0 0)) 11110122 (Zs h) [] [] (λB i w hs k5 c=>?_) [] [];unfold Lc at hs;rcases bC hs with⟨b1,hs⟩|⟨b1,hs⟩
  .obtain⟨a,ea,hs⟩:=bS hs;obtain⟨b,eb,hs⟩:=bS hs;obtain⟨v,d,hs⟩:=bS hs;cases v
   .cases hs
   .obtain rfl:=bn hs;exact jw [hr 29 b1,hv 36 (ac.ixZ ea),hv 37 (ac.ptZ aW ea),hv 42 (ac.ixZ eb),hv 43 (ac.ptZ aW eb),hf 44 (ox fI d)] [] (k5 _ rfl) [] []
  .obtain rfl:=bn hs;exact yl 111101 [hr 29 b1] [] kk1 [] []
 refine pO 1111100 (s0 93 fI [(1,.ptr (aJ o) 0),(3,bG true)] [] 0 0) [] [] ?_ [] [];refine Ix 1111101 (s0 93 fI [(1,.ptr (aJ o) 0),(3,bG true)] [] 0 0) ?_ λkk1=>?_;rotate_left
 .refine pN (λi:Int=>(s0 93 fI [(1,.ptr (aJ o) 0),(3,bG true),(50,iG (wI (ah o.Guards-1))),(51,iG i)] [] 0 0)) 111110122 (Zt h) [] [] (λB i w hs k5 c=>?_) [] [];unfold Ld at hs;rcases bC hs with⟨b1,hs⟩|⟨b1,hs⟩
  .obtain⟨a,ea,hs⟩:=bS hs;obtain⟨b,eb,hs⟩:=bS hs;rcases bC hs with⟨b2,hs⟩|⟨b2,hs⟩
   .obtain rfl:=bn hs;exact jw [hr 52 b1,hv 59 (rZ.ixZ ea),hv 60 (rZ.p1Z tZ ea),hv 65 (rZ.ixZ eb),hv 66 (rZ.p1Z tZ eb),hr 67 b2] [] (k5 _ rfl) [] []
   .cases hs
  .obtain rfl:=bn hs;exact yl 1111101 [hr 52 b1] [] kk1 [] []
 have hc:=h.create;cases e:decide (o.Kind=1) with
 |false=>rw[e] at hc;exact Ar [hv 74 (kIx h.kind),hv 75 (rZ.p1Z tZ h.kind),hf 76 (IT fI h.kb h.rg),hf 80 (Es fI h.long),hr 88 hc,hr 91 e] []
 |true=>rw[e] at hc;exact Ar [hv 74 (kIx h.kind),hv 75 (rZ.p1Z tZ h.kind),hf 76 (IT fI h.kb h.rg),hf 80 (Es fI h.long),hr 88 hc,hr 91 e] []
end
theorem sc1{b:Nat}(h1:a<=n)(h2:n<=b):iB n a b=some true:=by unfold iB;rw[decide_eq_true (show(a:Int)<=(n:Int) by omega),ax,decide_eq_true (show(n:Int)<=(b:Int) by omega)];rfl
theorem TW{s:DSig}(hb:b.length<=1073741824)(h:jJ pub b s=some true):lq pub b s=some true:=by
 unfold jJ at h;obtain⟨g,hj,h⟩:=bS h;rcases bC h with⟨rfl,h⟩|⟨rfl,h⟩
 .cases h
 rcases bC hj with⟨c1,hj⟩|⟨c1,hj⟩
 .cases hj
 rw[show fV=some 2305843009213693950 from rfl,aL] at hj;rcases bC hj with⟨c2,hj⟩|⟨c2,hj⟩
 .cases hj
 rcases bC hj with⟨c3,hj⟩|⟨c3,hj⟩
 .cases hj
 rw[aL] at hj;rcases bC hj with⟨c4,hj⟩|⟨c4,hj⟩
 .cases hj
 rw[aL] at hj;have c5:=bn hj;have c1:=of_decide_eq_false c1;have c2:=of_decide_eq_false c2;have c3:=of_decide_eq_false c3;have c4:=of_decide_eq_false c4;have c5:=of_decide_eq_false c5;obtain⟨i,h4,h⟩:=bS h;obtain⟨j,h6,h⟩:=bS h;obtain⟨k,h8,h⟩:=bS h;obtain⟨d,h10,h⟩:=bS h;have hpow:∀{a n r:Nat},n<18446744073709551616->iK a n=some r->r<2305843009213693951:=λhn e=>by obtain⟨q,e1,e2⟩:=ka _ hn;rw[e] at e1;cases e1;exact e2
 unfold lq;rw[sc1 aa aa,aL];simp only[Bool.not_true,aM];rw[sc1 aa aa,aL];simp only[Bool.not_true,aM];rw[sc1 aa aa,aL];simp only[Bool.not_true,aL,aM];unfold Pi at h6;obtain⟨m,hm,h6⟩:=bS h6;obtain⟨e,he,h6⟩:=bS h6;cases h6;unfold Ph at hm;have hm':jI [115,105,103,110,101,100] b=some m:=by obtain⟨p,hm',hm⟩:=bS hm;cases hm;exact hm'
 obtain⟨m2,f1,f2,o⟩:=xe (label:=[115,105,103,110,101,100]) (b:=b) a9 hb;obtain rfl:m2=m:=bn (f2.symm.trans hm');obtain⟨e2,g1,g2,c⟩:=ET (label:=[115,105,103]) (l:=[s.R,pub,m2]) a9 aC λw hw=>by simp only[List.mem_cons,List.not_mem_nil,or_false] at hw;rcases hw with rfl|rfl|rfl<;>omega
 rw[he] at g2;cases g2;unfold xh;rw[f1,aL,g1,aL,aL,nf a9 aa h4,aL];dsimp only;rw[nf aa c h8,aL];have f:=hpow c h8;rw[nc aa aa,aL];rw[ll] at h10;cases h10;exact h
section
attribute [local irreducible] Tr dz Gp qc
theorem OD{c:DCard}(ho:SmOp o)(hb:o.By=c.Device)(h:lq c.Sign (qc o) o.Sig=some true):ba prog gl 99 [.agg (bv c),.agg (aJ o)] (bG true):=by
 have a:=yY ho;have e:decide (o.By=c.Device)=true:=decide_eq_true hb;refine Gh func99 ?_;refine pO [1,0] (s0 20 gl [(2,.ptr (bv c) 0),(3,.ptr (aJ o) 0)] [] 0 0) [] [hc (eB (gs:=bv c) aH),hc (eB (gs:=aJ o) aH)] ?_ [] [];exact Ar [hr 9 e,tN 14 [] 0 [] [.agg (aJ o)] [(0,oO 1 (qc o)),(1,oY (qc o))] (MP gl ho) trivial ⟨⟨rfl,.inl rfl⟩,⟨rfl,.inr ⟨rfl,rY.imm _⟩⟩,trivial⟩,
  tN 15 [0,1] 2 [(0,oO 1 (qc o)),(1,oY (qc o))] [.ref 0 0] [(0,oO 1 (qc o)),(1,oY (qc o)),(2,oY (qc o))] (rS gl (l:=qc o) aa) ⟨⟨rfl,.inl rfl⟩,⟨rfl,.inr ⟨rfl,rY.imm _⟩⟩,trivial⟩ ⟨⟨rfl,.inl rfl⟩,⟨rfl,.inr ⟨rfl,rY.imm _⟩⟩,⟨rfl,.inr ⟨rfl,rY.imm _⟩⟩,trivial⟩,
  hq 18 [uG c.Sign,aE cY (qc o),.agg (yy o.Sig)] [hc (rY.al (qc o))] (GF gl h)] []
end
section
attribute [local irreducible] Tr dz Gp
def blT:List Nat:=[0,1,2,2,3,3,3,3,4,4,4,4,4,4,4,4,5,5,5,5,5,5,5,5,5,5,5,5,5,5,5,5]
def WZ(n:Nat):Nat:=blT.getD n 0
theorem RB(h:n<32):ba prog gl 235 [uG (n:Int)] (iG (WZ n:Int)):=by have e:n=0\/n=1\/n=2\/n=3\/n=4\/n=5\/n=6\/n=7\/n=8\/n=9\/n=10\/n=11\/n=12\/n=13\/n=14\/n=15\/n=16\/n=17\/n=18\/n=19\/n=20\/n=21\/n=22\/n=23\/n=24\/n=25\/n=26\/n=27\/n=28\/n=29\/n=30\/n=31:=aa;rcases e with rfl|rfl|rfl|rfl|rfl|rfl|rfl|rfl|rfl|rfl|rfl|rfl|rfl|rfl|rfl|rfl|rfl|rfl|rfl|rfl|rfl|rfl|rfl|rfl|rfl|rfl|rfl|rfl|rfl|rfl|rfl|rfl<;>(refine Gh func235 ?_;exact Ar [] [])
theorem RC(h:n<32):ba prog gl 159 [uG (n:Int)] (iG (WZ n:Int)):=by refine Gh func159 ?_;exact Ar [hf 7 (RB gl h)] []
def Lf(l:List DCard)(i:Int):Option (Int⊕Unit):=bif decide (i<ah l) then(aS l i).bind λa=>(aS l (wI (i-1))).bind λb=>bif decide (0<i)&& !decide (wI (a.Device-b.Device)<0) then some (.inl (wI (i+1))) else none else some (.inr ())
def aa3(_:Unit):Option (Unit⊕Unit):=some (.inr ())
theorem Lg:loop aa3 ()=some ():=T.eq (T.loop (λ_=>True) (λ_=>0) trivial a9 λ_ _=> .some rfl)
abbrev oC(l:List DCard):Option Ob:=some ⟨129,l.flatMap bv,none⟩
abbrev zP:G:= .clo (.func 94) [] []
def xf(l:List DCard):Prop:=l.length<=12/\∀(k:Nat) (a b:DCard),l[k]?=some a->l[k+1]?=some b->a.Device<=b.Device/\0<=a.Device/\b.Device<=1000000
theorem Zw{l:List DCard}(h:xf l):loop (Lf l) (wI (0+1))=some ():=by
 have hn:=h.1;refine T.eq (T.loop (λi=>∃k:Nat,i=((k+1:Nat):Int)/\k<=12) (λi=>14-i.toNat) ⟨0,rfl,aa⟩ (by show 14-_<_;omega) ?_);rintro i ⟨k,rfl,hk⟩;unfold Lf;refine .dec (λa=>?_) λa=> .some rfl;unfold ah at a;have h1:k<l.length:=aa;have h2:k+1<l.length:=aa;have ew:wI (((k+1:Nat):Int)+1)=((k+1+1:Nat):Int):=aq aa;have em:wI (((k+1:Nat):Int)-1)=(k:Int):=by rw[bM aa aa];omega
 obtain⟨q1,b,c⟩:=h.2 k _ _ (cv h1) (cv h2);refine .bind (.ix aa (x:=l[k+1]) (by rw[Int.toNat_natCast,cv h2]) (.bind (.ix (by rw[em];omega) (x:=l[k]) (by rw[em,Int.toNat_natCast,cv h1]) ?_)));rw[bM (z:=l[k+1].Device-l[k].Device) aa aa,decide_eq_true (show 0<((k+1:Nat):Int) by omega),decide_eq_false (show¬l[k+1].Device-l[k].Device<0 by omega)];refine .some ⟨⟨k+1,ew,aa⟩,?_⟩;show 14-(wI (((k+1:Nat):Int)+1)).toNat<14-(((k+1:Nat):Int)).toNat;rw[ew];omega
theorem OE{l:List DCard}(h:xf l):OU prog gl 226 [.rsl 0 0 l.length,iG 0,iG (ah l),zP] [(0,oC l)] 1 1 (.tup []) [(0,oC l)]:=by
 refine ZU func226 ?_ (λi hi=>by match i,hi with|0,_=>exact⟨_,rfl⟩);refine pN (λi:Int=>(s0 53 gl [(0,.rsl 0 0 l.length),(1,iG 0),(2,iG (ah l)),(3,zP),(8,iG i)] [(0,oC l)] 1 1)) 1122 (Zw h) [] [hc (el l),hc (aG 20 zP aH),hc (bT.imm l)] (λB i w hs k5 d=>?_) [] [(0,0)] [(0,.row)];unfold Lf at hs;rcases bC hs with⟨b1,hs⟩|⟨b1,hs⟩
 .obtain⟨a,ea,hs⟩:=bS hs;obtain⟨b,eb,hs⟩:=bS hs;rcases bC hs with⟨b2,hs⟩|⟨b2,hs⟩
  rotate_left
  .cases hs
  obtain rfl:=bn hs;simp only[bA,Bool.not_eq_true'] at b2;refine Ix 11221021 (s0 53 gl [(0,.rsl 0 0 l.length),(1,iG 0),(2,iG (ah l)),(3,zP),(8,iG i)] [(0,oC l)] 1 1) ?_ λc=>?_
  .exact jw [] [hc (el l),hc (aG 20 zP aH),hc (bT.imm l)] (k5 _ rfl) [] [(0,0)] [(0,.row)]
  refine pN (λ_:Unit=>(s0 53 gl [(0,.rsl 0 0 l.length),(1,iG 0),(2,iG (ah l)),(3,zP),(8,iG i),(9,iG i)] [(0,oC l)] 1 1)) 1122102122 Lg [hr 14 b1] [hc (el l),hc (aG 20 zP aH),hc (bT.imm l)] (λe z v hz2 f g=>?_) [] [(0,0)] [(0,.row)];exact yl 11221021 [hr 20 b2.1,hv 25 (bT.ixrZ 0 ea),hv 26 (bT.pt0Z E2 ea),hv 30 (bT.ixrZ 0 eb),hv 31 (bT.pt0Z E2 eb),hf 32 (Dt gl (a:=a) (b:=b) rfl),hr 33 b2.2] [hc (el l),hc (aG 20 zP aH),hc (bT.imm l)] c [] [(0,0)] [(0,.row)]
 .exact ZT [hr 14 b1] [hc (bT.imm l)] [(0,0)] [(0,.row)]
theorem zr{gs0:List G}{g0:G}{i:Nat}(h:CI i gs gs0)(hg:nF 20 g0=true:=by kernel_rfl):CI i (g0::gs) (g0::gs0):=CJ (aG 20 _ hg) h
theorem OF{l:List DCard}(h:xf l)(k:Int):OU prog gl 158 [.rsl 0 0 l.length,iG 0,iG (ah l),iG k,zP] [(0,oC l)] 1 1 (.tup []) [(0,oC l)]:=by
 have e:wI (ah l-0)=ah l:=by have:=h.1;rw[bM (by unfold ah;omega) (by unfold ah;omega)];omega
 have hd:decide (wI (ah l-0)<=12)=true:=by rw[e];exact decide_eq_true (by have:=h.1;unfold ah;omega)
 refine ZU func158 ?_ (λi hi=>by match i,hi with|0,_=>exact⟨_,rfl⟩);refine pN (λ_:Unit=>(s0 148 gl [(0,.rsl 0 0 l.length),(1,iG 0),(2,iG (ah l)),(3,iG k),(4,zP)] [(0,oC l)] 1 1)) 11122 Lg [] [hc (el l),hc (aG 20 zP aH),hc (bT.imm l)] (λa z v hz2 b d=>?_) [] [(0,0)] [(0,.row)];exact ZT [hr 25 hd,hz 30 [0] (wS (i:=0) (c:=1) aH (OE gl h) (aG 20 _ aH) (bT.imm l) a9 (by rfl) (w5 (zr (zr (zr wZ)))))] [hc (bT.imm l)] [(0,0)] [(0,.row)]
theorem Lh{l:List DCard}(h:xf l):OU prog gl 93 [.rsl 0 0 l.length,zP] [(0,oC l)] 1 1 (.tup []) [(0,oC l)]:=by
 have e:wU (ah l)=l.length:=by have:=h.1;unfold ah;rw[gP];omega
 have hl:ba prog gl 159 [uG (wU (ah l):Int)] (iG (WZ l.length:Int)):=by rw[e];exact RC gl (by have:=h.1;omega)
 refine ZU func93 ?_ (λi hi=>by match i,hi with|0,_=>exact⟨_,rfl⟩);exact ZT [hv 10 (C8 (ah l)),hf 11 hl,hz 13 [0] (wS (i:=0) (c:=1) aH (OF gl h (WZ l.length:Int)) (aG 20 _ aH) (bT.imm l) a9 (by rfl) (w5 (zr (zr (zr (zr wZ))))))] [hc (bT.imm l)] [(0,0)] [(0,.row)]
end
section
attribute [local irreducible] Tr dz Gp
abbrev oA(s:A4W):Option Ob:=some ⟨171,FSq s,none⟩
def vd(s t:A4W):A4W:=⟨gM s.a0 t.a0,gM s.a1 t.a1,gM s.a2 t.a2,gM s.a3 t.a3⟩
def wiA(s t:A4W):Nat->A4W
 |0=>s
 |1=>⟨gM s.a0 t.a0,s.a1,s.a2,s.a3⟩
 |2=>⟨gM s.a0 t.a0,gM s.a1 t.a1,s.a2,s.a3⟩
 |3=>⟨gM s.a0 t.a0,gM s.a1 t.a1,gM s.a2 t.a2,s.a3⟩
 |_=>vd s t
def Zx(k:Nat):Option (Nat⊕Unit):=if k<4 then some (.inl (k+1)) else some (.inr ())
theorem Li:loop Zx 0=some ():=T.eq (T.loop (λ_=>True) (λk=>4-k) trivial a9 λk _=>by
 unfold Zx;split
 .exact .some ⟨trivial,aa⟩
 .exact .some rfl)
theorem TX(s t:A4W):jg prog gl 102 [.ref 0 0,.agg (FSq t)] [(0,oA s)] 1 (.tup []) [(0,oA (vd s t))] 1:=by
 refine pP func102 ?_;refine pN (λk:Nat=>(s0 20 gl [(0,.ref 0 0),(3,.ptr (FSq t) 0),(5,iG (k:Int))] [(0,oA (wiA s t k))] 1 1)) 11122 Li [] [hc (eB (gs:=FSq t) aH)] (λB k v hs k5 a=>?_) [] [(0,0)] [];rcases k with _|_|_|_|k
 .cases hs;exact jw [hV 16 (jc (P:=prog) (t:=23) s.a0 t.a0)] [] (k5 _ rfl) [] [(0,0)] []
 .cases hs;exact jw [hV 16 (jc (P:=prog) (t:=23) s.a1 t.a1)] [] (k5 _ rfl) [] [(0,0)] []
 .cases hs;exact jw [hV 16 (jc (P:=prog) (t:=23) s.a2 t.a2)] [] (k5 _ rfl) [] [(0,0)] []
 .cases hs;exact jw [hV 16 (jc (P:=prog) (t:=23) s.a3 t.a3)] [] (k5 _ rfl) [] [(0,0)] []
 .exact mt .normal (s0 20 gl [] [(0,oA (vd s t))] 1 1) [] [hr 6 (show decide (((k+1+1+1+1:Nat):Int)<4)=false from decide_eq_false aa)] [] (ρ:=[(0,0)])
abbrev OG(x:DGraphNode):Option Ob:=some ⟨173,d7 x,none⟩
theorem RE(x:DGraphNode)(t:A4W):jg prog gl 102 [.ref 0 30,.agg (FSq t)] [(0,OG x)] 1 (.tup []) [(0,OG {x with past:=vd x.past t})] 1:=by
 refine pP func102 ?_;refine pN (λk:Nat=>(s0 20 gl [(0,.ref 0 30),(3,.ptr (FSq t) 0),(5,iG (k:Int))] [(0,OG {x with past:=wiA x.past t k})] 1 1)) 11122 Li [] [hc (eB (gs:=FSq t) aH)] (λB k v hs k5 a=>?_) [] [(0,0)] [];rcases k with _|_|_|_|k
 .cases hs;exact jw [hV 16 (jc (P:=prog) (t:=23) x.past.a0 t.a0)] [] (k5 _ rfl) [] [(0,0)] []
 .cases hs;exact jw [hV 16 (jc (P:=prog) (t:=23) x.past.a1 t.a1)] [] (k5 _ rfl) [] [(0,0)] []
 .cases hs;exact jw [hV 16 (jc (P:=prog) (t:=23) x.past.a2 t.a2)] [] (k5 _ rfl) [] [(0,0)] []
 .cases hs;exact jw [hV 16 (jc (P:=prog) (t:=23) x.past.a3 t.a3)] [] (k5 _ rfl) [] [(0,0)] []
 .exact mt .normal (s0 20 gl [] [(0,OG {x with past:=vd x.past t})] 1 1) [] [hr 6 (show decide (((k+1+1+1+1:Nat):Int)<4)=false from decide_eq_false aa)] [] (ρ:=[(0,0)])
def yt(s:A4W)(n:Nat):A4W:=match n/64 with
 |0=>{s with a0:=gM s.a0 (fN 1 (n%64))}
 |1=>{s with a1:=gM s.a1 (fN 1 (n%64))}
 |2=>{s with a2:=gM s.a2 (fN 1 (n%64))}
 |_=>{s with a3:=gM s.a3 (fN 1 (n%64))}
theorem W0(s:A4W)(h:n<256):jg prog gl 101 [.ref 0 0,iG (n:Int)] [(0,oA s)] 1 (.tup []) [(0,oA (yt s n))] 1:=by
 have hm:u9 (n:Int) 64=some ((n%64:Nat):Int):=by unfold u9;rw[if_neg a9,Int.tmod_eq_emod_of_nonneg aa];rfl
 have hcn:wJ ((n%64:Nat):Int)=some (n%64):=by unfold wJ;rw[if_neg aa];rfl
 have hq:∀q:Nat,n/64=q->Gg (n:Int) 64=some (q:Int):=λq e=>by unfold Gg;rw[if_neg a9,Int.tdiv_eq_ediv_of_nonneg aa,Mx aa];subst e;rfl
 refine pP func101 ?_;have h4:n/64=0\/n/64=1\/n/64=2\/n/64=3:=aa;rcases h4 with e|e|e|e
 .rw[show yt s n={s with a0:=gM s.a0 (fN 1 (n%64))} by unfold yt;rw[e];rfl];exact mt .normal (s0 16 gl [] [(0,oA {s with a0:=gM s.a0 (fN 1 (n%64))})] 1 1) [] [hb 6 (Tt (hq 0 e)),hb 11 (KO hm),hV 12 (sM (P:=prog) (t:=23) 1 hcn),hV 13 (jc (P:=prog) (t:=23) s.a0 (fN 1 (n%64)))] [] (ρ:=[(0,0)])
 .rw[show yt s n={s with a1:=gM s.a1 (fN 1 (n%64))} by unfold yt;rw[e];rfl];exact mt .normal (s0 16 gl [] [(0,oA {s with a1:=gM s.a1 (fN 1 (n%64))})] 1 1) [] [hb 6 (Tt (hq 1 e)),hb 11 (KO hm),hV 12 (sM (P:=prog) (t:=23) 1 hcn),hV 13 (jc (P:=prog) (t:=23) s.a1 (fN 1 (n%64)))] [] (ρ:=[(0,0)])
 .rw[show yt s n={s with a2:=gM s.a2 (fN 1 (n%64))} by unfold yt;rw[e];rfl];exact mt .normal (s0 16 gl [] [(0,oA {s with a2:=gM s.a2 (fN 1 (n%64))})] 1 1) [] [hb 6 (Tt (hq 2 e)),hb 11 (KO hm),hV 12 (sM (P:=prog) (t:=23) 1 hcn),hV 13 (jc (P:=prog) (t:=23) s.a2 (fN 1 (n%64)))] [] (ρ:=[(0,0)])
 .rw[show yt s n={s with a3:=gM s.a3 (fN 1 (n%64))} by unfold yt;rw[e];rfl];exact mt .normal (s0 16 gl [] [(0,oA {s with a3:=gM s.a3 (fN 1 (n%64))})] 1 1) [] [hb 6 (Tt (hq 3 e)),hb 11 (KO hm),hV 12 (sM (P:=prog) (t:=23) 1 hcn),hV 13 (jc (P:=prog) (t:=23) s.a3 (fN 1 (n%64)))] [] (ρ:=[(0,0)])
end
section
attribute [local irreducible] Tr dz Gp
theorem OH{σ ρ:Type}{step:σ->Option (σ⊕ρ)}{s:σ}{r:ρ}(h:step s=some (.inr r)):loop step s=some r:=by unfold loop FU;rw[show(4611686018427387904:Nat)=4611686018427387903+1 from rfl];unfold KN;rw[h]
theorem RF{P:Program}{l:List G}(h:ag st.σ j=some ⟨t,l,none⟩)(k:Nat):Le P st {st with σ:=(j,some ⟨t,l.take k,none⟩)::st.σ}:=by
 rintro cx a w ⟨β,r⟩;have hs:∀i o,ag ((j,some ⟨t,l.take k,none⟩)::st.σ) i=some o->∃c,ag st.σ i=some c/\((i=j/\o=⟨t,l.take k,none⟩/\c=⟨t,l,none⟩)\/o=c):=λi o hi=>by
  rw[am] at hi;split at hi
  .rename_i e;cases hi;subst e;exact⟨_,h,.inl ⟨rfl,rfl,rfl⟩⟩
  .exact⟨o,hi,.inr rfl⟩
 have hs':∀i o,ag st.σ i=some o->∃c,ag ((j,some ⟨t,l.take k,none⟩)::st.σ) i=some c:=λi o hi=>by
  rw[am];split
  .exact⟨_,rfl⟩
  .exact⟨o,hi⟩
 have hA:Av cx.S0 β ((j,some ⟨t,l.take k,none⟩)::st.σ)=Av cx.S0 β st.σ:=by
  funext b;apply propext;constructor
  .rintro(hb|⟨i,o,C,h1,h2⟩)
   .exact .inl hb
   .obtain⟨c,h3,_⟩:=hs i o h1;exact .inr ⟨i,c,C,h3,h2⟩
  .rintro(hb|⟨i,o,C,h1,h2⟩)
   .exact .inl hb
   .obtain⟨c,h3⟩:=hs' i o h1;exact .inr ⟨i,c,C,h3,h2⟩
 refine⟨β,{size:=r.size,defers:=r.defers,loose:=r.loose,rnd:=r.rnd,fr:=λi=>?_,ob:=λi o hi=>?_,inj:=λi d o c b C D h1 h2 h3 h4=>?_,own:=λi o b C h1 h2=>?_,sep:=λi o b C h1 h2=>?_,fresh:=r.fresh,glob:=λg m hl=>?_,keep:=r.keep,old:=r.old,pin:=r.pin}⟩
 .have:=r.fr i;show RV β (Av cx.S0 β ((j,some ⟨t,l.take k,none⟩)::st.σ)) w (aD st.fr i) _;rw[hA];exact this
 .show RO P β (Av cx.S0 β ((j,some ⟨t,l.take k,none⟩)::st.σ)) w i o;rw[hA];obtain⟨c,h1,⟨rfl,rfl,rfl⟩|rfl⟩:=hs i o hi
  .rcases r.ob _ _ h1 with⟨e1,e2,e3⟩|⟨b,x,o,e1,_⟩|⟨b,C,cur,e1,e2,e3,e4,e5,e6,e7⟩
   .have e2:l=[]:=e2;subst e2;exact .inl ⟨e1,aC,e3⟩
   .cases e1
   .have e6:l.length<=cur.size:=e6;have e7:∀(j:Nat) (g:G),l[j]?=some g->∃u,cur[j]?=some u/\u.oneCell'=true/\RV β (Av cx.S0 β st.σ) w g u:=e7;refine .inr (.inr ⟨b,C,cur,e1,e2,e3,e4,e5,?_,λx g hg=>e7 x g ?_⟩)
    .show(l.take k).length<=_;rw[List.length_take];omega
    .have hg:(l.take k)[x]?=some g:=hg;have:=(cr hg).1;rw[List.length_take] at this;rwa [List.getElem?_take_of_lt aa] at hg
  .exact r.ob _ _ h1
 .obtain⟨o1,h1',_⟩:=hs i o h1;obtain⟨f,h2',_⟩:=hs d c h2;exact r.inj i d o1 f b C D h1' h2' h3 h4
 .obtain⟨o1,h1',_⟩:=hs i o h1;exact r.own i o1 b C h1' h2
 .obtain⟨o1,h1',_⟩:=hs i o h1;exact r.sep i o1 b C h1' h2
 .have:=r.glob g m hl;show IV (Av cx.S0 β ((j,some ⟨t,l.take k,none⟩)::st.σ)) w _ _;rw[hA];exact this
def hcl(c:Nat){P:Program}{σ:aQ}{t:TypeId}{g:G}{i:Nat}{ob:Ob}(h:rF P σ t g=some (i,ob)):HP:=⟨some (.e 999999998 (.tup []) (jO σ i (some ob)) c),∃lo,(rF P σ t g).map (λ(i,ob)=>[(G.tup [],jO σ i (some ob),c,i)])=some [(.tup [],jO σ i (some ob),c,lo)],⟨i,by rw[h];rfl⟩⟩
section
variable {P:Program} [M:Mix P] {st:St} {Q:Exit->St->Prop} {fn:Func} {Bs:List (St->Prop)} {m:Bool} {p:List Nat}
theorem dSh(j:Nat){l:List G}(k:Nat)(h:Gp P fn Q Bs m p {st with σ:=(j,some ⟨t,l.take k,none⟩)::st.σ})(hj:ag st.σ j=some ⟨t,l,none⟩:=by rfl):Gp P fn Q Bs m p st:=by
 unfold Gp c7 at h⊢;cases m with
 |true=>exact pQ (RF hj k) _ _ h
 |false=>exact Tr.le h (RF hj k)
end
abbrev Lj(g:DGraphGraph):G:= .clo (.func 174) [] [.ptr [.ptr (di g) 0] 0]
def W2{α:Type}(l:List α)(i:Int):Option (Int⊕Unit):=bif decide (i<ah l) then(aS l i).bind λ_=>some (.inl (wI (i+1))) else some (.inr ())
theorem W3{l:List α}(h:l.length<1000000000):loop (W2 l) (wI (0+1))=some ():=by refine T.eq (T.loop (λi=>∃k:Nat,i=((k+1:Nat):Int)/\k<=l.length) (λi=>l.length+2-i.toNat) ⟨0,rfl,aa⟩ (by show l.length+2-(1:Int).toNat<_;omega) ?_);rintro i ⟨k,rfl,hk⟩;unfold W2;refine .dec (λa=>?_) λa=> .some rfl;unfold ah at a;have ew:wI (((k+1:Nat):Int)+1)=((k+1+1:Nat):Int):=aq aa;refine .bind (.ix aa (x:=l[k+1]) (by rw[Int.toNat_natCast,cv aa]) (.some ⟨⟨k+1,ew,aa⟩,?_⟩));show l.length+2-(wI (((k+1:Nat):Int)+1)).toNat<l.length+2-(((k+1:Nat):Int)).toNat;rw[ew];omega
def zI:List Value:=[.int .i64 0,.int .i64 0,.int .u64 0]
abbrev W4(l:List DIdent):List G:=(l.flatMap aj).take 0++(bN zI (l.length*3)).map .lit++(l.flatMap aj).drop (0+l.length*3)
theorem clr{l:List DIdent}(h:0<l.length):rF prog [ob 0 50 (l.flatMap aj)] 27 (.rsl 0 (0+(0:Int).toNat*3) (l.length-(0:Int).toNat))=some (0,⟨50,W4 l,none⟩):=by have e1:dp prog 27=some 50:=aH;have e2:jj prog 50=some zI:=aH;have e3:bw prog 50=some 3:=aH;have e4:ag [ob 0 50 (l.flatMap aj)] 0=some ⟨50,l.flatMap aj,none⟩:=rfl;show rF prog _ _ (.rsl 0 0 l.length)=_;unfold rF;rw[e1];simp only[e2,e3,e4];rw[if_pos ⟨rfl,h,a9,by show 0+l.length*3<=(l.flatMap aj).length;rw[ac.len];omega,rfl⟩]
theorem RH(l:List DIdent):∀g∈W4 l,bB g:=by
 intro g hg;rcases List.mem_append.1 hg with hg|hg
 .rcases List.mem_append.1 hg with hg|hg
  .exact ac.imm l g (List.mem_of_mem_take hg)
  .obtain⟨v,_,rfl⟩:=List.mem_map.1 hg;exact mN v
 .exact ac.imm l g (List.mem_of_mem_drop hg)
theorem W5{x:DIdent}(h:(g.at_.get x).isSome=true):ba prog gl 174 [.agg (aj x),.ptr [.ptr (di g) 0] 0] (bG true):=jk gl (by unfold df;rw[h])
theorem aa4(g:DGraphGraph):FnV prog gl 174 [] [.ptr [.ptr (di g) 0] 0] (λx:DIdent=>[.agg (aj x)]) (λx:Bool=>bG x) (λx=>df x g):=⟨aH,bf,aY (aG 20 _ aH) bf,λx r h=>jk gl h⟩
theorem ixL{l:List DIdent}(h:∀x∈l,(g.at_.get x).isSome=true):da l (λx=>df x g)=some (if l.length=0 then-1 else 0):=by
 unfold da;cases l with
 |nil=>rfl
 |cons a r=>
  have e:loop (dj (a::r) (λx=>df x g)) 0=some (.inr 0):=by refine OH ?_;unfold dj df;rw[decide_eq_true (show(0:Int)<ah (a::r) by unfold ah;simp),ax,show aS (a::r) 0=some a from rfl];rw[aL];dsimp only;rw[h a aC];rfl
  rw[e];rfl
theorem TY{l:List DIdent}(h:∀x∈l,(g.at_.get x).isSome=true)(hl:l.length<1000000000):jg prog gl 173 [.rsl 0 0 l.length,Lj g] [ob 0 50 (l.flatMap aj)] 1 (.rsl 0 0 0) [ob 0 50 []] 1:=by
 refine pP func173 ?_;have hi:=gS gl (aa4 gl g) (ixL h);by_cases h0:l.length=0
 .rw[if_pos h0] at hi;obtain rfl:=List.length_eq_zero_iff.1 h0;exact mt .ret (s0 42 gl [(4,.rsl 0 0 0)] [ob 0 50 []] 1 1) [.rsl 0 0 0] [hq 10 [aE aj [],Lj g] [hc (ac.al [])] hi] [hc (rfl:0=0),hc (ac.imm [])] (ρ:=[(0,0)]) (kd:=[(0,.row)])
 .rw[if_neg h0] at hi;refine pN (λj:Int=>(s0 42 gl [(0,.rsl 0 0 l.length),(1,Lj g),(5,iG 0),(6,iG j)] [ob 0 50 (l.flatMap aj)] 1 1)) 11110122 (W3 (l:=l) hl) [hq 10 [aE aj l,Lj g] [hc (ac.al l)] hi] [hc (el l),hc (aG 20 (Lj g) aH),hc (ac.imm l)] (λB j w hs k5 b=>?_) [] [(0,0)] [(0,.row)];unfold W2 at hs;rcases bC hs with⟨b1,hs⟩|⟨b1,hs⟩
  .obtain⟨y,a,hs⟩:=bS hs;obtain rfl:=bn hs;exact jw [hr 19 b1,hv 24 (ac.ixrZ 0 a),hv 25 (ac.pt0Z aW a),hf 28 (W5 gl (h y (bO (fH a).2)))] [hc (el l),hc (aG 20 (Lj g) aH),hc (ac.imm l)] (k5 _ rfl) [] [(0,0)] [(0,.row)]
  .obtain rfl:=bn hs;refine pO 1111110 (J:=(s0 42 gl [(0,.rsl 0 0 l.length),(5,iG 0)] [ob 0 50 (W4 l)] 1 1)) [hr 19 b1,hv 38 (ac.sufZ 0 (l:=l) (i:=0) (y:=l) rfl),hcl 1 (clr (l:=l) (Nat.pos_of_ne_zero h0))] [hc (el l),hc (RH l)] ?_ [] [(0,0)] [(0,.row)];refine dSh 0 0 ?_;exact mt .ret (s0 42 gl [(4,.rsl 0 0 0)] [ob 0 50 []] 1 1) [.rsl 0 0 0] [hv 41 (ac.preZ 0 (l:=l) (i:=0) (y:=[]) rfl)] [hc (rfl:0=0),hc (ac.imm [])] (ρ:=[(0,0)]) (kd:=[(0,.row)])
theorem Zy(l:List DIdent):∀g∈l.flatMap aj,∃v,g= .lit v:=Gj (λx g hg=>by simp only[aj,List.mem_cons,List.not_mem_nil,or_false] at hg;rcases hg with rfl|rfl|rfl<;>exact⟨_,rfl⟩) l
theorem RI{g:DGraphGraph}{o:DOp}(h:∀x∈o.Past,(g.at_.get x).isSome=true)(hl:o.Past.length<1000000000):iV prog gl 100 [.ptr (di g) 0,.agg (aJ o)] 50 0 []:=by
 have hcl:cU o.Past=some o.Past:=by unfold cU aT;rw[if_pos cq];rfl
 refine OW func100 ?_;refine pO [1,0] (s0 10 gl [(2,.ptr [.ptr (di g) 0] 0),(3,.ptr (aJ o) 0)] [] 0 0) [] [hc (eB (gs:=[.ptr (di g) 0]) aH),hc (eB (gs:=aJ o) aH)] ?_;exact EI [ho 7 [aE aj o.Past] [] (jY gl hcl) (Zy _),tN 9 [0] 1 [ob 0 50 (o.Past.flatMap aj)] [.rsl 0 0 o.Past.length,Lj g] [ob 0 50 []] (TY gl h hl) ⟨⟨rfl,.inr ⟨rfl,ac.imm _⟩⟩,trivial⟩ ⟨⟨rfl,.inr ⟨rfl,ac.imm []⟩⟩,trivial⟩] (ac.imm [])
end
end Go.Proofs.YtnpdibmpndhkjaaGreatDoor
