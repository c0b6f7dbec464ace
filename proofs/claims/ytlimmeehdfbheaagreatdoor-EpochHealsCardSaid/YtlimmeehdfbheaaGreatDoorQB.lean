/- Texts. -/
import Derived.Test.YtlimmeehdfbheaaGreatDoorSL
namespace Go.Proofs.YtlimmeehdfbheaaGreatDoor
set_option linter.unusedSectionVars false
set_option linter.unusedVariables false
set_option linter.unusedSimpArgs false
open Go.RowKit Tryz
attribute [local irreducible] Tr dz Gp
variable (gl:CC)
variable {K V α:Type}{a k kk n pub r s:Nat}{b label:CO}{l:Bp}{x z:Int}{i:Ab}{o:Bi}{L:List (Nat×Bool)}{srt:Bj}{m:FM Int Bool}{e:K×V×Nat}{R:Ad}
theorem Cm:wY (n:Int)=UInt8.ofNat n:=by
 unfold wY;apply UInt8.toNat_inj.1;have e:IntKind.u8.wrap (n:Int)=((n%256:Nat):Int):=by show(n:Int)%256=_;omega
 rw[e];simp;omega
theorem ya(hk:k<18446744073709551616):jl k=some (nb k):=by
 unfold jl;refine T.eq (.bind ?_);refine T.loop (Q:=λx=>T _ _) (λs=>s.2++nb s.1=nb k/\s.1<18446744073709551616) (λs=>(nb s.1).length) ⟨rfl,hk⟩ (by grind [ow]) ?_;rintro⟨m,out⟩ ⟨h1,h2⟩;simp only at h1 h2;have hl:out.length+(nb m).length<=10:=by grind [ow]
 have hp:0<(nb m).length:=List.length_pos_iff.2 (Yj m);unfold DJ;dsimp only;refine .dec (λh=>?_) λh=>?_
 .have hm:¬m<128:=aa;refine .bind (.app cq (.some ?_));have e1:wU ((m/128:Nat):Int)=m/128:=rM aa;have e2:wY (((wY ((m%128:Nat):Int)).toNat:Int)+((128:UInt8).toNat:Int))=UInt8.ofNat (m%128+128):=by grind [Cm,UInt8.toNat_ofNat']
  constructor<;>grind [Er]
 .have hm:m<128:=aa;refine .some ?_;show T _ _;grind [T.app,Cm,H6]
theorem F4{n:Int}(h: -9223372036854775808<=n/\n<=9223372036854775807):cg n=some (nb (Mk n)):=by
 obtain⟨h1,h2⟩:=h;unfold cg;refine T.eq (.dec (λhn=>?_) λhn=>?_)
 .have e1:wI (n+1)=n+1:=by grind [bM]
  have e2:wI (0-(n+1))= -(n+1):=by grind [bM]
  have e3:wU (-(n+1))=(-(n+1)).toNat:=by grind [rM]
  have e4:wU (((wU (((-(n+1)).toNat:Int)*((2:Nat):Int)):Nat):Int)+((1:Nat):Int))=Mk n:=by unfold Mk;rw[Bx hn];generalize hm:(-(n+1)).toNat=m;rw[show(m:Int)*((2:Nat):Int)=((m*2:Nat):Int) by omega,rM aa,show((m*2:Nat):Int)+((1:Nat):Int)=((m*2+1:Nat):Int) by omega,rM aa]
  grind [ya,FQ,T.some]
 grind [rM,Mk,T.eqb,ya,T.some]
def bl(n:Nat):Nat:=if h:n=0 then 0 else bl (n/2)+1
theorem Mo(h:0<n):bl (n/2)<bl n:=by grind [bl.eq_1]
theorem QB:∀(k n:Nat),n<2^k->bl n<=k
 |0,n,h=>by grind [bl.eq_1]
 |k+1,n,h=>by
  rw[bl.eq_1];by_cases h0:n=0
  .grind
  .rw[dif_neg h0];have:=QB k (n/2) (by grind);omega
theorem wL(a b:Nat):T (oQ a b) λv=>v<2305843009213693951:=⟨_,rfl,(by grind)⟩
theorem Il(a b:Nat):T (qi a b) λv=>v<2305843009213693951:=⟨_,rfl,(by grind)⟩
theorem Ac5(h:n<18446744073709551616):wU ((n/2:Nat):Int)=n/2:=rM aa
theorem ka(a:Nat){n:Nat}(hn:n<18446744073709551616):T (iK a n) λv=>v<2305843009213693951:=by unfold iK;refine .bind (T.loop (λs=>s.1<2305843009213693951/\s.2.2<18446744073709551616) (λs=>bl s.2.2) (by grind) (by have:=QB 64 n (by grind);grind) ?_);rintro⟨x,y,m⟩ ⟨hx,hm⟩;simp only at hx hm;unfold r6;dsimp only;refine .dec (λh=>?_) λh=> .some (.some hx);refine .bind (T.mono (Q:=λv=>v<2305843009213693951) (by grind [wL,T.some]) λv hv=>?_);refine .bind ((wL _ _).mono λw _=> .some ⟨⟨hv,?_⟩,?_⟩);all_goals grind [Ac5,Mo]
theorem Cn{b:CO}(hb:b.length<=1099511627776):T (LU b) λr=>r.length<=b.length:=by
 unfold LU;refine .bind (T.loop (λs=>0<=s.2/\s.2<=b.length+6/\(s.1.length:Int)<=s.2/\s.1.length<=b.length) (λs=>(b.length+7-s.2).toNat) (by grind) cq ?_);rintro⟨acc,i⟩ ⟨h0,h1,h2,h3⟩;simp only at h0 h1 h2 h3;unfold qh;dsimp only;refine .dec (λh=>?_) λh=> .some (.some h3);unfold ah at h;have e7:wI (i+7)=i+7:=by grind [bM]
 have em:0<=iI (ah b) (i+7)/\iI (ah b) (i+7)<=b.length:=by grind [iI,ah]
 refine .bind (T.mono (Q:=λ_=>True) (T.loop (λs=>s.2<b.length) (λs=>(s.2+1-i).toNat) ?_ ?_ ?_) λx _=>?_)
 .grind [bM]
 .grind [bM]
 .rintro⟨u,j⟩ hj;simp only at hj;unfold my;dsimp only;refine .dec (λh=>?_) λh=> .some trivial;refine .bind (.ixl aa hj λx _ _=> .some ⟨?_,?_⟩);all_goals grind [bM]
 .refine .bind (.app cq (.some ⟨?_,?_⟩));all_goals grind
theorem T.strB{s:CO}{Q:CO->Prop}(h:s.length<=1099511627776)(q:Q s):T (Gk s) Q:=⟨s,by grind [Gk],q⟩
theorem Mp(z:Int):wU z<18446744073709551616:=by grind [wU,IntKind.wrap_u64]
theorem F5(h1:label.length<=1000)(h2:l.length<=1099511627776):T (yA label l) λv=>v<18446744073709551616:=by
 unfold yA;refine .bind (.strB aa (.bind ((Cn (b:=label) aa).mono λw hw=> .bind (.app cq (.bind ?_)))));refine T.forA l.length (λk acc=>acc.length<=w.length+1+k) aa aC (λk acc hk hj=>?_) λacc hj=>?_
 .unfold qk;dsimp only;rw[eA hk,ax,au,EA hk,aL];exact .bind (.app cq (.some ⟨aq aa,by simp;omega⟩))
 .unfold qk;dsimp only;rw[eF,A9];refine .some (.bind (.app cq (.bind ?_)));have hl:(acc++[0]).length<=w.length+2+l.length:=by simp;omega
  generalize acc++[0]=v at hl;refine T.forA v.length (λ_ x=>x<18446744073709551616) aa (Mp _) (λk x hk _=>?_) λx hx=>?_
  .unfold qj;dsimp only;rw[eA hk,ax,au,EA hk];refine .bind ((wL _ _).mono λ_ _=> .bind (.some (.bind ((Il _ _).mono λ_ _=> .bind ((Il _ _).mono λ_ _=> .bind ((ka _ aa).mono λ_ h=> .some ⟨aq aa,(by grind)⟩))))))
  .unfold qj;dsimp only;rw[eF,A9];exact .some (.some hx)
theorem yX(h1:label.length<=1000)(h2:l.length<=1099511627776):T (LR label l) λv=>1<=v/\v<=2305843009213693949:=by unfold LR;refine .bind ((F5 h1 h2).mono λv _=> .some ?_);rw[show((1:Nat):Int)+((v%2305843009213693949:Nat):Int)=((1+v%2305843009213693949:Nat):Int) by omega,rM aa];omega
theorem Im{kind:CO}{d:Int}(h1:kind.length<=1000):T (lf kind d) λv=>1<=v/\v<=2305843009213693949:= .bind (by grind [T.mono,yX,T.some])
theorem QC{s:Nat}(h:s<18446744073709551616):T (xo s) λv=>v<2305843009213693951:= .bind ((ka _ h).mono λ_ h=> .some h)
theorem Co{label b:CO}(h1:label.length<=1000)(h2:b.length<=1073741824):T (jI label b) λv=>v<18446744073709551616:= .bind (by grind [T.mono,Cn,T.bind,T.app,F5])
theorem QD(h2:b.length<=1073741824):T (Ph b) λv=>v<18446744073709551616:= .bind (by grind [T.mono,Co,T.some])
theorem QE{r p:Nat}(h2:b.length<=1073741824):T (Pi r p b) λv=>v<18446744073709551616:= .bind (by grind [T.mono,QD,F5])
theorem Kz{b:Nat}(hb:b<18446744073709551616):T (vp a b) λv=>v<2305843009213693950:=by unfold vp;refine .bind (.some (.bind ⟨_,rfl,.bind (.some (.bind ⟨_,rfl,.bind ?_⟩))⟩));have hq:b%2305843009213693950<2^64:=aa;refine T.loop (λs=>s.2.1<18446744073709551616/\s.2.2<2305843009213693950) (λs=>bl s.2.1) (by grind) (by have:=QB 64 _ hq;grind) ?_;rintro⟨x,m,y⟩ ⟨hm,hy⟩;simp only at hm hy;unfold yC;dsimp only;refine .dec (λh=>?_) λh=> .some (.some hy);refine .bind (T.mono (Q:=λv=>v<2305843009213693950) (.ite (λ_=> .bind (.some (.bind ⟨_,rfl,(by grind [T.some])⟩))) λ_=> .some hy) λv hv=>?_);refine .bind (.some (.bind ⟨_,rfl,.some ⟨⟨?_,hv⟩,?_⟩⟩));all_goals grind [Ac5,Mo]
def Fk(z:Int):Prop:= -9223372036854775808<=z/\z<=9223372036854775807
def fS(n:Nat):Prop:=n<18446744073709551616
theorem NY(hk:k<18446744073709551616)(hb:b.length<=1073741824):T (zX k b) λs=>fS s.R/\fS s.S:=by unfold zX;refine .bind ((QD hb).mono λv1 _=> .bind ((yX Cd aC).mono λc h3=> .bind ((ka _ aa).mono λd h5=> .bind ((QC hk).mono λe _=> .bind ((QE hb).mono λf _=> .bind ((Kz hk).mono λa _=> .bind (.some (.bind ⟨_,rfl,.some ⟨Nat.lt_trans h5 Cd,Nat.lt_trans (Nat.mod_lt _ Cd) Cd⟩⟩))))))))
structure JM (i:Ab):Prop where
 a:Fk i.By
 b:Fk i.Seq
 c:fS i.Sum
structure FI (i:Ho):Prop where
 a:fS i.To
 b:fS i.Eph
 c:fS i.Body
 d:fS i.Tag
structure Hz (i:DR):Prop where
 a:fS i.Pub
 n:i.Boxes.length<=1000
 b:∀x∈i.Boxes,FI x
structure HA (i:DS):Prop where
 a:JM i.Of
 n:i.Body.length<=1000
structure Bb (o:Bi):Prop where
 ints:∀z∈[o.By,o.Seq,o.Kind,o.At,o.Device,o.Old,o.Member,o.Role,o.N,o.Need,o.Wait],Fk z
 nPast:o.Past.length<=1000
 past:∀x∈o.Past,JM x
 nPath:o.Path.length<=1000
 path:∀x∈o.Path,Hz x
 epoch:JM o.Epoch
 nBody:o.Body.length<=1000
 nRefs:o.Refs.length<=1000
 refs:∀x∈o.Refs,fS x
 of_:JM o.Of
 nGuards:o.Guards.length<=1000
 guards:∀x∈o.Guards,Fk x
 nBoxes:o.Boxes.length<=1000
 boxes:∀x∈o.Boxes,FI x
 pub:fS o.Pub
 nHist:o.Hist.length<=1000
 hist:∀x∈o.Hist,HA x
def aV(z:Int):CO:=nb (Mk z)
def sN(i:Ab):CO:=aV i.By++aV i.Seq++nb i.Sum
def tM(s:CO):CO:=aV (s.length:Int)++s
def uT(b:Ho):CO:=[b.To,b.Eph,b.Body,b.Tag].flatMap nb
def uU(l:List Ho):CO:=aV (l.length:Int)++l.flatMap uT
def ke(n:DR):CO:=nb n.Pub++uU n.Boxes
def lX(x:DS):CO:=sN x.Of++tM x.Body
def qc(o:Bi):CO:=[o.By,o.Seq,o.Kind,o.At,(o.Past.length:Int)].flatMap aV++o.Past.flatMap sN++[o.Device,o.Old,o.Member,o.Role,(o.Path.length:Int)].flatMap aV++o.Path.flatMap ke++sN o.Epoch++aV o.N++tM o.Body++aV (o.Refs.length:Int)++o.Refs.flatMap nb++sN o.Of++aV (o.Guards.length:Int)++o.Guards.flatMap aV++[o.Need,o.Wait].flatMap aV++uU o.Boxes++nb o.Pub++aV (o.Hist.length:Int)++o.Hist.flatMap lX
theorem gH(h:fS k):(nb k).length<=10:=ow h
theorem aR(h:Fk z):(aV z).length<=10:=ow (FQ h)
theorem Lz(h:JM i):(sN i).length<=30:=by grind [aR,JM.a,JM.b,gH,JM.c,sN]
theorem dO{l:List α}(h:l.length<=1000000):Fk (l.length:Int):=by unfold Fk;omega
theorem Ao{b:Ho}(h:FI b):(uT b).length<=40:=by grind [gH,FI.a,FI.b,FI.c,FI.d,uT]
theorem wM{l:List Ho}(hn:l.length<=1000)(h:∀x∈l,FI x):(uU l).length<=40010:=by have h1:=aR (dO (l:=l) aa);have h2:=d8 (l:=l) (enc:=uT) (c:=40) (by grind [Ao]);grind [uU]
theorem Ap{s:CO}(hn:s.length<=1000):(tM s).length<=1010:=by grind [aR,dO,tM]
theorem Aq{n:DR}(h:Hz n):(ke n).length<=40020:=by grind [gH,Hz.a,wM,Hz.n,Hz.b,ke]
theorem F6{n:DS}(h:HA n):(lX n).length<=1040:=by grind [Lz,HA.a,Ap,HA.n,lX]
theorem oF(h:fS k):T (jl k) λv=>v=nb k:= .of (ya h) rfl
theorem cK(h:Fk z):T (cg z) λv=>v=aV z:= .of (F4 h) rfl
theorem l6(h:JM i):T (iJ i) λv=>v=sN i:=by have h1:=aR h.a;have h2:=aR h.b;have h3:=gH h.c;unfold iJ;refine .bind ((cK h.a).mono ?_);rintro v rfl;refine .bind ((cK h.b).mono ?_);rintro v rfl;refine .bind (.app aa (.bind ((oF h.c).mono ?_)));rintro v rfl;exact .bind (.app (by grind) (.some rfl))
theorem Ey{s:CO}(h:s.length<=1000):T (vu s) λv=>v=tM s:=by have h1:=aR (dO (l:=s) aa);refine .bind ((cK (dO (l:=s) aa)).mono ?_);rintro v rfl;exact .bind (.app aa (.some rfl))
theorem sO{l:Bj}(hn:l.length<=1000)(h:∀x∈l,Fk x):T (Qn l) λv=>v=l.flatMap aV:=by
 refine .bind (T.mono (T.forE l [] aV 10 aa (by grind [aR]) (λk acc x hx hm hk hl=>?_) λacc=>?_) (by grind [T.some]))
 .unfold tR;dsimp only;rw[eA hk,ax,au,hx,aL];refine .bind ((cK (h x hm)).mono ?_);rintro v rfl;have:=aR (h x hm);exact .bind (.app (by grind) (.some ⟨aq aa,rfl⟩))
 grind [tR,eF]
theorem Ez(hn:l.length<=1000)(h:∀x∈l,fS x):T (vt l) λv=>v=l.flatMap nb:=by
 refine .bind (T.mono (T.forE l [] nb 10 aa (by grind [gH]) (λk acc x hx hm hk hl=>?_) λacc=>?_) (by grind [T.some]))
 .unfold tS;dsimp only;rw[eA hk,ax,au,hx,aL];refine .bind ((oF (h x hm)).mono ?_);rintro v rfl;have:=gH (h x hm);exact .bind (.app (by grind) (.some ⟨aq aa,rfl⟩))
 grind [tS,eF]
theorem Cp{l:List Ho}(hn:l.length<=1000)(h:∀x∈l,FI x):T (nQ l) λv=>v=uU l:=by
 have h1:=aR (dO (l:=l) aa);unfold nQ;refine .bind ((cK (dO (l:=l) aa)).mono ?_);rintro v rfl;refine .bind (T.mono (T.forE l (aV (ah l)) uT 40 aa (by grind [Ao]) (λk acc x hx hm hk hl=>?_) λacc=>?_) λv hv=> .some (by rw[hv];rfl))
 .have hb:=h x hm;unfold qq;dsimp only;rw[eA hk,ax,au,hx];simp only[aL];refine .bind ((Ez aC (by grind [FI.a,FI.b,FI.c,FI.d])).mono ?_);rintro v rfl;have h4:=Ao hb;unfold uT at h4;unfold ah at hl;exact .bind (.app aa (.some ⟨aq aa,rfl⟩))
 grind [qq,eF]
theorem yY(h:Bb o):(qc o).length<=50000000:=by have e1:=d8 (l:=o.Past) (enc:=sN) (c:=30) λx hx=>Lz (h.past x hx);have e2:=d8 (l:=o.Path) (enc:=ke) (c:=40020) λx hx=>Aq (h.path x hx);have e3:=Lz h.epoch;have e4:=Lz h.of_;have e5:=Ap h.nBody;have e6:=d8 (l:=o.Refs) (enc:=nb) (c:=10) λx hx=>gH (h.refs x hx);have e7:=d8 (l:=o.Guards) (enc:=aV) (c:=10) λx hx=>aR (h.guards x hx);have e8:=wM h.nBoxes h.boxes;have e:=d8 (l:=o.Hist) (enc:=lX) (c:=1040) λx hx=>F6 (h.hist x hx);have a:=gH h.pub;have i1:=aR (h.ints o.By aC);have f:=aR (h.ints o.Seq aC);have g:=aR (h.ints o.Kind aC);have i:=aR (h.ints o.At aC);have j:=aR (h.ints o.Device aC);have i6:=aR (h.ints o.Old aC);have k:=aR (h.ints o.Member aC);have m:=aR (h.ints o.Role aC);have n:=aR (h.ints o.N aC);have b:=aR (h.ints o.Need aC);have d:=aR (h.ints o.Wait aC);have l1:=aR (dO (l:=o.Past) (by have:=h.nPast;omega));have l2:=aR (dO (l:=o.Path) (by have:=h.nPath;omega));have l3:=aR (dO (l:=o.Refs) (by have:=h.nRefs;omega));have l4:=aR (dO (l:=o.Guards) (by have:=h.nGuards;omega));have l5:=aR (dO (l:=o.Hist) (by have:=h.nHist;omega));have n1:=h.nPast;have n2:=h.nPath;have p:=h.nRefs;have q:=h.nGuards;have r:=h.nHist;simp only[qc,List.flatMap_cons,List.flatMap_nil,Sv,List.length_nil];omega
theorem uV(h:Bb o):T (lz o) λv=>v=qc o:=by
 have e1:=d8 (l:=o.Past) (enc:=sN) (c:=30) λx hx=>Lz (h.past x hx);have e2:=d8 (l:=o.Path) (enc:=ke) (c:=40020) λx hx=>Aq (h.path x hx);have e6:=d8 (l:=o.Refs) (enc:=nb) (c:=10) λx hx=>gH (h.refs x hx);have e7:=d8 (l:=o.Guards) (enc:=aV) (c:=10) λx hx=>aR (h.guards x hx);have n1:=h.nPast;have n2:=h.nPath;have p:=h.nRefs;have q:=h.nGuards;have r:=h.nHist;have l1:Fk (ah o.Past):=dO (l:=o.Past) aa;have l2:Fk (ah o.Path):=dO (l:=o.Path) aa;have l3:Fk (ah o.Refs):=dO (l:=o.Refs) aa;have l4:Fk (ah o.Guards):=dO (l:=o.Guards) aa;have l5:Fk (ah o.Hist):=dO (l:=o.Hist) aa;have A:∀z∈[o.By,o.Seq,o.Kind,o.At,ah o.Past],Fk z:=by grind [Bb.ints]
 have B:∀z∈[o.Device,o.Old,o.Member,o.Role,ah o.Path],Fk z:=λz hz=>by simp only[EY,Lv,or_false] at hz;rcases hz with rfl|rfl|rfl|rfl|rfl<;>first|exact l2|exact h.ints _ aC
 have C:∀z∈[o.Need,o.Wait],Fk z:=by grind [Bb.ints]
 have a5:([o.By,o.Seq,o.Kind,o.At,ah o.Past].flatMap aV).length<=50:=d8 λx hx=>aR (A x hx);have b5:([o.Device,o.Old,o.Member,o.Role,ah o.Path].flatMap aV).length<=50:=d8 λx hx=>aR (B x hx);have c2:([o.Need,o.Wait].flatMap aV).length<=20:=by grind [aR]
 unfold lz;refine .then (sO aC A) (.then (T.forE o.Past _ sN 30 aa (by grind [Lz,Bb.past]) (λk acc x hx hm hk hl=>?_) λacc=>?_) ?_)
 .unfold qt;dsimp only;rw[eA hk,ax,au,hx,aL];have:=Lz (h.past x hm);exact .then (l6 (h.past x hm)) (.bind (.app aa (.some ⟨aq aa,rfl⟩)))
 .grind [qt,eF]
 refine .then (sO aC B) (.bind (.appL (n:=50+30000) (by grind) b5 Cd λk1=>?_));refine .then (T.forE o.Path _ ke 40020 aa (by grind [Aq,Bb.path]) (λk acc x hx hm hk hl=>?_) λacc=>?_) ?_
 .have hp:=h.path x hm;unfold qs;dsimp only;rw[eA hk,ax,au,hx];simp only[aL];have q1:=gH hp.a;have f:=wM hp.n hp.b;refine .then (oF hp.a) (.bind (.appL (n:=50000000) (m:=10) aa q1 Cd λd=> .then (Cp hp.n hp.b) (.bind (.appL d f Cd λ_=> .some ⟨aq aa,?_⟩))));simp[ke]
 .grind [qs,eF]
 have k2:∀(u:CO),u.length<=30100->(u++o.Path.flatMap ke).length<=41000000:=by grind
 refine .then (l6 h.epoch) (.bind (.appL (k2 _ k1) (Lz h.epoch) Cd λk3=>?_));refine .then (cK (h.ints o.N aC)) (.bind (.appL k3 (aR (h.ints o.N aC)) Cd λg=>?_));refine .then (Ey h.nBody) (.bind (.appL g (Ap h.nBody) Cd λk5=>?_));refine .then (cK l3) (.bind (.appL k5 (aR l3) Cd λk6=>?_));refine .then (Ez h.nRefs h.refs) (.bind (.appL (m:=10000) k6 aa Cd λi=>?_));refine .then (l6 h.of_) (.bind (.appL i (Lz h.of_) Cd λk8=>?_));refine .then (cK l4) (.bind (.appL k8 (aR l4) Cd λk9=>?_));refine .then (sO h.nGuards h.guards) (.bind (.appL (m:=10000) k9 aa Cd λe=>?_));refine .then (sO aC C) (.bind (.appL e c2 Cd λk11=>?_));refine .then (Cp h.nBoxes h.boxes) (.bind (.appL k11 (wM h.nBoxes h.boxes) Cd λk12=>?_));refine .then (oF h.pub) (.bind (.appL k12 (gH h.pub) Cd λk13=>?_));refine .then (cK l5) (.bind (.appL k13 (aR l5) Cd λj=>?_));refine .then (T.forE o.Hist _ lX 1040 aa (λx hx=>F6 (h.hist x hx)) (λk acc x hx hm hk hl=>?_) λacc=>?_) (.some rfl)
 .have hp:=h.hist x hm;unfold Po;dsimp only;rw[eA hk,ax,au,hx];simp only[aL];refine .then (l6 hp.a) (.bind (.appL (n:=50000000) aa (Lz hp.a) Cd λd=> .then (Ey hp.n) (.bind (.appL d (Ap hp.n) Cd λ_=> .some ⟨aq aa,?_⟩))));simp[lX]
 .unfold Po;dsimp only;rw[eF,A9]
theorem wN(h:Bb o):T (pV o) λi=>i.By=o.By/\i.Seq=o.Seq/\jI [111,112] (qc o)=some i.Sum/\JM i:=by refine .then (uV h) (.bind ?_);obtain⟨v,e,hv⟩:=Co (label:=[111,112]) (b:=qc o) Cd (by grind [yY]);exact⟨v,e,.some ⟨rfl,rfl,e,⟨h.ints _ aC,h.ints _ aC,hv⟩⟩⟩
theorem Bb.sig{o:Bi}(h:Bb o)(s:N8):Bb {o with Sig:=s}:=by grind [Bb]
theorem Io(h:Bb o):T (nR o) λr=>∃s:N8,r={o with Sig:=s}/\fS s.R/\fS s.S:=by refine .bind ((Im Cd).mono (by grind [uV,T.bind,T.mono,NY,yY,T.some]))
abbrev oO(i:Nat)(l:CO):Option Ob:=some ⟨243,[.rsl i 0 l.length],none⟩
abbrev oY(l:CO):Option Ob:=some ⟨5,l.flatMap cY,none⟩
theorem MN{P:Br}{t:Bn}(y:UInt8):∀p q:Dl,DE P .or t p q (gY y) (gY 128)=some (gY (UInt8.ofNat (y.toNat%128+128))):=by grind [Yk,V6]
def Aad(s:Bool×CO×Nat):Option ((Bool×CO×Nat)⊕(Bool×CO×Nat)):=
 bif ((128:Nat):Int)<=(s.2.2:Int)then(aT 1 s.2.1 [UInt8.ofNat ((wY (s.2.2:Int)).toNat%128+128)]).bind λa=>some (.inl (true,a,JB s.2.2 7))else some (.inr s)
theorem WH(l:CO)(n:Nat)(hn:n<18446744073709551616)(hl:l.length<=100000000000000):T (AQ Aad (false,l,n)) λr=>T (aT 1 r.2.1 [wY (r.2.2:Int)]) λv=>v=l++nb n:=by
 refine T.loop (λs=>s.2.1++nb s.2.2=l++nb n/\s.2.2<18446744073709551616) (λs=>(nb s.2.2).length) ⟨rfl,hn⟩ (by grind [ow]) ?_;rintro⟨a,o,m⟩ ⟨h1,h2⟩;simp only at h1 h2;have hln:o.length+(nb m).length<=l.length+10:=by grind [Sv,ow]
 unfold Aad;dsimp only;refine .dec (λh=>?_) λh=>?_
 .have hm:¬m<128:=aa;refine .bind (.app cq (.some ?_));have e1:JB m 7=m/128:=by unfold JB;congr 1
  have e2:(wY (m:Int)).toNat%128+128=m%128+128:=by rw[Cm,UInt8.toNat_ofNat'];omega
  constructor<;>grind [Er]
 .have hm:m<128:=aa;refine .some ?_;show T _ _;grind [T.app,Cm,H6]
def MO(s:Bool×CO×Nat):St:=match s.1 with
 |true=>(s0 31 gl [(0,.ref 0 0),(1,uG s.2.2)] [(0,oO 2 s.2.1),(2,oY s.2.1)] 3 2)
 |false=>(s0 31 gl [(0,.ref 0 0),(1,uG s.2.2)] [(0,oO 1 s.2.1),(1,oY s.2.1)] 2 2)
theorem KM{l r:CO}(hn:n<18446744073709551616)(hl:l.length<=100000000000000)(d:l++nb n=r):jg prog gl 191 [.ref 0 0,uG n] [(0,oO 1 l),(1,oY l)] 2 (.tup []) [(0,oO 2 r),(2,oY r)] 3:=by
 obtain⟨⟨f,o,m⟩,hL,v,c,e⟩:=WH l n hn hl;obtain rfl:=e.trans d;refine pP func191 ?_;refine Ix [0] (MO gl (f,o,m)) ?_ λkk=>?_
 .cases f
  .exact mt .normal (s0 31 gl [] [(0,oO 2 v),(2,oY v)] 3 2) [] [AA 26 (Iz (m:Int)),dg 28 rY c] [hc (el v),hc (rY.imm v)] (ρ:=[(0,0),(1,1),(2,3)]) (kd:=[(2,.row)])
  .exact mt .normal (s0 31 gl [] [(0,oO 2 v),(2,oY v)] 3 2) [] [AA 26 (Iz (m:Int)),dg 28 rY c] [hc (el v),hc (rY.imm v)] (ρ:=[(0,0),(1,1),(2,4)]) (kd:=[(2,.row)])
 refine pN (MO gl) [0,2,2] hL [] [hc (el l),hc (rY.imm l)] (λB s w hs k5 i=>?_);obtain⟨g,j,b⟩:=s;unfold Aad at hs;rcases bC hs with⟨b1,hs⟩|⟨b1,hs⟩
 .obtain⟨a,h,hs⟩:=bS hs;obtain rfl:=Bh hs;have k:=k5 _ rfl;cases g
  .exact jw [hr 5 b1,AA 12 (Iz (b:Int)),hV 13 (MN (P:=prog) (t:=5) (wY (b:Int))),dg 15 rY h,hV 19 (TH (P:=prog) (t:=40) (k':= .u64) b 7)] [hc (el a),hc (rY.imm a)] k (ρ:=[(0,0),(1,1),(2,3)])
  .exact jw [hr 5 b1,AA 12 (Iz (b:Int)),hV 13 (MN (P:=prog) (t:=5) (wY (b:Int))),dg 15 rY h,hV 19 (TH (P:=prog) (t:=40) (k':= .u64) b 7)] [hc (el a),hc (rY.imm a)] k (ρ:=[(0,0),(1,1),(2,4)])
 .obtain rfl:=Bh hs;obtain e:=i _ rfl;cases e;cases f
  .exact yl [0] [hr 5 b1] [hc (el o),hc (rY.imm o)] kk
  .exact yl [0] [hr 5 b1] [hc (el o),hc (rY.imm o)] kk (ρ:=rI 3)
theorem WI{P:Br}{t:Bn}{n:Int}(h:Fk n):∀p q:Dl,DE P .xor t p q (uG (I1 (wU n) 1)) (uG (wU (Tf n 63)))=some (uG (Mk n)):=λp q=>by
 have e1:((I1 (wU n) 1:Nat):Int)=IntKind.u64.wrap (IntKind.u64.wrap n*2^1):=by have h1:=zk n;rw[<-h1,IntKind.wrap_u64];grind [I1]
 have e2:((wU (Tf n 63):Nat):Int)=IntKind.u64.wrap (n.fdiv (2^63)):=by rw[zk];rfl
 rw[e1,e2];exact Ym h
theorem TL{n:Int}(h:Fk n):ba prog gl 283 [iG n] (uG (Mk n)):=by refine Gh func283 ?_;exact Ar [AA 4 (C8 n),hV 5 (Ks (P:=prog) (t:=40) (k':= .u64) (wU n) 1),hV 7 (V9 (P:=prog) (t:=3) (k':= .u64) n 63),AA 8 (C8 (Tf n 63)),hV 9 (WI (P:=prog) (t:=40) h)] []
theorem cA{l r:CO}{n:Int}(hn:Fk n)(hl:l.length<=100000000000000)(a:l++aV n=r):jg prog gl 189 [.ref 0 0,iG n] [(0,oO 1 l),(1,oY l)] 2 (.tup []) [(0,oO 2 r),(2,oY r)] 3:=by refine pP func189 ?_;exact mt .normal (s0 8 gl [] [(0,oO 2 r),(2,oY r)] 3 2) [] [hf 6 (TL gl hn),tN 7 [0,1] 2 [(0,oO 1 l),(1,oY l)] [.ref 0 0,uG (Mk n)] [(0,oO 2 r),(1,none),(2,oY r)] (KM gl (FQ hn) hl a) ⟨⟨rfl,.inl rfl⟩,⟨rfl,.inr ⟨rfl,rY.imm l⟩⟩,trivial⟩ ⟨⟨rfl,.inl rfl⟩,⟨rfl,.inr ⟨rfl,rY.imm r⟩⟩,trivial⟩] [hc (el r),hc (rY.imm r)] (ρ:=rI 3) (kd:=[(2,.row)])
def gD(d i k c:Nat)(gs:Bo){gl:CC}{fid:FuncId}{gs0:Bo}{l r:CO}(h:jg prog gl fid gs0 [(0,oO 1 l),(1,oY l)] [i,k].length (.tup []) [(0,oO 2 r),(2,oY r)] 3)
  (hin:w6 (vi [i,k]) [(i,oO k l),(k,oY l)] [(0,oO 1 l),(1,oY l)] 0 [i,k]:=by exact⟨⟨rfl,.inl rfl⟩,⟨rfl,.inr ⟨rfl,rY.imm _⟩⟩,trivial⟩) (a:oI (G4 [i,k] c) [(0,oO 2 r),(2,oY r)] [(0,oO c r),(1,none),(2,oY r)]:=by exact⟨⟨rfl,.inl rfl⟩,⟨rfl,.inr ⟨rfl,rY.imm _⟩⟩,trivial⟩)
  (hlt:[i,k].all (λi=>Nat.blt i c)=true:=by kernel_rfl) (hnd:decide [i,k].Nodup=true:=by kernel_rfl) (hgs:gs.map (qg (vi [i,k]) 20)=gs0:=by kernel_rfl):HP:=
 tN d [i,k] c [(i,oO k l),(k,oY l)] gs [(0,oO c r),(1,none),(2,oY r)] h hin a hlt hnd hgs (by rfl) (by rfl) (by rfl)
theorem aaT(a b c d:List α):a++b++c++d=a++(b++c++d):=by grind
theorem kh{l r:CO}(hi:JM i)(hl:l.length<=10000000000000)(d:l++sN i=r):jg prog gl 193 [.ref 0 0,.agg (aj i)] [(0,oO 1 l),(1,oY l)] 2 (.tup []) [(0,oO 2 r),(2,oY r)] 3:=by
 have h1:=aR hi.a;have h2:=aR hi.b;have e:l++aV i.By++aV i.Seq++nb i.Sum=r:=by rw[aaT];exact d
 refine pP func193 ?_;exact mt .normal (s0 16 gl [] [(0,oO 2 r),(2,oY r)] 3 2) [] [gD 7 0 1 3 [.ref 0 0,iG i.By] (cA gl hi.a aa (r:=l++aV i.By) rfl),gD 11 0 3 4 [.ref 0 0,iG i.Seq] (cA gl hi.b cq (r:=l++aV i.By++aV i.Seq) rfl),gD 15 0 4 5 [.ref 0 0,uG i.Sum] (KM gl hi.c cq e)] [hc (el r),hc (rY.imm r)] (ρ:=[(0,0),(1,1),(2,5)]) (kd:=[(2,.row)])
theorem CR{l r s:CO}(hs:s.length<=1000000)(hl:l.length<=10000000000000)(a:l++tM s=r):jg prog gl 197 [.ref 0 0,sG s] [(0,oO 1 l),(1,oY l)] 2 (.tup []) [(0,oO 2 r),(2,oY r)] 3:=by
 have h1:=aR (dO hs);have e:aT 1 (l++aV (s.length:Int)) s=some r:=by grind [aT,tM]
 refine pP func197 ?_;exact mt .normal (s0 17 gl [] [(0,oO 2 r),(2,oY r)] 3 2) [] [hL 6 s,gD 7 0 1 2 [.ref 0 0,iG (ah s)] (cA gl (dO hs) aa (r:=l++aV (s.length:Int)) rfl),XZ 14 e] [hc (el r),hc (rY.imm r)] (ρ:=[(0,0),(1,1),(2,3)]) (kd:=[(2,.row)])
theorem rS{l:CO}(hl:l.length<=10000000000000):jg prog gl 110 [.ref 0 0] [(0,oO 1 l),(1,oY l)] 2 (.rsl 2 0 l.length) [(0,oO 1 l),(1,oY l),(2,oY l)] 3:=by refine pP func110 ?_;exact mt .ret (s0 8 gl [(2,.rsl 2 0 l.length)] [(0,oO 1 l),(1,oY l),(2,oY l)] 3 2) [.rsl 2 0 l.length] [YL 7 rY (show aT 1 [] l=some l by unfold aT;rw[Bx cq];rfl)] [hc (el l),hc (el l),hc (rY.imm l),hc (rY.imm l)] (kd:=[(1,.row),(2,.row)])
section
def md{α:Type}(N:Nat)(enc:α->CO)(ok:α->Bool)(L:List α)(s:Bool×CO×Int):Option ((Bool×CO×Int)⊕(Bool×CO)):=
 bif s.2.2<ah L then(aS L s.2.2).bind λy=>bif ok y&&decide (s.2.1.length<=N)then some (.inl (true,s.2.1++enc y,wI (s.2.2+1)))else none else some (.inr (s.1,s.2.1))
theorem zp(N:Nat){enc:α->CO}{ok:α->Bool}{L:List α}(c:Nat)(b:Bool){l:CO}(hok:∀x∈L,ok x=true)(hc:∀x∈L,(enc x).length<=c)(hn:L.length<=1000000)(hl:l.length+L.length*c<=N):AQ (md N enc ok L) (b,l,0)=some (b||decide (0<L.length),l++L.flatMap enc):=by
 have h:T (AQ (md N enc ok L) (b,l,0)) λr=>r=(b||decide (0<L.length),l++L.flatMap enc):=by
  refine T.loop (λs=>∃k:Nat,s.2.2=(k:Int)/\k<=L.length/\s.2.1=l++(L.take k).flatMap enc/\s.1=(b||decide (0<k))) (λs=>L.length-s.2.2.toNat) (by grind) (by show L.length-_<_;omega) ?_;rintro⟨a,acc,i⟩ ⟨k,h1,h2,h3,h0⟩;simp only at h1 h2 h3 h0;subst h1;subst h3;subst h0;unfold md;refine .dec (λh=>?_) λh=>?_
  .have hk:k<L.length:=by grind [ah]
   refine .bind (.ix (by dsimp only;omega) (x:=L[k]) (by rw[Fm,EA hk]) ?_);have hm:L[k]∈L:=List.getElem_mem hk;have h4:((L.take k).flatMap enc).length<=(L.take k).length*c:=d8 (by grind);have h5:(L.take k).length*c<=L.length*c:=Nat.mul_le_mul_right c (by rw[Ns];omega);rw[hok _ hm,Bool.true_and,CM (by grind),ax];refine .some ⟨⟨k+1,aq aa,hk,?_,aC⟩,?_⟩;all_goals grind [List.take_succ_eq_append_getElem,aq]
  .have hk:k=L.length:=by grind [ah]
   refine .some ?_;show((b||decide (0<k)),l++(L.take k).flatMap enc)=_;rw[hk,D5]
 exact h.eq
instance (z:Int):Decidable (Fk z):=by unfold Fk;infer_instance
instance (n:Nat):Decidable (fS n):=by unfold fS;infer_instance
def okI(z:Int):Bool:=decide (Fk z)
def okU(n:Nat):Bool:=decide (fS n)
theorem rT{c:Bool}{N:Nat}{x:Option α}{r:α}(h:(bif c&&decide (n<=N)then x else none)=some r):c=true/\n<=N/\x=some r:=by grind
variable {P:Br}
end
abbrev bx:Option Ob:=some ⟨171,[.ref 1 0],none⟩
abbrev bb:Option Ob:=some ⟨246,[.clo (.func 190) [] [.ref 0 0]],none⟩
def oN(k:Nat):Bool->Nat:=λb=>bif b then k else 2
instance (x:Ab):Decidable (JM x):=decidable_of_iff (Fk x.By/\Fk x.Seq/\fS x.Sum) ⟨λ⟨a,b,c⟩=>⟨a,b,c⟩,λ⟨a,b,c⟩=>⟨a,b,c⟩⟩
instance (x:Ho):Decidable (FI x):=decidable_of_iff (fS x.To/\fS x.Eph/\fS x.Body/\fS x.Tag) ⟨λ⟨a,b,c,d⟩=>⟨a,b,c,d⟩,λ⟨a,b,c,d⟩=>⟨a,b,c,d⟩⟩
instance (x:DR):Decidable (Hz x):=decidable_of_iff (fS x.Pub/\x.Boxes.length<=1000/\∀b∈x.Boxes,FI b) ⟨λ⟨a,b,c⟩=>⟨a,b,c⟩,λ⟨a,b,c⟩=>⟨a,b,c⟩⟩
instance (x:DS):Decidable (HA x):=decidable_of_iff (JM x.Of/\x.Body.length<=1000) ⟨λ⟨a,b⟩=>⟨a,b⟩,λ⟨a,b⟩=>⟨a,b⟩⟩
def WJ(L:Bj)(s:Bool×CO×Int):St:=match s.1 with
 |true=>(s0 15 gl [(1,.ref 0 0),(5,.rsl 3 0 L.length),(6,iG (ah L)),(7,iG s.2.2)] [(0,bx),(1,oO 4 s.2.1),(4,oY s.2.1),ob 3 3 (L.flatMap cZ)] 5 4)
 |false=>(s0 15 gl [(1,.ref 0 0),(5,.rsl 3 0 L.length),(6,iG (ah L)),(7,iG s.2.2)] [(0,bx),(1,oO 2 s.2.1),(2,oY s.2.1),ob 3 3 (L.flatMap cZ)] 4 4)
theorem CS{l r:CO}{L:Bj}(hL:∀x∈L,Fk x)(hn:L.length<=1000000)(h0:0<L.length)(hl:l.length<=900000000000)(b:l++L.flatMap aV=r):jg prog gl 188 [.rsl 3 0 L.length,.ref 0 0] [(0,bx),(1,oO 2 l),(2,oY l),ob 3 3 (L.flatMap cZ)] 4 (.tup []) [(0,bx),(1,oO 4 r),(4,oY r),ob 3 3 (L.flatMap cZ)] 5:=by
 have hs:=zp 1000000000000 (enc:=aV) (ok:=okI) (L:=L) 10 false (l:=l) (λx hx=>CM (hL x hx)) (λx hx=>aR (hL x hx)) hn aa;rw[b,CM h0,Bool.false_or] at hs;refine pP func188 ?_;refine pN (WJ gl L) [1,2,2] hs [] [hc (rfl:L.length=L.length),hc (el l),hc (rY.imm l),hc (rZ.imm L)] (λB s w hs k5 c=>?_) (kd:=[(2,.row),(3,.row)]) (ρ:=rI 4);obtain⟨d,acc,i⟩:=s;unfold md at hs;rcases bC hs with⟨b1,hs⟩|⟨b1,hs⟩
 .obtain⟨y,a,hs⟩:=bS hs;obtain⟨e,hacc,hs⟩:=rT hs;obtain rfl:=Bh hs;have hy:Fk y:=DP e;have hacc:acc.length<=1000000000000:=hacc;have k:=k5 _ rfl;cases d
  .exact jw [hr 8 b1,AA 9 (rZ.ixrZ 3 a),AA 10 (rZ.p10Z tZ a),gD 13 1 2 4 [.ref 1 0,iG y] (cA gl hy aa (r:=acc++aV y) rfl)] [hc (rfl:L.length=L.length),hc (el (acc++aV y)),hc (rY.imm (acc++aV y)),hc (rZ.imm L)] k (ρ:=rI 5) (kd:=[(4,.row),(3,.row)])
  .exact jw [hr 8 b1,AA 9 (rZ.ixrZ 3 a),AA 10 (rZ.p10Z tZ a),gD 13 1 4 5 [.ref 1 0,iG y] (cA gl hy aa (r:=acc++aV y) rfl)] [hc (rfl:L.length=L.length),hc (el (acc++aV y)),hc (rY.imm (acc++aV y)),hc (rZ.imm L)] k (ρ:=rI 4++[(4,5)]) (kd:=[(4,.row),(3,.row)])
 .obtain rfl:=Bh hs;cases c _ rfl;exact mt .normal (s0 15 gl [] [(0,bx),(1,oO 4 acc),(4,oY acc),ob 3 3 (L.flatMap cZ)] 5 4) [] [hr 8 b1] [hc (el acc),hc (rY.imm acc),hc (rZ.imm L)] (ρ:=rI 5) (kd:=[(4,.row),(3,.row)])
def WK(x:Ho)(s:Bool×CO×Int):St:=match s.1 with
 |true=>(s0 23 gl [(1,.ref 0 0),(13,.rsl 3 0 4),(14,iG 4),(15,iG s.2.2)] [(0,bx),(1,oO 4 s.2.1),(4,oY s.2.1),ob 3 40 ([x.To,x.Eph,x.Body,x.Tag].flatMap cW)] 5 3)
 |false=>(s0 23 gl [(1,.ref 0 0),(13,.rsl 3 0 4),(14,iG 4),(15,iG s.2.2)] [(0,bx),(1,oO 2 s.2.1),(2,oY s.2.1),ob 3 40 ([x.To,x.Eph,x.Body,x.Tag].flatMap cW)] 4 3)
theorem Ri{l r:CO}{x:Ho}(hx:FI x)(hl:l.length<=900000000000)(f:l++uT x=r):jg prog gl 190 [.agg (cz x),.ref 0 0] [(0,bx),(1,oO 2 l),(2,oY l)] 3 (.tup []) [(0,bx),(1,oO 3 r),(3,oY r)] 4:=by
 have hU:∀n∈[x.To,x.Eph,x.Body,x.Tag],fS n:=by grind [FI.a,FI.b,FI.c,FI.d]
 have hs:=zp 1000000000000 (enc:=nb) (ok:=okU) (L:=[x.To,x.Eph,x.Body,x.Tag]) 10 false (l:=l) (λx hx=>CM (hU x hx)) (λx hx=>gH (hU x hx)) aC cq;rw[show l++[x.To,x.Eph,x.Body,x.Tag].flatMap nb=r from f,CM (by grind),Bool.false_or] at hs;refine pP func190 ?_;refine pN (WK gl x) [1,1,2,2] hs [] [hc (rfl:(4:Nat)=4),hc (el l),hc (rY.imm l),hc (rW.imm [x.To,x.Eph,x.Body,x.Tag])] (λB s w hs k5 g=>?_) (kd:=[(2,.row),(3,.row)]) (ρ:=rI 3++[(3,4)]);obtain⟨h,acc,i⟩:=s;unfold md at hs;rcases bC hs with⟨b1,hs⟩|⟨b1,hs⟩
 .obtain⟨y,e,hs⟩:=bS hs;obtain⟨j,hacc,hs⟩:=rT hs;obtain rfl:=Bh hs;have hy:fS y:=DP j;have hacc:acc.length<=1000000000000:=hacc;have k:=k5 _ rfl;cases h
  .exact jw [hr 16 b1,AA 17 (rW.ixrZ 3 e),AA 18 (rW.p10Z tW e),gD 21 1 2 4 [.ref 1 0,uG y] (KM gl hy aa (r:=acc++nb y) rfl)] [hc (rfl:(4:Nat)=4),hc (el (acc++nb y)),hc (rY.imm (acc++nb y)),hc (rW.imm [x.To,x.Eph,x.Body,x.Tag])] k (ρ:=rI 5) (kd:=[(4,.row),(3,.row)])
  .exact jw [hr 16 b1,AA 17 (rW.ixrZ 3 e),AA 18 (rW.p10Z tW e),gD 21 1 4 5 [.ref 1 0,uG y] (KM gl hy aa (r:=acc++nb y) rfl)] [hc (rfl:(4:Nat)=4),hc (el (acc++nb y)),hc (rY.imm (acc++nb y)),hc (rW.imm [x.To,x.Eph,x.Body,x.Tag])] k (ρ:=rI 4++[(4,5)]) (kd:=[(4,.row),(3,.row)])
 .obtain rfl:=Bh hs;cases g _ rfl;exact mt .normal (s0 23 gl [] [(0,bx),(1,oO 3 acc),(3,oY acc)] 4 3) [] [hr 16 b1] [hc (el acc),hc (rY.imm acc)] (ρ:=rI 3++[(3,4)]) (kd:=[(3,.row)])
abbrev sW(k:Nat)(l:CO):aQ:=[(0,bx),(1,oO k l),(k,oY l),(3,bb)]
def IN(d k c:Nat)(gs:Bo){gl:CC}{fid:FuncId}{gs0:Bo}{l r:CO}(h:jg prog gl fid gs0 (sW 2 l) [0,1,k,3].length (.tup []) (sW 4 r) 5)
  (hin:w6 (vi [0,1,k,3]) (sW k l) (sW 2 l) 0 [0,1,k,3]:=by exact⟨⟨rfl,.inl rfl⟩,⟨rfl,.inl rfl⟩,⟨rfl,.inr ⟨rfl,rY.imm _⟩⟩,⟨rfl,.inl rfl⟩,trivial⟩) (a:oI (G4 [0,1,k,3] c) (sW 4 r) [(0,bx),(1,oO c r),(2,none),(3,bb),(4,oY r)]:=by exact⟨⟨rfl,.inl rfl⟩,⟨rfl,.inl rfl⟩,⟨rfl,.inl rfl⟩,⟨rfl,.inr ⟨rfl,rY.imm _⟩⟩,trivial⟩)
  (hlt:[0,1,k,3].all (λi=>Nat.blt i c)=true:=by kernel_rfl) (hnd:decide [0,1,k,3].Nodup=true:=by kernel_rfl) (hgs:gs.map (qg (vi [0,1,k,3]) 20)=gs0:=by kernel_rfl):HP:=
 tN d [0,1,k,3] c (sW k l) gs [(0,bx),(1,oO c r),(2,none),(3,bb),(4,oY r)] h hin a hlt hnd hgs (by rfl) (by rfl) (by rfl)
def Zc(d k c:Nat)(gs:Bo){gl:CC}{fid:FuncId}{gs0:Bo}{l r:CO}(h:jg prog gl fid gs0 [(0,bx),(1,oO 2 l),(2,oY l)] [0,1,k].length (.tup []) [(0,bx),(1,oO 3 r),(3,oY r)] 4)
  (hin:w6 (vi [0,1,k]) [(0,bx),(1,oO k l),(k,oY l)] [(0,bx),(1,oO 2 l),(2,oY l)] 0 [0,1,k]:=by exact⟨⟨rfl,.inl rfl⟩,⟨rfl,.inl rfl⟩,⟨rfl,.inr ⟨rfl,rY.imm _⟩⟩,trivial⟩) (a:oI (G4 [0,1,k] c) [(0,bx),(1,oO 3 r),(3,oY r)] [(0,bx),(1,oO c r),(2,none),(3,oY r)]:=by exact⟨⟨rfl,.inl rfl⟩,⟨rfl,.inl rfl⟩,⟨rfl,.inr ⟨rfl,rY.imm _⟩⟩,trivial⟩)
  (hlt:[0,1,k].all (λi=>Nat.blt i c)=true:=by kernel_rfl) (hnd:decide [0,1,k].Nodup=true:=by kernel_rfl) (hgs:gs.map (qg (vi [0,1,k]) 20)=gs0:=by kernel_rfl):HP:=
 tN d [0,1,k] c [(0,bx),(1,oO k l),(k,oY l)] gs [(0,bx),(1,oO c r),(2,none),(3,oY r)] h hin a hlt hnd hgs (by rfl) (by rfl) (by rfl)
theorem Rj{l r:CO}{L:AH}(hL:∀x∈L,JM x)(hn:L.length<=1000)(hl:l.length<=900000000000)(a:l++(aV (L.length:Int)++L.flatMap sN)=r):jg prog gl 192 [.ref 1 0,aE aj L,.clo (.func 193) [.ref 1 0] []] (sW 2 l) 4 (.tup []) (sW 4 r) 5:=by
 have h1:=aR (dO (l:=L) aa);have hs:=zp 1000000000000 (enc:=sN) (ok:=λx=>decide (JM x)) (L:=L) 30 true (l:=l++aV (L.length:Int)) (λx hx=>CM (hL x hx)) (λx hx=>Lz (hL x hx)) aa cq;rw[List.append_assoc,a,Bool.true_or] at hs;refine pP func192 ?_;refine pN (λs:Bool×CO×Int=>(s0 22 gl [(2,.clo (.func 193) [.ref 1 0] []),(12,aE aj L),(13,iG (ah L)),(14,iG s.2.2)] (sW 4 s.2.1) 5 4)) 11122 hs [gD 11 1 2 4 [.ref 1 0,iG (ah L)] (cA gl (dO (l:=L) aa) aa (r:=l++aV (L.length:Int)) rfl)] [hc (el (l++aV (L.length:Int))),hc (rY.imm (l++aV (L.length:Int)))] (λB s w hs k5 c=>?_) (kd:=[(4,.row),(999999,.clo)]) (ρ:=rI 5);obtain⟨e,acc,i⟩:=s;unfold md at hs;rcases bC hs with⟨b1,hs⟩|⟨b1,hs⟩
 .obtain⟨y,b,hs⟩:=bS hs;obtain⟨d,hacc,hs⟩:=rT hs;obtain rfl:=Bh hs;have hy:JM y:=DP d;have hacc:acc.length<=1000000000000:=hacc;exact jw [hr 15 b1,AA 16 (ac.ixZ b),AA 17 (ac.ptZ aW b),gD 20 1 4 6 [.ref 1 0,.agg (aj y)] (kh gl hy aa (r:=acc++sN y) rfl)] [hc (el (acc++sN y)),hc (rY.imm (acc++sN y))] (k5 _ rfl) (ρ:=rI 4++[(4,6)]) (kd:=[(4,.row),(999999,.clo)])
 .obtain rfl:=Bh hs;cases c _ rfl;exact mt .normal (s0 22 gl [] (sW 4 acc) 5 4) [] [hr 15 b1] [hc (el acc),hc (rY.imm acc)] (ρ:=rI 5) (kd:=[(4,.row),(999999,.clo)])
theorem IO_q{l r:CO}{L:List Ho}(hL:∀x∈L,FI x)(hn:L.length<=1000)(hl:l.length<=800000000000)(a:l++(aV (L.length:Int)++L.flatMap uT)=r):jg prog gl 196 [.ref 1 0,aE cz L,.clo (.func 190) [] [.ref 0 0]] (sW 2 l) 4 (.tup []) (sW 4 r) 5:=by
 have h1:=aR (dO (l:=L) aa);have hs:=zp 900000000000 (enc:=uT) (ok:=λx=>decide (FI x)) (L:=L) 40 true (l:=l++aV (L.length:Int)) (λx hx=>CM (hL x hx)) (λx hx=>Ao (hL x hx)) aa cq;rw[List.append_assoc,a,Bool.true_or] at hs;refine pP func196 ?_;refine pN (λs:Bool×CO×Int=>(s0 22 gl [(2,.clo (.func 190) [] [.ref 0 0]),(12,aE cz L),(13,iG (ah L)),(14,iG s.2.2)] (sW 4 s.2.1) 5 4)) 11122 hs [gD 11 1 2 4 [.ref 1 0,iG (ah L)] (cA gl (dO (l:=L) aa) aa (r:=l++aV (L.length:Int)) rfl)] [hc (el (l++aV (L.length:Int))),hc (rY.imm (l++aV (L.length:Int)))] (λB s w hs k5 c=>?_) (kd:=[(4,.row),(999999,.clo)]) (ρ:=rI 5);obtain⟨e,acc,i⟩:=s;unfold md at hs;rcases bC hs with⟨b1,hs⟩|⟨b1,hs⟩
 .obtain⟨y,b,hs⟩:=bS hs;obtain⟨d,hacc,hs⟩:=rT hs;obtain rfl:=Bh hs;have hy:FI y:=DP d;have hacc:acc.length<=900000000000:=hacc;exact jw [hr 15 b1,AA 16 (EZ.ixZ b),AA 17 (EZ.ptZ UL b),Zc 20 4 6 [.agg (cz y),.ref 0 0] (Ri gl hy aa (r:=acc++uT y) rfl)] [hc (el (acc++uT y)),hc (rY.imm (acc++uT y))] (k5 _ rfl) (ρ:=rI 4++[(4,6)]) (kd:=[(4,.row),(999999,.clo)])
 .obtain rfl:=Bh hs;cases c _ rfl;exact mt .normal (s0 22 gl [] (sW 4 acc) 5 4) [] [hr 15 b1] [hc (el acc),hc (rY.imm acc)] (ρ:=rI 5) (kd:=[(4,.row),(999999,.clo)])
theorem TM{l r:CO}{L:Bp}(hL:∀x∈L,fS x)(hn:L.length<=1000)(hl:l.length<=900000000000)(a:l++(aV (L.length:Int)++L.flatMap nb)=r):jg prog gl 198 [.ref 1 0,aE cW L,.clo (.func 191) [.ref 1 0] []] (sW 2 l) 4 (.tup []) (sW 4 r) 5:=by
 have h1:=aR (dO (l:=L) aa);have hs:=zp 1000000000000 (enc:=nb) (ok:=λx=>decide (fS x)) (L:=L) 10 true (l:=l++aV (L.length:Int)) (λx hx=>CM (hL x hx)) (λx hx=>gH (hL x hx)) aa cq;rw[List.append_assoc,a,Bool.true_or] at hs;refine pP func198 ?_;refine pN (λs:Bool×CO×Int=>(s0 22 gl [(2,.clo (.func 191) [.ref 1 0] []),(12,aE cW L),(13,iG (ah L)),(14,iG s.2.2)] (sW 4 s.2.1) 5 4)) 11122 hs [gD 11 1 2 4 [.ref 1 0,iG (ah L)] (cA gl (dO (l:=L) aa) aa (r:=l++aV (L.length:Int)) rfl)] [hc (el (l++aV (L.length:Int))),hc (rY.imm (l++aV (L.length:Int)))] (λB s w hs k5 c=>?_) (kd:=[(4,.row),(999999,.clo)]) (ρ:=rI 5);obtain⟨e,acc,i⟩:=s;unfold md at hs;rcases bC hs with⟨b1,hs⟩|⟨b1,hs⟩
 .obtain⟨y,b,hs⟩:=bS hs;obtain⟨d,hacc,hs⟩:=rT hs;obtain rfl:=Bh hs;have hy:fS y:=DP d;have hacc:acc.length<=1000000000000:=hacc;exact jw [hr 15 b1,AA 16 (rW.ixZ b),AA 17 (rW.p1Z tW b),gD 20 1 4 5 [.ref 1 0,uG y] (KM gl hy aa (r:=acc++nb y) rfl)] [hc (el (acc++nb y)),hc (rY.imm (acc++nb y))] (k5 _ rfl) (ρ:=rI 4++[(4,5)]) (kd:=[(4,.row),(999999,.clo)])
 .obtain rfl:=Bh hs;cases c _ rfl;exact mt .normal (s0 22 gl [] (sW 4 acc) 5 4) [] [hr 15 b1] [hc (el acc),hc (rY.imm acc)] (ρ:=rI 5) (kd:=[(4,.row),(999999,.clo)])
theorem TN{l r:CO}{L:Bj}(hL:∀x∈L,Fk x)(hn:L.length<=1000)(hl:l.length<=900000000000)(a:l++(aV (L.length:Int)++L.flatMap aV)=r):jg prog gl 199 [.ref 1 0,aE cZ L,.clo (.func 189) [.ref 1 0] []] (sW 2 l) 4 (.tup []) (sW 4 r) 5:=by
 have h1:=aR (dO (l:=L) aa);have hs:=zp 1000000000000 (enc:=aV) (ok:=λx=>decide (Fk x)) (L:=L) 10 true (l:=l++aV (L.length:Int)) (λx hx=>CM (hL x hx)) (λx hx=>aR (hL x hx)) aa cq;rw[List.append_assoc,a,Bool.true_or] at hs;refine pP func199 ?_;refine pN (λs:Bool×CO×Int=>(s0 22 gl [(2,.clo (.func 189) [.ref 1 0] []),(12,aE cZ L),(13,iG (ah L)),(14,iG s.2.2)] (sW 4 s.2.1) 5 4)) 11122 hs [gD 11 1 2 4 [.ref 1 0,iG (ah L)] (cA gl (dO (l:=L) aa) aa (r:=l++aV (L.length:Int)) rfl)] [hc (el (l++aV (L.length:Int))),hc (rY.imm (l++aV (L.length:Int)))] (λB s w hs k5 c=>?_) (kd:=[(4,.row),(999999,.clo)]) (ρ:=rI 5);obtain⟨e,acc,i⟩:=s;unfold md at hs;rcases bC hs with⟨b1,hs⟩|⟨b1,hs⟩
 .obtain⟨y,b,hs⟩:=bS hs;obtain⟨d,hacc,hs⟩:=rT hs;obtain rfl:=Bh hs;have hy:Fk y:=DP d;have hacc:acc.length<=1000000000000:=hacc;exact jw [hr 15 b1,AA 16 (rZ.ixZ b),AA 17 (rZ.p1Z tZ b),gD 20 1 4 5 [.ref 1 0,iG y] (cA gl hy aa (r:=acc++aV y) rfl)] [hc (el (acc++aV y)),hc (rY.imm (acc++aV y))] (k5 _ rfl) (ρ:=rI 4++[(4,5)]) (kd:=[(4,.row),(999999,.clo)])
 .obtain rfl:=Bh hs;cases c _ rfl;exact mt .normal (s0 22 gl [] (sW 4 acc) 5 4) [] [hr 15 b1] [hc (el acc),hc (rY.imm acc)] (ρ:=rI 5) (kd:=[(4,.row),(999999,.clo)])
theorem Rl{l r:CO}{x:DR}(hx:Hz x)(hl:l.length<=700000000000)(c:l++ke x=r):jg prog gl 195 [.agg (bY x),.ref 0 0,.ref 3 0] (sW 2 l) 4 (.tup []) (sW 4 r) 5:=by
 have h1:=gH hx.a;have e:l++nb x.Pub++(aV (x.Boxes.length:Int)++x.Boxes.flatMap uT)=r:=by grind [ke,uU]
 refine pP func195 ?_;exact mt .normal (s0 13 gl [] (sW 4 r) 5 4) [] [gD 7 1 2 5 [.ref 1 0,uG x.Pub] (KM gl hx.a aa (r:=l++nb x.Pub) rfl),IN 12 5 6 [.ref 1 0,aE cz x.Boxes,.clo (.func 190) [] [.ref 0 0]] (IO_q gl hx.b hx.n cq e)] [hc (el r),hc (rY.imm r)] (ρ:=rI 4++[(4,6)]) (kd:=[(4,.row),(999999,.clo)])
theorem Rm{l r:CO}{x:DS}(hx:HA x)(hl:l.length<=9000000000000)(b:l++lX x=r):jg prog gl 201 [.agg (bp x),.ref 0 0] [(0,bx),(1,oO 2 l),(2,oY l)] 3 (.tup []) [(0,bx),(1,oO 3 r),(3,oY r)] 4:=by
 have h1:=Lz hx.a;have e:l++sN x.Of++tM x.Body=r:=by grind [lX]
 refine pP func201 ?_;exact mt .normal (s0 12 gl [] [(0,bx),(1,oO 3 r),(3,oY r)] 4 3) [] [gD 6 1 2 4 [.ref 1 0,.agg (aj x.Of)] (kh gl hx.a aa (r:=l++sN x.Of) rfl),XY 10 x.Body,gD 11 1 4 5 [.ref 1 0,sG x.Body] (CR gl (by have:=hx.n;omega) cq e)] [hc (el r),hc (rY.imm r)] (ρ:=rI 3++[(3,5)]) (kd:=[(3,.row)])
theorem Ro{l r:CO}{L:List DR}(hL:∀x∈L,Hz x)(hn:L.length<=1000)(hl:l.length<=600000000000)(a:l++(aV (L.length:Int)++L.flatMap ke)=r):jg prog gl 194 [.ref 1 0,aE bY L,.clo (.func 195) [] [.ref 0 0,.ref 3 0]] (sW 2 l) 4 (.tup []) (sW 4 r) 5:=by
 have h1:=aR (dO (l:=L) aa);have hs:=zp 700000000000 (enc:=ke) (ok:=λx=>decide (Hz x)) (L:=L) 40020 true (l:=l++aV (L.length:Int)) (λx hx=>CM (hL x hx)) (λx hx=>Aq (hL x hx)) aa cq;rw[List.append_assoc,a,Bool.true_or] at hs;refine pP func194 ?_;refine pN (λs:Bool×CO×Int=>(s0 22 gl [(2,.clo (.func 195) [] [.ref 0 0,.ref 3 0]),(12,aE bY L),(13,iG (ah L)),(14,iG s.2.2)] (sW 4 s.2.1) 5 4)) 11122 hs [gD 11 1 2 4 [.ref 1 0,iG (ah L)] (cA gl (dO (l:=L) aa) aa (r:=l++aV (L.length:Int)) rfl)] [hc (el (l++aV (L.length:Int))),hc (rY.imm (l++aV (L.length:Int)))] (λB s w hs k5 c=>?_) (kd:=[(4,.row),(999999,.clo)]) (ρ:=rI 5);obtain⟨e,acc,i⟩:=s;unfold md at hs;rcases bC hs with⟨b1,hs⟩|⟨b1,hs⟩
 .obtain⟨y,b,hs⟩:=bS hs;obtain⟨d,hacc,hs⟩:=rT hs;obtain rfl:=Bh hs;have hy:Hz y:=DP d;have hacc:acc.length<=700000000000:=hacc;exact jw [hr 15 b1,AA 16 (bZ.ixZ b),AA 17 (bZ.ptZ Pc b),IN 20 4 6 [.agg (bY y),.ref 0 0,.ref 3 0] (Rl gl hy aa (r:=acc++ke y) rfl)] [hc (el (acc++ke y)),hc (rY.imm (acc++ke y))] (k5 _ rfl) (ρ:=rI 4++[(4,6)]) (kd:=[(4,.row),(999999,.clo)])
 .obtain rfl:=Bh hs;cases c _ rfl;exact mt .normal (s0 22 gl [] (sW 4 acc) 5 4) [] [hr 15 b1] [hc (el acc),hc (rY.imm acc)] (ρ:=rI 5) (kd:=[(4,.row),(999999,.clo)])
theorem Rp{l r:CO}{L:List DS}(hL:∀x∈L,HA x)(hn:L.length<=1000)(hl:l.length<=900000000000)(a:l++(aV (L.length:Int)++L.flatMap lX)=r):jg prog gl 200 [.ref 1 0,aE bp L,.clo (.func 201) [] [.ref 0 0]] (sW 2 l) 4 (.tup []) (sW 4 r) 5:=by
 have h1:=aR (dO (l:=L) aa);have hs:=zp 1000000000000 (enc:=lX) (ok:=λx=>decide (HA x)) (L:=L) 1040 true (l:=l++aV (L.length:Int)) (λx hx=>CM (hL x hx)) (λx hx=>F6 (hL x hx)) aa cq;rw[List.append_assoc,a,Bool.true_or] at hs;refine pP func200 ?_;refine pN (λs:Bool×CO×Int=>(s0 22 gl [(2,.clo (.func 201) [] [.ref 0 0]),(12,aE bp L),(13,iG (ah L)),(14,iG s.2.2)] (sW 4 s.2.1) 5 4)) 11122 hs [gD 11 1 2 4 [.ref 1 0,iG (ah L)] (cA gl (dO (l:=L) aa) aa (r:=l++aV (L.length:Int)) rfl)] [hc (el (l++aV (L.length:Int))),hc (rY.imm (l++aV (L.length:Int)))] (λB s w hs k5 c=>?_) (kd:=[(4,.row),(999999,.clo)]) (ρ:=rI 5);obtain⟨e,acc,i⟩:=s;unfold md at hs;rcases bC hs with⟨b1,hs⟩|⟨b1,hs⟩
 .obtain⟨y,b,hs⟩:=bS hs;obtain⟨d,hacc,hs⟩:=rT hs;obtain rfl:=Bh hs;have hy:HA y:=DP d;have hacc:acc.length<=1000000000000:=hacc;exact jw [hr 15 b1,AA 16 (bH.ixZ b),AA 17 (bH.ptZ GM b),Zc 20 4 6 [.agg (bp y),.ref 0 0] (Rm gl hy aa (r:=acc++lX y) rfl)] [hc (el (acc++lX y)),hc (rY.imm (acc++lX y))] (k5 _ rfl) (ρ:=rI 4++[(4,6)]) (kd:=[(4,.row),(999999,.clo)])
 .obtain rfl:=Bh hs;cases c _ rfl;exact mt .normal (s0 22 gl [] (sW 4 acc) 5 4) [] [hr 15 b1] [hc (el acc),hc (rY.imm acc)] (ρ:=rI 5) (kd:=[(4,.row),(999999,.clo)])
noncomputable abbrev OZ:Code:=bq 111012 (ai Tryz.f185)
abbrev WL(l:Bp):Fr:=[(1,aE cW l),(5,.ref 0 0)]
noncomputable abbrev TO(l:Bp)(st:LoopState):Option Ob:=some ⟨0,[],some (.loop st none 40 (WL l) (Dy OZ) (Dz OZ) (DA OZ))⟩
noncomputable abbrev K5(l:Bp)(s k:Nat)(a b:LoopState):aQ:=[(0,Ku s k),(1,TO l a),(2,Kx 1),(3,rL b)]
def Z3(d j c s k w:Nat){s':Nat}{gl:CC}(h:kE s k w=some s')
  (hin:w6 (vi [0,j]) [(0,Ku s k),(j,Ci [w])] [(0,Ku s k),(1,Ci [w])] 0 [0,j]:=by exact⟨⟨rfl,.inl rfl⟩,⟨rfl,.inl rfl⟩,trivial⟩) (hlt:[0,j].all (λi=>Nat.blt i c)=true:=by kernel_rfl) (hnd:decide [0,j].Nodup=true:=by kernel_rfl) (hgs:[G.ref 0 0,.rsl j 0 1].map (qg (vi [0,j]) 20)=[.ref 0 0,.rsl 1 0 1]:=by kernel_rfl):HP:=
 hmc d [0,j] c [(0,Ku s k),(j,Ci [w])] [.ref 0 0,.rsl j 0 1] [(0,⟨314,[uG s',uG (k1 k)],none⟩),(1,⟨40,[w].flatMap cW,none⟩)] (Qy gl h) hin ⟨⟨rfl,.inl rfl⟩,⟨rfl,.inl rfl⟩,trivial⟩ hlt hnd hgs (by rfl) (by rfl) (by rfl)
theorem ES(h:x6 label l=some r):ba prog gl 185 [sG label,aE cW l] (uG r):=by
 unfold x6 at h;obtain⟨t,et,h⟩:=bS h;obtain⟨a,o,h⟩:=bS h;obtain⟨s1,e1,h⟩:=bS h;obtain⟨c,p,h⟩:=bS h;refine Gh func185 ?_;refine pO 111012 (s0 40 gl [(1,aE cW l),(5,.ref 0 0),(15,ny t)] [(0,Ku (wU (ah label)) 0)] 1 0) [hL 10 label,AA 11 (C8 (ah label)),hcB 14 et,hf 15 (Ic gl t)] [hc (aG 20 (ny t) aH)] ?_ [] [(0,0)];refine Xt (fst:=[]) (cap:=[.ptr [aE cY t] 0]) Tryz.f281 func281 ?_;refine YR [1,1,2] (s0 29 gl [(2,.ref 2 0),(8,Kv t)] [(2,Kx 1),(1,some ⟨0,[],some (.loop .ready none 40 [(1,aE cW l),(5,.ref 0 0),(15,ny t)] (Dy OZ) (Dz OZ) (DA OZ))⟩),(0,Ku (wU (ah label)) 0)] 3 2) [hf 8 (Ie gl t)] ?_;refine Xt (fst:=[]) (cap:=[.ptr [aE cY t] 0,.ptr [iG 7] 0]) Tryz.f334 func334 ?_;refine pN (λx:(Nat×Nat)×Int=>(s0 31 gl [(0,.yld 3),(1,.ptr [aE cY t] 0),(2,.ptr [iG 7] 0),(4,iG x.2)] (K5 l x.1.1 x.1.2 .ready .ready) 4 4)) 1122 o [] [] (λB x w hs k5 e=>?_) [] r4;unfold F1 at hs;rcases bC hs with⟨b1,hs⟩|⟨b1,hs⟩
 .obtain⟨q0,e0,hs⟩:=bS hs;obtain⟨y,d,hs⟩:=bS hs;obtain⟨q,u,hs⟩:=bS hs;obtain⟨w,ew,hs⟩:=bS hs;obtain⟨s,es,hs⟩:=bS hs;obtain rfl:=Bh hs;refine pO 112210210 (s0 31 gl [(0,.yld 3),(1,.ptr [aE cY t] 0),(2,.ptr [iG 7] 0),(4,iG x.2),(5,iG (iI 7 (ah q0)))] (K5 l x.1.1 x.1.2 .ready .ready) 4 4) [hr 9 b1,AA 16 (rY.sufZI e0)] [] ?_ [] r4;refine Xw (i:=3) (j:=10) (n:=29) (t:=0) (t2:=0) (pe:=none) (fr:=[(2,.ref 2 0)]) (ps:=Dy Kw) (a:=Dz Kw) (b:=DA Kw) (s1:=(s0 31 gl (Ti t q x.2 (iI 7 (ah q0))) (K5 l x.1.1 x.1.2 .ready .ready) 4 4))
   (s3:=(s0 31 gl ([(30,bG false),(29,bG true)]++Ti t q x.2 (iI 7 (ah q0))) ((3,rL .ready)::K5 l s (k1 x.1.2) .ready .busy) 4 4))
   (K5 l s (k1 x.1.2) .ready .busy) 4 (.loop .ready none 29 [(2,.ref 2 0)] (Dy Kw) (Dz Kw) (DA Kw)) [hcv 28 (g:=aE cY q) (Yp rY d u)] [] ?_ ?_
  .refine C9 .normal ⟨29,gl,[(2,.ref 2 0),(3,aE cY q)],K5 l x.1.1 x.1.2 .ready .ready,4,4,true⟩ [] [] (Xv Tryz.f281 ?_ rfl) [] r4;refine Ix 12101 ⟨29,gl,[(2,.ref 2 0),(4,uG w)],K5 l x.1.1 x.1.2 .ready .busy,4,4,true⟩ ?_ λkk=>?_
   .refine pO 12110 ⟨29,gl,[(2,.ref 2 0),(4,uG w)],K5 l x.1.1 x.1.2 .ready .busy,4,4,true⟩ [] [] ?_ [] r4;refine Xw (i:=1) (j:=2) (n:=40) (t:=0) (t2:=0) (pe:=none) (fr:=WL l) (ps:=Dy OZ) (a:=Dz OZ) (b:=DA OZ) (s1:=⟨29,gl,[(26,uG w),(25,.yld 1),(2,.ref 2 0),(4,uG w)],K5 l x.1.1 x.1.2 .ready .busy,4,4,true⟩)
     (s3:=⟨29,gl,[(28,bG false),(27,bG true),(26,uG w),(25,.yld 1),(2,.ref 2 0),(4,uG w)],(1,TO l .ready)::K5 l s (k1 x.1.2) .busy .busy,4,4,true⟩)
     (K5 l s (k1 x.1.2) .busy .busy) 4 (.loop .ready none 40 (WL l) (Dy OZ) (Dz OZ) (DA OZ)) [] [] ?_ ?_
    .refine C9 .normal ⟨40,gl,[(5,.ref 0 0),(6,uG w)],K5 l x.1.1 x.1.2 .ready .busy,4,4,true⟩ [] [] (Xv Tryz.f185 ?_ rfl) [] r4;exact C9 .normal ⟨40,gl,[],K5 l s (k1 x.1.2) .busy .busy,4,4,true⟩ [Z3 (gl:=gl) 19 4 5 x.1.1 x.1.2 w es] [] (by grind [jy]) [] r4
    .exact C9 .normal ⟨29,gl,[],K5 l s (k1 x.1.2) .ready .busy,4,4,true⟩ [] [] (by grind [jy]) [] r4
   refine pN (λz:Nat×Int=>⟨29,gl,[(2,.ref 2 0),(4,uG z.1),(10,aE cY q),(11,iG (ah q)),(12,iG z.2)],K5 l x.1.1 x.1.2 .ready .busy,4,4,true⟩) [2,1,0,1,2,2] ew [] [] (λC z v hz k m=>?_) [] r4;unfold oD at hz;rcases bC hz with⟨c1,hz⟩|⟨c1,hz⟩
   .obtain⟨f,e1,hz⟩:=bS hz;obtain⟨n1,e2,hz⟩:=bS hz;obtain rfl:=Bh hz;exact jw [hr 13 c1,AA 15 (rY.ixZ e1),AA 16 (rY.p1Z tY e1),AA 19 (C8 (f.toNat:Int)),hV 22 (sM (P:=prog) (t:=40) (wU (f.toNat:Int)) e2),hV 23 (jc (P:=prog) (t:=40) z.1 (I1 (wU (f.toNat:Int)) n1))] [] (k _ rfl) [] r4
   .obtain rfl:=Bh hz;obtain rfl:=m _ rfl;exact yl 12101 [hr 13 c1] [] kk [] r4
  .exact jw [] [] (k5 _ rfl) [] r4
 .obtain rfl:=Bh hs;obtain rfl:=e _ rfl;refine C9 .normal (s0 31 gl [] [(0,Ku x.1.1 x.1.2),(1,TO l .ready),(3,rL .ready)] 4 4) [hr 9 b1] [] (Xu ?_ rfl) [] r4;refine C9 .normal (s0 29 gl [] [(0,Ku x.1.1 x.1.2),(1,TO l .ready)] 2 2) [] [] (Xu ?_ rfl) [] [(0,0),(1,1)];refine pN (λx:(Nat×Nat)×Int=>(s0 40 gl [(5,.ref 0 0),(25,aE cW l),(26,iG (ah l)),(27,iG x.2)] [(0,Ku x.1.1 x.1.2)] 1 0)) 111110122 p [AA 22 (C8 (ah l)),Z3 (gl:=gl) 24 2 3 x.1.1 x.1.2 (wU (ah l)) e1] [] (λB z v hz k5 e=>?_) [] [(0,0)];unfold F3 at hz;rcases bC hz with⟨c1,hz⟩|⟨c1,hz⟩
  .obtain⟨y,d,hz⟩:=bS hz;obtain⟨n,A,hz⟩:=bS hz;obtain⟨s,es,hz⟩:=bS hz;obtain rfl:=Bh hz;exact jw [hr 28 c1,AA 29 (rW.ixZ d),AA 30 (rW.p1Z tW d),hf 32 (dr gl A),Z3 (gl:=gl) 34 1 2 z.1.1 z.1.2 n es] [] (k5 _ rfl) [] [(0,0)]
  .obtain rfl:=Bh hz;obtain rfl:=e _ rfl;exact Ar [hr 28 c1,Z3 (gl:=gl) 37 1 2 z.1.1 z.1.2 0 h] []
def LT(label b:CO):FF:=(Cj b).bind λw=>(aT 8 w [wU (ah b)]).bind λl=>x6 label l
theorem xd(h:LT label b=some r):ba prog gl 108 [sG label,aE cY b] (uG r):=by unfold LT at h;obtain⟨w,ew,h⟩:=bS h;obtain⟨l,el',h⟩:=bS h;refine Gh func108 ?_;exact Ar [hf 7 (Ic gl b),ho 8 [ny b] [] (Ky gl ew) (by grind [cW]),AA 11 (C8 (ah b)),dg 13 rW el',hq 14 [sG label,aE cW l] [hc (rW.al l)] (ES gl h)] []
section
def Xy(o:Bi):CO:=[]++[o.By,o.Seq,o.Kind,o.At].flatMap aV
def Xz(o:Bi):CO:=Xy o++(aV (o.Past.length:Int)++o.Past.flatMap sN)
def XA(o:Bi):CO:=Xz o++[o.Device,o.Old,o.Member,o.Role].flatMap aV
def XB(o:Bi):CO:=XA o++(aV (o.Path.length:Int)++o.Path.flatMap ke)
def XC(o:Bi):CO:=XB o++sN o.Epoch
def XD(o:Bi):CO:=XC o++aV o.N
def XE(o:Bi):CO:=XD o++tM o.Body
def XG(o:Bi):CO:=XE o++(aV (o.Refs.length:Int)++o.Refs.flatMap nb)
def XH(o:Bi):CO:=XG o++sN o.Of
def Ox(o:Bi):CO:=XH o++(aV (o.Guards.length:Int)++o.Guards.flatMap aV)
def Oy(o:Bi):CO:=Ox o++[o.Need,o.Wait].flatMap aV
def Oz(o:Bi):CO:=Oy o++(aV (o.Boxes.length:Int)++o.Boxes.flatMap uT)
def OA(o:Bi):CO:=Oz o++nb o.Pub
def IP(o:Bi):CO:=OA o++(aV (o.Hist.length:Int)++o.Hist.flatMap lX)
theorem Afz(o:Bi):IP o=qc o:=by simp only[Xy,Xz,XA,XB,XC,XD,XE,XG,XH,Ox,Oy,Oz,OA,IP,qc,uU,List.flatMap_cons,List.flatMap_nil,List.append_assoc,LK,Pu]
theorem aaU(o:Bi):[]++[o.By,o.Seq,o.Kind,o.At].flatMap aV=Xy o:=rfl
theorem Zd(o:Bi):Xy o++(aV (o.Past.length:Int)++o.Past.flatMap sN)=Xz o:=rfl
theorem Ze(o:Bi):Xz o++[o.Device,o.Old,o.Member,o.Role].flatMap aV=XA o:=rfl
theorem Zf(o:Bi):XA o++(aV (o.Path.length:Int)++o.Path.flatMap ke)=XB o:=rfl
theorem Zg(o:Bi):XB o++sN o.Epoch=XC o:=rfl
theorem Zh(o:Bi):XC o++aV o.N=XD o:=rfl
theorem Zi(o:Bi):XD o++tM o.Body=XE o:=rfl
theorem Zj(o:Bi):XE o++(aV (o.Refs.length:Int)++o.Refs.flatMap nb)=XG o:=rfl
theorem Zk(o:Bi):XG o++sN o.Of=XH o:=rfl
theorem Vd(o:Bi):XH o++(aV (o.Guards.length:Int)++o.Guards.flatMap aV)=Ox o:=rfl
theorem Ve(o:Bi):Ox o++[o.Need,o.Wait].flatMap aV=Oy o:=rfl
theorem Vf(o:Bi):Oy o++(aV (o.Boxes.length:Int)++o.Boxes.flatMap uT)=Oz o:=rfl
theorem Vg(o:Bi):Oz o++nb o.Pub=OA o:=rfl
theorem Vh(o:Bi):OA o++(aV (o.Hist.length:Int)++o.Hist.flatMap lX)=IP o:=rfl
def AfA(d k j c:Nat){gl:CC}{fid:FuncId}{L:Bj}{l r:CO}(h:jg prog gl fid [.rsl 3 0 L.length,.ref 0 0] [(0,bx),(1,oO 2 l),(2,oY l),ob 3 3 (L.flatMap cZ)] [0,1,k,j].length (.tup []) [(0,bx),(1,oO 4 r),(4,oY r),ob 3 3 (L.flatMap cZ)] 5)
  (hin:w6 (vi [0,1,k,j]) [(0,bx),(1,oO k l),(k,oY l),(j,some ⟨3,L.flatMap cZ,none⟩)] [(0,bx),(1,oO 2 l),(2,oY l),ob 3 3 (L.flatMap cZ)] 0 [0,1,k,j]:=by exact⟨⟨rfl,.inl rfl⟩,⟨rfl,.inl rfl⟩,⟨rfl,.inr ⟨rfl,rY.imm _⟩⟩,⟨rfl,.inr ⟨rfl,rZ.imm _⟩⟩,trivial⟩) (a:oI (G4 [0,1,k,j] c) [(0,bx),(1,oO 4 r),(4,oY r),ob 3 3 (L.flatMap cZ)] [(0,bx),(1,oO c r),(2,none),ob 3 3 (L.flatMap cZ),(4,oY r)]:=by exact⟨⟨rfl,.inl rfl⟩,⟨rfl,.inl rfl⟩,⟨rfl,.inr ⟨rfl,rZ.imm _⟩⟩,⟨rfl,.inr ⟨rfl,rY.imm _⟩⟩,trivial⟩)
  (hlt:[0,1,k,j].all (λi=>Nat.blt i c)=true:=by kernel_rfl) (hnd:decide [0,1,k,j].Nodup=true:=by kernel_rfl) (hgs:[G.rsl j 0 L.length,.ref 0 0].map (qg (vi [0,1,k,j]) 20)=[.rsl 3 0 L.length,.ref 0 0]:=by kernel_rfl):HP:=
 tN d [0,1,k,j] c [(0,bx),(1,oO k l),(k,oY l),(j,some ⟨3,L.flatMap cZ,none⟩)] [.rsl j 0 L.length,.ref 0 0] [(0,bx),(1,oO c r),(2,none),ob 3 3 (L.flatMap cZ),(4,oY r)] h hin a hlt hnd hgs (by rfl) (by rfl) (by rfl)
attribute [local irreducible] Xy Xz XA XB XC XD XE XG XH Ox Oy Oz OA IP
set_option maxHeartbeats 2000000 in
theorem MP(ho:Bb o):jg prog gl 109 [.agg (aJ o)] [] 0 (.ref 0 0) [(0,oO 1 (qc o)),(1,oY (qc o))] 2:=by
 have hI:∀l:Bj,(∀z∈l,z∈[o.By,o.Seq,o.Kind,o.At,o.Device,o.Old,o.Member,o.Role,o.N,o.Need,o.Wait])->∀z∈l,Fk z:=by grind [Bb.ints]
 have a:=yY ho;rw[<-Afz] at a;have h13:(OA o).length<=50000000:=by grind [Vh]
 have h12:(Oz o).length<=50000000:=by grind [Vg]
 have h11:(Oy o).length<=50000000:=by grind [Vf]
 have h10:(Ox o).length<=50000000:=by grind [Ve]
 have h9:(XH o).length<=50000000:=by grind [Vd]
 have h8:(XG o).length<=50000000:=by grind [Zk]
 have h7:(XE o).length<=50000000:=by grind [Zj]
 have h6:(XD o).length<=50000000:=by grind [Zi]
 have h5:(XC o).length<=50000000:=by grind [Zh]
 have h4:(XB o).length<=50000000:=by grind [Zg]
 have h3:(XA o).length<=50000000:=by grind [Zf]
 have h2:(Xz o).length<=50000000:=by grind [Ze]
 have h1:(Xy o).length<=50000000:=by grind [Zd]
 rw[<-Afz o];refine pP func109 ?_;refine pO 111110 (s0 94 gl [(1,.ptr (aJ o) 0),(3,.ref 0 0),(4,.clo (.func 188) [] [.ref 0 0]),(5,.ref 3 0)] (sW 2 []) 4 0) [] [hc (eB (gs:=aJ o) aH),hc (rY.imm [])] ?_ (kd:=[(2,.row),(999999,.clo)]);exact mt .ret (s0 94 gl [(2,.ref 0 0)] [(0,oO 1 (IP o)),(1,oY (IP o))] 2 0) [.ref 0 0] [AfA 20 2 4 5 (L:=[o.By,o.Seq,o.Kind,o.At]) (CS gl (hI _ aC) aC aC aC (aaU o)),
  IN 26 5 6 [.ref 1 0,aE aj o.Past,.clo (.func 193) [.ref 1 0] []] (Rj gl ho.past ho.nPast aa (Zd o)),
  AfA 37 6 7 8 (L:=[o.Device,o.Old,o.Member,o.Role]) (CS gl (hI _ aC) aC aC aa (Ze o)),
  IN 42 8 9 [.ref 1 0,aE bY o.Path,.clo (.func 195) [] [.ref 0 0,.ref 3 0]] (Ro gl ho.path ho.nPath aa (Zf o)),
  gD 46 1 9 10 [.ref 1 0,.agg (aj o.Epoch)] (kh gl ho.epoch aa (Zg o)),
  gD 50 1 10 11 [.ref 1 0,iG o.N] (cA gl (ho.ints _ aC) aa (Zh o)),
  XY 54 o.Body,gD 55 1 11 12 [.ref 1 0,sG o.Body] (CR gl (by have:=ho.nBody;omega) aa (Zi o)),
  IN 61 12 13 [.ref 1 0,aE cW o.Refs,.clo (.func 191) [.ref 1 0] []] (TM gl ho.refs ho.nRefs aa (Zj o)),
  gD 65 1 13 14 [.ref 1 0,.agg (aj o.Of)] (kh gl ho.of_ aa (Zk o)),
  IN 71 14 15 [.ref 1 0,aE cZ o.Guards,.clo (.func 189) [.ref 1 0] []] (TN gl ho.guards ho.nGuards aa (Vd o)),
  AfA 78 15 16 17 (L:=[o.Need,o.Wait]) (CS gl (hI _ aC) aC aC aa (Ve o)),
  IN 83 17 18 [.ref 1 0,aE cz o.Boxes,.clo (.func 190) [] [.ref 0 0]] (IO_q gl ho.boxes ho.nBoxes aa (Vf o)),
  gD 87 1 18 19 [.ref 1 0,uG o.Pub] (KM gl ho.pub aa (Vg o)),
  IN 92 19 20 [.ref 1 0,aE bp o.Hist,.clo (.func 201) [] [.ref 0 0]] (Rp gl ho.hist ho.nHist aa (Vh o))]
  [hc (el (IP o)),hc (rY.imm (IP o))]
attribute [local irreducible] qc
def Rs(o:Bi):Option Ab:=(LT [111,112] (qc o)).bind λv=>some ⟨o.By,o.Seq,v⟩
theorem TP(ho:Bb o){r:Ab}(h:Rs o=some r):ba prog gl 42 [.agg (aJ o)] (.agg (aj r)):=by
 unfold Rs at h;obtain⟨v,ev,h⟩:=bS h;obtain rfl:=Bh h;have a:=yY ho;refine Gh func42 ?_;refine pO [1,0] (s0 12 gl [(1,.ptr (aJ o) 0),(2,.ref 0 0)] [ob 0 42 [iG 0,iG 0,uG 0]] 1 0) [] [hc (eB (gs:=aJ o) aH)] ?_ [] [(0,1)];exact Ar [tN 8 [] 1 [] [.agg (aJ o)] [(0,oO 2 (qc o)),(1,oY (qc o))] (MP gl ho) trivial ⟨⟨rfl,.inl rfl⟩,⟨rfl,.inr ⟨rfl,rY.imm _⟩⟩,trivial⟩,
  tN 9 [1,2] 3 [(1,oO 2 (qc o)),(2,oY (qc o))] [.ref 1 0] [(0,oO 2 (qc o)),(1,oY (qc o)),(2,oY (qc o))] (rS gl (l:=qc o) aa) ⟨⟨rfl,.inl rfl⟩,⟨rfl,.inr ⟨rfl,rY.imm _⟩⟩,trivial⟩ ⟨⟨rfl,.inl rfl⟩,⟨rfl,.inr ⟨rfl,rY.imm _⟩⟩,⟨rfl,.inr ⟨rfl,rY.imm _⟩⟩,trivial⟩,
  hq 10 [sG [111,112],aE cY (qc o)] [hc (rY.al (qc o))] (xd gl ev)] []
end
theorem K6(a b:Nat):wU ((a:Int)*(b:Int))=a*b%18446744073709551616:=by rw[<-Int.natCast_mul,gP]
theorem me(a b:Nat):wU ((a:Int)+(b:Int))=(a+b)%18446744073709551616:=by rw[<-Int.natCast_add,gP]
theorem Zl{b:Nat}(h:b<=a):wU ((a:Int)-(b:Int))=(a-b)%18446744073709551616:=by rw[<-Int.natCast_sub h,gP]
abbrev PF:Nat:=2305843009213693951
theorem TR(a:Nat):JB a 61=a/2305843009213693952:=rfl
theorem WM(a:Nat):I1 a 3=a*8%18446744073709551616:=rfl
theorem TS(h:a<18446744073709551616):bD a 2305843009213693951=a%2305843009213693952:=by unfold bD;rw[LV h];exact Nat.and_two_pow_sub_one_eq_mod a 61
theorem Fl(h:n<18446744073709551616):eR n=some (n%PF):=by
 unfold eR;rw[TS h,TR,me];have e:(n%2305843009213693952+n/2305843009213693952)%18446744073709551616=n%2305843009213693952+n/2305843009213693952:=LV aa;rw[e];by_cases h1:2305843009213693951<=n%2305843009213693952+n/2305843009213693952
 .rw[CM aa,ax,Zl h1];grind
 grind
theorem Gx{x y:Nat}(hx:x<18446744073709551616)(hy:y<18446744073709551616):sL x y=some (x*y/18446744073709551616,x*y%18446744073709551616):=by unfold sL;rw[CM ⟨hx,hy⟩];rfl
theorem Rt(a b:Nat)(hi lo:Nat)(h:hi*18446744073709551616+lo=a%2305843009213693951*(b%2305843009213693951))(hl:lo<18446744073709551616):hi<288230376151711744/\(lo%2305843009213693951+hi*8)%2305843009213693951=a*b%2305843009213693951:=by have h1:a%2305843009213693951*(b%2305843009213693951)<=2305843009213693950*2305843009213693950:=Nat.mul_le_mul aa aa;rw[Nat.mul_mod a b,<-h];omega
theorem PK{b:Nat}(ha:a<18446744073709551616)(hb:b<18446744073709551616):jZ a b=some (a*b%PF):=by
 unfold jZ;rw[Fl ha,aL,Fl hb,aL];have hA:a%PF<2305843009213693951:=Nat.mod_lt _ Cd;have hB:b%PF<2305843009213693951:=Nat.mod_lt _ Cd;rw[Gx aa aa,aL];dsimp only;have hlo:a%PF*(b%PF)%18446744073709551616<18446744073709551616:=Nat.mod_lt _ Cd;rw[Fl hlo,aL];obtain⟨h1,h2⟩:=Rt a b (a%PF*(b%PF)/18446744073709551616) (a%PF*(b%PF)%18446744073709551616) (Nat.div_add_mod' _ _) hlo;rw[WM,me];generalize a%PF*(b%PF)/18446744073709551616=hi at*;generalize a%PF*(b%PF)%18446744073709551616=lo at*;have e:(lo%PF+hi*8%18446744073709551616)%18446744073709551616=lo%PF+hi*8:=by grind
 grind [Fl]
theorem IQ{b:Nat}(ha:a<18446744073709551616)(hb:b<18446744073709551616):wG a b=some ((a+b)%PF):=by unfold wG;have hA:a%PF<2305843009213693951:=Nat.mod_lt _ Cd;have hB:b%PF<2305843009213693951:=Nat.mod_lt _ Cd;rw[Fl ha,aL,Fl hb,aL,me,Fl (Nat.mod_lt _ Cd),aL];congr 1;show(a%2305843009213693951+b%2305843009213693951)%18446744073709551616%2305843009213693951=(a+b)%2305843009213693951;omega
theorem ll{b:Nat}:oQ a b=some (a*b%PF):=rfl
theorem yq{b:Nat}:qi a b=some ((a+b)%PF):=by unfold qi;rw[me];congr 1;show _=(a+b)%2305843009213693951;omega
section
variable {σ1 σ2 ρ1 ρ2:Type}
def Sim(R:σ1->σ2->Prop)(Q:ρ1->ρ2->Prop):σ1⊕ρ1->σ2⊕ρ2->Prop
 | .inl a,.inl b=>R a b
 | .inr a,.inr b=>Q a b
 |_,_=>False
theorem MQ{s1:σ1->Option (σ1⊕ρ1)}{s2:σ2->Option (σ2⊕ρ2)}(R:σ1->σ2->Prop)(Q:ρ1->ρ2->Prop)(h:∀a b,R a b->∀v,s2 b=some v->∃u,s1 a=some u/\Sim R Q u v):∀(n:Nat) (a:σ1) (b:σ2) (r:ρ2),R a b->KN s2 n b=some r->∃q,KN s1 n a=some q/\Q q r
 |0,a,b,r,_,hl=>by cases hl
 |n+1,a,b,r,hR,hl=>by
  unfold KN at hl⊢;cases hb:s2 b with
  |none=>rw[hb] at hl;cases hl
  |some v=>
   rw[hb] at hl;obtain⟨u,hu,hs⟩:=h a b hR v hb;rw[hu];cases u with
   |inl a'=>
    cases v with
    |inl b'=>exact MQ R Q h n a' b' r hs hl
    |inr b'=>exact hs.elim
   |inr a'=>
    cases v with
    |inl b'=>exact hs.elim
    |inr b'=>dsimp only at hl⊢;cases hl;exact⟨a',rfl,hs⟩
theorem Rv{s1:σ1->Option (σ1⊕ρ1)}{s2:σ2->Option (σ2⊕ρ2)}(R:σ1->σ2->Prop)(Q:ρ1->ρ2->Prop)(h:∀a b,R a b->∀v,s2 b=some v->∃u,s1 a=some u/\Sim R Q u v){a:σ1}{b:σ2}{r:ρ2}(hR:R a b)(hl:AQ s2 b=some r):∃q,AQ s1 a=some q/\Q q r:=MQ R Q h _ a b r hR hl
end
theorem WN(h:n<18446744073709551616):bD n 1=n%2:=by grind [bD]
theorem WO(n:Nat):JB n 1=n/2:=rfl
theorem CT(n:Nat):n%PF<2305843009213693951:=Nat.mod_lt _ Cd
theorem nf(ha:a<18446744073709551616)(hn:n<18446744073709551616)(h:iK a n=some r):Mi a n=some r:=by
 unfold iK at h;obtain⟨x,hx,h⟩:=bS h;cases h;unfold Mi;rw[Fl ha,aL];have hst:∀(s t:Nat×Nat×Nat),(λ(s:Nat×Nat×Nat) (t:Nat×Nat×Nat)=>t=(s.2.2,s.1,s.2.1)/\s.1<2305843009213693951/\s.2.1<18446744073709551616/\s.2.2<2305843009213693951) s t->∀v,r6 t=some v->∃u,mW s=some u/\Sim (λ(s:Nat×Nat×Nat) (t:Nat×Nat×Nat)=>t=(s.2.2,s.1,s.2.1)/\s.1<2305843009213693951/\s.2.1<18446744073709551616/\s.2.2<2305843009213693951) (λa b=>a=b) u v:=by
  intro s t hR v hv;obtain⟨b,m,o⟩:=s;obtain⟨rfl,k1,k2,k3⟩:=hR;dsimp only at k1 k2 k3;unfold r6 at hv;unfold mW;dsimp only at hv⊢;rw[WN k2,WO];have hm:∀x y:Nat,x<2305843009213693951->y<2305843009213693951->jZ x y=some (x*y%PF):=by grind [PK]
  rcases bC hv with⟨c,hv⟩|⟨c,hv⟩
  .rw[c,ax];obtain⟨j,hj,hv⟩:=bS hv;obtain⟨w,hw,hv⟩:=bS hv;cases hv;rw[ll] at hw;cases hw;refine⟨.inl (b*b%PF,m/2,j),?_,?_⟩
   .grind [ll]
   .refine⟨?_,CT _,by show m/2<_;omega,?_⟩
    .show(j,b*b%PF,wU ((m/2:Nat):Int))=(j,b*b%PF,m/2);rw[gP,LV (a:=m/2) aa]
    grind [ll]
  .rw[c,A9];cases hv;exact⟨_,rfl,rfl⟩
 obtain⟨q,h1,h2⟩:=Rv _ _ hst (a:=(a%PF,n,1)) (by grind) hx;rw[h1,h2]
def DB:Nat->Nat->Bp->FF
 |s,_,[]=>some s
 |s,k,w::r=>(kE s k w).bind λs'=>DB s' (k+1) r
def Z4(s k w:Nat):Nat:=(37*s%PF+(w+(k+1))%PF)%PF
theorem CU{s k w:Nat}(hs:s<18446744073709551616)(hw:w<9223372036854775808)(hk:k<4611686018427387904):∃r,iK (Z4 s k w) 17=some r/\kE s k w=some r/\r<2305843009213693951:=by
 obtain⟨r,h1,h2⟩:=ka (Z4 s k w) (n:=17) Cd;refine⟨r,h1,?_,h2⟩;have hp:Z4 s k w<2305843009213693951:=CT _;unfold kE;rw[PK Cd hs,aL];have e:wU ((w:Int)+((wU ((k:Int)+((1:Nat):Int)):Nat):Int))=w+(k+1):=by rw[me k 1,me,LV (show k+1<18446744073709551616 by omega),LV aa]
 grind [Fl,IQ,nf,Z4]
theorem Vi:∀(l:Bp) (s k:Nat),s<18446744073709551616->(∀w∈l,w<9223372036854775808)->k+l.length<4611686018427387904->T (DB s k l) λr=>r<18446744073709551616
 |[],s,k,hs,_,_=>⟨s,rfl,hs⟩
 |w::r,s,k,hs,hw,hk=>by simp only[List.length_cons] at hk;obtain⟨s',h1,h2,h3⟩:=CU (s:=s) (k:=k) (w:=w) hs (hw w aC) aa;unfold DB;exact .eqb h2 (Vi r s' (k+1) aa (by grind) aa)
theorem Au:∀(l m:Bp) (s k:Nat),DB s k (l++m)=(DB s k l).bind λs'=>DB s' (k+l.length) m
 |[],m,s,k=>rfl
 |w::r,m,s,k=>by show(kE s k w).bind (λs'=>DB s' (k+1) (r++m))=((kE s k w).bind λs'=>DB s' (k+1) r).bind _;rw[Option.bind_assoc];congr 1;funext s';rw[Au r m s' (k+1),List.length_cons,Nat.add_assoc,Nat.add_comm 1]
def xi:CO->Nat
 |[]=>0
 |x::r=>x.toNat+256*xi r
theorem Gy:∀l:CO,xi l<256^l.length
 |[]=>Cd
 |x::r=>by have:=Gy r;grind [UInt8.toNat_lt,xi]
theorem MR:∀(l m:CO),xi (l++m)=xi l+256^l.length*xi m
 |[],m=>by simp[xi]
 |x::r,m=>by show x.toNat+256*xi (r++m)=x.toNat+256*xi r+256^(r.length+1)*xi m;rw[MR r m,Nat.pow_succ,Nat.mul_add,Nat.mul_comm (256^r.length) 256,Nat.mul_assoc,Nat.add_assoc]
theorem WP{l:CO}(h:l.length<=7):xi l<72057594037927936:=Nat.lt_of_lt_of_le (Gy l) (M1 (Nat.pow_le_pow_right Cd h) Cd)
def ws(b:CO):Bp:=match b with
 |[]=>[]
 |x::r=>xi ((x::r).take 7)::ws ((x::r).drop 7)
 termination_by b.length
 decreasing_by simp;omega
theorem Gz(h:0<b.length):ws b=xi (b.take 7)::ws (b.drop 7):=by cases b<;>grind [ws]
theorem vc:ws []=[]:=by rw[ws]
theorem CV:∀(n:Nat) (b:CO),b.length<=n->(ws b).length<=b.length
 |0,b,h=>by grind [vc]
 |n+1,b,h=>by
  by_cases hb:0<b.length
  .rw[Gz hb,List.length_cons];have:=CV n (b.drop 7) (by rw[List.length_drop];omega);rw[List.length_drop] at this;omega
  grind [vc]
theorem Rx:∀(n:Nat) (b:CO),b.length<=n->∀w∈ws b,w<9223372036854775808
 |0,b,h,w,hw=>by grind [vc]
 |n+1,b,h,w,hw=>by
  by_cases hb:0<b.length
  .rw[Gz hb] at hw;rcases EY.1 hw with rfl|hw
   .grind [WP]
   .exact Rx n (b.drop 7) (by rw[List.length_drop];omega) w hw
  grind [vc]
theorem WQ{a b k:Nat}(h:a<2^k):a|||b*2^k=a+b*2^k:=by grind [Nat.two_pow_add_eq_or_of_lt,Nat.mul_comm]
theorem Zm(k:Nat):256^k=2^(8*k):=by rw[Nat.pow_mul]
theorem IR{q:CO}(hq:q.length<=7):AQ (oD q) (0,0)=some (xi q):=by
 refine T.eq (T.loop (λs=>∃i:Nat,s.2=(i:Int)/\i<=q.length/\s.1=xi (q.take i)) (λs=>q.length-s.2.toNat) (by grind [xi]) (by show q.length-_<_;omega) ?_);rintro⟨w,j⟩ ⟨i,rfl,h2,rfl⟩;unfold oD;dsimp only;refine .dec (λh=>?_) λh=>?_
 .unfold ah at h;have hi:i<q.length:=aa;refine .bind (.ix aa (x:=q[i]) (by rw[Fm,EA hi]) ?_);have e8:wI (8*(i:Int))=((8*i:Nat):Int):=by grind [bM]
  refine .bind (x:=wJ _) ⟨8*i,by grind [wJ],?_⟩;refine .some ⟨⟨i+1,aq aa,hi,?_⟩,?_⟩
  .show gM (xi (q.take i)) (I1 (wU ((q[i].toNat:Nat):Int)) (8*i))=xi (q.take (i+1));have hx:=q[i].toNat_lt;have hl:=Gy (q.take i);rw[Ns,Nat.min_eq_left h2,Zm] at hl;have hp:(2:Nat)^(8*i)<=2^48:=Nat.pow_le_pow_right Cd aa;rw[List.take_succ_eq_append_getElem hi,MR,Ns,Nat.min_eq_left h2,Zm];unfold gM I1;rw[gP,Nat.min_eq_left (by omega:8*i<=64),LV (a:=q[i].toNat) aa];have hb:q[i].toNat*2^(8*i)<=255*2^48:=Nat.mul_le_mul aa hp;grind [xi,WQ,Nat.mul_comm]
  grind [aq]
 .unfold ah at h;have hi:i=q.length:=aa;refine .some ?_;show xi (q.take i)=_;rw[hi,D5]
theorem WR:iI 7 (n:Int)=((min 7 n:Nat):Int):=by unfold iI;omega
theorem yr{i:Nat}(hb:b.length<=1099511627776)(hi:i<b.length):mc b (i:Int)=some (b.drop i)/\tq b (wI ((i:Int)+iI 7 (ah (b.drop i))))=some (b.take (i+min 7 (b.length-i)))/\mc (b.take (i+min 7 (b.length-i))) (i:Int)=some ((b.drop i).take 7)/\wI ((i:Int)+7)=((i+7:Nat):Int):=by
 refine⟨?_,?_,?_,?_⟩
 .grind [mc]
 .grind [ah,WR,bM,tq]
 .unfold mc;grind
 grind [bM]
theorem Ry{i:Nat}(hi:i<b.length):ws (b.drop i)=xi ((b.drop i).take 7)::ws (b.drop (i+7)):=by grind [Gz,List.drop_drop]
theorem Vj:((b.take 7)).length<=7:=by rw[Ns];omega
theorem WS(hb:b.length<=1099511627776)(hk:k+b.length<4611686018427387904)(h:DB s k (ws b)=some r):AQ (F1 b) ((s,k),0)=some (r,k+(ws b).length):=by
 refine T.eq (T.loop (λx=>∃i:Nat,x.2=(i:Int)/\i<=b.length+6/\x.1.2<=k+i/\DB x.1.1 x.1.2 (ws (b.drop i))=some r/\x.1.2+(ws (b.drop i)).length=k+(ws b).length) (λx=>b.length+7-x.2.toNat) (by grind) (by show b.length+7-_<_;omega) ?_);rintro⟨⟨s1,a⟩,z⟩ ⟨i,rfl,h2,h3,h4,h5⟩;dsimp only at h3 h4 h5;unfold F1;dsimp only;refine .dec (λh=>?_) λh=>?_
 .unfold ah at h;have hi:i<b.length:=aa;obtain⟨c1,c2,c3,c4⟩:=yr hb hi;rw[Ry hi] at h4 h5;refine .eqb c1 (.eqb c2 (.eqb c3 (.eqb (IR Vj) ?_)));unfold DB at h4;obtain⟨s',e1,e2⟩:=bS h4;refine .eqb e1 (.some ⟨⟨i+7,c4,aa,?_,?_,?_⟩,?_⟩)
  .show k1 a<=_;unfold k1;rw[me a 1,LV aa];omega
  .show DB s' (k1 a) _=_;unfold k1;rw[me a 1,LV aa];exact e2
  .show k1 a+_=_;unfold k1;rw[me a 1,LV aa,<-h5,List.length_cons];omega
  grind
 .unfold ah at h;have e:b.drop i=[]:=List.drop_eq_nil_of_le aa;rw[e,vc] at h4 h5;refine .some ?_;show(s1,a)=_;rw[<-h5,<-Bh h4];rfl
theorem OB(hb:b.length<=1099511627776):Cj b=some (ws b):=by
 have hln:=CV _ b (C6 _);refine T.eq (T.loop (λx=>∃i:Nat,x.2=(i:Int)/\i<=b.length+6/\x.1++ws (b.drop i)=ws b) (λx=>b.length+7-x.2.toNat) ⟨0,rfl,aa,rfl⟩ (by show b.length+7-_<_;omega) ?_);rintro⟨acc,z⟩ ⟨i,rfl,h2,h3⟩;dsimp only at h3;unfold xZ;dsimp only;refine .dec (λh=>?_) λh=>?_
 .unfold ah at h;have hi:i<b.length:=aa;obtain⟨c1,c2,c3,c4⟩:=yr hb hi;rw[Ry hi] at h3;have hl:=congrArg List.length h3;rw[Sv,List.length_cons] at hl;refine .eqb c1 (.eqb c2 (.eqb c3 (.eqb (IR Vj) (.bind (.app cq (.some ⟨⟨i+7,c4,aa,?_⟩,?_⟩))))));all_goals grind
 .unfold ah at h;have e:b.drop i=[]:=List.drop_eq_nil_of_le aa;rw[e,vc,LK] at h3;exact .some h3
theorem zq(hb:b.length<=1099511627776):LU b=some (ws b):=by
 have hln:=CV _ b (C6 _);unfold LU;refine T.eq (.bind (T.loop (λx=>∃i:Nat,x.2=(i:Int)/\i<=b.length+6/\x.1++ws (b.drop i)=ws b) (λx=>b.length+7-x.2.toNat) ⟨0,rfl,aa,rfl⟩ (by show b.length+7-_<_;omega) ?_));rintro⟨acc,z⟩ ⟨i,rfl,h2,h3⟩;dsimp only at h3;unfold qh;dsimp only;refine .dec (λh=>?_) λh=>?_
 .unfold ah at h;have hi:i<b.length:=aa;have c4:=(yr hb hi).2.2.2;rw[Ry hi] at h3;have hl:=congrArg List.length h3;rw[Sv,List.length_cons] at hl;generalize hq:(b.drop i).take 7=q at h3;have hq7:q.length=min 7 (b.length-i):=by rw[<-hq,Ns,List.length_drop]
  have em:iI (ah b) (((i+7:Nat):Int))=((i+q.length:Nat):Int):=by unfold iI ah;omega
  have inner:AQ (my b (acc,(i:Int))) (0,wI (iI (ah b) (wI ((i:Int)+7))-1))=some (xi q):=by
   rw[c4,em,bM aa aa];refine T.eq (T.loop (λx=>∃j:Nat,x.2=((i+j:Nat):Int)-1/\j<=q.length/\x.1=xi (q.drop j)) (λx=>(x.2+1-i).toNat) ⟨q.length,aC,C6 _,by rw[List.drop_length];rfl⟩ (by grind) ?_);rintro⟨w,y⟩ ⟨j,rfl,c,rfl⟩;unfold my;dsimp only;refine .dec (λhh=>?_) λhh=>?_
   .have hj:0<j:=aa;have hjq:j-1<q.length:=aa;have hx:b[i+(j-1)]?=some q[j-1]:=by grind
    refine .bind (.ix aa (x:=q[j-1]) (by rw[<-hx];congr 1;omega) (.some ⟨⟨j-1,?_,aa,?_⟩,?_⟩))
    .grind [bM]
    .show wU (((wU (((xi (q.drop j):Nat):Int)*((256:Nat):Int)):Nat):Int)+((wU ((q[j-1].toNat:Nat):Int):Nat):Int))=xi (q.drop (j-1));rw[List.drop_eq_getElem_cons hjq,show j-1+1=j by omega];show _=q[j-1].toNat+256*xi (q.drop j);have h6:=Gy (q.drop j);rw[List.length_drop] at h6;have h7:(256:Nat)^(q.length-j)<=256^6:=Nat.pow_le_pow_right Cd aa;have hx:=q[j-1].toNat_lt;rw[K6,gP q[j-1].toNat,me,LV (a:=xi (q.drop j)*256) aa,LV (a:=q[j-1].toNat) aa,LV aa];omega
    grind [bM]
   .obtain rfl:j=0:=aa;exact .some rfl
  refine .eqb inner (.bind (.app cq (.some ⟨⟨i+7,c4,aa,?_⟩,?_⟩)));all_goals grind
 .unfold ah at h;have e:b.drop i=[]:=List.drop_eq_nil_of_le aa;rw[e,vc,LK] at h3;exact .some (.some h3)
theorem WT(hl:l.length<=1099511627776)(hw:∀w∈l,w<18446744073709551616)(hk:k+l.length<4611686018427387904)(h:DB s k (l.map (·%PF))=some r):AQ (F3 l) ((s,k),0)=some (r,k+l.length):=by
 refine T.eq (T.loop (λx=>∃i:Nat,x.2=(i:Int)/\i<=l.length/\x.1.2=k+i/\DB x.1.1 x.1.2 ((l.drop i).map (·%PF))=some r) (λx=>l.length-x.2.toNat) (by grind) (by show l.length-_<_;omega) ?_);rintro⟨⟨s1,a⟩,z⟩ ⟨i,rfl,h2,h3,h4⟩;dsimp only at h3 h4;subst h3;unfold F3;dsimp only;refine .dec (λh=>?_) λh=>?_
 .unfold ah at h;have hi:i<l.length:=aa;rw[List.drop_eq_getElem_cons hi,Fo] at h4;unfold DB at h4;obtain⟨s',e1,e2⟩:=bS h4;refine .bind (.ix aa (x:=l[i]) (by rw[Fm,EA hi]) ?_);refine .eqb (Fl (hw _ (List.getElem_mem hi))) (.eqb e1 (.some ⟨⟨i+1,aq aa,hi,?_,?_⟩,?_⟩))
  .show k1 (k+i)=_;unfold k1;rw[me (k+i) 1,LV aa];omega
  .show DB s' (k1 (k+i)) _=_;unfold k1;rw[me (k+i) 1,LV aa];exact e2
  grind [aq]
 .unfold ah at h;obtain rfl:i=l.length:=aa;rw[List.drop_length] at h4;refine .some ?_;show(s1,k+l.length)=_;rw[<-Bh h4]
theorem TT{w:Nat}(hs:s<18446744073709551616)(hw:w<9223372036854775808)(hk:k<4611686018427387904)(h:kE s k w=some r):((oQ 37 s).bind λa=>(qi w (k+1)).bind λb=>(qi a b).bind λc=>iK c 17)=some r:=by obtain⟨r',h1,h2,_⟩:=CU hs hw hk;rw[h] at h2;cases h2;rw[ll,aL,yq,aL,yq,aL];exact h1
theorem K7(hl:l.length<=2199023255552)(hw:∀w∈l,w<9223372036854775808)(hs:s<18446744073709551616)(h:DB s 0 l=some r):AQ (qj l) (s,0)=some r:=by
 refine T.eq (T.loop (λx=>∃i:Nat,x.2=(i:Int)/\i<=l.length/\x.1<18446744073709551616/\DB x.1 i (l.drop i)=some r) (λx=>l.length-x.2.toNat) ⟨0,rfl,aa,hs,h⟩ (by show l.length-_<_;omega) ?_);rintro⟨s1,z⟩ ⟨i,rfl,h2,h3,h4⟩;dsimp only at h3 h4;unfold qj;dsimp only;refine .dec (λh=>?_) λh=>?_
 .unfold ah at h;have hi:i<l.length:=aa;rw[List.drop_eq_getElem_cons hi] at h4;unfold DB at h4;obtain⟨s',e1,e2⟩:=bS h4;have a:=hw _ (List.getElem_mem hi);obtain⟨r',_,e3,e4⟩:=CU h3 a (show i<4611686018427387904 by omega);rw[e1] at e3;cases e3;have key:=TT h3 a aa e1;have ek:wU (wI ((i:Int)+1))=i+1:=by rw[aq aa,gP];omega
  rw[ek];obtain⟨b,m1,key⟩:=bS key;obtain⟨c,m2,key⟩:=bS key;obtain⟨d,m3,key⟩:=bS key;refine .eqb m1 (.bind (.ix aa (x:=l[i]) (by rw[Fm,EA hi]) (.eqb m2 (.eqb m3 (.eqb key (.some ⟨⟨i+1,aq aa,hi,by show s'<_;omega,e2⟩,?_⟩))))));show l.length-(wI ((i:Int)+1)).toNat<l.length-((i:Int)).toNat;rw[aq aa];omega
 .unfold ah at h;obtain rfl:i=l.length:=aa;rw[List.drop_length] at h4;refine .some ?_;show s1=r;exact Bh h4
theorem K8{v:Bp}(hv:v.length+l.length<=2199023255552):AQ (qk l) (v,0)=some (v++l.map (·%PF)):=by
 refine T.eq (T.loop (λx=>∃i:Nat,x.2=(i:Int)/\i<=l.length/\x.1=v++(l.take i).map (·%PF)) (λx=>l.length-x.2.toNat) (by grind) (by show l.length-_<_;omega) ?_);rintro⟨acc,z⟩ ⟨i,rfl,h2,rfl⟩;unfold qk;dsimp only;refine .dec (λh=>?_) λh=>?_
 .unfold ah at h;have hi:i<l.length:=aa;refine .bind (.ix aa (x:=l[i]) (by rw[Fm,EA hi]) (.bind (.app cq (.some ⟨⟨i+1,aq aa,hi,?_⟩,?_⟩))));all_goals grind [List.take_succ_eq_append_getElem,aq]
 .unfold ah at h;obtain rfl:i=l.length:=aa;rw[D5];exact .some rfl
theorem ET{label:CO}{l:Bp}(h1:label.length<=1000)(h2:l.length<=1099511627776)(hw:∀w∈l,w<18446744073709551616):T (x6 label l) λr=>yA label l=some r/\r<18446744073709551616:=by
 have hln:=CV _ label (C6 _);have hwl:∀w∈ws label++[l.length]++l.map (·%PF)++[0],w<9223372036854775808:=λw hm=>by
  simp only[Hp,List.mem_singleton,E7] at hm;rcases hm with((hm|rfl)|⟨x,_,rfl⟩)|rfl
  .exact Rx _ label (C6 _) w hm
  all_goals grind
 obtain⟨r,e,hr⟩:=Vi (ws label++[l.length]++l.map (·%PF)++[0]) label.length 0 aa hwl cq;have ew:wU (ah label)=label.length:=by unfold ah;rw[gP];omega
 have el':wU (ah l)=l.length:=by unfold ah;rw[gP];omega
 have eb:Gk label=some label:=by unfold Gk;rw[Bx aa]
 refine⟨r,?_,?_,hr⟩
 .have e:=e;rw[Au,Au,Au] at e;obtain⟨a3,e,b⟩:=bS e;obtain⟨a2,e,f2⟩:=bS e;obtain⟨a1,e,f1⟩:=bS e;unfold x6;rw[eb,aL,ew,el',WS aa aa e,aL];have f1':kE a1 (0+(ws label).length) l.length=some a2:=by unfold DB at f1;obtain⟨q,q1,a⟩:=bS f1;rw[q1];exact a
  dsimp only;rw[f1',aL];have ek:k1 (0+(ws label).length)=0+(ws label++[l.length]).length:=by unfold k1;rw[me _ 1,LV aa,Sv];simp
  rw[ek,WT h2 hw cq f2,aL];dsimp only;unfold DB at b;obtain⟨q,q1,a⟩:=bS b;rw[show 0+(ws label++[l.length]).length+l.length=0+(ws label++[l.length]++l.map (·%PF)).length by simp;omega,q1];exact a
 .unfold yA;rw[eb,aL,zq aa,aL,el',ew];grind [aT,K8,K7]
theorem xe{label b:CO}(h1:label.length<=1000)(h2:b.length<=1073741824):T (LT label b) λr=>jI label b=some r/\r<18446744073709551616:=by
 have hln:=CV _ b (C6 _);unfold LT jI;rw[OB aa,aL,zq aa,aL];have el':wU (ah b)=b.length:=by unfold ah;rw[gP];omega
 have a1:aT 8 (ws b) [b.length]=some (ws b++[b.length]):=by grind [aT]
 rw[el',a1,aL,aL];refine(ET h1 cq λw hw=>?_).mono (by grind);simp only[Hp,List.mem_singleton] at hw;rcases hw with hw|rfl
 .have:=Rx _ b (C6 _) w hw;omega
 .omega
theorem TU(h:Bb o):T (Rs o) λi=>pV o=some i:=by obtain⟨i,e,e1,e2,e3,_⟩:=wN h;obtain⟨v,f1,f2,_⟩:=xe (label:=[111,112]) (b:=qc o) Cd (by have:=yY h;omega);refine⟨i,?_,e⟩;unfold Rs;rw[f1,aL];rw[f2] at e3;cases e3;rw[<-e1,<-e2]
def xh(pub:Nat)(c:Nat)(b:CO):Option (Nat×Nat):=
 (LT [115,105,103,110,101,100] b).bind λv1=>(x6 [115,105,103] ([c,pub,v1]:Bp)).bind λa=>some (v1,a)
theorem I7{r_:Nat}{r:Nat×Nat}(h:xh pub r_ b=some r):ba prog gl 203 [uG pub,uG r_,aE cY b] (.tup [uG r.1,uG r.2]):=by unfold xh at h;refine Gh func203 ?_;obtain⟨v1,e2,h⟩:=bS h;obtain⟨a,e4,h⟩:=bS h;obtain rfl:=Bh h;exact Ar [hf 9 (xd gl e2),hq 15 [sG [115,105,103],aE cW ([r_,pub,v1]:Bp)] [hc (rW.al ([r_,pub,v1]:Bp))] (ES gl e4)] []
def lq(pub:Nat)(b:CO)(s:N8):Fw:=
 ((iB pub 1 2305843009213693950).bind λa=>bif(!a)then(some true)else((iB s.R 1 2305843009213693950).bind λc=>bif(!c)then(some true)else((iB s.S 0 2305843009213693949).bind λd=>some (!d)))).bind λg=>bif g then(some false)else((xh pub s.R b).bind λh=>(Mi 37 s.S).bind λi=>(Mi pub h.2).bind λe=>(jZ s.R e).bind λf=>some (decide ((i:Int)=(f:Int))))
theorem GF{s:N8}{r:Bool}(h:lq pub b s=some r):ba prog gl 111 [uG pub,aE cY b,.agg (yy s)] (bG r):=by
 unfold lq at h;refine Gh func111 ?_;refine pO 11100 (s0 46 gl [(0,uG pub),(1,aE cY b),(5,.ref 0 0),(7,.clo (.func 202) [] [])] [ob 0 48 (yy s)] 1 0) [] [hc (aG 20 (.clo (.func 202) [] []) aH)] ?_;obtain⟨j,e4,h⟩:=bS h;refine Ix 11100 (s0 46 gl [(0,uG pub),(1,aE cY b),(5,.ref 0 0),(27,bG j)] [ob 0 48 (yy s)] 1 0) ?_ λkk=>?_
 .rcases bC h with⟨b5,h⟩|⟨b5,h⟩
  .rw[b5];obtain rfl:=Bh h;exact Ar [] []
  .rw[b5];obtain⟨q,e7,h⟩:=bS h;obtain⟨t,k,h⟩:=bS h;obtain⟨l,f,h⟩:=bS h;obtain⟨m,g,h⟩:=bS h;obtain rfl:=Bh h;exact Ar [hf 33 (I7 gl e7),hf 38 (mX gl k),hf 43 (mX gl f),hf 44 (j0 gl g)] []
 obtain⟨n,c,e4⟩:=bS e4;rcases bC e4 with⟨a,e4⟩|⟨a,e4⟩
 .obtain rfl:=Bh e4;exact yl 11100 [hf 12 (GL gl c),hr 13 a] [] kk
 .obtain⟨o,e,e4⟩:=bS e4;rcases bC e4 with⟨d,e4⟩|⟨d,e4⟩
  .obtain rfl:=Bh e4;exact yl 11100 [hf 12 (GL gl c),hr 13 a,hf 18 (GL gl e),hr 20 d] [] kk
  .obtain⟨p,i,e4⟩:=bS e4;obtain rfl:=Bh e4;exact yl 11100 [hf 12 (GL gl c),hr 13 a,hf 18 (GL gl e),hr 20 d,hf 25 (GL gl i)] [] kk
def rU(o:Bi):List (Nat×Bool):=[(1,decide (o.Device≠0)),(2,decide (o.Old≠0)),(4,decide (o.Member≠0)),(8,decide (o.Role≠0)),(16,decide (0<ah o.Path)),(32,!decide (o.Epoch=⟨0,0,0⟩)),(64,decide (o.N≠0)),(128,decide (0<ah o.Body)),(256,decide (0<ah o.Refs)),(512,!decide (o.Of=⟨0,0,0⟩)),(1024,decide (0<ah o.Guards)),(2048,decide (o.Need≠0)),(4096,decide (o.Wait≠0)),(8192,decide (0<ah o.Boxes)),(16384,decide ((o.Pub:Int)≠((0:Nat):Int))),(32768,decide (0<ah o.Hist))]
def K9(q:Nat×Bool):Value×G:=(.int .i64 (.ofNat q.1),bG q.2)
def La:List (Nat×Bool)->Nat
 |[]=>0
 |q::r=>(bif q.2 then q.1 else 0)|||La r
noncomputable def WU:It:=IF (bq 11100 (ai Tryz.f98))
noncomputable abbrev stP(o:Bi):St:=(s0 75 gl [(1,.ptr (aJ o) 0),(3,iG 0)] [] 0 0)
def hsP(o:Bi):List HP:=[hV 26 (dy o.Epoch ⟨0,0,0⟩ rfl),hV 41 (dy o.Of ⟨0,0,0⟩ rfl)]
theorem Zn(o:Bi):WU.filterMap (mM (iH (stP gl o) (U3 prog (bK (hsP o)) (stP gl o) WU)))=(rU o).map K9:=aH
theorem sY(h:∀q∈L,q.1<1048576){q:Value×G}(hq:q∈L.map K9):∃m b,q.1= .int .i64 (.ofNat m)/\m<1048576/\q.2=bG b:=by obtain⟨x,hx,rfl⟩:=E7.1 hq;exact⟨x.1,x.2,rfl,h x hx,rfl⟩
theorem MS(i:Nat):∀(l:List (Nat×Bool)),(La l).testBit i=true↔∃q∈l,(bif q.2 then q.1 else 0).testBit i=true
 |[]=>by simp[La]
 |q::r=>by unfold La;rw[Nat.testBit_or,Bool.or_eq_true,MS i r];simp
theorem EU(i:Nat):∀(es:oE),(Ck es).testBit i=true↔∃e∈es,(If e.1 e.2.1).testBit i=true
 |[]=>by simp[Ck]
 |e::r=>by unfold Ck;rw[Nat.testBit_or,Bool.or_eq_true,EU i r];simp
theorem IS(q:Nat×Bool):If (K9 q).1 (K9 q).2=bif q.2 then q.1 else 0:=by obtain⟨n,b⟩:=q;cases b<;>rfl
theorem Lb{es:oE}{clock:Nat}(h:YB (L.map K9) es clock):Ck es=La L:=by
 refine Nat.eq_of_testBit_eq λi=>?_;rw[Bool.eq_iff_iff,EU,MS];constructor
 .grind [YB,IS]
 .rintro⟨q,hq,hb⟩;obtain⟨n,hn⟩:=h.sup (K9 q) (by grind);grind [IS]
abbrev O3:Bn:=79
abbrev Sj(clock:Nat)(seen:Bp):Option Ob:=some ⟨O3,[],some (.iter (some 0) clock seen clock)⟩
abbrev Vk(es:oE)(clock:Nat):Option Ob:=some ⟨O3,[],some (.map es clock)⟩
theorem Zo{P:Br}{t:Bn}{b:Nat}(ha:a<1048576)(hb:b<1048576):∀p q:Dl,DE P .or t p q (iG (a:Int)) (.lit (.int .i64 (.ofNat b)))=some (iG ((a|||b:Nat):Int)):=by grind [SS]
theorem TV(o:Bi):ba prog gl 98 [.agg (aJ o)] (iG ((La (rU o):Nat):Int)):=by
 refine Gh func98 ?_;refine pO 11100 (stP gl o) [] [hc (eB (gs:=aJ o) aH)] ?_ [] [];refine dMl O3 3 4 74 (hsP o) λes clock hM=>?_;rw[show IF (bq 11100 (ai Tryz.f98))=WU from rfl,Zn gl o] at hM;have hb:∀q∈rU o,q.1<1048576:=λq hq=>by simp only[rU,EY,Lv,or_false] at hq;rcases hq with rfl|rfl|rfl|rfl|rfl|rfl|rfl|rfl|rfl|rfl|rfl|rfl|rfl|rfl|rfl|rfl<;>exact EG rfl
 have him:∀q∈es,bB q.2.1:=by grind [YB,sY,mN]
 have hk:∀e∈es,Wa e.1<2^20:=λe he=>by obtain⟨m,b,e1,e2,_⟩:=sY hb (hM.sub e he);have e1:e.1=_:=e1;rw[e1];exact e2
 have hlt:∀seen,iC seen es<1048576:=λseen=>Ig hk;refine dNx 11101 ?_;refine dRe (s0 75 gl [(3,iG 0),(64,.ref 1 0)] [(1,Sj clock []),(0,Vk es clock)] 2 0) [hc him] ?_ [] [(0,0),(1,1)];refine dMw 64 65 66 0 (iti:=1) (mi:=0) (clock:=clock) (since:=clock) (T:=O3) (ty:=O3) (es:=es) (λseen=>(s0 75 gl [(3,iG ((iC seen es:Nat):Int)),(64,.ref 1 0)] [(1,Sj clock seen),(0,Vk es clock)] 2 0)) (λ_=>True) trivial hM.lt rfl ?_ (λseen=>rfl) (λseen=>rfl) (by grind) (λB seen k g n _ hm hn a=>?_) (λseen _ hs=>?_)
 .rw[Ex];exact Le.refl _
 .obtain⟨m,b,e1,e2,e3⟩:=sY hb (hM.sub _ hm);have e1:k=_:=e1;have e3:g=_:=e3;subst e1 e3;have hge:jr [(1,Sj clock (seen++[n])),(1,Sj clock seen),(0,Vk es clock)] (.ref 1 0)=some (.tup [db (.int .i64 (.ofNat m)),bG b]):=yo (iti:=1) (mi:=0) (since:=clock) (clock:=clock) (T:=O3) (ty:=O3) (seen:=seen) rfl rfl hM.nd hm;have a:=a trivial;rw[Ev hn hm hM.nd] at a;cases b
  .exact jw [YT 67 hge] [hc him] (show B (s0 75 gl [(3,iG ((iC seen es:Nat):Int)),(64,.ref 1 0)] [(1,Sj clock (seen++[n])),(0,Vk es clock)] 2 0) by rw[show iC seen es|||If (.int .i64 (.ofNat m)) (bG false)=iC seen es from Nat.or_zero _] at a;exact a) [] [(0,0),(1,1)]
  .exact jw [YT 67 hge,hV 73 (Zo (P:=prog) (t:=3) (hlt seen) e2)] [hc him] a [] [(0,0),(1,1)]
 .have e:iC seen es=La (rU o):=by rw[Ew hs,Lb hM]
  rw[<-e];exact Ar [] []
def xj(n a b:Int):Bool:=decide (a<=n)&&decide (n<=b)
theorem ib(n a b:Int):FV n a b=some (xj n a b):=by grind [FV,xj]
theorem inT(n a b:Int)(h:xj n a b=true):FV n a b=some true:=by rw[ib,h]
def WV(n:Nat):Bool:=decide ((n:Int)<((2305843009213693951:Nat):Int))
def Rz(i:Ab):Bool:=xj i.By 1 12&&(xj i.Seq 1 2147483647&&WV i.Sum)
theorem GA(n:Nat):Kq n=some (WV n):=by unfold Kq WV;rfl
theorem Zp(x y z:Bool):(((some x).bind λb=>bif b then((some y).bind λc=>bif c then((some z).bind λa=>some a)else(some false))else(some false)).bind λd=>some d)=some (x&&(y&&z)):=by cases x<;>cases y<;>rfl
theorem pS(i:Ab):Al i=some (Rz i):=by have h:=Zp (xj i.By 1 12) (xj i.Seq 1 2147483647) (WV i.Sum);rw[<-ib,<-ib,<-GA] at h;exact h
def Z5(n:Nat):Bool:=decide (((1:Nat):Int)<=(n:Int))&&decide ((n:Int)<((2305843009213693951:Nat):Int))
theorem Zq(y z:Bool):((bif y then(some z)else(some false)).bind λa=>some a)=some (y&&z):=by cases y<;>rfl
theorem rV(n:Nat):rJ n=some (Z5 n):=Zq _ _
def GB(o:Bi):Bool:=bif o.Kind=3 then(xj o.Member 1 8&&decide (o.Device=0))||(decide (o.Member=0)&&decide (o.Device≠0))else xj o.Member 1 8
def GH(o:Bi):Int:=bif o.Kind=3 then 0 else 1
def Sk(o:Bi):Int:=bif o.Kind=1 then 0 else 1
def Sl(o:Bi):Int:=bif o.Kind=1 then 20 else ah o.Guards
def OC(o:Bi):List (Nat×Bool):=[(1,xj o.Device (GH o) 12),(2,xj o.Old 1 12),(4,GB o),(8,xj o.Role 1 3),(64,xj o.N 0 2147483647),(4096,xj o.Wait 0 2147483647),(2048,xj o.Need (Sk o) (Sl o)),(32,Rz o.Epoch),(512,Rz o.Of),(16384,Z5 o.Pub)]
noncomputable def RA:It:=IF (bq 111111100 (ai Tryz.f100))
noncomputable abbrev Zr(o:Bi)(k:Nat):St:=(s0 136 gl [(1,iG (k:Int)),(2,.ptr (aJ o) 0),(5,iG (GH o)),(6,iG (Sk o)),(7,iG (Sl o)),(8,bG (GB o))] [] 0 0)
def hsR(o:Bi):List HP:=[hf 62 (eE gl (ib o.Device (GH o) 12)),hf 65 (eE gl (ib o.Old 1 12)),hf 69 (eE gl (ib o.Role 1 3)),hf 72 (eE gl (ib o.N 0 2147483647)),hf 75 (eE gl (ib o.Wait 0 2147483647)),hf 80 (eE gl (ib o.Need (Sk o) (Sl o))),hf 83 (pH gl (pS o.Epoch)),hf 86 (pH gl (pS o.Of)),hf 89 (Jq gl (rV o.Pub))]
theorem aaY(o:Bi)(k:Nat):RA.filterMap (mM (iH (Zr gl o k) (U3 prog (bK (hsR gl o)) (Zr gl o k) RA)))=(OC o).map K9:=aH
theorem WW{P:Br}{t:Bn}{b:Nat}(ha:a<1048576)(hb:b<1048576):∀p q:Dl,DE P .and t p q (iG (a:Int)) (.lit (.int .i64 (.ofNat b)))=some (iG ((a&&&b:Nat):Int)):=λp q=>by have e:=V8 (P:=P) (t:=t) (a:Int) (b:Int) p q;refine Eq.trans e ?_;have h1:a&&&b<=a:=Nat.and_le_left;unfold Yn;rw[BitVec.toNat_and,BitVec.toNat_ofInt,BitVec.toNat_ofInt];grind [IntKind.bits,IntKind.wrap]
structure AlW (o:Bi) (k:Nat):Prop where
 by_:xj o.By 1 12=true
 seq:xj o.Seq 1 2147483647=true
 at_:xj o.At 0 2147483647=true
 ents:∀q∈OC o,k&&&q.1≠0->q.2=true
 guards:Ot o.Guards (λz=>uR z)=some true
 refs:Ot o.Refs (λz=>Kq z)=some true
 past:Ot o.Past (λz=>Al z)=some true
 path:Ot o.Path (λz=>uP z)=some true
 boxes:Ot o.Boxes (λz=>wB z)=some true
 hist:Ot o.Hist (λz=>uQ z)=some true
theorem IT(hk:k<1048576)(h:AlW o k):ba prog gl 100 [.agg (aJ o),iG (k:Int)] (bG true):=by
 refine Gh func100 ?_;refine pO 1111100 (s0 136 gl [(1,iG (k:Int)),(2,.ptr (aJ o) 0),(5,iG 1),(6,iG 1),(7,iG (ah o.Guards)),(8,bG (xj o.Member 1 8))] [] 0 0) [hf 16 (eE gl (inT _ _ _ h.by_)),hf 21 (eE gl (inT _ _ _ h.seq)),hf 27 (eE gl (inT _ _ _ h.at_)),hf 35 (eE gl (ib o.Member 1 8))] [hc (eB (gs:=aJ o) aH)] ?_ [] [];refine Ix 111110 (s0 136 gl [(1,iG (k:Int)),(2,.ptr (aJ o) 0),(5,iG (GH o)),(6,iG 1),(7,iG (ah o.Guards)),(8,bG (GB o))] [] 0 0) ?_ λkk=>?_;rotate_left
 .unfold GH GB at kk;cases e:decide (o.Kind=3) with
  |false=>rw[e] at kk;exact yl 111110 [hr 38 e] [] kk [] []
  |true=>
   rw[e] at kk;simp only[ax] at kk;generalize hm0:xj o.Member 1 8=m0 at kk⊢;cases hD:decide (o.Device=0) with
   |false=>have hD':decide (o.Device≠0)=true:=CM (Np hD);rw[hD,hD'] at kk;cases hM:decide (o.Member=0)<;>rw[hM] at kk<;>cases m0<;>exact yl 111110 [hr 38 e,hr 43 hD,hr 48 hM,hr 52 hD'] [] kk [] []
   |true=>have hD':decide (o.Device≠0)=false:=C3 λh=>h (DP hD);rw[hD,hD'] at kk;cases hM:decide (o.Member=0)<;>rw[hM] at kk<;>cases m0<;>exact yl 111110 [hr 38 e,hr 43 hD,hr 48 hM,hr 52 hD'] [] kk [] []
 refine pO 11111100 (s0 136 gl [(1,iG (k:Int)),(2,.ptr (aJ o) 0),(5,iG (GH o)),(6,iG 1),(7,iG (ah o.Guards)),(8,bG (GB o))] [] 0 0) [] [] ?_ [] [];refine Ix 1111110 (Zr gl o k) ?_ λkk=>?_;rotate_left
 .unfold Zr Sk Sl at kk;cases e:decide (o.Kind=1)<;>rw[e] at kk<;>exact yl 1111110 [hr 57 e] [] kk [] []
 refine pO 111111100 (Zr gl o k) [] [] ?_ [] [];refine dMl O3 3 4 43 (hsR gl o) λes clock hM=>?_;rw[show IF (bq 111111100 (ai Tryz.f100))=RA from rfl,aaY gl o k] at hM;have hb:∀q∈OC o,q.1<1048576:=λq hq=>by simp only[OC,EY,Lv,or_false] at hq;grind
 have him:∀q∈es,bB q.2.1:=by grind [YB,sY,mN]
 refine dNx 111111101 ?_;refine dRe (s0 136 gl [(1,iG (k:Int)),(2,.ptr (aJ o) 0),(91,.ref 1 0)] [(1,Sj clock []),(0,Vk es clock)] 2 0) [hc him] ?_ [] [(0,0),(1,1)];refine dMw 91 92 93 0 (iti:=1) (mi:=0) (clock:=clock) (since:=clock) (T:=O3) (ty:=O3) (es:=es) (λseen=>(s0 136 gl [(1,iG (k:Int)),(2,.ptr (aJ o) 0),(91,.ref 1 0)] [(1,Sj clock seen),(0,Vk es clock)] 2 0)) (λ_=>True) trivial hM.lt rfl (Le.refl _) (λseen=>rfl) (λseen=>rfl) (by grind) (λB seen f g n _ hm hn d=>?_) (λseen _ hs=>?_)
 .have hmem:=hM.sub _ hm;obtain⟨⟨m,b⟩,hq,a⟩:=E7.1 hmem;have e1:(.int .i64 (.ofNat m):Value)=f:=congrArg Prod.fst a;have e3:bG b=g:=congrArg Prod.snd a;subst e1 e3;have hm2:m<1048576:=hb _ hq;have hent:=h.ents _ hq;dsimp only at hent;have hge:jr [(1,Sj clock (seen++[n])),(1,Sj clock seen),(0,Vk es clock)] (.ref 1 0)=some (.tup [db (.int .i64 (.ofNat m)),bG b]):=yo (iti:=1) (mi:=0) (since:=clock) (clock:=clock) (T:=O3) (ty:=O3) (seen:=seen) rfl rfl hM.nd hm;have hVa:∀p q:Dl,DE prog .and 3 p q (iG (k:Int)) (.lit (.int .i64 (.ofNat m)))=some (iG ((k&&&m:Nat):Int)):=WW hk hm2;by_cases h0:k&&&m=0
  .exact jw [YT 94 hge,hV 99 hVa,hr 100 (show decide (((k&&&m:Nat):Int)≠0)=false from C3 aa)] [hc him] (d trivial) [] [(0,0),(1,1)]
  .obtain rfl:b=true:=hent h0;exact jw [YT 94 hge,hV 99 hVa,hr 100 (show decide (((k&&&m:Nat):Int)≠0)=true from CM aa)] [hc him] (d trivial) [] [(0,0),(1,1)]
 .exact Ar [hz 108 [] (jf (c:=2) aH (FW gl (⟨aH,bf,eB aH,λ_ _ e=>Dw gl e⟩) h.guards) (eB aH)),
   hz 112 [] (jf (c:=2) aH (zL gl (⟨aH,bf,eB aH,λ_ _ e=>Ak gl e⟩) h.refs) (eB aH)),
   hz 117 [] (jf (c:=2) aH (Ch gl (⟨aH,bf,eB aH,λ_ _ e=>pH gl e⟩) h.past) (eB aH)),
   hz 123 [] (jf (c:=2) aH (tK gl (⟨aH,bf,eB aH,λ_ _ e=>Du gl e⟩) h.path) (eB aH)),
   hz 128 [] (jf (c:=2) aH (wA gl (⟨aH,bf,eB aH,λ_ _ e=>Cf gl e⟩) h.boxes) (eB aH)),
   hz 134 [] (jf (c:=2) aH (pY gl (⟨aH,bf,eB aH,λ_ _ e=>Dv gl e⟩) h.hist) (eB aH))] []
def nG:Bj:=[0,2064,32793,21,16,12,480,640,512,31744,8704,8705,512,33299]
def Sn(n:Nat):G:= .clo (.func n) [] []
def IU:Bo:=[.lit .nilFunc,.lit .nilFunc,Sn 391,Sn 393,.lit .nilFunc,Sn 394,Sn 395,.lit .nilFunc,Sn 396,Sn 397,Sn 399,Sn 400,Sn 399,Sn 401]
def fI:CC:=[(0,nG.flatMap cZ),(1,IU)]
theorem WX:Ac3 prog 161 3 14 1:=⟨aH,aH,aH⟩
theorem kIx{i:Int}(h:aS nG i=some x):fh prog 161 (.ptr (nG.flatMap cZ) 0) i=some (.ptr (nG.flatMap cZ) (i.toNat*1)):=WX.ix h rfl
structure Abk (o:Bi) (kk:Nat):Prop where
 lo:decide (o.Kind<1)=false
 hi:decide (13<o.Kind)=false
 kind:aS nG o.Kind=some (kk:Int)
 kb:kk<1048576
 bits:wH ((La (rU o):Nat):Int) (kk:Int)=0
 rg:AlW o kk
 long:FX o=some false
 nPast:o.Past.length<=1000000
 nGuards:o.Guards.length<=1000000
 past:∀(k:Nat) (a b:Ab),o.Past[k]?=some a->o.Past[k+1]?=some b->pE a b=some true
 guards:∀(k:Nat) (a b:Int),o.Guards[k]?=some a->o.Guards[k+1]?=some b->a<b
 create:decide (ah o.Past=0)=decide (o.Kind=1)
def Lc(l:AH)(i:Int):Option (Int⊕Unit):=bif i<wI (ah l-1)then(aS l i).bind λa=>(aS l (wI (i+1))).bind λb=>(pE a b).bind λv=>bif v then some (.inl (wI (i+1)))else none else some (.inr ())
def Ld(l:Bj)(i:Int):Option (Int⊕Unit):=bif i<wI (ah l-1)then(aS l i).bind λa=>(aS l (wI (i+1))).bind λb=>bif a<b then some (.inl (wI (i+1)))else none else some (.inr ())
theorem Zs(h:Abk o kk):AQ (Lc o.Past) 0=some ():=by
 have hn:=h.nPast;have hw:wI (ah o.Past-1)=(o.Past.length:Int)-1:=by grind [bM,ah]
 refine T.eq (T.loop (λi=>∃k:Nat,i=(k:Int)/\k<=o.Past.length) (λi=>o.Past.length-i.toNat) (by grind) (by grind) ?_);rintro i ⟨k,rfl,hk⟩;unfold Lc;rw[hw];refine .dec (λhh=>?_) λhh=> .some rfl;have h1:k<o.Past.length:=aa;have h2:k+1<o.Past.length:=aa;have ew:wI ((k:Int)+1)=((k+1:Nat):Int):=aq aa;refine .bind (.ix aa (x:=o.Past[k]) (by grind) (.bind (.ix (by grind) (x:=o.Past[k+1]) (by grind) (.eqb (h.past k _ _ (by simp_all) (by simp_all)) (.some ⟨⟨k+1,ew,aa⟩,?_⟩)))));grind
theorem Zt(h:Abk o kk):AQ (Ld o.Guards) 0=some ():=by
 have hn:=h.nGuards;have hw:wI (ah o.Guards-1)=(o.Guards.length:Int)-1:=by grind [bM,ah]
 refine T.eq (T.loop (λi=>∃k:Nat,i=(k:Int)/\k<=o.Guards.length) (λi=>o.Guards.length-i.toNat) (by grind) (by grind) ?_);rintro i ⟨k,rfl,hk⟩;unfold Ld;rw[hw];refine .dec (λhh=>?_) λhh=> .some rfl;have h1:k<o.Guards.length:=aa;have h2:k+1<o.Guards.length:=aa;have ew:wI ((k:Int)+1)=((k+1:Nat):Int):=aq aa;refine .bind (.ix aa (x:=o.Guards[k]) (by grind) (.bind (.ix (by grind) (x:=o.Guards[k+1]) (by grind) ?_)));rw[CM (h.guards k _ _ (by simp_all) (by simp_all)),ax];refine .some ⟨⟨k+1,ew,aa⟩,?_⟩;grind
theorem IW(h:Abk o kk):ba prog fI 40 [.agg (aJ o)] (iG 0):=by
 refine Gh func40 ?_;refine pO 111100 (s0 93 fI [(1,.ptr (aJ o) 0),(3,bG true)] [] 0 0) [hr 8 h.lo,hr 12 h.hi,hf 16 (TV fI o),AA 19 (kIx h.kind),AA 20 (rZ.p1Z tZ h.kind),hV 21 (NW (P:=prog) (t:=3) ((La (rU o):Nat):Int) (kk:Int)),hr 22 (show decide (wH ((La (rU o):Nat):Int) (kk:Int)≠0)=false from C3 λe=>e h.bits)] [hc (eB (gs:=aJ o) aH)] ?_ [] [];refine Ix 111101 (s0 93 fI [(1,.ptr (aJ o) 0),(3,bG true)] [] 0 0) ?_ λkk1=>?_;rotate_left
 .refine pN (λi:Int=>(s0 93 fI [(1,.ptr (aJ o) 0),(3,bG true),(27,iG (wI (ah o.Past-1))),(28,iG i)] [] 0 0)) 11110122 (Zs h) [] [] (λB i w hs k5 d=>?_) [] [];unfold Lc at hs;rcases bC hs with⟨b1,hs⟩|⟨b1,hs⟩
  .obtain⟨a,c,hs⟩:=bS hs;obtain⟨b,eb,hs⟩:=bS hs;obtain⟨v,ev,hs⟩:=bS hs;cases v
   .cases hs
   .obtain rfl:=Bh hs;exact jw [hr 29 b1,AA 36 (ac.ixZ c),AA 37 (ac.ptZ aW c),AA 42 (ac.ixZ eb),AA 43 (ac.ptZ aW eb),hf 44 (Ny fI ev)] [] (k5 _ rfl) [] []
  .obtain rfl:=Bh hs;exact yl 111101 [hr 29 b1] [] kk1 [] []
 refine pO 1111100 (s0 93 fI [(1,.ptr (aJ o) 0),(3,bG true)] [] 0 0) [] [] ?_ [] [];refine Ix 1111101 (s0 93 fI [(1,.ptr (aJ o) 0),(3,bG true)] [] 0 0) ?_ λkk1=>?_;rotate_left
 .refine pN (λi:Int=>(s0 93 fI [(1,.ptr (aJ o) 0),(3,bG true),(50,iG (wI (ah o.Guards-1))),(51,iG i)] [] 0 0)) 111110122 (Zt h) [] [] (λB i w hs k5 d=>?_) [] [];unfold Ld at hs;rcases bC hs with⟨b1,hs⟩|⟨b1,hs⟩
  .obtain⟨a,c,hs⟩:=bS hs;obtain⟨b,eb,hs⟩:=bS hs;rcases bC hs with⟨b2,hs⟩|⟨b2,hs⟩
   .obtain rfl:=Bh hs;exact jw [hr 52 b1,AA 59 (rZ.ixZ c),AA 60 (rZ.p1Z tZ c),AA 65 (rZ.ixZ eb),AA 66 (rZ.p1Z tZ eb),hr 67 b2] [] (k5 _ rfl) [] []
   .cases hs
  .obtain rfl:=Bh hs;exact yl 1111101 [hr 52 b1] [] kk1 [] []
 have hc:=h.create;cases e:decide (o.Kind=1) with
 |false=>rw[e] at hc;exact Ar [AA 74 (kIx h.kind),AA 75 (rZ.p1Z tZ h.kind),hf 76 (IT fI h.kb h.rg),hf 80 (Es fI h.long),hr 88 hc,hr 91 e] []
 |true=>rw[e] at hc;exact Ar [AA 74 (kIx h.kind),AA 75 (rZ.p1Z tZ h.kind),hf 76 (IT fI h.kb h.rg),hf 80 (Es fI h.long),hr 88 hc,hr 91 e] []
theorem sc1{b:Nat}(h1:a<=n)(h2:n<=b):iB n a b=some true:=by grind [iB]
theorem TW{s:N8}(hb:b.length<=1073741824)(h:jJ pub b s=some true):lq pub b s=some true:=by
 unfold jJ at h;obtain⟨g,hj,h⟩:=bS h;rcases bC h with⟨rfl,h⟩|⟨rfl,h⟩
 .cases h
 rcases bC hj with⟨c1,hj⟩|⟨c1,hj⟩
 .cases hj
 rw[show fV=some 2305843009213693950 from rfl,aL] at hj;rcases bC hj with⟨c2,hj⟩|⟨c2,hj⟩
 .cases hj
 rcases bC hj with⟨c3,hj⟩|⟨c3,hj⟩
 .cases hj
 rw[aL] at hj;rcases bC hj with⟨c4,hj⟩|⟨c4,hj⟩
 .cases hj
 rw[aL] at hj;have c5:=Bh hj;have c1:=Np c1;have c2:=Np c2;have c3:=Np c3;have c4:=Np c4;have c5:=Np c5;obtain⟨i,h4,h⟩:=bS h;obtain⟨j,h6,h⟩:=bS h;obtain⟨k,h8,h⟩:=bS h;obtain⟨d,h10,h⟩:=bS h;have hpow:∀{a n r:Nat},n<18446744073709551616->iK a n=some r->r<2305843009213693951:=λhn e=>by obtain⟨q,e1,e2⟩:=ka _ hn;rw[e] at e1;grind
 unfold lq;rw[sc1 aa aa,aL];simp only[Bool.not_true,A9];rw[sc1 aa aa,aL];simp only[Bool.not_true,A9];rw[sc1 aa aa,aL];simp only[Bool.not_true,aL,A9];unfold Pi at h6;obtain⟨m,hm,h6⟩:=bS h6;obtain⟨e,he,h6⟩:=bS h6;cases h6;unfold Ph at hm;have hm':jI [115,105,103,110,101,100] b=some m:=by simp_all
 obtain⟨m2,f1,f2,o⟩:=xe (label:=[115,105,103,110,101,100]) (b:=b) Cd hb;obtain rfl:m2=m:=by grind
 obtain⟨e2,g1,g2,c⟩:=ET (label:=[115,105,103]) (l:=[s.R,pub,m2]) Cd aC λw hw=>by simp only[EY,Lv,or_false] at hw;rcases hw with rfl|rfl|rfl<;>omega
 rw[he] at g2;cases g2;unfold xh;rw[f1,aL,g1,aL,aL,nf Cd aa h4,aL];dsimp only;rw[nf aa c h8,aL];have f:=hpow c h8;rw[PK aa aa,aL];rw[ll] at h10;simp_all
section
attribute [local irreducible] qc
theorem OD{c:DF}(ho:Bb o)(hb:o.By=c.Device)(h:lq c.Sign (qc o) o.Sig=some true):ba prog gl 44 [.agg (bv c),.agg (aJ o)] (bG true):=by
 have a:=yY ho;have e:decide (o.By=c.Device)=true:=CM hb;refine Gh func44 ?_;refine pO [1,0] (s0 20 gl [(2,.ptr (bv c) 0),(3,.ptr (aJ o) 0)] [] 0 0) [] [hc (eB (gs:=bv c) aH),hc (eB (gs:=aJ o) aH)] ?_ [] [];exact Ar [hr 9 e,tN 14 [] 0 [] [.agg (aJ o)] [(0,oO 1 (qc o)),(1,oY (qc o))] (MP gl ho) trivial ⟨⟨rfl,.inl rfl⟩,⟨rfl,.inr ⟨rfl,rY.imm _⟩⟩,trivial⟩,
  tN 15 [0,1] 2 [(0,oO 1 (qc o)),(1,oY (qc o))] [.ref 0 0] [(0,oO 1 (qc o)),(1,oY (qc o)),(2,oY (qc o))] (rS gl (l:=qc o) aa) ⟨⟨rfl,.inl rfl⟩,⟨rfl,.inr ⟨rfl,rY.imm _⟩⟩,trivial⟩ ⟨⟨rfl,.inl rfl⟩,⟨rfl,.inr ⟨rfl,rY.imm _⟩⟩,⟨rfl,.inr ⟨rfl,rY.imm _⟩⟩,trivial⟩,
  hq 18 [uG c.Sign,aE cY (qc o),.agg (yy o.Sig)] [hc (rY.al (qc o))] (GF gl h)] []
end
def blT:Bp:=[0,1,2,2,3,3,3,3,4,4,4,4,4,4,4,4,5,5,5,5,5,5,5,5,5,5,5,5,5,5,5,5]
def WZ(n:Nat):Nat:=blT.getD n 0
theorem RB(h:n<32):ba prog gl 247 [uG (n:Int)] (iG (WZ n:Int)):=by have e:n=0\/n=1\/n=2\/n=3\/n=4\/n=5\/n=6\/n=7\/n=8\/n=9\/n=10\/n=11\/n=12\/n=13\/n=14\/n=15\/n=16\/n=17\/n=18\/n=19\/n=20\/n=21\/n=22\/n=23\/n=24\/n=25\/n=26\/n=27\/n=28\/n=29\/n=30\/n=31:=aa;rcases e with rfl|rfl|rfl|rfl|rfl|rfl|rfl|rfl|rfl|rfl|rfl|rfl|rfl|rfl|rfl|rfl|rfl|rfl|rfl|rfl|rfl|rfl|rfl|rfl|rfl|rfl|rfl|rfl|rfl|rfl|rfl|rfl<;>(refine Gh func247 ?_;exact Ar [] [])
theorem RC{n:Nat}(h:n<32):ba prog gl 158 [uG (n:Int)] (iG (WZ n:Int)):=by refine Gh func158 ?_;exact Ar [hf 7 (RB gl h)] []
def Lf(l:LP)(i:Int):Option (Int⊕Unit):=bif i<ah l then(aS l i).bind λa=>(aS l (wI (i-1))).bind λb=>bif decide (0<i)&& !decide (wI (a.Device-b.Device)<0)then some (.inl (wI (i+1)))else none else some (.inr ())
def aa3(_:Unit):Option (Unit⊕Unit):=some (.inr ())
theorem Lg:AQ aa3 ()=some ():=T.eq (T.loop (λ_=>True) (λ_=>0) trivial Cd λ_ _=> .some rfl)
abbrev oC(l:LP):Option Ob:=some ⟨103,l.flatMap bv,none⟩
abbrev zP:G:= .clo (.func 144) [] []
def xf(l:LP):Prop:=l.length<=12/\∀(k:Nat) (a b:DF),l[k]?=some a->l[k+1]?=some b->a.Device<=b.Device/\0<=a.Device/\b.Device<=1000000
theorem Zw{l:LP}(h:xf l):AQ (Lf l) (wI (0+1))=some ():=by
 have hn:=h.1;refine T.eq (T.loop (λi=>∃k:Nat,i=((k+1:Nat):Int)/\k<=12) (λi=>14-i.toNat) ⟨0,rfl,aa⟩ (by show 14-_<_;omega) ?_);rintro i ⟨k,rfl,hk⟩;unfold Lf;refine .dec (λhh=>?_) λhh=> .some rfl;unfold ah at hh;have h1:k<l.length:=aa;have h2:k+1<l.length:=aa;have ew:wI (((k+1:Nat):Int)+1)=((k+1+1:Nat):Int):=aq aa;have em:wI (((k+1:Nat):Int)-1)=(k:Int):=by grind [bM]
 obtain⟨q1,a,b⟩:=h.2 k _ _ (EA h1) (EA h2);refine .bind (.ix aa (x:=l[k+1]) (by rw[Fm,EA h2]) (.bind (.ix (by rw[em];omega) (x:=l[k]) (by rw[em,Fm,EA h1]) ?_)));rw[bM (z:=l[k+1].Device-l[k].Device) aa aa,CM (by grind),C3 (by grind)];refine .some ⟨⟨k+1,ew,aa⟩,?_⟩;grind
theorem OE{l:LP}(h:xf l):OU prog gl 309 [.rsl 0 0 l.length,iG 0,iG (ah l),zP] [(0,oC l)] 1 1 (.tup []) [(0,oC l)]:=by
 refine ZU func309 ?_ (λi hi=>by match i,hi with|0,_=>exact⟨_,rfl⟩);refine pN (λi:Int=>(s0 53 gl [(0,.rsl 0 0 l.length),(1,iG 0),(2,iG (ah l)),(3,zP),(8,iG i)] [(0,oC l)] 1 1)) 1122 (Zw h) [] [hc (el l),hc (aG 20 zP aH),hc (bT.imm l)] (λB i w hs k5 d=>?_);unfold Lf at hs;rcases bC hs with⟨b1,hs⟩|⟨b1,hs⟩
 .obtain⟨a,c,hs⟩:=bS hs;obtain⟨b,eb,hs⟩:=bS hs;rcases bC hs with⟨b2,hs⟩|⟨b2,hs⟩
  rotate_left
  .cases hs
  obtain rfl:=Bh hs;simp only[bA,Bool.not_eq_true'] at b2;refine Ix 11221021 (s0 53 gl [(0,.rsl 0 0 l.length),(1,iG 0),(2,iG (ah l)),(3,zP),(8,iG i)] [(0,oC l)] 1 1) ?_ λkk=>?_
  .exact jw [] [hc (el l),hc (aG 20 zP aH),hc (bT.imm l)] (k5 _ rfl)
  refine pN (λ_:Unit=>(s0 53 gl [(0,.rsl 0 0 l.length),(1,iG 0),(2,iG (ah l)),(3,zP),(8,iG i),(9,iG i)] [(0,oC l)] 1 1)) 1122102122 Lg [hr 14 b1] [hc (el l),hc (aG 20 zP aH),hc (bT.imm l)] (λe z v hz2 f g=>?_);exact yl 11221021 [hr 20 b2.1,AA 25 (bT.ixrZ 0 c),AA 26 (bT.pt0Z E2 c),AA 30 (bT.ixrZ 0 eb),AA 31 (bT.pt0Z E2 eb),hf 32 (Dt gl (a:=a) (b:=b) rfl),hr 33 b2.2] [hc (el l),hc (aG 20 zP aH),hc (bT.imm l)] kk
 .exact ZT [hr 14 b1] [hc (bT.imm l)] [(0,0)] [(0,.row)]
theorem zr{gs gs0:Bo}{g0:G}{i:Nat}(h:CI i gs gs0)(hg:nF 20 g0=true:=by kernel_rfl):CI i (g0::gs) (g0::gs0):=CJ (aG 20 _ hg) h
theorem OF{l:LP}(h:xf l)(k:Int):OU prog gl 230 [.rsl 0 0 l.length,iG 0,iG (ah l),iG k,zP] [(0,oC l)] 1 1 (.tup []) [(0,oC l)]:=by
 have e:wI (ah l-0)=ah l:=by have:=h.1;grind [bM,ah]
 have hd:decide (wI (ah l-0)<=12)=true:=by rw[e];exact CM (by have:=h.1;unfold ah;omega)
 refine ZU func230 ?_ (λi hi=>by match i,hi with|0,_=>exact⟨_,rfl⟩);refine pN (λ_:Unit=>(s0 148 gl [(0,.rsl 0 0 l.length),(1,iG 0),(2,iG (ah l)),(3,iG k),(4,zP)] [(0,oC l)] 1 1)) 11122 Lg [] [hc (el l),hc (aG 20 zP aH),hc (bT.imm l)] (λa z v hz2 b d=>?_);exact ZT [hr 25 hd,hz 30 [0] (wS (i:=0) (c:=1) aH (OE gl h) (aG 20 _ aH) (bT.imm l) Cd (by rfl) (w5 (zr (zr (zr wZ)))))] [hc (bT.imm l)] [(0,0)] [(0,.row)]
theorem Lh{l:LP}(h:xf l):OU prog gl 143 [.rsl 0 0 l.length,zP] [(0,oC l)] 1 1 (.tup []) [(0,oC l)]:=by
 have e:wU (ah l)=l.length:=by have:=h.1;unfold ah;rw[gP];omega
 have hl:ba prog gl 158 [uG (wU (ah l):Int)] (iG (WZ l.length:Int)):=by rw[e];exact RC gl (by have:=h.1;omega)
 refine ZU func143 ?_ (λi hi=>by match i,hi with|0,_=>exact⟨_,rfl⟩);exact ZT [AA 10 (C8 (ah l)),hf 11 hl,hz 13 [0] (wS (i:=0) (c:=1) aH (OF gl h (WZ l.length:Int)) (aG 20 _ aH) (bT.imm l) Cd (by rfl) (w5 (zr (zr (zr (zr wZ))))))] [hc (bT.imm l)] [(0,0)] [(0,.row)]
abbrev JI(l:Bj):Option Ob:=some ⟨3,l.flatMap cZ,none⟩
def Aap(s:Bj×Int):Option ((Bj×Int)⊕Bj):=
 bif 0<s.2 then(aS s.1 s.2).bind λa=>(aS s.1 (wI (s.2-1))).bind λb=>bif a<b then(ji s.1 s.2 b).bind λw1=>(ji w1 (wI (s.2-1)) a).bind λw2=>some (.inl (w2,wI (s.2-1)))else some (.inr s.1)else some (.inr s.1)
def Acw(n:Int)(s:Bj×Int):Option ((Bj×Int)⊕Bj):=
 bif s.2<n then(AQ Aap (s.1,s.2)).bind λl=>some (.inl (l,wI (s.2+1)))else some (.inr s.1)
def inZ(l:Bj):Option Bj:=AQ (Acw (ah l)) (l,wI (0+1))
theorem Ah4(a b:Int):ba prog gl 243 [iG a,iG b] (bG (decide (a<b))):=VB gl (by unfold Uq Gd;simp)
theorem An0{l w1 w2:Bj}{i j a b:Int}(h1:ji l i b=some w1)(h2:ji w1 j a=some w2):fh prog 22 (.rsl 0 0 l.length) j=some (.ref 0 (0+j.toNat*1)):=by rw[hZ h1];exact rZ.ixsZ 0 h2
theorem Ah5{l r:Bj}(h:inZ l=some r):jg prog gl 237 [.rsl 0 0 l.length,iG 0,iG (ah l)] [(0,JI l)] 1 (.tup []) [(0,JI r)] 1:=by
 unfold inZ at h;refine pP func237 ?_;refine pN (λs:Bj×Int=>(s0 49 gl [(0,.rsl 0 0 s.1.length),(1,iG 0),(2,iG (ah l)),(6,iG s.2)] [(0,JI s.1)] 1 1)) 1122 h [] [hc (el l),hc (rZ.imm l)] (λB s w hs k5 f=>?_);obtain⟨l1,i⟩:=s;unfold Acw at hs;dsimp only at hs;rcases bC hs with⟨b1,hs⟩|⟨b1,hs⟩
 .obtain⟨l2,e2,hs⟩:=bS hs;obtain rfl:=Bh hs;refine Ix 11221021 (s0 49 gl [(0,.rsl 0 0 l2.length),(1,iG 0),(2,iG (ah l)),(6,iG i)] [(0,JI l2)] 1 1) ?_ λkk=>?_
  .exact jw [] [hc (el l2),hc (rZ.imm l2)] (k5 _ rfl)
  refine pN (λs:Bj×Int=>(s0 49 gl [(0,.rsl 0 0 s.1.length),(1,iG 0),(2,iG (ah l)),(6,iG i),(7,iG s.2)] [(0,JI s.1)] 1 1)) 1122102122 e2 [hr 12 b1] [hc (el l1),hc (rZ.imm l1)] (λk z v hz g e=>?_);obtain⟨l3,j⟩:=z;unfold Aap at hz;dsimp only at hz;rcases bC hz with⟨b2,hz⟩|⟨b2,hz⟩
  .obtain⟨a,d,hz⟩:=bS hz;obtain⟨b,eb,hz⟩:=bS hz;have c:=Ah4 gl a b;rcases bC hz with⟨b3,hz⟩|⟨b3,hz⟩
   .obtain⟨w1,e1,hz⟩:=bS hz;obtain⟨w2,e3,hz⟩:=bS hz;obtain rfl:=Bh hz;rw[b3] at c;exact jw [hr 18 b2,AA 22 (rZ.ixrZ 0 d),AA 23 (rZ.p10Z tZ d),AA 27 (rZ.ixrZ 0 eb),AA 28 (rZ.p10Z tZ eb),hf 29 c,AA 41 (rZ.ixrZ 0 eb),AA 42 (rZ.p10Z tZ eb),AA 45 (rZ.ixrZ 0 d),AA 46 (rZ.p10Z tZ d),AA 47 (rZ.ixsZ 0 e1),hw 47 (w1.flatMap cZ) (rZ.putZ e1),AA 48 (An0 e1 e3),hw 48 (w2.flatMap cZ) (rZ.putZ e3)] [hc ((hZ e1).trans (hZ e3)),hc (rZ.imm w2)] (g _ rfl)
   .obtain rfl:=Bh hz;obtain rfl:=e _ rfl;rw[b3] at c;exact yl 11221021 [hr 18 b2,AA 22 (rZ.ixrZ 0 d),AA 23 (rZ.p10Z tZ d),AA 27 (rZ.ixrZ 0 eb),AA 28 (rZ.p10Z tZ eb),hf 29 c] [hc (el l3),hc (rZ.imm l3)] kk
  .obtain rfl:=Bh hz;obtain rfl:=e _ rfl;exact yl 11221021 [hr 18 b2] [hc (el l3),hc (rZ.imm l3)] kk
 .obtain rfl:=Bh hs;obtain rfl:=f _ rfl;exact mt .normal (s0 49 gl [] [(0,JI l1)] 1 1) [] [hr 12 b1] [hc (rZ.imm l1)] (kd:=[(0,.row)])
theorem Ah6{l r:Bj}(hl:l.length<=12)(h:inZ l=some r)(k:Int):jg prog gl 157 [.rsl 0 0 l.length,iG 0,iG (ah l),iG k] [(0,JI l)] 1 (.tup []) [(0,JI r)] 1:=by
 have e:wI (ah l-0)=ah l:=by grind [bM,ah]
 have hd:decide (wI (ah l-0)<=12)=true:=by grind [ah]
 refine pP func157 ?_;refine pN (λ_:Unit=>(s0 134 gl [(0,.rsl 0 0 l.length),(1,iG 0),(2,iG (ah l)),(3,iG k)] [(0,JI l)] 1 1)) 11122 Lg [] [hc (el l),hc (rZ.imm l)] (λa z v hz2 b c=>?_);exact mt .ret (s0 134 gl [] [(0,JI r)] 1 1) [] [hr 23 hd,tN 27 [0] 1 [(0,JI l)] [.rsl 0 0 l.length,iG 0,iG (ah l)] [(0,JI r)] (Ah5 gl h) ⟨⟨rfl,.inr ⟨rfl,rZ.imm l⟩⟩,trivial⟩ ⟨⟨rfl,.inr ⟨rfl,rZ.imm r⟩⟩,trivial⟩] [hc (rZ.imm r)] (kd:=[(0,.row)])
theorem N4{l r:Bj}(hl:l.length<=12)(h:inZ l=some r):jg prog gl 79 [.rsl 0 0 l.length] [(0,JI l)] 1 (.tup []) [(0,JI r)] 1:=by
 have e:wU (ah l)=l.length:=by unfold ah;rw[gP];omega
 have hb:ba prog gl 158 [uG (wU (ah l):Int)] (iG (WZ l.length:Int)):=by rw[e];exact RC gl aa
 refine pP func79 ?_;exact mt .normal (s0 11 gl [] [(0,JI r)] 1 1) [] [AA 8 (C8 (ah l)),hf 9 hb,tN 10 [0] 1 [(0,JI l)] [.rsl 0 0 l.length,iG 0,iG (ah l),iG (WZ l.length:Int)] [(0,JI r)] (Ah6 gl hl h (WZ l.length:Int)) ⟨⟨rfl,.inr ⟨rfl,rZ.imm l⟩⟩,trivial⟩ ⟨⟨rfl,.inr ⟨rfl,rZ.imm r⟩⟩,trivial⟩] [hc (rZ.imm r)] (kd:=[(0,.row)])
theorem Aga{A B:List α}{x:α}:(A++x::B)[A.length]?=some x:=aC
def PO(l:Bj):Prop:=l.Pairwise λa b=>a<=b
theorem Agb{S R:Bj}(hn:(S++x::R).length<=1000)(hs:PO S):T (AQ Aap (S++x::R,(S.length:Int))) λr=>∃S',r=S'++R/\S'.length=S.length+1/\PO S'/\S'.Perm (x::S):=by
 have hl:S.length+R.length+1<=1000:=by simp at hn;omega
 refine T.loop (λs=>∃b a,s.1=b++x::(a++R)/\s.2=(b.length:Int)/\S=b++a/\∀y∈a,x<=y) (λs=>s.2.toNat) ⟨S,[],rfl,rfl,aC,aC⟩ (by show((S.length:Int)).toNat<_;omega) ?_;rintro⟨l,j⟩ ⟨b,a,e1,e2,e3,e4⟩;dsimp only at e1 e2;subst e1 e2 e3;have fin:(∀y∈b,y<=x)->∃S',b++x::(a++R)=S'++R/\S'.length=(b++a).length+1/\PO S'/\S'.Perm (x::(b++a)):=λh=>by refine⟨b++x::a,aC,by simp;omega,?_,List.perm_middle⟩;grind [PO,List.pairwise_cons]
 unfold Aap;dsimp only;rcases List.eq_nil_or_concat b with rfl|⟨A,y,rfl⟩
 .rw[C3 aC,A9];exact .some (fin aC)
 .have hA:((A++[y]).length:Int)=((A.length+1:Nat):Int):=aC;have hAl:A.length<=1000:=by simp at hl;omega
  have ew:wI (((A.length+1:Nat):Int)-1)=(A.length:Int):=by grind [bM]
  rw[List.concat_eq_append] at*;rw[hA,CM aa,ax,au,ew,au];have eq1:A++[y]++x::(a++R)=A++y::x::(a++R):=aC;have g1:(A++[y]++x::(a++R))[A.length+1]?=some x:=by simp
  have g2:(A++[y]++x::(a++R))[A.length]?=some y:=by rw[eq1];exact Aga
  rw[g1,g2];simp only[aL];refine .dec (λc=>?_) λh=> .some (fin λz hz=>?_)
  .have s1:ji (A++[y]++x::(a++R)) ((A.length+1:Nat):Int) y=some (A++[y]++y::(a++R)):=by unfold ji;rw[Bx ⟨aa,aC⟩,Fm];simp_all
   have s2:ji (A++[y]++y::(a++R)) (A.length:Int) x=some (A++x::(y::a++R)):=by unfold ji;simp_all
   rw[s1,aL,s2,aL];refine .some ⟨⟨A,y::a,rfl,rfl,aC,λz hz=>?_⟩,?_⟩
   .grind
   simp_all
  .have hyx:y<=x:=aa;rcases Hp.1 hz with hz|hz
   .have hs':=hs;unfold PO at hs';rw[List.append_assoc,List.pairwise_append] at hs';exact Int.le_trans (hs'.2.2 z hz y aC) hyx
   grind
theorem Abz{l:Bj}(hn:l.length<=1000):T (inZ l) λr=>r.Perm l/\PO r:=by
 unfold inZ;refine T.loop (λs=>∃S R,s.1=S++R/\PO S/\(S++R).Perm l/\((S.length:Int)=s.2\/(l=[]/\S=[]/\R=[]/\s.2=1))) (λs=>1002-s.2.toNat) ?_ (by show 1002-_<_;omega) ?_
 .cases l with
  |nil=>exact⟨[],[],rfl,.nil,.refl _,.inr ⟨rfl,rfl,rfl,rfl⟩⟩
  |cons a r=>exact⟨[a],r,rfl,List.pairwise_singleton _ _,.refl _,.inl rfl⟩
 rintro⟨l1,i⟩ ⟨S,R,e1,e2,e3,e4⟩;dsimp only at e1 e4;subst e1;have hlen:=e3.length_eq;unfold Acw;dsimp only;refine .dec (λhlt=>?_) λhge=> .some ⟨e3,?_⟩
 .unfold ah at hlt;rcases e4 with rfl|⟨rfl,rfl,rfl,rfl⟩
  rotate_left
  .simp at hlt
  cases R with
  |nil=>simp at hlen;omega
  |cons x R=>refine .bind ((Agb (by rw[hlen];exact hn) e2).mono λr ⟨S',b,d,c,r4⟩=> .some ⟨⟨S',R,b,c,?_,.inl ?_⟩,?_⟩);all_goals grind [bM]
 .unfold ah at hge;rcases e4 with rfl|⟨rfl,rfl,rfl,rfl⟩
  .have:R=[]:=List.eq_nil_of_length_eq_zero (by simp at hlen;omega);subst this;simpa using e2
  .exact .nil
theorem Ads{ks:Bj}(hs:PO srt)(hp:ks.Perm srt)(hn:srt.length<=1000):inZ ks=some srt:=by obtain⟨r,e,p,s⟩:=Abz (l:=ks) (by rw[hp.length_eq];exact hn);rw[e];refine congrArg some ?_;refine List.Perm.eq_of_pairwise (le:=λa b=>a<=b) (λa b _ _ h1 h2=>?_) s hs (p.trans hp);exact Int.le_antisymm h1 h2
def ksQ{K V:Type}(m:FM K V)(seen:Bp):List K:=seen.filterMap λn=>(m.es.find? λe=>Nat.beq e.2.2 n).map (·.1)
theorem Adt{m:FM K V}(hm:FxOk m){seen:Bp}(he:e∈m.es):ksQ m (seen++[e.2.2])=ksQ m seen++[e.1]:=by
 unfold ksQ;rw[List.filterMap_append];have:∀{es:List (K×V×Nat)},(es.map (·.2.2)).Nodup->e∈es->es.find? (λx=>Nat.beq x.2.2 e.2.2)=some e:=by
  intro es;induction es with
  |nil=>intro _ h;cases h
  |cons x r ih=>
   intro hd h;rw[Fo,M2] at hd;rcases EY.1 h with rfl|h
   .simp
   grind [bc]
 simp[this hm.nd he]
def KsQ{K V:Type}(m:FM K V)(seen:Bp):Prop:=seen.Nodup/\∀n∈seen,n∈m.es.map (·.2.2)
theorem Q4{m:Bp}(hd:l.Nodup)(hs:∀x∈l,x∈m):l.length<=m.length:=by
 induction l generalizing m with
 |nil=>exact Nat.zero_le _
 |cons a r ih=>rw[M2] at hd;have ha:=hs a aC;have:=ih (m:=m.erase a) hd.2 λx hx=>(List.mem_erase_of_ne (λe:x=a=>hd.1 (by rw[<-e];exact hx))).2 (hs x (by simp[hx]));grind
theorem Adu{m:FM K V}{seen:Bp}(h:KsQ m seen):(ksQ m seen).length<=m.es.length:=by have h1:=Q4 h.1 h.2;grind [ksQ]
theorem Aar{m:FM K V}:KsQ m []:=⟨.nil,aC⟩
theorem Aas{m:FM K V}{seen:Bp}(h:KsQ m seen)(he:e∈m.es)(hn:e.2.2∉seen):KsQ m (seen++[e.2.2]):=by
 refine⟨?_,λn hx=>?_⟩
 .rw[List.nodup_append];exact⟨h.1,aC,(by grind)⟩
 .rcases Hp.1 hx with hx|hx
  .exact h.2 n hx
  grind
theorem Age{m:FM K V}(hm:FxOk m){seen:Bp}(h:KsQ m seen)(ha:∀e∈m.es,e.2.2∈seen):(ksQ m seen).Perm (m.es.map (·.1)):=by
 have hp:seen.Perm (m.es.map (·.2.2)):=(List.perm_ext_iff_of_nodup h.1 hm.nd).2 λn=>⟨h.2 n,(by grind)⟩;have h1:(ksQ m seen).Perm (ksQ m (m.es.map (·.2.2))):=hp.filterMap _;have h2:∀es:List (K×V×Nat),(∀e∈es,e∈m.es)->ksQ m (es.map (·.2.2))=es.map (·.1):=by
  intro es;induction es with
  |nil=>intro _;rfl
  |cons e r ih=>intro hh;have:=Adt hm (seen:=[]) (hh e aC);grind [ksQ]
 grind
abbrev X3:Bn:=79
abbrev Uf(m:FM Int Bool):Option Ob:=some (No X3 JR bG m)
abbrev O7(i:Nat):G:= .clo (.func 80) [] [.ref i 0]
abbrev Za:Option Ob:=some ⟨X3,[.mref 1],none⟩
abbrev X5(g:G):Option Ob:=some ⟨22,[g],none⟩
abbrev KSZ(m:FM Int Bool):Type:={ks:Bj//ks.Perm (m.es.map (·.1))}
noncomputable abbrev cAZ:Code:=bq 11012 (ai Tryz.f156)
noncomputable abbrev Agf(st:LoopState):Option Ob:=some ⟨0,[],some (.loop st none 13 [(2,.ref 2 0)] (Dy cAZ) (Dz cAZ) (DA cAZ))⟩
abbrev Aki(clock:Nat)(seen:Bp):Option Ob:=some ⟨X3,[],some (.iter (some 1) clock seen clock)⟩
theorem X7(m:FM Int Bool):∀e∈mEs JR bG m,bB e.2.1:=Q1 λv=>mN _
abbrev Agg:Fr:=[(0,.yld 3),(5,.ref 4 0)]
noncomputable abbrev σKZ(m:FM Int Bool)(seen:Bp)(l:Bj):aQ:=[(0,Za),(1,Uf m),(2,X5 (.rsl 5 0 l.length)),(3,Agf .ready),(4,Aki m.clk seen),(5,JI l)]
noncomputable abbrev σKY(m:FM Int Bool)(seen:Bp)(a:Bj):aQ:=[(0,Za),(1,Uf m),(2,X5 (.rsl 6 0 a.length)),(3,Agf .busy),(4,Aki m.clk seen),(6,JI a)]
theorem Acy(hm:FxOk m)(hn:m.es.length<=1000):Xx prog gl 156 [.lit (.slice none 0 0),O7 0] [(0,Za),(1,Uf m)] 2 (ι:=KSZ m) (λx=> .rsl 2 0 x.1.length) (λx=>[(0,Za),(1,Uf m),(2,JI x.1)]) (λ_=>3):=by
 refine dMF func156 ?_;refine YR [1,0,1,2] (s0 13 gl [(2,.ref 2 0),(6,O7 0)] [(2,X5 (.lit (.slice none 0 0))),(0,Za),(1,Uf m)] 3 2) [] ?_;refine Xt (fst:=[]) (cap:=[.ref 0 0]) Tryz.f80 func80 ?_;refine pO [0] (s0 14 gl [(0,.yld 3),(1,.ref 0 0)] [(0,Za),(1,Uf m),(2,X5 (.lit (.slice none 0 0))),(3,Agf .ready)] 4 4) [] [hc (X7 m)] ?_ [] [(0,0),(1,1),(2,2),(3,3)];refine yl (Bs':=[]) [0] (J:=(s0 14 gl Agg (σKZ m [] []) 6 4)) [] [hc (X7 m),hc (rZ.imm [])] ?_ (vs:=[3]) (ρ:=rI 6) (kd:=[(5,.row)]);refine dNx [1] ?_;refine dMw 5 6 7 0 (iti:=4) (mi:=1) (clock:=m.clk) (since:=m.clk) (T:=X3) (ty:=X3) (es:=mEs JR bG m) (λseen=>(s0 14 gl Agg (σKZ m seen (ksQ m seen)) 6 4)) (KsQ m) Aar (by grind [FxOk]) rfl (Le.refl _) (λseen=>rfl) (λseen=>rfl) (by grind) (λB seen k g n hI hme hns c=>?_) (λseen hI hs=>?_)
 .obtain⟨e,he,d⟩:=E7.1 hme;simp only[Gb] at d;obtain⟨rfl,rfl,rfl⟩:=d;have hl:=Adu hI;have c:=c (Aas hI he hns);rw[Adt hm he] at c;generalize ksQ m seen=l at hl c⊢;have hge:jr ((4,Aki m.clk (seen++[e.2.2]))::σKZ m seen l) (.ref 4 0)=some (.tup [db (JR e.1),bG e.2.1]):=yo (iti:=4) (mi:=1) (since:=m.clk) (clock:=m.clk) (T:=X3) (ty:=X3) (seen:=seen) rfl rfl (by rw[IX];exact hm.nd) hme;refine pO 112211210 (s0 14 gl ((3,iG e.1)::Agg) (σKZ m (seen++[e.2.2]) l) 6 4) [YT 8 hge] [hc (X7 m),hc (rfl:l.length=l.length),hc (rZ.imm l)] ?_ [] [(0,0),(1,1),(2,2),(3,3),(4,4),(5,5)] [(5,.row)];refine Xw (i:=3) (j:=2) (n:=13) (t:=0) (t2:=0) (pe:=none) (fr:=[(2,.ref 2 0)]) (ps:=Dy cAZ) (a:=Dz cAZ) (b:=DA cAZ) (s1:=(s0 14 gl ([(11,iG e.1),(10,.yld 3),(3,iG e.1)]++Agg) (σKZ m (seen++[e.2.2]) l) 6 4))
   (s3:=(s0 14 gl ([(13,bG false),(12,bG true),(11,iG e.1),(10,.yld 3),(3,iG e.1)]++Agg) ((3,Agf .ready)::σKY m (seen++[e.2.2]) (l++[e.1])) 7 4))
   (σKY m (seen++[e.2.2]) (l++[e.1])) 7 (.loop .ready none 13 [(2,.ref 2 0)] (Dy cAZ) (Dz cAZ) (DA cAZ)) [] [] ?_ ?_
  .refine C9 .normal ⟨13,gl,[(2,.ref 2 0),(5,iG e.1)],σKZ m (seen++[e.2.2]) l,6,6,true⟩ [] [hc (X7 m),hc (rfl:l.length=l.length),hc (rZ.imm l)] (Xv Tryz.f156 ?_ rfl);exact C9 .normal ⟨13,gl,[],σKY m (seen++[e.2.2]) (l++[e.1]),7,6,true⟩ [Tn 11 rZ 8 l e.1 aa] [hc (X7 m),hc (el (l++[e.1])),hc (rZ.imm (l++[e.1]))] (by grind [jy]) (ρ:=rI 6++[(6,7)]) (kd:=[(6,.row)])
  .exact jw [] [hc (X7 m),hc (el (l++[e.1])),hc (rZ.imm (l++[e.1]))] c (ρ:=rI 5++[(5,6)]) (kd:=[(5,.row)])
 .have hp:=Age hm hI λe he=>hs _ (E7.2 ⟨e,he,rfl⟩);generalize ksQ m seen=l at hp⊢;refine C9 .normal (s0 14 gl [] [(0,Za),(1,Uf m),(2,X5 (.rsl 5 0 l.length)),(3,Agf .ready),(5,JI l)] 6 4) [] [hc (X7 m),hc (rfl:l.length=l.length),hc (rZ.imm l)] (Xu ?_ rfl) (kd:=[(5,.row)]);exact C9 .ret (s0 13 gl [(4,.rsl 2 0 l.length)] [(0,Za),(1,Uf m),(2,JI l)] 3 2) [] [hc (rfl:l.length=l.length),hc (X7 m),hc (rZ.imm l)] (YY ⟨l,hp⟩ (Wo (gs:=[.rsl 2 0 l.length]) rfl aH rfl rfl rfl rfl))
theorem AbB(hm:FxOk m)(hn:m.es.length<=1000):Xx prog gl 78 [O7 0] [(0,Za),(1,Uf m)] 2 (ι:=KSZ m) (λx=> .rsl 2 0 x.1.length) (λx=>[(0,Za),(1,Uf m),(2,JI x.1)]) (λ_=>3):=by refine dMF func78 ?_;refine pO [1,0] (s0 5 gl [(0,O7 0)] [(0,Za),(1,Uf m)] 2 2) [] [hc (X7 m)] ?_ [] [(0,0),(1,1)] [(999999,.clo)];refine dCl 3 4 2 (fst:=[]) (cap:=[]) (gs:=[.lit (.slice none 0 0),O7 0]) (U6 (g:=λx:KSZ m=> .rsl 2 0 x.1.length) (c:=2) (c':=λ_=>3) (σR:=[(0,Za),(1,Uf m)]) [0,1] (λx:KSZ m=>[(0,Za),(1,Uf m),(2,JI x.1)]) (Acy gl hm hn) ⟨⟨rfl,.inl rfl⟩,⟨rfl,rfl,rfl,rfl,.inr ⟨rfl,X7 m⟩⟩,trivial⟩ (λx=>⟨⟨rfl,.inl rfl⟩,⟨rfl,rfl,rfl,rfl,.inr ⟨rfl,X7 m⟩⟩,⟨rfl,.inr ⟨rfl,rZ.imm x.1⟩⟩,trivial⟩) (hcov:=λ_=>rfl) (hg:=λ_=>rfl) (hc:=λ_=>rfl)) λx=>?_;exact C9 .ret (s0 5 gl [(2,.rsl 2 0 x.1.length)] [(0,Za),(1,Uf m),(2,JI x.1)] 3 2) [] [hc (rfl:x.1.length=x.1.length),hc (X7 m),hc (rZ.imm x.1)] (YY x (Wo (gs:=[.rsl 2 0 x.1.length]) rfl aH rfl rfl rfl rfl))
theorem Acz(hm:FxOk m)(hn:m.es.length<=12)(hs:∀a:Bj,a.Perm (m.es.map (·.1))->inZ a=some srt)(hsl:srt.length=m.es.length):jg prog gl 30 [O7 0] [(0,Za),(1,Uf m)] 2 (.rsl 2 0 srt.length) [(0,Za),(1,Uf m),(2,JI srt)] 3:=by
 refine pP func30 ?_;refine pO [1,0] (s0 9 gl [(0,O7 0)] [(0,Za),(1,Uf m)] 2 2) [] [hc (X7 m)] ?_ [] [(0,0),(1,1)] [(999999,.clo)];refine dCl 4 5 3 (fst:=[]) (cap:=[]) (gs:=[O7 0]) (U6 (g:=λx:KSZ m=> .rsl 2 0 x.1.length) (c:=2) (c':=λ_=>3) (σR:=[(0,Za),(1,Uf m)]) [0,1] (λx:KSZ m=>[(0,Za),(1,Uf m),(2,JI x.1)]) (AbB gl hm aa) ⟨⟨rfl,.inl rfl⟩,⟨rfl,rfl,rfl,rfl,.inr ⟨rfl,X7 m⟩⟩,trivial⟩ (λx=>⟨⟨rfl,.inl rfl⟩,⟨rfl,rfl,rfl,rfl,.inr ⟨rfl,X7 m⟩⟩,⟨rfl,.inr ⟨rfl,rZ.imm x.1⟩⟩,trivial⟩) (hcov:=λ_=>rfl) (hg:=λ_=>rfl) (hc:=λ_=>rfl)) λx=>?_;have hx:=hs x.1 x.2;have hxl:x.1.length<=12:=by rw[x.2.length_eq,Hm];exact hn
 have hsl:srt.length=x.1.length:=by rw[hsl,x.2.length_eq,Hm]
 rw[show(G.rsl 2 0 srt.length)= .rsl 2 0 x.1.length by rw[hsl]];exact mt .ret (s0 9 gl [(2,.rsl 2 0 x.1.length)] [(0,Za),(1,Uf m),(2,JI srt)] 3 2) [.rsl 2 0 x.1.length] [tN 7 [2] 3 [(2,JI x.1)] [.rsl 2 0 x.1.length] [(0,JI srt)] (N4 gl hxl hx) ⟨⟨rfl,.inr ⟨rfl,rZ.imm x.1⟩⟩,trivial⟩ ⟨⟨rfl,.inr ⟨rfl,rZ.imm srt⟩⟩,trivial⟩] [hc (rfl:x.1.length=x.1.length),hc (X7 m),hc (rZ.imm srt)]
theorem Agh(m:FM Int Bool):jg prog gl 31 [.mref 0] [(0,Uf m)] 1 (O7 1) [(0,Uf m),(1,some ⟨X3,[.mref 0],none⟩)] 2:=by refine pP func31 ?_;exact mt .ret (s0 4 gl [(2,O7 1)] [(0,Uf m),(1,some ⟨X3,[.mref 0],none⟩)] 2 1) [O7 1] [] [hc (X7 m)] (kd:=[(999999,.clo)])
def D3(R:Ad):Bj:=(inZ (R.in_.es.map (·.1))).getD []
theorem le6{l:Bj}(hd:l.Nodup)(h:∀x∈l,1<=x/\x<=6):l.length<=6:=by
 have hs:∀x∈l.map Int.toNat,x∈List.range' 1 6:=by grind
 have hn:(l.map Int.toNat).Nodup:=by clear hs;induction l<;>grind
 have:=Q4 hn hs;grind
theorem Bf.len{R:Ad}(hR:Bf R):R.in_.es.length<=6:=by
 have:=le6 hR.ci.kd λx hx=>by obtain⟨e,he,rfl⟩:=E7.1 hx;exact hR.i6 e he
 rwa [Hm] at this
theorem IK(hR:Bf R):PO (D3 R)/\(D3 R).Perm (R.in_.es.map (·.1))/\∀a:Bj,a.Perm (R.in_.es.map (·.1))->inZ a=some (D3 R):=by have hl:=hR.len;obtain⟨r,e,p,s⟩:=Abz (l:=R.in_.es.map (·.1)) (by rw[Hm];omega);grind [D3,Ads,List.Perm.length_eq,Hm]
section
abbrev bx2:Option Ob:=some ⟨X3,[.mref 2],none⟩
theorem MT(hR:Bf R):R4 prog gl 7 [.ref 0 0] (Bz f0 R) 14 14 (aE cZ (D3 R)) (Bz f0 R):=by
 obtain⟨h1,h2,h3⟩:=IK hR;have hl:=hR.len;have hsl:(D3 R).length=R.in_.es.length:=by rw[h2.length_eq,Hm]
 generalize D3 R=srt at h1 h2 h3 hsl⊢;refine dFP func7 ?_;exact ZT [tN 7 [2] 14 [(2,Uf R.in_)] [.mref 2] [(0,Uf R.in_),(1,bx2)] (Agh gl R.in_) ⟨⟨rfl,rfl,rfl,rfl,.inr ⟨rfl,X7 R.in_⟩⟩,trivial⟩ ⟨⟨rfl,rfl,rfl,rfl,.inr ⟨rfl,X7 R.in_⟩⟩,⟨rfl,.inl rfl⟩,trivial⟩,tN 8 [14,2] 15 [(14,bx2),(2,Uf R.in_)] [O7 14] [(0,bx2),(1,Uf R.in_),(2,JI srt)] (Acz gl hR.ci.1 aa h3 hsl) ⟨⟨rfl,.inl rfl⟩,⟨rfl,rfl,rfl,rfl,.inr ⟨rfl,X7 R.in_⟩⟩,trivial⟩ ⟨⟨rfl,.inl rfl⟩,⟨rfl,rfl,rfl,rfl,.inr ⟨rfl,X7 R.in_⟩⟩,⟨rfl,.inr ⟨rfl,rZ.imm srt⟩⟩,trivial⟩] (hc (⟨rZ.len srt,rZ.imm srt,rfl⟩:(srt.flatMap cZ).length=srt.length*1/\(∀g∈srt.flatMap cZ,bB g)/\srt.length=srt.length)::rlA hR) (GI f0) N7
def Aeg(n k:Nat):Option (Nat⊕Unit):=if k<n then some (.inl (k+1))else if k=n then some (.inr ())else none
theorem Aat{n:Nat}(h:n<=1000000):AQ (Aeg n) 0=some ():=T.eq (T.loop (λk=>k<=n) (λk=>n-k) aa aa λk hk=>by
 unfold Aeg;split
 .exact .some ⟨aa,aa⟩
 .rw[Bx aa];exact .some rfl)
section
variable {P:Br} [M:Mix P] {fn:Func} {Q:Exit->St->Prop} {Bs:List (St->Prop)} {m:Bool} {p:Bp} {st:St}
theorem dLl{l:List α}(hn:l.length<=1000000)(S:Nat->St)(b:Bp)(A O:List HP)(h:∀(B:St->Prop) (k:Nat) (x:α),l[k]?=some x->aS l (k:Int)=some x->B (S (k+1))->Gp P fn Q (Bs++[B]) false b (S k))(he:∀B:St->Prop,Gp P fn Q (Bs++[B]) false b (S l.length))(vs:List Bn:=[])(ρ:Dx:=[])(kd:List (Nat×Rk):=[])
  (hk:T0 A (Xr P (bK A) (LO m p (ai fn)) (bE p (ai fn) Bs []) vs ρ kd (S 0) st) (pR O,S 0,bq b (ai fn),Oj fn Bs b):=by exact⟨aH,aH⟩)
  (e2:∀B,bE b (ai fn) (Bs++[B]) []= .lp B::Oj fn Bs b:=by intro B;kernel_rfl):Gp P fn Q Bs m p st:=
 pN S b (Aat hn) A O (λB k w hs k5 _=>by
  unfold Aeg at hs;split at hs
  .rename_i hlt;obtain rfl:=Bh hs;have hx:l[k]?=some l[k]:=EA hlt;exact h B k _ hx (Bq hx) (k5 _ rfl)
  .split at hs
   .rename_i he';exact he'▸he B
   .cases hs) vs ρ kd hk e2
end
def Td(m:Int)(Q:Ad)(d:Int):Ad:=bif Dq Q d=m then Hg Q d else Q
def Agi(R:Ad)(o:Bi):Ad:=(D3 R).foldl (Td o.Member) R
theorem Adv{Q:Ad}(hQ:Bf Q)(m d:Int):Bf (Td m Q d):=by grind [Td,K3]
theorem U0{m:Int}:∀{l:Bj} {Q:Ad},Bf Q->Bf (l.foldl (Td m) Q)
 |[],Q,h=>h
 |d::r,Q,h=>U0 (l:=r) (Adv h m d)
abbrev ρW:Dx:=[(0,0),(1,1),(2,2),(3,3),(4,4),(5,16),(6,17),(7,18),(8,19),(9,20),(10,21),(11,22),(12,23),(13,24),(14,14),(15,15)]
theorem AcA(hR:Bf R)(hk:o.Kind=3)(hd:o.Device=0):UF gl R o i (Agi R o):=by
 have a1:decide (o.Kind=1)=false:=by rw[hk];rfl
 have a2:decide (o.Kind=2)=false:=by rw[hk];rfl
 have a3:decide (o.Kind=3)=true:=by rw[hk];rfl
 have ad:decide (o.Device≠0)=false:=C3 (by rw[hd];simp);have hdv:=MT gl hR;have hn:(D3 R).length<=6:=by have:=(IK hR).2.1.length_eq;rw[Hm] at this;rw[this];exact hR.len
 refine PN gl hR ?_;unfold Agi;generalize D3 R=l at hdv hn⊢;have hQ:∀k,Bf ((l.take k).foldl (Td o.Member) R):=λk=>U0 hR;refine pN (λk:Nat=>(s0 259 gl [(0,.ref 0 0),(4,.ref 14 0),(69,aE cZ l),(70,iG (ah l)),(71,iG (k:Int))] (AfV ((l.take k).foldl (Td o.Member) R) o i) 16 5)) 111121414131122 (Aat (n:=l.length) aa) [hr 29 a1,hr 52 a2,hr 60 a3,hr 63 ad,hrr 69 f0 16 [] hR hdv] (rlB ρD f0 hR) (λB k v hs k5 a=>?_) [] ρD N7;unfold Aeg at hs;split at hs
 .rename_i hlt;obtain rfl:=Bh hs;obtain⟨x,hx⟩:∃x,l[k]?=some x:=⟨_,EA hlt⟩;have hz:=Bq hx;have k5:=k5 _ rfl;have hq:=hQ k;rw[Hv,hx,Option.toList_some,LF,List.foldl_cons,List.foldl_nil] at k5;generalize (l.take k).foldl (Td o.Member) R=Q at hq k5⊢;unfold Td at k5;cases hm:decide (Dq Q x=o.Member) with
  |false=>rw[hm] at k5;exact jw [hr 72 (Dk hx),AA 73 (rZ.ixZ hz),AA 74 (rZ.p1Z tZ hz),hof gl 77 hq x 16,hr 80 hm,hbb 84 (Xl (q:=k) aa)] (rlB ρD f0 hq) k5 [] ρD N7
  |true=>rw[hm] at k5;exact jw [hr 72 (Dk hx),AA 73 (rZ.ixZ hz),AA 74 (rZ.p1Z tZ hz),hof gl 77 hq x 16,hr 80 hm,Y4 83 f0 16 [iG x] hq (K3 hq x) (Aal gl hq x),hbb 84 (Xl (q:=k) aa)] (rlB ρW f16 (K3 hq x)) k5 [] ρW N7
 .split at hs
  .rename_i he;subst he;rw[D5];exact Ht f0 _ (U0 hR) [hr 72 (Fe (s:=l))] (rlX (f:=f0) (R:=l.foldl (Td o.Member) R))
  .cases hs
end
end Go.Proofs.YtlimmeehdfbheaaGreatDoor
