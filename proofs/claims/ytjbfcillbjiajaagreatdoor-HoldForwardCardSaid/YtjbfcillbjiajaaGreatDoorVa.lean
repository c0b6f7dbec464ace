/- Texts. -/
import Derived.Test.YtjbfcillbjiajaaGreatDoorV2
namespace Go.Proofs.YtjbfcillbjiajaaGreatDoor
set_option linter.unusedSectionVars false
set_option linter.unusedVariables false
set_option linter.unusedSimpArgs false
open Go.RowKit Tryz
variable (gl:CC)
variable {K V α:Type}{a b c i k n nn p:Nat}{o:Bo}{l:List (Nat×Ob)}{gs gs0:Bk}{f fid:FuncId}{ops:Array Oper}{rest:HE}{st:St}{r srt:Bn}{x x':AA}{e:K×V×Nat}{m:FM K V}{fn:Func}{L:Br}{t:Bj}{R R':Ad}{d:Int}{g:CM}
theorem sc1(h1:a<=n)(h2:n<=b):iB n a b=some true:=by grind [iB]
theorem TW{pub:Nat}{b:CY}{s:YB}(hb:b.length<=1073741824)(h:jJ pub b s=some true):lq pub b s=some true:=by
 unfold jJ at h;obtain⟨g,hj,h⟩:=bS h;rcases bC h with⟨rfl,h⟩|⟨rfl,h⟩
 .cases h
 rcases bC hj with⟨c1,hj⟩|⟨c1,hj⟩
 .cases hj
 rw[show fV=some 2305843009213693950 from rfl,aL] at hj;rcases bC hj with⟨c2,hj⟩|⟨c2,hj⟩
 .cases hj
 rcases bC hj with⟨c3,hj⟩|⟨c3,hj⟩
 .cases hj
 rw[aL] at hj;rcases bC hj with⟨c4,hj⟩|⟨c4,hj⟩
 .cases hj
 rw[aL] at hj;have c5:=Bp hj;have c1:=Ni c1;have c2:=Ni c2;have c3:=Ni c3;have c4:=Ni c4;have c5:=Ni c5;obtain⟨v4,h4,h⟩:=bS h;obtain⟨i,h6,h⟩:=bS h;obtain⟨j,h8,h⟩:=bS h;obtain⟨d,h10,h⟩:=bS h;have hpow:∀{a n r:Nat},n<18446744073709551616->iK a n=some r->r<2305843009213693951:=λhn e=>by obtain⟨q,e1,e2⟩:=ka _ hn;rw[e] at e1;grind
 unfold lq;rw[sc1 aa aa,aL];simp only[Bool.not_true,Bf];rw[sc1 aa aa,aL];simp only[Bool.not_true,Bf];rw[sc1 aa aa,aL];simp only[Bool.not_true,aL,Bf];unfold Pi at h6;obtain⟨m,hm,h6⟩:=bS h6;obtain⟨e,he,h6⟩:=bS h6;cases h6;unfold Ph at hm;have hm':jI [115,105,103,110,101,100] b=some m:=by simp_all
 obtain⟨m2,f1,f2,k⟩:=xe (label:=[115,105,103,110,101,100]) (b:=b) BU hb;obtain rfl:m2=m:=by grind
 obtain⟨e2,g1,g2,c⟩:=ET (label:=[115,105,103]) (l:=[s.R,pub,m2]) BU aC λw hw=>by simp only[EG,K3,or_false] at hw;rcases hw with rfl|rfl|rfl<;>omega
 rw[he] at g2;cases g2;unfold xh;rw[f1,aL,g1,aL,aL,nf BU aa h4,aL];dsimp only;rw[nf aa c h8,aL];have f:=hpow c h8;rw[PM aa aa,aL];rw[ll] at h10;simp_all
section
attribute [local irreducible] Tr dz Gp qc
theorem OD{c:DR}(ho:Be o)(hb:o.By=c.Device)(h:lq c.Sign (qc o) o.Sig=some true):ba prog gl 102 [.agg (bv c),.agg (aJ o)] (bG true):=by
 have h14:=yY ho;have e:decide (o.By=c.Device)=true:=C6 hb;refine Gh func102 ?_;refine pO [1,0] (s0 20 gl [(2,.ptr (bv c) 0),(3,.ptr (aJ o) 0)] [] 0 0) [] [hc (eB (gs:=bv c) aH),hc (eB (gs:=aJ o) aH)] ?_ [] [];exact Ar [hr 9 e,tN 14 [] 0 [] [.agg (aJ o)] [(0,oO 1 (qc o)),(1,oY (qc o))] (MP gl ho) trivial ⟨⟨rfl,.inl rfl⟩,⟨rfl,.inr ⟨rfl,rY.imm _⟩⟩,trivial⟩,
  tN 15 [0,1] 2 [(0,oO 1 (qc o)),(1,oY (qc o))] [.ref 0 0] [(0,oO 1 (qc o)),(1,oY (qc o)),(2,oY (qc o))] (rS gl (l:=qc o) aa) ⟨⟨rfl,.inl rfl⟩,⟨rfl,.inr ⟨rfl,rY.imm _⟩⟩,trivial⟩ ⟨⟨rfl,.inl rfl⟩,⟨rfl,.inr ⟨rfl,rY.imm _⟩⟩,⟨rfl,.inr ⟨rfl,rY.imm _⟩⟩,trivial⟩,
  hq 18 [uG c.Sign,aE cY (qc o),.agg (yy o.Sig)] [hc (rY.al (qc o))] (GF gl h)] []
end
section
attribute [local irreducible] Tr dz Gp
def blT:Br:=[0,1,2,2,3,3,3,3,4,4,4,4,4,4,4,4,5,5,5,5,5,5,5,5,5,5,5,5,5,5,5,5]
def WZ(n:Nat):Nat:=blT.getD n 0
theorem RB(h:n<32):ba prog gl 198 [uG (n:Int)] (iG (WZ n:Int)):=by have e:n=0\/n=1\/n=2\/n=3\/n=4\/n=5\/n=6\/n=7\/n=8\/n=9\/n=10\/n=11\/n=12\/n=13\/n=14\/n=15\/n=16\/n=17\/n=18\/n=19\/n=20\/n=21\/n=22\/n=23\/n=24\/n=25\/n=26\/n=27\/n=28\/n=29\/n=30\/n=31:=aa;rcases e with rfl|rfl|rfl|rfl|rfl|rfl|rfl|rfl|rfl|rfl|rfl|rfl|rfl|rfl|rfl|rfl|rfl|rfl|rfl|rfl|rfl|rfl|rfl|rfl|rfl|rfl|rfl|rfl|rfl|rfl|rfl|rfl<;>(refine Gh func198 ?_;exact Ar [] [])
theorem RC{n:Nat}(h:n<32):ba prog gl 107 [uG (n:Int)] (iG (WZ n:Int)):=by refine Gh func107 ?_;exact Ar [hf 7 (RB gl h)] []
def Lf(l:Mi)(i:Int):Option (Int⊕Unit):=bif i<ah l then(aS l i).bind λa=>(aS l (wI (i-1))).bind λb=>bif decide (0<i)&& !decide (wI (a.Device-b.Device)<0)then some (.inl (wI (i+1)))else none else some (.inr ())
def aa3(_:Unit):Option (Unit⊕Unit):=some (.inr ())
theorem Lg:AH aa3 ()=some ():=T.eq (T.loop (λ_=>True) (λ_=>0) trivial BU λ_ _=> .some rfl)
abbrev oC(l:Mi):Option Ob:=some ⟨147,l.flatMap bv,none⟩
abbrev zP:G:= .clo (.func 98) [] []
def xf(l:Mi):Prop:=l.length<=12/\∀(k:Nat) (a b:DR),l[k]?=some a->l[k+1]?=some b->a.Device<=b.Device/\0<=a.Device/\b.Device<=1000000
theorem Zw{l:Mi}(h:xf l):AH (Lf l) (wI (0+1))=some ():=by
 have hn:=h.1;refine T.eq (T.loop (λi=>∃k:Nat,i=((k+1:Nat):Int)/\k<=12) (λi=>14-i.toNat) ⟨0,rfl,aa⟩ (by show 14-_<_;omega) ?_);rintro i ⟨k,rfl,hk⟩;unfold Lf;refine .dec (λhh=>?_) λhh=> .some rfl;unfold ah at hh;have h1:k<l.length:=aa;have h2:k+1<l.length:=aa;have ew:wI (((k+1:Nat):Int)+1)=((k+1+1:Nat):Int):=aq aa;have em:wI (((k+1:Nat):Int)-1)=(k:Int):=by grind [bM]
 obtain⟨q1,a,b⟩:=h.2 k _ _ (EA h1) (EA h2);refine .bind (.ix aa (x:=l[k+1]) (by rw[Fw,EA h2]) (.bind (.ix (by rw[em];omega) (x:=l[k]) (by rw[em,Fw,EA h1]) ?_)));rw[bM (z:=l[k+1].Device-l[k].Device) aa aa,C6 (by grind),Dl (by grind)];refine .some ⟨⟨k+1,ew,aa⟩,?_⟩;grind
theorem OE{l:Mi}(h:xf l):OU prog gl 253 [.rsl 0 0 l.length,iG 0,iG (ah l),zP] [(0,oC l)] 1 1 (.tup []) [(0,oC l)]:=by
 refine ZU func253 ?_ (λi hi=>by match i,hi with|0,_=>exact⟨_,rfl⟩);refine pN (λi:Int=>(s0 53 gl [(0,.rsl 0 0 l.length),(1,iG 0),(2,iG (ah l)),(3,zP),(8,iG i)] [(0,oC l)] 1 1)) 1122 (Zw h) [] [hc (el l),hc (aG 20 zP aH),hc (bT.imm l)] (λB i w hs k5 d=>?_);unfold Lf at hs;rcases bC hs with⟨b1,hs⟩|⟨b1,hs⟩
 .obtain⟨a,c,hs⟩:=bS hs;obtain⟨b,eb,hs⟩:=bS hs;rcases bC hs with⟨b2,hs⟩|⟨b2,hs⟩
  rotate_left
  .cases hs
  obtain rfl:=Bp hs;simp only[bA,Bool.not_eq_true'] at b2;refine Ix 11221021 (s0 53 gl [(0,.rsl 0 0 l.length),(1,iG 0),(2,iG (ah l)),(3,zP),(8,iG i)] [(0,oC l)] 1 1) ?_ λkk=>?_
  .exact jw [] [hc (el l),hc (aG 20 zP aH),hc (bT.imm l)] (k5 _ rfl)
  refine pN (λ_:Unit=>(s0 53 gl [(0,.rsl 0 0 l.length),(1,iG 0),(2,iG (ah l)),(3,zP),(8,iG i),(9,iG i)] [(0,oC l)] 1 1)) 1122102122 Lg [hr 14 b1] [hc (el l),hc (aG 20 zP aH),hc (bT.imm l)] (λe z v hz2 f g=>?_);exact yl 11221021 [hr 20 b2.1,AB 25 (bT.ixrZ 0 c),AB 26 (bT.pt0Z E2 c),AB 30 (bT.ixrZ 0 eb),AB 31 (bT.pt0Z E2 eb),hf 32 (Dt gl (a:=a) (b:=b) rfl),hr 33 b2.2] [hc (el l),hc (aG 20 zP aH),hc (bT.imm l)] kk
 .exact ZT [hr 14 b1] [hc (bT.imm l)] [(0,0)] [(0,.row)]
theorem zr{g0:G}{i:Nat}(h:CI i gs gs0)(hg:nF 20 g0=true:=by kernel_rfl):CI i (g0::gs) (g0::gs0):=CJ (aG 20 _ hg) h
theorem OF{l:Mi}(h:xf l)(k:Int):OU prog gl 179 [.rsl 0 0 l.length,iG 0,iG (ah l),iG k,zP] [(0,oC l)] 1 1 (.tup []) [(0,oC l)]:=by
 have e:wI (ah l-0)=ah l:=by have:=h.1;grind [bM,ah]
 have hd:decide (wI (ah l-0)<=12)=true:=by rw[e];exact C6 (by have:=h.1;unfold ah;omega)
 refine ZU func179 ?_ (λi hi=>by match i,hi with|0,_=>exact⟨_,rfl⟩);refine pN (λ_:Unit=>(s0 148 gl [(0,.rsl 0 0 l.length),(1,iG 0),(2,iG (ah l)),(3,iG k),(4,zP)] [(0,oC l)] 1 1)) 11122 Lg [] [hc (el l),hc (aG 20 zP aH),hc (bT.imm l)] (λa z v hz2 b d=>?_);exact ZT [hr 25 hd,hz 30 [0] (wS (i:=0) (c:=1) aH (OE gl h) (aG 20 _ aH) (bT.imm l) BU (by rfl) (w5 (zr (zr (zr wZ)))))] [hc (bT.imm l)] [(0,0)] [(0,.row)]
theorem Lh{l:Mi}(h:xf l):OU prog gl 97 [.rsl 0 0 l.length,zP] [(0,oC l)] 1 1 (.tup []) [(0,oC l)]:=by
 have e:wU (ah l)=l.length:=by have:=h.1;unfold ah;rw[gP];omega
 have hl:ba prog gl 107 [uG (wU (ah l):Int)] (iG (WZ l.length:Int)):=by rw[e];exact RC gl (by have:=h.1;omega)
 refine ZU func97 ?_ (λi hi=>by match i,hi with|0,_=>exact⟨_,rfl⟩);exact ZT [AB 10 (C8 (ah l)),hf 11 hl,hz 13 [0] (wS (i:=0) (c:=1) aH (OF gl h (WZ l.length:Int)) (aG 20 _ aH) (bT.imm l) BU (by rfl) (w5 (zr (zr (zr (zr wZ))))))] [hc (bT.imm l)] [(0,0)] [(0,.row)]
end
section
variable {P:Bu}
def U5(P:Bu)(gl:CC)(fid:FuncId)(gs:Bk)(σR:aQ)(c:Nat){ι:Type}(g:ι->G)(U:ι->aQ)(c':ι->Nat):Prop:=∀(o:Oper) (st:St) (y:DC) (xs:Array DC) (ats:Array Bj) (fst cap:Bk),o.op= .call {callee:= .value y,args:=xs,argTypes:=ats}->(∀d,o.dst=some d->d<st.n)->aB st y= .clo (.func fid) fst cap->fst++xs.toList.map (aB st)++cap=gs->st.gl=gl->(∀q∈σR,ag st.σ q.1=q.2)->st.c=c->th P o st (λs=>∃x,s={st with σ:=U x++st.σ,c:=c' x}.put o.dst (g x))
theorem U6{gl:CC}{gs0 gs:Bk}{ι:Type}{σ0 σR:aQ}{σ1:ι->aQ}{r g:ι->G}{c:Nat}{c1 c':ι->Nat}(L:Br)(U:ι->aQ)(hM:Xx P gl fid gs0 σ0 L.length r σ1 c1)
  (hin:w6 (vi L) σR σ0 0 L) (d:∀x,oI (G4 L c) (σ1 x) (U x)) (hlt:L.all (λi=>Nat.blt i c)=true:=by kernel_rfl) (hnd:decide L.Nodup=true:=by kernel_rfl) (hgs:gs.map (qg (vi L) 20)=gs0:=by kernel_rfl)
  (hk0:σ0.all (λq=>Nat.blt q.1 L.length)=true:=by kernel_rfl) (hcov:∀x,(List.range L.length).all (λk=>(U x).any λq=>Nat.beq q.1 k)=true) (hg:∀x,qg (G4 L c) 20 (r x)=g x) (hc:∀x,c+(c1 x-L.length)=c' x) (hR:σR.all (λq=>q.2.isSome)=true:=by kernel_rfl):U5 P gl fid gs σR c g (λx=>zO L c (U x)) c':=by
 intro o st y xs ats fst cap ho hd hf a hgl hq hsc
 have j:=hin.get
 have hgetR:∀i o,ag σR i=some o->ag st.σ i=some o:=λi o hh=>by
  have:∀l:aQ,(∀q∈l,q∈σR)->ag l i=some o->ag st.σ i=some o:=by
   intro l;induction l with
   |nil=>intro _ h;cases h
   |cons q t ih=>grind
  grind
 have key:=MC (o:=o) (st:=st) (f:=y) (xs:=xs) (ats:=ats) (fid:=fid) (fst:=fst) (cap:=cap) L (gs0:=gs0) (σ0:=σ0) (r:=r) (σ1:=σ1) (c1:=c1) ho hd hf (by rw[hgl];exact hM) (λk i hk=>by
   have:=GV.1 hlt i (bO hk);simp_all) (DV hnd) (by rw[a,hgs]) (by grind) (λk o hkk=>by
   have:∀l:aQ,(∀q∈l,q∈σ0)->ag l k=some o->k<L.length:=by
    intro l;induction l with
    |nil=>intro _ h;cases h
    |cons q t ih=>
     intro hs h;rw[show(q::t:aQ)=(q.1,q.2)::t from rfl,A9] at h;split at h
     .rename_i e;subst e;exact Ef (GV.1 hk0 q (by grind))
     grind
   grind) (λx=>zO L c (U x)++st.σ) (λx i o hh=>by
   have:∀l:aQ,(∀q∈l,q∈U x)->ag (zO L c l++st.σ) i=some o->(∃k,(k,some o)∈U x/\G4 L c k=some i)\/(ag st.σ i=some o/\∀q∈l,G4 L c q.1≠some i):=by intro l;induction l<;>grind [zO,G4]
   rcases this (U x) (λ_ h=>h) hh with⟨k,b,h1⟩|⟨h1,h2⟩
   .grind [oI.get]
   .refine .inr ⟨h1,λhi=>?_⟩;obtain⟨k,hk⟩:=Gu hi;have hkl:=(cr hk).1;obtain⟨q,b,he⟩:=List.any_eq_true.1 (GV.1 (hcov x) k (List.mem_range.2 hkl));refine h2 q b ?_;rw[bc he];unfold G4;rw[hk])
 grind
end
section
variable {P:Bu} [M:Mix P] {st:St} {Q:Exit->St->Prop} {fn:Func} {Bs:List (St->Prop)} {m:Bool} {p:Br} {ι:Type}
def YV(a b d:Nat):Code->Bool
 | .region _ ops false=>match ops.toList with
  |[⟨some a',.move _,_,_,_,none⟩,⟨some b',.call {callee:= .value _,args:=_,argTypes:=_},_,_,_,none⟩,⟨some d',.assign (.tmp b2),_,_,_,none⟩]=>Nat.beq a' a&&Nat.beq b' b&&Nat.beq d' d&&Nat.beq b2 b
  |_=>false
 |_=>false
def Z0:Code->DC
 | .region _ ops _=>match ops.toList with
  |[⟨_,.move x,_,_,_,_⟩,_,_]=>x
  |_=> .tmp 0
 |_=> .tmp 0
def c3Y:Code->DC
 | .region _ ops _=>match ops.toList with
  |[_,⟨_,.call {callee:= .value y,args:=_,argTypes:=_},_,_,_,_⟩,_]=>y
  |_=> .tmp 0
 |_=> .tmp 0
def c3A:Code->List DC
 | .region _ ops _=>match ops.toList with
  |[_,⟨_,.call {callee:= .value _,args:=xs,argTypes:=_},_,_,_,_⟩,_]=>xs.toList
  |_=>[]
 |_=>[]
theorem U7{K:St->Prop}{o:Oper}{st st1:St}(hg:o.guard=none)(hs:GS P o st st1)(h:vU P ops K rest st1):vU P ops K (o::rest) st:= .inl ⟨by simp[ce,hg],hs.gsn.eqv (by grind [Yi.refl])⟩
theorem YW{K:St->Prop}{o:Oper}{st:St}{S:St->Prop}(hg:o.guard=none)(hs:th P o st S)(h:∀s,S s->vU P ops K rest s):vU P ops K (o::rest) st:= .inl (by grind [ce,th.eqv,Yi.refl])
theorem dCl(a b d:Nat){gs:Bk}{σR:aQ}{g:ι->G}{U:ι->aQ}{c':ι->Nat}{fst cap:Bk}(hF:U5 P st.gl fid gs σR st.c g U c')
  (h:∀x,Gp P fn Q Bs true p {st with fr:=(d,g x)::(b,g x)::(a,aB st (Z0 (bq p (ai fn))))::st.fr,σ:=U x++st.σ,c:=c' x})
  (hi:YV a b d (bq p (ai fn))=true:=by kernel_rfl) (hy:aB {st with fr:=(a,aB st (Z0 (bq p (ai fn))))::st.fr} (c3Y (bq p (ai fn)))= .clo (.func fid) fst cap:=by kernel_rfl)
  (hx:fst++(c3A (bq p (ai fn))).map (aB {st with fr:=(a,aB st (Z0 (bq p (ai fn))))::st.fr})++cap=gs:=by kernel_rfl)
  (hR:σR.map (λq=>ag st.σ q.1)=σR.map (·.2):=by kernel_rfl) (hn:(Nat.blt a st.n&&Nat.blt b st.n&&Nat.blt d st.n)=true:=by kernel_rfl):Gp P fn Q Bs false p st:=by
 show Tr P (bq p (ai fn)) st (dz P (bE p (ai fn) Bs []) Q)
 replace h:∀x,dz P (bE p (ai fn) Bs []) Q .normal _:=h
 revert hi hy hx h
 generalize bq p (ai fn)=c
 intro hi hy hx h
 unfold YV at hi
 split at hi
 .rename_i id ops
  split at hi
  .rename_i a' x k o f1 b' y xs ats t2 r f2 v b2 t3 t u f
   simp only[bA] at hi hn
   obtain⟨⟨⟨k1,k2⟩,k3⟩,i⟩:=hi
   obtain⟨⟨n1,n2⟩,j⟩:=hn
   obtain rfl:=bc k1
   obtain rfl:=bc k2
   obtain rfl:=bc k3
   obtain rfl:=bc i
   have e:=congrArg List.toArray f
   rw[Array.toArray_toList] at e
   subst e
   simp only[Z0,c3Y,c3A] at h hy hx
   refine lG (U7 rfl (fM (g:=aB st x) (λz hz=>by cases hz;exact Ef n1) rfl) (YW rfl (hF _ _ y xs ats fst cap rfl (λz hz=>by cases hz;exact Ef n2) hy hx rfl (λq hq=>?_) rfl) ?_))
   .have:∀l:aQ,l.map (λq=>ag st.σ q.1)=l.map (·.2)->∀q∈l,ag st.σ q.1=q.2:=by simp_all
    exact this σR hR q hq
   .rintro s ⟨z,rfl⟩
    refine U7 rfl (fM (g:=g z) (λw hw=>by cases hw;exact Ef j) ?_) (h z)
    exact congrArg some ((aO ..).trans (BB rfl))
  .cases hi
 .cases hi
def YX(P:Bu)(fn:Func)(gl:CC){ι:Type}(r:ι->G)(σ1:ι->aQ)(c1:ι->Nat)(e:Exit)(s:St):Prop:=(e= .normal\/e= .ret)/\s.gl=gl/\∃x,(∀k o,ag (σ1 x) k=some o->ag s.σ k=some o)/\s.c=c1 x/\∃a,fn.results.toList.mapM (jV P s)=some a/\r x=iU a
theorem YY{gl:CC}{r:ι->G}{σ1:ι->aQ}{c1:ι->Nat}{ex:Exit}{S0:St}(x:ι)(h:Ok P fn gl (r x) (σ1 x) (c1 x) ex S0):YX P fn gl r σ1 c1 ex S0:=by obtain⟨h1,h2,h3,h4,h5⟩:=h;exact⟨h1,h2,x,h3,h4,h5⟩
theorem dMF{gl:CC}{gs:Bk}{σ0:aQ}{c0:Nat}{r:ι->G}{σ1:ι->aQ}{c1:ι->Nat}(hf:P.funcs[f]?=some fn)(h:Gp P fn (YX P fn gl r σ1 c1) [] false [] ⟨fn.ntmps,gl,bQ 0 gs,σ0,c0,c0,false⟩)(hc:aK P f=true:=by kernel_rfl)(hb:fn.body.isSome=true:=by kernel_rfl)(hn:Nat.ble gs.length fn.ntmps=true:=by kernel_rfl):Xx P gl f gs σ0 c0 r σ1 c1:=by
 obtain⟨body,hb'⟩:=WE.1 hb;refine⟨hc,fn,body,hf,hb',Ef hn,?_⟩;have e:ai fn=body:=by grind [ai]
 rw[<-e];exact Tr.leQ h
end
section
attribute [local irreducible] Tr dz Gp
abbrev KY(l:Bn):Option Ob:=some ⟨3,l.flatMap cZ,none⟩
def Aap(s:Bn×Int):Option ((Bn×Int)⊕Bn):=
 bif 0<s.2 then(aS s.1 s.2).bind λa=>(aS s.1 (wI (s.2-1))).bind λb=>bif a<b then(ji s.1 s.2 b).bind λc=>(ji c (wI (s.2-1)) a).bind λd=>some (.inl (d,wI (s.2-1)))else some (.inr s.1)else some (.inr s.1)
def Acy(n:Int)(s:Bn×Int):Option ((Bn×Int)⊕Bn):=
 bif s.2<n then(AH Aap (s.1,s.2)).bind λl=>some (.inl (l,wI (s.2+1)))else some (.inr s.1)
def inZ(l:Bn):Option Bn:=AH (Acy (ah l)) (l,wI (0+1))
theorem AhR(a b:Int):ba prog gl 323 [iG a,iG b] (bG (decide (a<b))):=W6 gl (by unfold UD FI;simp)
theorem Aoz{l c d:Bn}{i j a b:Int}(h1:ji l i b=some c)(h2:ji c j a=some d):fh prog 22 (.rsl 0 0 l.length) j=some (.ref 0 (0+j.toNat*1)):=by rw[hZ h1];exact rZ.ixsZ 0 h2
theorem AhS{l:Bn}(h:inZ l=some r):jg prog gl 317 [.rsl 0 0 l.length,iG 0,iG (ah l)] [(0,KY l)] 1 (.tup []) [(0,KY r)] 1:=by
 unfold inZ at h;refine pP func317 ?_;refine pN (λs:Bn×Int=>(s0 49 gl [(0,.rsl 0 0 s.1.length),(1,iG 0),(2,iG (ah l)),(6,iG s.2)] [(0,KY s.1)] 1 1)) 1122 h [] [hc (el l),hc (rZ.imm l)] (λB s w hs k5 g=>?_);obtain⟨l1,i⟩:=s;unfold Acy at hs;dsimp only at hs;rcases bC hs with⟨b1,hs⟩|⟨b1,hs⟩
 .obtain⟨l2,e2,hs⟩:=bS hs;obtain rfl:=Bp hs;refine Ix 11221021 (s0 49 gl [(0,.rsl 0 0 l2.length),(1,iG 0),(2,iG (ah l)),(6,iG i)] [(0,KY l2)] 1 1) ?_ λkk=>?_
  .exact jw [] [hc (el l2),hc (rZ.imm l2)] (k5 _ rfl)
  refine pN (λs:Bn×Int=>(s0 49 gl [(0,.rsl 0 0 s.1.length),(1,iG 0),(2,iG (ah l)),(6,iG i),(7,iG s.2)] [(0,KY s.1)] 1 1)) 1122102122 e2 [hr 12 b1] [hc (el l1),hc (rZ.imm l1)] (λn z v hz k e=>?_);obtain⟨l3,j⟩:=z;unfold Aap at hz;dsimp only at hz;rcases bC hz with⟨b2,hz⟩|⟨b2,hz⟩
  .obtain⟨a,d,hz⟩:=bS hz;obtain⟨b,eb,hz⟩:=bS hz;have c:=AhR gl a b;rcases bC hz with⟨b3,hz⟩|⟨b3,hz⟩
   .obtain⟨m,e1,hz⟩:=bS hz;obtain⟨f,e3,hz⟩:=bS hz;obtain rfl:=Bp hz;rw[b3] at c;exact jw [hr 18 b2,AB 22 (rZ.ixrZ 0 d),AB 23 (rZ.p10Z tZ d),AB 27 (rZ.ixrZ 0 eb),AB 28 (rZ.p10Z tZ eb),hf 29 c,AB 41 (rZ.ixrZ 0 eb),AB 42 (rZ.p10Z tZ eb),AB 45 (rZ.ixrZ 0 d),AB 46 (rZ.p10Z tZ d),AB 47 (rZ.ixsZ 0 e1),hw 47 (m.flatMap cZ) (rZ.putZ e1),AB 48 (Aoz e1 e3),hw 48 (f.flatMap cZ) (rZ.putZ e3)] [hc ((hZ e1).trans (hZ e3)),hc (rZ.imm f)] (k _ rfl)
   .obtain rfl:=Bp hz;obtain rfl:=e _ rfl;rw[b3] at c;exact yl 11221021 [hr 18 b2,AB 22 (rZ.ixrZ 0 d),AB 23 (rZ.p10Z tZ d),AB 27 (rZ.ixrZ 0 eb),AB 28 (rZ.p10Z tZ eb),hf 29 c] [hc (el l3),hc (rZ.imm l3)] kk
  .obtain rfl:=Bp hz;obtain rfl:=e _ rfl;exact yl 11221021 [hr 18 b2] [hc (el l3),hc (rZ.imm l3)] kk
 .obtain rfl:=Bp hs;obtain rfl:=g _ rfl;exact mt .normal (s0 49 gl [] [(0,KY l1)] 1 1) [] [hr 12 b1] [hc (rZ.imm l1)] (kd:=[(0,.row)])
theorem AhT{l:Bn}(hl:l.length<=12)(h:inZ l=some r)(k:Int):jg prog gl 221 [.rsl 0 0 l.length,iG 0,iG (ah l),iG k] [(0,KY l)] 1 (.tup []) [(0,KY r)] 1:=by
 have e:wI (ah l-0)=ah l:=by grind [bM,ah]
 have hd:decide (wI (ah l-0)<=12)=true:=by grind [ah]
 refine pP func221 ?_;refine pN (λ_:Unit=>(s0 134 gl [(0,.rsl 0 0 l.length),(1,iG 0),(2,iG (ah l)),(3,iG k)] [(0,KY l)] 1 1)) 11122 Lg [] [hc (el l),hc (rZ.imm l)] (λa z v hz2 b c=>?_);exact mt .ret (s0 134 gl [] [(0,KY r)] 1 1) [] [hr 23 hd,tN 27 [0] 1 [(0,KY l)] [.rsl 0 0 l.length,iG 0,iG (ah l)] [(0,KY r)] (AhS gl h) ⟨⟨rfl,.inr ⟨rfl,rZ.imm l⟩⟩,trivial⟩ ⟨⟨rfl,.inr ⟨rfl,rZ.imm r⟩⟩,trivial⟩] [hc (rZ.imm r)] (kd:=[(0,.row)])
theorem Qh{l:Bn}(hl:l.length<=12)(h:inZ l=some r):jg prog gl 142 [.rsl 0 0 l.length] [(0,KY l)] 1 (.tup []) [(0,KY r)] 1:=by
 have e:wU (ah l)=l.length:=by unfold ah;rw[gP];omega
 have hb:ba prog gl 107 [uG (wU (ah l):Int)] (iG (WZ l.length:Int)):=by rw[e];exact RC gl aa
 refine pP func142 ?_;exact mt .normal (s0 11 gl [] [(0,KY r)] 1 1) [] [AB 8 (C8 (ah l)),hf 9 hb,tN 10 [0] 1 [(0,KY l)] [.rsl 0 0 l.length,iG 0,iG (ah l),iG (WZ l.length:Int)] [(0,KY r)] (AhT gl hl h (WZ l.length:Int)) ⟨⟨rfl,.inr ⟨rfl,rZ.imm l⟩⟩,trivial⟩ ⟨⟨rfl,.inr ⟨rfl,rZ.imm r⟩⟩,trivial⟩] [hc (rZ.imm r)] (kd:=[(0,.row)])
end
theorem Af6{A B:List α}{x:α}:(A++x::B)[A.length]?=some x:=aC
def Qi(l:Bn):Prop:=l.Pairwise λa b=>a<=b
theorem Af7{S R:Bn}{x:Int}(hn:(S++x::R).length<=1000)(hs:Qi S):T (AH Aap (S++x::R,(S.length:Int))) λr=>∃S',r=S'++R/\S'.length=S.length+1/\Qi S'/\S'.Perm (x::S):=by
 have hl:S.length+R.length+1<=1000:=by simp at hn;omega
 refine T.loop (λs=>∃b a,s.1=b++x::(a++R)/\s.2=(b.length:Int)/\S=b++a/\∀y∈a,x<=y) (λs=>s.2.toNat) ⟨S,[],rfl,rfl,aC,aC⟩ (by show((S.length:Int)).toNat<_;omega) ?_;rintro⟨l,j⟩ ⟨b,a,e1,e2,e3,e4⟩;dsimp only at e1 e2;subst e1 e2 e3;have fin:(∀y∈b,y<=x)->∃S',b++x::(a++R)=S'++R/\S'.length=(b++a).length+1/\Qi S'/\S'.Perm (x::(b++a)):=λh=>by refine⟨b++x::a,aC,by simp;omega,?_,List.perm_middle⟩;grind [Qi,List.pairwise_cons]
 unfold Aap;dsimp only;rcases List.eq_nil_or_concat b with rfl|⟨A,y,rfl⟩
 .rw[Dl aC,Bf];exact .some (fin aC)
 .have hA:((A++[y]).length:Int)=((A.length+1:Nat):Int):=aC;have hAl:A.length<=1000:=by simp at hl;omega
  have ew:wI (((A.length+1:Nat):Int)-1)=(A.length:Int):=by grind [bM]
  rw[List.concat_eq_append] at*;rw[hA,C6 aa,ax,au,ew,au];have eq1:A++[y]++x::(a++R)=A++y::x::(a++R):=aC;have g1:(A++[y]++x::(a++R))[A.length+1]?=some x:=by simp
  have g2:(A++[y]++x::(a++R))[A.length]?=some y:=by rw[eq1];exact Af6
  rw[g1,g2];simp only[aL];refine .dec (λc=>?_) λh=> .some (fin λz hz=>?_)
  .have s1:ji (A++[y]++x::(a++R)) ((A.length+1:Nat):Int) y=some (A++[y]++y::(a++R)):=by unfold ji;rw[BB ⟨aa,aC⟩,Fw];simp_all
   have s2:ji (A++[y]++y::(a++R)) (A.length:Int) x=some (A++x::(y::a++R)):=by unfold ji;simp_all
   rw[s1,aL,s2,aL];refine .some ⟨⟨A,y::a,rfl,rfl,aC,λz hz=>?_⟩,?_⟩
   .grind
   simp_all
  .have hyx:y<=x:=aa;rcases JF.1 hz with hz|hz
   .have hs':=hs;unfold Qi at hs';rw[List.append_assoc,List.pairwise_append] at hs';exact Int.le_trans (hs'.2.2 z hz y aC) hyx
   grind
theorem Adv{l:Bn}(hn:l.length<=1000):T (inZ l) λr=>r.Perm l/\Qi r:=by
 unfold inZ;refine T.loop (λs=>∃S R,s.1=S++R/\Qi S/\(S++R).Perm l/\((S.length:Int)=s.2\/(l=[]/\S=[]/\R=[]/\s.2=1))) (λs=>1002-s.2.toNat) ?_ (by show 1002-_<_;omega) ?_
 .cases l with
  |nil=>exact⟨[],[],rfl,.nil,.refl _,.inr ⟨rfl,rfl,rfl,rfl⟩⟩
  |cons a r=>exact⟨[a],r,rfl,List.pairwise_singleton _ _,.refl _,.inl rfl⟩
 rintro⟨l1,i⟩ ⟨S,R,e1,e2,e3,e4⟩;dsimp only at e1 e4;subst e1;have hlen:=e3.length_eq;unfold Acy;dsimp only;refine .dec (λhlt=>?_) λhge=> .some ⟨e3,?_⟩
 .unfold ah at hlt;rcases e4 with rfl|⟨rfl,rfl,rfl,rfl⟩
  rotate_left
  .simp at hlt
  cases R with
  |nil=>simp at hlen;omega
  |cons x R=>refine .bind ((Af7 (by rw[hlen];exact hn) e2).mono λr ⟨S',b,d,c,r4⟩=> .some ⟨⟨S',R,b,c,?_,.inl ?_⟩,?_⟩);all_goals grind [bM]
 .unfold ah at hge;rcases e4 with rfl|⟨rfl,rfl,rfl,rfl⟩
  .have:R=[]:=List.eq_nil_of_length_eq_zero (by simp at hlen;omega);subst this;simpa using e2
  .exact .nil
theorem Adw{ks:Bn}(hs:Qi srt)(hp:ks.Perm srt)(hn:srt.length<=1000):inZ ks=some srt:=by obtain⟨r,e,p,s⟩:=Adv (l:=ks) (by rw[hp.length_eq];exact hn);rw[e];refine congrArg some ?_;refine List.Perm.eq_of_pairwise (le:=λa b=>a<=b) (λa b _ _ h1 h2=>?_) s hs (p.trans hp);exact Int.le_antisymm h1 h2
abbrev UK{K V:Type}(kv:K->Value)(vg:V->G)(m:FM K V):List (Value×G×Nat):=m.es.map λe=>(kv e.1,vg e.2.1,e.2.2)
abbrev M7{K V:Type}(t:Bj)(kv:K->Value)(vg:V->G)(m:FM K V):Ob:=⟨t,[],some (.map (UK kv vg m) m.clk)⟩
def CA{K V:Type}[DecidableEq K](m:FM K V)(k:K)(p:V):FM K V:=match bu k (m.es.map (·.1)) with
 |none=>⟨m.es++[(k,p,m.clk)],m.clk+1⟩
 |some j=>⟨m.es.set j (k,p,(m.es[j]?.map (·.2.2)).getD 0),m.clk⟩
def LS{K V:Type}[DecidableEq K](m:FM K V)(k:K):FM K V:=match bu k (m.es.map (·.1)) with
 |none=>m
 |some j=>⟨m.es.eraseIdx j,m.clk⟩
structure FxOk {K V:Type} (m:FM K V):Prop where
 nd:(m.es.map (·.2.2)).Nodup
 lt:∀e∈m.es,e.2.2<m.clk
structure Nr {K V:Type} (m:FM K V):Prop extends FxOk m where
 kd:(m.es.map (·.1)).Nodup
theorem Acz{K:Type}[DecidableEq K]{k:K}:∀{l:List K} {j:Nat},bu k l=some j->l[j]?=some k
 |[],j,h=>by cases h
 |x::r,j,h=>by
  unfold bu at h;split at h
  .grind
  .rw[DQ] at h;obtain⟨n,h,rfl⟩:=h;simpa using Acz h
theorem Tl{K:Type}[DecidableEq K]{k:K}:∀{l:List K},bu k l=none->k∉l
 |[],h=>aC
 |x::r,h=>by
  unfold bu at h;split at h
  .cases h
  .rename_i hne;rw[Option.map_eq_none_iff] at h;simp[hne,Tl h]
section
variable {P:Bu} {K V:Type} [DecidableEq K] {kt et t t':Bj} {kv:K->Value} {vg:V->G} {m:FM K V} {σ:aQ} {i:Nat} {k:K} {gk:G}
theorem Qn:(UK kv vg m).map (·.1)=(m.es.map (·.1)).map kv:=by rw[Hk,Hk];rfl
theorem Q6(h:ag σ i=some (M7 t' kv vg m)):LE σ (.mref i)=some (i,t',UK kv vg m,m.clk):=by unfold LE;simp only[h]
theorem Q9(KT:MH P kt kv){ok:Bool}(ht:pB P t=some (kt,et))(hk:cD gk=some (kv k))(h:ag σ i=some (M7 t' kv vg m)):bL P σ t ok (.mref i) gk=bL P σ t ok (m.g kv vg) gk:=by unfold bL FM.g;rw[ht,hk];dsimp only;rw[Q6 h];dsimp only;rw[show(m.es.map λe=>kv e.1)=(m.es.map (·.1)).map kv by rw[Hk];rfl,KT.chk,KT.chk,Qn,KT.key];grind
theorem AcA(KT:MH P kt kv)(hs:∀k,Instr.sameBits 10000 (kv k) (kv k)=true)(ht:pB P t=some (kt,et))(hk:cD gk=some (kv k))(h:ag σ i=some (M7 t' kv vg m))(p:V):dZ P σ t (.mref i) gk (vg p)=some (i,M7 t' kv vg (CA m k p)):=by
 unfold dZ;rw[ht,hk,Q6 h];dsimp only;rw[KT.chk,ax,Qn,KT.key];unfold CA;cases hk:bu k (m.es.map (·.1)) with
 |none=>grind
 |some j=>have hj:=Acz hk;grind [List.map_set]
theorem Aaq{α β:Type}(f:α->β):∀(l:List α) (j:Nat),(l.eraseIdx j).map f=(l.map f).eraseIdx j
 |[],_=>rfl
 |x::r,0=>rfl
 |x::r,j+1=>by rw[List.eraseIdx_cons_succ,Fi,Fi,List.eraseIdx_cons_succ,Aaq f r j]
theorem Akf(KT:MH P kt kv)(ht:pB P t=some (kt,et))(hk:cD gk=some (kv k))(h:ag σ i=some (M7 t' kv vg m)):FN P σ t (.mref i) gk=some (i,M7 t' kv vg (LS m k)):=by unfold FN;rw[ht,hk,Q6 h];dsimp only;rw[KT.chk,ax,Qn,KT.key];grind [LS,Aaq]
def AhU(m:FM K V)(k:K):Nat:=match bu k (m.es.map (·.1)) with
 |none=>m.clk
 |some j=>(m.es[j]?.map (·.2.2)).getD 0
theorem Nd{j:Nat}(h:bu k (m.es.map (·.1))=some j):∃e,m.es[j]?=some e/\e.1=k/\m.get k=some e.2.1:=by grind [FM.get,fz]
theorem Tz(h:bu k (m.es.map (·.1))=none):m.get k=none:=by grind [FM.get,fz]
theorem Akg(KT:MH P kt kv)(hs:∀k,Instr.sameBits 10000 (kv k) (kv k)=true)(ht:pB P t=some (kt,et)){v0:V}(hz:((P.info? et).bind (·.zero)).map db=some (vg v0))(hk:cD gk=some (kv k))(h:ag σ i=some (M7 t' kv vg m)):
  ov P σ t (.mref i) gk=some (i,M7 t' kv vg (CA m k ((m.get k).getD v0)),.tup [vg ((m.get k).getD v0),iG (AhU m k:Nat)]):=by
 unfold ov
 rw[ht,hk,Q6 h]
 dsimp only
 rw[KT.chk,ax,Qn,KT.key]
 unfold CA AhU
 cases hk:bu k (m.es.map (·.1)) with
 |none=>
  grind [DQ,Tz]
 |some j=>
  obtain⟨e,he,rfl,hg⟩:=Nd hk
  grind [List.map_set]
theorem XS:∀{es:List (K×V×Nat)} {j:Nat} {e:K×V×Nat},(es.map (·.2.2)).Nodup->es[j]?=some e->(es.map λe=>(kv e.1,vg e.2.1,e.2.2)).findIdx? (λx=>(x.2.2:Int)==(e.2.2:Int))=some j
 |[],j,e,_,h=>by simp at h
 |x::r,0,e,_,h=>by grind
 |x::r,j+1,e,hd,h=>by
  rw[Fi,M0] at hd;rw[List.getElem?_cons_succ] at h;have hne:x.2.2≠e.2.2:=by grind
  rw[Fi,List.findIdx?_cons,BX cq,XS hd.2 h];rfl
theorem Akh(hm:FxOk m){v0:V}(h:ag σ i=some (M7 t' kv vg (CA m k v0)))(v:V):jX σ (.mref i) (iG (AhU m k:Nat)) (vg v)=some (i,M7 t' kv vg (CA m k v)):=by
 unfold jX;rw[Q6 h];dsimp only;unfold CA AhU at*;cases hk:bu k (m.es.map (·.1)) with
 |none=>
  dsimp only;have hx:(m.es++[(k,v0,m.clk)])[m.es.length]?=some (k,v0,m.clk):=aC;have:=XS (kv:=kv) (vg:=vg) (es:=m.es++[(k,v0,m.clk)]) (by rw[List.map_append,List.nodup_append];grind [FxOk]) hx
  rw[this];dsimp only;rw[Mu,hx,Option.map_some];dsimp only;rw[<-List.map_set (f:=λe:K×V×Nat=>(kv e.1,vg e.2.1,e.2.2)) (a:=(k,v,m.clk))];grind
 |some j=>
  obtain⟨e,he,rfl,hg⟩:=Nd hk;have hlt:=(cr he).1;dsimp only;rw[he];simp only[Option.map_some,Nt];have hx:(m.es.set j (e.1,v0,e.2.2))[j]?=some (e.1,v0,e.2.2):=by simp[hlt]
  have hd:((m.es.set j (e.1,v0,e.2.2)).map (·.2.2)).Nodup:=by grind [List.map_set,FxOk.nd]
  rw[XS hd hx];grind [List.map_set,List.set_set]
theorem OI(hi:∀v,bB (vg v)):∀e∈UK kv vg m,bB e.2.1:=by grind
end
section
variable {K V:Type} [DecidableEq K] {m:FM K V} {k:K}
theorem Aei:∀{es:List (K×V×Nat)} {k:K},k∉es.map (·.1)->es.find? (λe=>decide (e.1=k))=none
 |[],k,_=>rfl
 |x::r,k,h=>by grind
theorem Bz(p:V)(x:K):(CA m k p).get x=if x=k then some p else m.get x:=by
 unfold CA;cases hk:bu k (m.es.map (·.1)) with
 |none=>
  unfold FM.get;dsimp only;rw[List.find?_append];split
  .rename_i e;subst e;rw[Aei (Tl hk)];simp
  grind
 |some j=>
  obtain⟨e,he,rfl,hg⟩:=Nd hk;have key:∀{es:List (K×V×Nat)} {j:Nat} (n:Nat),bu e.1 (es.map (·.1))=some j->((es.set j (e.1,p,n)).find? (λq=>decide (q.1=x))).map (·.2.1)=if x=e.1 then some p else(es.find? λq=>decide (q.1=x)).map (·.2.1):=by
   intro es;induction es with
   |nil=>intro j n h;cases h
   |cons y r ih=>intro j n h;rw[Fi,bu] at h;grind [DQ]
  exact key _ hk
theorem Mh(p:V):(CA m k p).es.map (·.1)=if k∈m.es.map (·.1)then m.es.map (·.1)else m.es.map (·.1)++[k]:=by
 unfold CA;cases hk:bu k (m.es.map (·.1)) with
 |none=>rw[BX (Tl hk)];simp
 |some j=>have hj:=Acz hk;rw[BB (bO hj)];dsimp only;rw[List.map_set];apply List.ext_getElem?;grind
theorem Hj(h:Nr m)(p:V):Nr (CA m k p):=by
 refine⟨⟨?_,?_⟩,?_⟩
 .unfold CA;cases hk:bu k (m.es.map (·.1)) with
  |none=>dsimp only;rw[List.map_append,List.nodup_append];refine⟨h.nd,aC,λa ha b hb=>?_⟩;obtain⟨e,he,rfl⟩:=EO.1 ha;simp at hb;subst hb;have:=h.lt e he;omega
  |some j=>grind [Nr,Nd,List.map_set,FxOk.nd]
 .unfold CA;cases hk:bu k (m.es.map (·.1)) with
  |none=>
   intro e he;dsimp only at he⊢;rcases JF.1 he with he|he
   .have:=h.lt e he;omega
   grind
  |some j=>
   obtain⟨e,he,rfl,_⟩:=Nd hk;intro x hx;dsimp only at hx⊢;rcases List.mem_or_eq_of_mem_set hx with hx|rfl
   .exact h.lt x hx
   .rw[he];exact h.lt e (bO he)
 grind [Mh,Nr.kd]
theorem MY(h:Nr m)(x:K):(LS m k).get x=if x=k then none else m.get x:=by
 unfold LS;cases hk:bu k (m.es.map (·.1)) with
 |none=>grind [Tz]
 |some j=>
  have key:∀{es:List (K×V×Nat)} {j:Nat},(es.map (·.1)).Nodup->bu k (es.map (·.1))=some j->((es.eraseIdx j).find? (λq=>decide (q.1=x))).map (·.2.1)=if x=k then none else(es.find? λq=>decide (q.1=x)).map (·.2.1):=by
   intro es;induction es with
   |nil=>intro j _ h;cases h
   |cons y r ih=>intro j hd h;rw[Fi,M0] at hd;grind [bu,DQ]
  exact key h.kd hk
theorem Abu{e:K×V×Nat}(h:e∈(LS m k).es):e∈m.es:=by grind [LS,List.mem_of_mem_eraseIdx]
theorem Re(h:Nr m):Nr (LS m k):=by grind [Nr,FxOk,LS,List.eraseIdx_sublist]
theorem GK{v:V}(h:m.get k=some v):∃n,(k,v,n)∈m.es:=by grind [FM.get,DQ]
theorem IX(h:Nr m){v:V}{n:Nat}(he:(k,v,n)∈m.es):m.get k=some v:=by
 unfold FM.get;have key:∀{es:List (K×V×Nat)},(es.map (·.1)).Nodup->(k,v,n)∈es->es.find? (λe=>decide (e.1=k))=some (k,v,n):=by intro es;induction es<;>grind
 rw[key h.kd he];rfl
end
section
attribute [local irreducible] Tr dz Gp
def ksQ{K V:Type}(m:FM K V)(seen:Br):List K:=seen.filterMap λn=>(m.es.find? λe=>Nat.beq e.2.2 n).map (·.1)
theorem Aar(hm:FxOk m){seen:Br}(he:e∈m.es):ksQ m (seen++[e.2.2])=ksQ m seen++[e.1]:=by
 unfold ksQ;rw[List.filterMap_append];have:∀{es:List (K×V×Nat)},(es.map (·.2.2)).Nodup->e∈es->es.find? (λx=>Nat.beq x.2.2 e.2.2)=some e:=by
  intro es;induction es with
  |nil=>intro _ h;cases h
  |cons x r ih=>
   intro hd h;rw[Fi,M0] at hd;rcases EG.1 h with rfl|h
   .simp
   grind [bc]
 simp[this hm.nd he]
def KsQ{K V:Type}(m:FM K V)(seen:Br):Prop:=seen.Nodup/\∀n∈seen,n∈m.es.map (·.2.2)
theorem Rf{l m:Br}(hd:l.Nodup)(hs:∀x∈l,x∈m):l.length<=m.length:=by
 induction l generalizing m with
 |nil=>exact Nat.zero_le _
 |cons a r ih=>rw[M0] at hd;have ha:=hs a aC;have:=ih (m:=m.erase a) hd.2 λx hx=>(List.mem_erase_of_ne (λe:x=a=>hd.1 (by rw[<-e];exact hx))).2 (hs x (by simp[hx]));grind
theorem Aas{seen:Br}(h:KsQ m seen):(ksQ m seen).length<=m.es.length:=by have h1:=Rf h.1 h.2;grind [ksQ]
theorem VX:KsQ m []:=⟨.nil,aC⟩
theorem V2{seen:Br}(h:KsQ m seen)(he:e∈m.es)(hn:e.2.2∉seen):KsQ m (seen++[e.2.2]):=by
 refine⟨?_,λn hx=>?_⟩
 .rw[List.nodup_append];exact⟨h.1,aC,(by grind)⟩
 .rcases JF.1 hx with hx|hx
  .exact h.2 n hx
  grind
theorem Abv(hm:FxOk m){seen:Br}(h:KsQ m seen)(ha:∀e∈m.es,e.2.2∈seen):(ksQ m seen).Perm (m.es.map (·.1)):=by
 have hp:seen.Perm (m.es.map (·.2.2)):=(List.perm_ext_iff_of_nodup h.1 hm.nd).2 λn=>⟨h.2 n,(by grind)⟩;have h1:(ksQ m seen).Perm (ksQ m (m.es.map (·.2.2))):=hp.filterMap _;have h2:∀es:List (K×V×Nat),(∀e∈es,e∈m.es)->ksQ m (es.map (·.2.2))=es.map (·.1):=by
  intro es;induction es with
  |nil=>intro _;rfl
  |cons e r ih=>intro hh;have:=Aar hm (seen:=[]) (hh e aC);grind [ksQ]
 grind
abbrev ZM:Bj:=82
abbrev Us(m:FM Int Bool):Option Ob:=some (M7 ZM JG bG m)
abbrev OS(i:Nat):G:= .clo (.func 143) [] [.ref i 0]
abbrev bxB:Option Ob:=some ⟨ZM,[.mref 1],none⟩
abbrev bxI(g:G):Option Ob:=some ⟨22,[g],none⟩
abbrev KSZ(m:FM Int Bool):Type:={ks:Bn//ks.Perm (m.es.map (·.1))}
noncomputable abbrev cAZ:Code:=bq 11012 (ai Tryz.f220)
noncomputable abbrev Af8(st:LoopState):Option Ob:=some ⟨0,[],some (.loop st none 13 [(2,.ref 2 0)] (Dy cAZ) (Dz cAZ) (DA cAZ))⟩
abbrev Aki(clock:Nat)(seen:Br):Option Ob:=some ⟨ZM,[],some (.iter (some 1) clock seen clock)⟩
theorem Ut(m:FM Int Bool):∀e∈UK JG bG m,bB e.2.1:=OI λv=>mN _
abbrev Af9:Fr:=[(0,.yld 3),(5,.ref 4 0)]
noncomputable abbrev σKZ(m:FM Int Bool)(seen:Br)(l:Bn):aQ:=[(0,bxB),(1,Us m),(2,bxI (.rsl 5 0 l.length)),(3,Af8 .ready),(4,Aki m.clk seen),(5,KY l)]
noncomputable abbrev σKY(m:FM Int Bool)(seen:Br)(a:Bn):aQ:=[(0,bxB),(1,Us m),(2,bxI (.rsl 6 0 a.length)),(3,Af8 .busy),(4,Aki m.clk seen),(6,KY a)]
theorem AcB{m:FM Int Bool}(hm:FxOk m)(hn:m.es.length<=1000):Xx prog gl 220 [.lit (.slice none 0 0),OS 0] [(0,bxB),(1,Us m)] 2 (ι:=KSZ m) (λx=> .rsl 2 0 x.1.length) (λx=>[(0,bxB),(1,Us m),(2,KY x.1)]) (λ_=>3):=by
 refine dMF func220 ?_;refine YR [1,0,1,2] (s0 13 gl [(2,.ref 2 0),(6,OS 0)] [(2,bxI (.lit (.slice none 0 0))),(0,bxB),(1,Us m)] 3 2) [] ?_;refine Xt (fst:=[]) (cap:=[.ref 0 0]) Tryz.f143 func143 ?_;refine pO [0] (s0 14 gl [(0,.yld 3),(1,.ref 0 0)] [(0,bxB),(1,Us m),(2,bxI (.lit (.slice none 0 0))),(3,Af8 .ready)] 4 4) [] [hc (Ut m)] ?_ [] [(0,0),(1,1),(2,2),(3,3)];refine yl (Bs':=[]) [0] (J:=(s0 14 gl Af9 (σKZ m [] []) 6 4)) [] [hc (Ut m),hc (rZ.imm [])] ?_ (vs:=[3]) (ρ:=rI 6) (kd:=[(5,.row)]);refine dNx [1] ?_;refine dMw 5 6 7 0 (iti:=4) (mi:=1) (clock:=m.clk) (since:=m.clk) (T:=ZM) (ty:=ZM) (es:=UK JG bG m) (λseen=>(s0 14 gl Af9 (σKZ m seen (ksQ m seen)) 6 4)) (KsQ m) VX (by grind [FxOk]) rfl (Le.refl _) (λseen=>rfl) (λseen=>rfl) (by grind) (λB seen k g n hI hme hns c=>?_) (λseen hI hs=>?_)
 .obtain⟨e,he,d⟩:=EO.1 hme;simp only[Ft] at d;obtain⟨rfl,rfl,rfl⟩:=d;have hl:=Aas hI;have c:=c (V2 hI he hns);rw[Aar hm he] at c;generalize ksQ m seen=l at hl c⊢;have hge:jr ((4,Aki m.clk (seen++[e.2.2]))::σKZ m seen l) (.ref 4 0)=some (.tup [db (JG e.1),bG e.2.1]):=yo (iti:=4) (mi:=1) (since:=m.clk) (clock:=m.clk) (T:=ZM) (ty:=ZM) (seen:=seen) rfl rfl (by rw[Hk];exact hm.nd) hme;refine pO 112211210 (s0 14 gl ((3,iG e.1)::Af9) (σKZ m (seen++[e.2.2]) l) 6 4) [YT 8 hge] [hc (Ut m),hc (rfl:l.length=l.length),hc (rZ.imm l)] ?_ [] [(0,0),(1,1),(2,2),(3,3),(4,4),(5,5)] [(5,.row)];refine Xw (i:=3) (j:=2) (n:=13) (t:=0) (t2:=0) (pe:=none) (fr:=[(2,.ref 2 0)]) (ps:=Dy cAZ) (a:=Dz cAZ) (b:=DA cAZ) (s1:=(s0 14 gl ([(11,iG e.1),(10,.yld 3),(3,iG e.1)]++Af9) (σKZ m (seen++[e.2.2]) l) 6 4))
   (s3:=(s0 14 gl ([(13,bG false),(12,bG true),(11,iG e.1),(10,.yld 3),(3,iG e.1)]++Af9) ((3,Af8 .ready)::σKY m (seen++[e.2.2]) (l++[e.1])) 7 4))
   (σKY m (seen++[e.2.2]) (l++[e.1])) 7 (.loop .ready none 13 [(2,.ref 2 0)] (Dy cAZ) (Dz cAZ) (DA cAZ)) [] [] ?_ ?_
  .refine C9 .normal ⟨13,gl,[(2,.ref 2 0),(5,iG e.1)],σKZ m (seen++[e.2.2]) l,6,6,true⟩ [] [hc (Ut m),hc (rfl:l.length=l.length),hc (rZ.imm l)] (Xv Tryz.f220 ?_ rfl);exact C9 .normal ⟨13,gl,[],σKY m (seen++[e.2.2]) (l++[e.1]),7,6,true⟩ [Tn 11 rZ 8 l e.1 aa] [hc (Ut m),hc (el (l++[e.1])),hc (rZ.imm (l++[e.1]))] (by grind [jy]) (ρ:=rI 6++[(6,7)]) (kd:=[(6,.row)])
  .exact jw [] [hc (Ut m),hc (el (l++[e.1])),hc (rZ.imm (l++[e.1]))] c (ρ:=rI 5++[(5,6)]) (kd:=[(5,.row)])
 .have hp:=Abv hm hI λe he=>hs _ (EO.2 ⟨e,he,rfl⟩);generalize ksQ m seen=l at hp⊢;refine C9 .normal (s0 14 gl [] [(0,bxB),(1,Us m),(2,bxI (.rsl 5 0 l.length)),(3,Af8 .ready),(5,KY l)] 6 4) [] [hc (Ut m),hc (rfl:l.length=l.length),hc (rZ.imm l)] (Xu ?_ rfl) (kd:=[(5,.row)]);exact C9 .ret (s0 13 gl [(4,.rsl 2 0 l.length)] [(0,bxB),(1,Us m),(2,KY l)] 3 2) [] [hc (rfl:l.length=l.length),hc (Ut m),hc (rZ.imm l)] (YY ⟨l,hp⟩ (Wo (gs:=[.rsl 2 0 l.length]) rfl aH rfl rfl rfl rfl))
theorem Abx{m:FM Int Bool}(hm:FxOk m)(hn:m.es.length<=1000):Xx prog gl 141 [OS 0] [(0,bxB),(1,Us m)] 2 (ι:=KSZ m) (λx=> .rsl 2 0 x.1.length) (λx=>[(0,bxB),(1,Us m),(2,KY x.1)]) (λ_=>3):=by refine dMF func141 ?_;refine pO [1,0] (s0 5 gl [(0,OS 0)] [(0,bxB),(1,Us m)] 2 2) [] [hc (Ut m)] ?_ [] [(0,0),(1,1)] [(999999,.clo)];refine dCl 3 4 2 (fst:=[]) (cap:=[]) (gs:=[.lit (.slice none 0 0),OS 0]) (U6 (g:=λx:KSZ m=> .rsl 2 0 x.1.length) (c:=2) (c':=λ_=>3) (σR:=[(0,bxB),(1,Us m)]) [0,1] (λx:KSZ m=>[(0,bxB),(1,Us m),(2,KY x.1)]) (AcB gl hm hn) ⟨⟨rfl,.inl rfl⟩,⟨rfl,rfl,rfl,rfl,.inr ⟨rfl,Ut m⟩⟩,trivial⟩ (λx=>⟨⟨rfl,.inl rfl⟩,⟨rfl,rfl,rfl,rfl,.inr ⟨rfl,Ut m⟩⟩,⟨rfl,.inr ⟨rfl,rZ.imm x.1⟩⟩,trivial⟩) (hcov:=λ_=>rfl) (hg:=λ_=>rfl) (hc:=λ_=>rfl)) λx=>?_;exact C9 .ret (s0 5 gl [(2,.rsl 2 0 x.1.length)] [(0,bxB),(1,Us m),(2,KY x.1)] 3 2) [] [hc (rfl:x.1.length=x.1.length),hc (Ut m),hc (rZ.imm x.1)] (YY x (Wo (gs:=[.rsl 2 0 x.1.length]) rfl aH rfl rfl rfl rfl))
theorem AcC{m:FM Int Bool}(hm:FxOk m)(hn:m.es.length<=12)(hs:∀a:Bn,a.Perm (m.es.map (·.1))->inZ a=some srt)(hsl:srt.length=m.es.length):jg prog gl 74 [OS 0] [(0,bxB),(1,Us m)] 2 (.rsl 2 0 srt.length) [(0,bxB),(1,Us m),(2,KY srt)] 3:=by
 refine pP func74 ?_;refine pO [1,0] (s0 9 gl [(0,OS 0)] [(0,bxB),(1,Us m)] 2 2) [] [hc (Ut m)] ?_ [] [(0,0),(1,1)] [(999999,.clo)];refine dCl 4 5 3 (fst:=[]) (cap:=[]) (gs:=[OS 0]) (U6 (g:=λx:KSZ m=> .rsl 2 0 x.1.length) (c:=2) (c':=λ_=>3) (σR:=[(0,bxB),(1,Us m)]) [0,1] (λx:KSZ m=>[(0,bxB),(1,Us m),(2,KY x.1)]) (Abx gl hm aa) ⟨⟨rfl,.inl rfl⟩,⟨rfl,rfl,rfl,rfl,.inr ⟨rfl,Ut m⟩⟩,trivial⟩ (λx=>⟨⟨rfl,.inl rfl⟩,⟨rfl,rfl,rfl,rfl,.inr ⟨rfl,Ut m⟩⟩,⟨rfl,.inr ⟨rfl,rZ.imm x.1⟩⟩,trivial⟩) (hcov:=λ_=>rfl) (hg:=λ_=>rfl) (hc:=λ_=>rfl)) λx=>?_;have hx:=hs x.1 x.2;have hxl:x.1.length<=12:=by rw[x.2.length_eq,Gq];exact hn
 have hsl:srt.length=x.1.length:=by rw[hsl,x.2.length_eq,Gq]
 rw[show(G.rsl 2 0 srt.length)= .rsl 2 0 x.1.length by rw[hsl]];exact mt .ret (s0 9 gl [(2,.rsl 2 0 x.1.length)] [(0,bxB),(1,Us m),(2,KY srt)] 3 2) [.rsl 2 0 x.1.length] [tN 7 [2] 3 [(2,KY x.1)] [.rsl 2 0 x.1.length] [(0,KY srt)] (Qh gl hxl hx) ⟨⟨rfl,.inr ⟨rfl,rZ.imm x.1⟩⟩,trivial⟩ ⟨⟨rfl,.inr ⟨rfl,rZ.imm srt⟩⟩,trivial⟩] [hc (rfl:x.1.length=x.1.length),hc (Ut m),hc (rZ.imm srt)]
theorem Aga(m:FM Int Bool):jg prog gl 75 [.mref 0] [(0,Us m)] 1 (OS 1) [(0,Us m),(1,some ⟨ZM,[.mref 0],none⟩)] 2:=by refine pP func75 ?_;exact mt .ret (s0 4 gl [(2,OS 1)] [(0,Us m),(1,some ⟨ZM,[.mref 0],none⟩)] 2 1) [OS 1] [] [hc (Ut m)] (kd:=[(999999,.clo)])
end
section
variable {P:Bu}
structure R9 (P:Bu) (w:World) (β:Bm) (S:Fu) (σ0:aQ) (p:Nat) (r:G) (σ1:aQ) (v:Value) (w':World) (β':Bm):Prop where
 pin:∀i ob,i<p->ag σ0 i=some ob->β' i=β i
 rs:RS P β' S σ1 w'
 old:∀b,GG β' σ1 b->GG β σ0 b\/w.heap.size<=b
 val:RV β' (Av S β' σ1) w' r v
 keep:A3 (GG β σ0) w w'
def SA(P:Bu)(gl:CC)(f:FuncId)(gs:Bk)(σ0:aQ)(c0 p:Nat)(r:G)(σ1:aQ):Prop:=
 ∀(w:World) (β:Bm) (S:Fu) (vs:Array Value),(∀b,S b->b<w.heap.size)->(∀i,c0<=i->β i=none)->Gls gl (Av S β σ0) w->RS P β S σ0 w->vs.size=gs.length->(∀(i:Nat) (g:G) (u:Value),gs[i]?=some g->vs[i]?=some u->RV β (Av S β σ0) w g u)->
  Calls P f vs w λe w'=>∃v a,e= .returned v/\R9 P w β S σ0 p r σ1 v w' a
theorem AdV{gl:CC}{c:Code}{σ0 σ1:aQ}{c0:Nat}{r:G}(hf:P.funcs[f]?=some fn)(hb:fn.body=some c)(hn:gs.length<=fn.ntmps)(h:Tr P c ⟨fn.ntmps,gl,bQ 0 gs,σ0,c0,p,false⟩ (zE P fn r σ1)):SA P gl f gs σ0 c0 p r σ1:=by
 intro w β S vs hS hβ hG hR hsz s;have hlive:∀i o,ag σ0 i=some o->∃x,β i=some x:=by grind [RS,RO.at]
 refine rq (cx:=⟨w,GG β σ0,S,λi=>if i<p then β i else none,Fence.wide,9⟩) hf hb h rfl rfl ⟨β,?_⟩ ?_
 .constructor<;>try grind [D7.nil,lP,RS.ob,RS.inj,RS.sep,A3.refl]
  .exact λ_=>rfl
  .exact λi=>by
    show RV _ _ w (aD (bQ 0 gs) i) _;rw[px];simp only[Nat.zero_le,if_true,Nat.sub_zero];cases hg:gs[i]? with
    |none=>exact .junk _
    |some g=>
     have hlt:=(cr hg).1;have hu:vs[i]?=some (vs[i]'aa):=by grind
     have e:(vs++Array.replicate (fn.ntmps-vs.size) undef).getD i undef=vs[i]'aa:=by rw[Array.getD_eq_getD_getElem?,Array.getElem?_append_left aa,hu];rfl
     grind
  .exact λi o b C ho hb=> .inl ⟨i,o,C,ho,hb⟩
  .exact hG
 .rintro e st' a' w' ⟨he,t,ρ,hgs,d,hinj,hw,hst⟩ ⟨l,hr⟩;obtain⟨v,hres,hv⟩:=mP hr hgs;have hp':∀i ob,i<p->ag σ0 i=some ob->i<st'.p/\l i=β i:=by grind
  obtain⟨c',k⟩:∃c',∀q∈ρ,q.1<c':=by refine⟨(ρ.map (·.1)).foldr (λa b=>max (a+1) b) 0,λq hq=>?_⟩;clear hinj hw hst d;induction ρ<;>grind
  have hw':=Bx.weaken (st:=st') (st':=⟨st'.n,st'.gl,[],σ1,c',st'.p,st'.r⟩) ρ rfl rfl rfl d hinj k HQ hst rfl hr;have hpost:R9 P w β S σ0 p r σ1 v w' (λi=>(dq ρ i).bind l):={
   pin:=by grind
   rs:=⟨hw'.ob,hw'.inj,hw'.sep⟩
   old:=by rintro b ⟨i,ob,C,ho,hb⟩;grind
   val:=(hw _ _ _ l hr v hv).step (by grind) (λb _ hb=>by
    rcases hb with hb|⟨i,m,C,h1,h2⟩
    .exact .inl hb
    .obtain⟨j,ob,h3,h4,_⟩:=hst i m h1;grind) (A3.refl _ _)
   keep:=hr.keep}
  grind
def kO(σ0:aQ)(L:Br)(p nn c k:Nat):Fq:=bif Nat.blt k p then(match ag σ0 k with|some _=>L[k]? |none=>none)else bif Nat.blt k (p+nn)then some (c+(k-p))else none
theorem AiM{σ0:aQ}{ob:Ob}(h:k<p)(ho:ag σ0 k=some ob):kO σ0 L p nn c k=L[k]? :=by unfold kO;rw[show Nat.blt k p=true from Nk h,ho];rfl
theorem AjK{σ0:aQ}(h:k<p)(e:kO σ0 L p nn c k=some i):L[k]?=some i/\∃ob,ag σ0 k=some ob:=by unfold kO at e;rw[show Nat.blt k p=true from Nk h,ax] at e;grind
theorem Al4{σ0:aQ}(h:p<=k)(e:kO σ0 L p nn c k=some i):i=c+(k-p)/\k<p+nn:=by
 unfold kO at e;rw[show Nat.blt k p=false from by cases hb:Nat.blt k p with|false=>rfl|true=>exact absurd (Ef hb) aa] at e;cases hb:Nat.blt k (p+nn) with
 |false=>grind
 |true=>simp_all
theorem AjL{o:Oper}{st:St}{f:DC}{xs:Array DC}{ats:Array Bj}{fid:FuncId}{fst cap:Bk}(L:Br)(p nn:Nat){σ0:aQ}{r:G}{σ1:aQ}(ho:o.op= .call {callee:= .value f,args:=xs,argTypes:=ats})(hd:LV o st.n)(hf:aB st f= .clo (.func fid) fst cap)(hc:aK P fid=true)
  (hM:SA P st.gl fid gs0 σ0 L.length p r σ1) (hL:∀(k i:Nat),L[k]?=some i->i<st.c) (hnd:L.Nodup) (hgs:gs0=(fst++xs.toList.map (aB st)++cap).map (qg (vi L) 20))
  (hin:∀k o0,ag σ0 k=some o0->∃i o,L[k]?=some i/\ag st.σ i=some o/\MB (vi L) o o0)
  (τ:aQ) (s:∀i o,ag τ i=some o->(∃k d,kO σ0 L p nn st.c k=some i/\ag σ1 k=some d/\MB (kO σ0 L p nn st.c) d o)\/(ag st.σ i=some o/\i∉L)):
  GS P o st ({st with σ:=τ,c:=st.c+nn}.put o.dst (qg (kO σ0 L p nn st.c) 20 r)):=by
 intro cx a w K R ⟨β,h⟩ z
 obtain⟨vs,hrun,hsz,hv⟩:=lQ h ho hf hc
 refine h.loose.oper (by grind) ?_
 unfold Oper.wp
 rw[hrun]
 have hlive:∀i o,ag st.σ i=some o->∃x,β i=some x:=by grind [RO.at]
 have hbound:∀i o,ag st.σ i=some o->i<st.c:=by grind
 obtain⟨m,F⟩:∃m:Bm,m=λk=>match L[k]? with|some i=>β i|none=>none:=⟨_,rfl⟩
 have b0:∀{k i:Nat},L[k]?=some i->m k=β i:=by grind
 have b0n:∀{k:Nat},L.length<=k->m k=none:=by grind
 obtain⟨Hid,y⟩:∃Hid:Fu,Hid=λb=>cx.S0 b\/∃i ob C,ag st.σ i=some ob/\β i=some (some (b,C))/\i∉L:=⟨_,rfl⟩
 have hlivS:∀b,GG m σ0 b->∃i o C,i∈L/\ag st.σ i=some o/\β i=some (some (b,C)):=λb ⟨k,ob,C,h1,h2⟩=>by grind
 have hav0:∀b,Av Hid m σ0 b->Av cx.S0 β st.σ b:=by grind
 have kin:∀i k,vi L i=some k->m k=β i:=by grind [QX]
 have hRS:RS P m Hid σ0 w:={
  ob:=λk o0 hk=>by obtain⟨i,o,g1,g2,q⟩:=hin k o0 hk;exact U8 kin ((h.ob i o g2).step (by grind) (by grind) (A3.refl _ _) (by grind)) q (b0 g1)
  inj:=λk1 k2 d A b C D h1 h2 h3 h4=>by obtain⟨i1,q1,g1,g2,_⟩:=hin k1 d h1;obtain⟨J,N,e1,e2,_⟩:=hin k2 A h2;grind [List.getElem?_inj]
  sep:=by grind}
 have hsz0:vs.size=gs0.length:=by grind
 refine(hM w m Hid vs (λb hb=>?_) (by grind) (λg l hl=>(by grind [IV.sub])) hRS hsz0 (λi g u hg hu=>?_)).mono ?_
 .grind [Bx.lt]
 .rw[hgs,Mu] at hg
  cases hx:(fst++xs.toList.map (aB st)++cap)[i]? with
  |none=>grind
  |some x=>
   rw[hx] at hg
   simp only[Option.map_some,Fe] at hg
   subst hg
   exact IG kin 20 x u ((hv i x u hx hu).step (by grind) (by grind) (A3.refl _ _))
 rintro e w' ⟨v,t,rfl,M⟩
 obtain⟨β2,H⟩:∃β2:Bm,β2=λi=>if i<st.c then β i else if i<st.c+nn then t (p+(i-st.c))else none:=⟨_,rfl⟩
 have b2:∀{i:Nat},i<st.c->β2 i=β i:=by grind
 have key:∀k i,kO σ0 L p nn st.c k=some i->β2 i=t k:=λk i hk=>by
  rcases JB k p with hp|hp
  .obtain⟨hk,ob,ho⟩:=AjK hp hk;grind [R9.pin]
  .obtain⟨rfl,h2⟩:=Al4 hp hk;grind
 have kfn:∀{k i j:Nat},kO σ0 L p nn st.c k=some i->kO σ0 L p nn st.c k=some j->i=j:=by grind
 have hext:∀i x,β i=some x->β2 i=some x:=by grind
 have hblk:∀i o b C,ag st.σ i=some o->β2 i=some (some (b,C))->β i=some (some (b,C)):=by grind
 have hav:∀b,Av cx.S0 β2 τ b->Av Hid t σ1 b:=by grind
 have hAo:∀b,b<w.heap.size->Av cx.S0 β2 τ b->Av cx.S0 β st.σ b:=by
  intro b hlt hb;rcases hav b hb with hb|hb
  .grind
  .rcases M.old b hb with hb|hb
   all_goals grind
 have hkp:A3 (Av cx.S0 β st.σ) w w':=by grind [R9,A3.mono]
 have hframe:∀i o b C,ag st.σ i=some o->i∉L->β i=some (some (b,C))->w'.heap[b]?=w.heap[b]? :=by grind [R9,Bx.lt]
 have hback:Bx P cx {st with σ:=τ,c:=st.c+nn} a w' β2:={
  size:=h.size
  defers:=by grind [R9,D7.keep,Bx.not_marks]
  loose:=h.loose
  rnd:=h.rnd
  fr:=by grind [RV.step]
  ob:=λi o ho=>by
   rcases s i o ho with⟨k,d,g1,g2,q⟩|⟨g1,g2⟩
   .exact U8 key ((M.rs.ob k d g2).step (by grind) (by grind) (A3.refl _ _) (by grind)) q (key k i g1)
   grind [RO.step]
  inj:=λi j o I b C D hi hj hbi B=>by
   rcases s i o hi with⟨k,d,g1,g2,q⟩|⟨g1,g2⟩<;>rcases s j I hj with⟨k',E,e1,e2,e3⟩|⟨e1,e2⟩
   .grind [R9,RS.inj]
   all_goals grind [R9,RS.sep]
  own:=λi o b C hi hbi=>by
   rcases s i o hi with⟨k,d,g1,g2,q⟩|⟨g1,g2⟩
   .rw[key k i g1] at hbi;rcases M.old b ⟨k,d,C,g2,hbi⟩ with hb|hb
    all_goals grind
   grind
  sep:=by grind [R9,RS.sep]
  fresh:=by grind
  glob:=by grind [IV.stepC,A3.cells]
  keep:=by grind [R9,A3.then]
  old:=h.old
  pin:=by grind}
 have hval:RV β2 (Av cx.S0 β2 τ) w' (qg (kO σ0 L p nn st.c) 20 r) v:=IG key 20 _ v (M.val.step (by grind) (by grind) (A3.refl _ _))
 exact z _ _ ⟨β2,hback.put o.dst hd hval⟩
def InP(κ:Nat->Fq)(L:Br)(σR σ0:aQ):Prop:=∀k o0,ag σ0 k=some o0->∃i o,L[k]?=some i/\ag σR i=some o/\MB κ o o0
def abi(κ:Nat->Fq)(σ1 U:aQ):Prop:=∀i o,ag U i=some o->∃k a,κ k=some i/\ag σ1 k=some a/\MB κ a o
theorem Xh{σR σ:aQ}(hq:∀q∈σR,ag σ q.1=q.2){o:Ob}(h:ag σR i=some o):ag σ i=some o:=by
 induction σR with
 |nil=>cases h
 |cons q t ih=>grind
def Ace(L:Br):aQ:=L.map λi=>(i,none)
theorem AdW{U σ:aQ}{o:Ob}(h:ag (U++(Ace L++σ)) i=some o):ag U i=some o\/(ag σ i=some o/\i∉L):=by
 induction U with
 |nil=>right;unfold Ace at h;induction L<;>grind
 |cons q t ih=>grind
theorem AjM{gl:CC}{gs0 gs:Bk}{σ0 σ1 σR:aQ}{r g:G}{c c':Nat}(L:Br)(p nn:Nat)(U:aQ)(hM:SA P gl fid gs0 σ0 L.length p r σ1)(hc:aK P fid=true)
  (hin:InP (vi L) L σR σ0) (a:abi (kO σ0 L p nn c) σ1 U) (hlt:L.all (λi=>Nat.blt i c)=true:=by kernel_rfl) (hnd:decide L.Nodup=true:=by kernel_rfl) (hgs:gs.map (qg (vi L) 20)=gs0:=by kernel_rfl)
  (hg:qg (kO σ0 L p nn c) 20 r=g:=by kernel_rfl) (d:c+nn=c':=by kernel_rfl):oJ P gl fid gs σR c g (U++Ace L) c':=by
 intro o st y xs ats fst cap ho hd hf b hgl hq hsc
 subst hsc
 have key:=AjL (o:=o) (st:=st) (f:=y) (xs:=xs) (ats:=ats) (fid:=fid) (fst:=fst) (cap:=cap) L p nn ho hd hf hc (by rw[hgl];exact hM) (λk i hk=>Ef (GV.1 hlt i (bO hk))) (DV hnd) (by rw[b,hgs]) (λk o0 hk=>by
   obtain⟨i,o,h1,h2,h3⟩:=hin k o0 hk;grind [Xh]) (U++(Ace L++st.σ)) (λi o hh=>by
   rcases AdW hh with h|h
   .exact .inl (a i o h)
   .exact .inr h)
 grind
def hfm(d:Nat)(L:Br)(p nn c:Nat)(σR:aQ)(gs:Bk)(U:aQ){gl:CC}{fid:FuncId}{gs0:Bk}{σ0 σ1:aQ}{r:G}(hM:SA P gl fid gs0 σ0 L.length p r σ1)
  (hin:InP (vi L) L σR σ0) (a:abi (kO σ0 L p nn c) σ1 U) (hc:aK P fid=true:=by kernel_rfl) (hlt:L.all (λi=>Nat.blt i c)=true:=by kernel_rfl) (hnd:decide L.Nodup=true:=by kernel_rfl) (hgs:gs.map (qg (vi L) 20)=gs0:=by kernel_rfl):HP:=
 hz d L (P:=P) (gl:=gl) (f:=fid) (gs:=gs) (σR:=σR) (c:=c) (g:=qg (kO σ0 L p nn c) 20 r) (U:=U++Ace L) (c':=c+nn) (by grind [AjM])
theorem dFP{gl:CC}{σ0 σ1:aQ}{c0 p:Nat}{r:G}(hf:P.funcs[f]?=some fn)(h:Gp P fn (zE P fn r σ1) [] false [] ⟨fn.ntmps,gl,bQ 0 gs,σ0,c0,p,false⟩)(hb:fn.body.isSome=true:=by kernel_rfl)(hn:Nat.ble gs.length fn.ntmps=true:=by kernel_rfl):SA P gl f gs σ0 c0 p r σ1:=
 AdV hf (c:=ai fn) (by unfold ai;cases hx:fn.body<;>grind) (Ef hn) (Tr.leQ (by exact h))
theorem aaj{st:St}{clock:Nat}{l:Bk}{es:List (Value×G×Nat)}{vs:Bk}(ho:ag st.σ i=some ⟨t,l,some (.map es clock)⟩)(hl:vs.length=es.length)(hi:∀(j:Nat) (e:Value×G×Nat) (g:G),es[j]?=some e->vs[j]?=some g->ve P st e.2.1 g):ve P st (.mref i) (.mp (es.map (·.1)) vs (es.map (·.2.2)) clock):=λcx a w β r v hv=>by
 obtain⟨b,C,hb,rfl⟩:=hv.mref_form;rcases r.ob i _ ho with⟨_,_,h3⟩|⟨b',x,o,h1,h2,h3,h4,h5⟩|⟨b',C',cur,h1,_⟩
 .grind
 .cases h1;have c:=hb;rw[h3] at hb;cases hb;obtain⟨ents,rfl,e2,e3⟩:=h5;refine .mp _ _ _ _ _ ents (r.sep i _ _ _ ho c) (r.lt ho c) h4 aa ?_ ?_ λj g e hg he=>?_
  .apply List.ext_getElem?;grind
  .apply List.ext_getElem?;grind
  .have hlt:=(cr hg).1;obtain⟨⟨k,d,n⟩,hj⟩:∃q,es[j]?=some q:=⟨_,EA aa⟩;obtain⟨e',h6,h7,h8,h9⟩:=e3 j k d n hj;rw[he] at h6;cases h6;exact hi j _ g hj hg cx a w β r _ h9
 .cases h1
theorem Ow{kv:K->Value}{vg vf:V->G}(ho:ag st.σ i=some ⟨t,[],some (.map (m.es.map λe=>(kv e.1,vg e.2.1,e.2.2)) m.clk)⟩)(h:∀e∈m.es,ve P st (vg e.2.1) (vf e.2.1)):ve P st (.mref i) (m.g kv vf):=by
 have:=aaj (P:=P) (vs:=m.es.map λe=>vf e.2.1) ho aC λj e g h1 h2=>by rw[Mu,DQ] at h1 h2;obtain⟨x,hx,rfl⟩:=h1;obtain⟨y,hy,rfl⟩:=h2;rw[hx] at hy;cases hy;exact h x (bO hx)
 rw[Hk,Hk] at this;exact this
theorem PO{gl:CC}{gs gs':Bk}{σR:aQ}{g:G}{c:Nat}(hc:aK P fid=true)(hF:ba P gl fid gs' g)(hr:YD g)(hl:gs'.length=gs.length)(hz:∀st:St,(∀i o,ag σR i=some o->ag st.σ i=some o)->∀(i:Nat) (x y:G),gs[i]?=some x->gs'[i]?=some y->ve P st x y):oJ P gl fid gs σR c g [] c:=λo st y xs ats fst cap ho hd hx hgs hgl b a=>by subst hgs;subst hgl;subst a;exact Ai ho hd hx hc hl (by grind [Xh]) hF hr
end
abbrev tRl:Bj:=140
abbrev tMc:Bj:=137
abbrev tMb:Bj:=82
abbrev XK:Bj:=138
abbrev tMv:Bj:=216
abbrev tMe:Bj:=215
abbrev tGu:Bj:=218
abbrev Acr:G:= .lit (.pointer none)
abbrev cdG(x:DR):G:= .agg (bv x)
def nM(k:Int):Nat:=4+k.toNat
abbrev XL(f:Nat->Nat)(m:FM Int AA):List (Value×G×Nat):=m.es.map λe=>(JG e.1,.ref (f (nM e.1)) 0,e.2.2)
def gpG(f:Nat->Nat)(k:Nat)(x:AA):G:=match x.guard with
 |none=>Acr
 |some _=> .ref (f (7+k)) 0
def guC(f:Nat->Nat)(k:Nat)(x:CM):Bk:=[iG x.id.By,iG x.id.Seq,uG x.id.Sum,aE cZ x.guards,iG x.need,iG x.wait,.mref (f (10+k)),bG x.objected,iG x.last]
def roM(f:Nat->Nat)(R:Ad)(k:Nat):Option Ob:=(R.members.get (k:Int)).map λx=>⟨tMe,[iG x.role,gpG f k x],none⟩
def roG(f:Nat->Nat)(R:Ad)(k:Nat):Option Ob:=((R.members.get (k:Int)).bind (·.guard)).map λx=>⟨tGu,guC f k x,none⟩
def roV(R:Ad)(k:Nat):Option Ob:=((R.members.get (k:Int)).bind (·.guard)).map λx=>M7 tMv Cd iG x.vouches
abbrev roR(f:Nat->Nat)(R:Ad):Ob:=⟨tRl,[.mref (f 1),.mref (f 2),.mref (f 3),.mref (f 4),iG R.back],none⟩
abbrev Sq(f:Nat->Nat)(R:Ad):Ob:=⟨XK,[],some (.map (XL f R.members) R.members.clk)⟩
def Bw(f:Nat->Nat)(R:Ad):Nat->Option Ob
 |0=>some (roR f R)
 |1=>some (M7 tMc JG cdG R.cards)
 |2=>some (M7 tMb JG bG R.in_)
 |3=>some (M7 tMb JG bG R.was)
 |4=>some (Sq f R)
 |5=>roM f R 1
 |6=>roM f R 2
 |7=>roM f R 3
 |8=>roG f R 1
 |9=>roG f R 2
 |10=>roG f R 3
 |11=>roV R 1
 |12=>roV R 2
 |13=>roV R 3
 |_=>none
abbrev BW(f:Nat->Nat)(R:Ad):aQ:=[(f 0,some (roR f R)),(f 1,some (M7 tMc JG cdG R.cards)),(f 2,some (M7 tMb JG bG R.in_)),(f 3,some (M7 tMb JG bG R.was)),(f 4,some (Sq f R)),(f 5,roM f R 1),(f 6,roM f R 2),(f 7,roM f R 3),(f 8,roG f R 1),(f 9,roG f R 2),(f 10,roG f R 3),(f 11,roV R 1),(f 12,roV R 2),(f 13,roV R 3)]
structure Bi (R:Ad):Prop where
 ci:Nr R.in_
 cw:Nr R.was
 cm:Nr R.members
 m3:∀e∈R.members.es,1<=e.1/\e.1<=3
 c3:∀d,0<=(DY (R.cards.get d)).Member/\(DY (R.cards.get d)).Member<=3
 cv:∀k x g,R.members.get k=some x->x.guard=some g->Nr g.vouches
 gm:∀k x g,R.members.get k=some x->x.guard=some g->(DY (R.cards.get g.id.By)).Member=k
 gN:∀k x g,R.members.get k=some x->x.guard=some g->1<=g.need/\g.need<=1000000
 vb:∀k x g,R.members.get k=some x->x.guard=some g->∀e∈g.vouches.es,1<=e.1.by_/\e.1.by_<=6
 i6:∀e∈R.in_.es,1<=e.1/\e.1<=6
 c6:∀d,0<(DY (R.cards.get d)).Member->1<=d/\d<=6
 gn:∀k x g,R.members.get k=some x->x.guard=some g->g.guards.length<=1000000
theorem Bi.mem{R:Ad}(h:Bi R){e:Int×AA×Nat}(he:e∈R.members.es):R.members.get e.1=some e.2.1/\(e.1=1\/e.1=2\/e.1=3):=by grind [Bi,IX]
def Rls(f:Nat->Nat)(R:Ad)(σ:aQ):Prop:=∀k ob,Bw f R k=some ob->ag σ (f k)=some ob
theorem D4{f:Nat->Nat}{k:Nat}{ob:Ob}(h:Bw f R k=some ob):k<14:=by
 rcases JB k 14 with h1|h1
 .exact h1
 .exact absurd h (by obtain⟨j,rfl⟩:∃j,k=j+14:=⟨k-14,aa⟩;intro e;cases e)
section
variable {P:Bu}
theorem NN:∀{l l':Bk},l'.length=l.length->(∀p∈l.zip l',ve P st p.1 p.2)->∀(j:Nat) (g g':G),l[j]?=some g->l'[j]?=some g'->ve P st g g':=λ{l l'} _ h j g g' h1 h2=>h (g,g') (bO (i:=j) (by grind))
theorem AfJ{f:Nat->Nat}(hR:Bi R)(h:Rls f R st.σ):ve P st (.ref (f 0) 0) (.ptr (CO R) 0):=by
 have hv:∀k:Nat,k=1\/k=2\/k=3->∀x g,R.members.get (k:Int)=some x->x.guard=some g->ve P st (.ref (f (7+k)) 0) (.ptr (PB g) 0):=λk hk x g hx hg=>by
  have h1:ag st.σ (f (7+k))=some ⟨tGu,guC f k g,none⟩:=by refine h (7+k) _ ?_;rcases hk with rfl|rfl|rfl<;>(show(Option.bind _ _).map _=_;grind)
  have h2:ag st.σ (f (10+k))=some (M7 tMv Cd iG g.vouches):=by refine h (10+k) _ ?_;rcases hk with rfl|rfl|rfl<;>(show(Option.bind _ _).map _=_;grind)
  refine Mb h1 (Dk _) (NN rfl λp hp=>?_);simp only[guC,PB,List.zip_cons_cons,List.zip_nil_right,EG,K3,or_false] at hp;rcases hp with rfl|rfl|rfl|rfl|rfl|rfl|rfl|rfl|rfl
  .exact jB (mN _)
  .exact jB (mN _)
  .exact jB (mN _)
  .exact jB (FC _ _)
  .exact jB (mN _)
  .exact jB (mN _)
  .exact Ow h2 λe _=>jB (mN _)
  all_goals grind [jB,mN]
 refine Mb (h 0 _ rfl) (Dk _) (NN rfl λp hp=>?_);simp only[CO,List.zip_cons_cons,List.zip_nil_right,EG,K3,or_false] at hp;rcases hp with rfl|rfl|rfl|rfl|rfl
 .exact Ow (h 1 _ rfl) λe _=>jB (L6 λg hg=>by simp only[bv,EG,K3,or_false] at hg;rcases hg with rfl|rfl|rfl|rfl|rfl<;>exact mN _)
 .exact Ow (h 2 _ rfl) λe _=>jB (mN _)
 .exact Ow (h 3 _ rfl) λe _=>jB (mN _)
 .have h4:=h 4 _ rfl;have:=aaj (P:=P) (st:=st) (vs:=R.members.es.map λe=> .ptr (FF e.2.1) 0) h4 aC λj e g h1 h2=>by
   rw[Mu,DQ] at h1 h2;obtain⟨x,hx,rfl⟩:=h1;obtain⟨y,hy,rfl⟩:=h2;rw[hx] at hy;cases hy;obtain⟨m1,m2⟩:=hR.mem (bO hx);obtain⟨k,hk,a⟩:∃k:Nat,x.1=(k:Int)/\(k=1\/k=2\/k=3):=by grind
   rw[hk] at m1;have hn:nM x.1=4+k:=by unfold nM;omega
   have h5:ag st.σ (f (4+k))=some ⟨tMe,[iG x.2.1.role,gpG f k x.2.1],none⟩:=by refine h (4+k) _ ?_;rcases a with rfl|rfl|rfl<;>(show Option.map _ _=_;rw[m1];rfl)
   show ve P st (.ref (f (nM x.1)) 0) _;rw[hn];refine Mb h5 (Dk _) (NN rfl λp hp=>?_);grind [FF,List.zip_cons_cons,List.zip_nil_right,jB,mN,gpG,npG]
  unfold FM.g;rw[Hk,Hk] at this;exact this
 .exact jB (mN _)
theorem PP{κ:Nat->Fq}{f f':Nat->Nat}(hκ:∀k,(∃ob,Bw f R k=some ob)->κ (f k)=some (f' k))(hR:Bi R)(k:Nat):Za κ (Bw f R k) (Bw f' R k):=λa h=>by
 have hk:=D4 h;have hr:∀k,(∃ob,Bw f R k=some ob)->qg κ 20 (.ref (f k) 0)= .ref (f' k) 0:=λk hk=>by simp only[qg,hκ k hk]
 have hm:∀k,(∃ob,Bw f R k=some ob)->qg κ 20 (.mref (f k))= .mref (f' k):=λk hk=>by simp only[qg,hκ k hk]
 have pm:∀(k:Nat) x,k=1\/k=2\/k=3->R.members.get (k:Int)=some x->∃ob,Bw f R (4+k)=some ob:=λk x hk hx=>by rcases hk with rfl|rfl|rfl<;>exact⟨_,(by show Option.map _ _=_;rw[hx];rfl)⟩
 have pg:∀(k:Nat) x,k=1\/k=2\/k=3->(R.members.get (k:Int)).bind (·.guard)=some x->(∃ob,Bw f R (7+k)=some ob)/\∃ob,Bw f R (10+k)=some ob:=λk x hk hx=>by rcases hk with rfl|rfl|rfl<;>exact⟨⟨_,(by show Option.map _ _=_;rw[hx];rfl)⟩,⟨_,(by show Option.map _ _=_;rw[hx];rfl)⟩⟩
 have hmem:∀k,k=1\/k=2\/k=3->Za κ (roM f R k) (roM f' R k):=λk hk a h=>by
  unfold roM at h⊢;rw[DQ] at h;obtain⟨x,hx,rfl⟩:=h;rw[hx];refine⟨_,rfl,rfl,.inl ?_⟩;show[iG x.role,gpG f' k x]=[iG x.role,qg κ 20 (gpG f k x)];unfold gpG;cases hg:x.guard with
  |none=>rfl
  |some g=>grind
 have hgu:∀k,k=1\/k=2\/k=3->Za κ (roG f R k) (roG f' R k):=λk hk a h=>by unfold roG at h⊢;rw[DQ] at h;obtain⟨x,hx,rfl⟩:=h;rw[hx];refine⟨_,rfl,rfl,.inl ?_⟩;show guC f' k x=(guC f k x).map (qg κ 20);unfold guC;simp only[Fi,List.map_nil,hm (10+k) (pg k x hk hx).2];rfl
 have hvo:∀k,Za κ (roV R k) (roV R k):=λk a h=>by refine⟨a,h,rfl,?_⟩;unfold roV at h;rw[DQ] at h;obtain⟨x,hx,rfl⟩:=h;exact⟨rfl,rfl,rfl,.inr ⟨rfl,OI λv=>mN _⟩⟩
 match k,hk with
 |0,_=>cases h;refine⟨_,rfl,rfl,.inl ?_⟩;simp only[Fi,List.map_nil,hm 1 ⟨_,rfl⟩,hm 2 ⟨_,rfl⟩,hm 3 ⟨_,rfl⟩,hm 4 ⟨_,rfl⟩];rfl
 |1,_=>cases h;exact⟨_,rfl,rfl,rfl,rfl,rfl,.inr (by grind [L6,bv,mN])⟩
 |2,_=>cases h;exact⟨_,rfl,rfl,rfl,rfl,rfl,.inr ⟨rfl,OI λv=>mN _⟩⟩
 |3,_=>cases h;exact⟨_,rfl,rfl,rfl,rfl,rfl,.inr ⟨rfl,OI λv=>mN _⟩⟩
 |4,_=>cases h;refine⟨_,rfl,rfl,rfl,rfl,rfl,.inl ?_⟩;rw[Hk];refine List.map_congr_left λe he=>?_;obtain⟨h1,h2⟩:=hR.mem he;show _=(_,qg κ 20 (.ref (f (nM e.1)) 0),_);rw[hr (nM e.1) (by rcases h2 with h2|h2|h2<;>rw[h2] at h1⊢<;>exact pm _ _ aC h1)]
 |5,_=>exact hmem 1 aa a h
 |6,_=>exact hmem 2 aa a h
 |7,_=>exact hmem 3 aa a h
 |8,_=>exact hgu 1 aa a h
 |9,_=>exact hgu 2 aa a h
 |10,_=>exact hgu 3 aa a h
 |11,_=>exact hvo 1 a h
 |12,_=>exact hvo 2 a h
 |13,_=>exact hvo 3 a h
theorem LX{f:Nat->Nat}{g:Nat->Option Ob}:∀{l:Br} {k:Nat},(∀a∈l,∀b∈l,f a=f b->a=b)->k∈l->ag (l.map λk=>(f k,g k)) (f k)=g k
 |[],k,_,h=>by cases h
 |x::r,k,hi,h=>by
  rw[Fi,A9];split
  .grind
  .rename_i hne;rcases EG.1 h with rfl|h
   .exact absurd rfl hne
   .exact LX (by grind) h
theorem Md{f:Nat->Nat}{g:Nat->Option Ob}{i:Nat}{o:Ob}:∀{l:Br},ag (l.map λk=>(f k,g k)) i=some o->∃k∈l,f k=i/\g k=some o
 |[],h=>by cases h
 |x::r,h=>by
  rw[Fi,A9] at h;split at h
  .grind
  .obtain⟨k,h1,h2⟩:=Md h;grind
abbrev L0:Br:=[0,1,2,3,4,5,6,7,8,9,10,11,12,13]
abbrev YA(f:Nat->Nat):Br:=L0.map f
abbrev f0:Nat->Nat:=λk=>k
theorem Ht(f:Nat->Nat)(R:Ad):BW f R=(List.range 14).map λk=>(f k,Bw f R k):=rfl
theorem KJ{o:Ob}:ag (BW f0 R) k=some o↔Bw f0 R k=some o:=by
 constructor
 .intro h;rw[Ht] at h;obtain⟨k',_,e,h⟩:=Md h;grind
 .intro h;rw[Ht];have:=LX (f:=f0) (g:=Bw f0 R) (l:=List.range 14) (k:=k) (λa _ b _ e=>e) (List.mem_range.2 (D4 h));exact this.trans h
theorem Abl{f:Nat->Nat}(h:k<14):(YA f)[k]?=some (f k):=by
 rw[Mu,show L0[k]?=some k from by have:=List.getElem?_range (n:=14) h;exact this];rfl
theorem Acs{f:Nat->Nat}(hd:(YA f).Nodup)(ha:a<14)(hb:b<14)(e:f a=f b):a=b:=(List.getElem?_inj ha hd).1 (by grind [Abl])
theorem Aj4(hd:L.Nodup){k i:Nat}(h:L[k]?=some i):vi L i=some k:=by unfold vi;rw[List.findIdx?_eq_some_iff_getElem];obtain⟨hk,e⟩:=cr h;refine⟨hk,by rw[e];exact Nat.beq_refl i,λj hj hb=>?_⟩;have hjk:=(List.getElem?_inj aa hd).1 ((EA (l:=L) (i:=j) aa).trans ((congrArg some (bc hb)).trans h.symm));omega
theorem AiX{f:Nat->Nat}(hd:(YA f).Nodup)(hR:Bi R):InP (vi (YA f)) (YA f) (BW f R) (BW f0 R):=λk o0 h=>by rw[KJ] at h;have hk:=D4 h;obtain⟨o,h1,h2⟩:=PP (κ:=vi (YA f)) (f:=f) (f':=f0) (by grind [Aj4,Abl,D4]) hR k o0 h;refine⟨_,o,Abl hk,?_,h2⟩;rw[Ht,LX (by grind [Acs]) (List.mem_range.2 hk)];exact h1
theorem Aj5{f:Nat->Nat}(hR:Bi R)(c:Nat):abi (kO (BW f0 R) (YA f) 14 0 c) (BW f0 R) (BW f R):=λi o h0=>by
 rw[Ht] at h0;obtain⟨k,hk,e,h⟩:=Md h0;subst e;have hκ:∀k,(∃ob,Bw f0 R k=some ob)->kO (BW f0 R) (YA f) 14 0 c (f0 k)=some (f k):=by grind [AiM,D4,KJ,Abl]
 obtain⟨a,h1,h2⟩:=PP hκ hR k o h;grind [KJ]
def fW(f:Nat->Nat)(c k:Nat):Nat:=bif Nat.blt k 5 then f k else c+(k-5)
theorem AhH{f:Nat->Nat}(hR:Bi R')(c:Nat):abi (kO (BW f0 R) (YA f) 5 9 c) (BW f0 R') (BW (fW f c) R'):=λi o h0=>by
 rw[Ht] at h0;obtain⟨k,hk,e,h⟩:=Md h0;subst e;have hκ:∀k,(∃ob,Bw f0 R' k=some ob)->kO (BW f0 R) (YA f) 5 9 c (f0 k)=some (fW f c k):=λk ⟨ob,h⟩=>by
  have hk:=D4 h;unfold fW;rcases JB k 5 with h5|h5
  .rw[show Nat.blt k 5=true from Nk h5,ax];have:∃ob,Bw f0 R k=some ob:=by
    match k,h5 with
    |0,_=>exact⟨_,rfl⟩
    |1,_=>exact⟨_,rfl⟩
    |2,_=>exact⟨_,rfl⟩
    |3,_=>exact⟨_,rfl⟩
    |4,_=>exact⟨_,rfl⟩
   grind [AiM,KJ,Abl]
  .have e:Nat.blt k 5=false:=by
    cases hb:Nat.blt k 5 with
    |false=>rfl
    |true=>exact absurd (Ef hb) aa
   rw[e,Bf];unfold kO;rw[show Nat.blt (f0 k) 5=false from e,show Nat.blt (f0 k) (5+9)=true from Nk hk];rfl
 obtain⟨a,h1,h2⟩:=PP hκ hR k o h;grind [KJ]
def hrr(d:Nat)(f:Nat->Nat)(c:Nat)(args:Bk){gl:CC}{fid:FuncId}{args0:Bk}{R:Ad}{r:G}(hR:Bi R)(hM:SA P gl fid (.ref 0 0::args0) (BW f0 R) 14 14 r (BW f0 R))(hc:aK P fid=true:=by kernel_rfl)(hlt:(YA f).all (λi=>Nat.blt i c)=true:=by kernel_rfl)(hnd:decide (YA f).Nodup=true:=by kernel_rfl)(hgs:(G.ref (f 0) 0::args).map (qg (vi (YA f)) 20)= .ref 0 0::args0:=by kernel_rfl):HP:=
 hfm d (YA f) 14 0 c (BW f R) (.ref (f 0) 0::args) (BW f R) hM (AiX (DV hnd) hR) (Aj5 hR c) hc hlt hnd hgs
def hrw(d:Nat)(f:Nat->Nat)(c:Nat)(args:Bk){gl:CC}{fid:FuncId}{args0:Bk}{R R':Ad}{r:G}(hR:Bi R)(a:Bi R')(hM:SA P gl fid (.ref 0 0::args0) (BW f0 R) 14 5 r (BW f0 R'))(hc:aK P fid=true:=by kernel_rfl)(hlt:(YA f).all (λi=>Nat.blt i c)=true:=by kernel_rfl)(hnd:decide (YA f).Nodup=true:=by kernel_rfl)(hgs:(G.ref (f 0) 0::args).map (qg (vi (YA f)) 20)= .ref 0 0::args0:=by kernel_rfl):HP:=
 hfm d (YA f) 5 9 c (BW f R) (.ref (f 0) 0::args) (BW (fW f c) R') hM (AiX (DV hnd) hR) (AhH a c) hc hlt hnd hgs
def hrl(d:Nat)(f:Nat->Nat)(c:Nat){args:Bk}{gl:CC}{fid:FuncId}{R:Ad}{g:G}(hR:Bi R)(hF:ba P gl fid (.ptr (CO R) 0::args) g)(ha:∀x∈args,bB x)(hg:YD g)(hnd:decide (YA f).Nodup=true:=by kernel_rfl)(hc:aK P fid=true:=by kernel_rfl):HP:=
 hz d (YA f) (P:=P) (gl:=gl) (f:=fid) (gs:= .ref (f 0) 0::args) (σR:=BW f R) (c:=c) (g:=g) (U:=[]) (c':=c) (PO hc hF hg rfl λst h i x y h1 h2=>by
  have hs:Rls f R st.σ:=λk ob ho=>h _ _ (by rw[Ht,LX (by grind [Acs]) (List.mem_range.2 (D4 ho))];exact ho)
  cases i<;>grind [AfJ,jB])
end
section
attribute [local irreducible] Tr dz Gp
section
variable {P:Bu}
theorem AfK{st:St}{ρ:DH}:∀{l:aQ},(∀q∈l,∃j,dq ρ q.1=some j/\Za (Iu ρ) (ag st.σ j) q.2)->Dp P st ρ l
 |[],_=>BT
 |(i,o)::r,h=>by obtain⟨j,h1,h2⟩:=h (i,o) aC;exact Aa9 h1 h2 (AfK (by grind))
def Ge(f:Nat->Nat):DH:=L0.map λk=>(k,f k)
def okF(f:Nat->Nat):Bool:=L0.all λk=>(match Iu (Ge f) (f k) with|some j=>Nat.beq j k|none=>false)&&(match dq (Ge f) k with|some j=>Nat.beq j (f k)|none=>false)
theorem AfL{f:Nat->Nat}(h:okF f=true)(hk:k<14):Iu (Ge f) (f k)=some k/\dq (Ge f) k=some (f k):=by have:=GV.1 h k (by have:k∈List.range 14:=List.mem_range.2 hk;exact this);grind [bc]
def rlD(P:Bu)(hs:List Hn)(m:Code⊕Exit)(K:List Kf)(fn:Func)(f:Nat->Nat)(R':Ad)(r:G)(st:St):Option (Prop×Br×JR):=match sy P hs 1000000 1000 m K st with
 |some (C,u,.fin e s)=>match tc e,vR P s fn.results.toList with
  |true,some gs=>bif ER (Ge f) s.p then some (C,u,(iU gs=r/\bB r)::L0.map λk=>∀ob,Bw f R' k=some ob->ag s.σ (f k)=some ob)else none
  |_,_=>none
 |_=>none
section
variable [M:Mix P] {fn:Func} {r:G} {Bs:List (St->Prop)} {m:Bool} {p:Br} {st:St}
theorem Hi(f:Nat->Nat)(R':Ad)(hR:Bi R')(A O:List HP)(hf:okF f=true:=by kernel_rfl)(hk:Ua A (rlD P (bK A) (LQ m p (ai fn)) (bE p (ai fn) Bs []) fn f R' r st) (pR O):=by exact⟨aH,aH⟩):Gp P fn (zE P fn r (BW f0 R')) Bs m p st:=by
 obtain⟨C,u,b,e⟩:=hk.out;unfold Gp;unfold rlD at e;split at e
 .rename_i c d x s h1;split at e
  .rename_i gs hx hg;cases hb:ER (Ge f) s.p with
   |false=>rw[hb] at e;cases e
   |true=>
    rw[hb] at e;simp only[ax,Fe,Ft] at e;obtain⟨rfl,rfl,hL⟩:=e;have hp:∀q∈(iU gs=r/\bB r)::L0.map λk=>∀ob,Bw f R' k=some ob->ag s.σ (f k)=some ob,q:=by rw[hL];exact wR O
    obtain⟨rfl,hi⟩:=hp _ (List.mem_cons_self ..);simp only[ER,bA] at hb;obtain⟨⟨k1,k2⟩,k3⟩:=hb;refine oK M.mx (out:= .fin x s) ⟨s,Le.refl _,eO hx,gs,Ge f,gh hg,λi hi=>?_,λi g j h1 h2=>?_,ry hi,AfK λq hq=>?_⟩ 1000 _ _ _ _ _ h1 b
    .grind [bc]
    .have:=GV.1 (GV.1 k2 _ (Gt h1)) _ (Gt h2);grind [Nat.beq_refl,bc]
    .rw[Ht] at hq;obtain⟨k,hk,rfl⟩:=EO.1 hq;have hk':=List.mem_range.1 hk;obtain⟨g1,g2⟩:=AfL hf hk';refine⟨f k,g2,λa h=>?_⟩;obtain⟨ob,h2,h3⟩:=PP (λk ⟨ob,h⟩=>(AfL hf (D4 h)).1) hR k a h;exact⟨ob,hp (∀ob,Bw f R' k=some ob->ag s.σ (f k)=some ob) (List.mem_cons_of_mem _ (EO.2 ⟨k,hk,rfl⟩)) ob h2,h3⟩
  .cases e
 .cases e
def Zu(d:Nat)(R:Br)(c:Nat){σ:aQ}{t:Bj}{gm gk g:G}{i:Nat}{ob:Ob}(h:ov P σ t gm gk=some (i,ob,g)):HP:=⟨some (.e d g i ob),ov P (US σ (fR gm)) t gm gk=some (i,ob,g),(Afc Hh).symm.trans h⟩
def hms(d:Nat)(R:Br)(c:Nat){σ:aQ}{gm gs g:G}{i:Nat}{ob:Ob}(h:jX σ gm gs g=some (i,ob)):HP:=⟨some (.e (2000000+d) (.lit undef) i ob),jX (US σ (fR gm)) gm gs g=some (i,ob),(AiO Hh).symm.trans h⟩
def Lu(d:Nat){σ:aQ}{t:Bj}{ok:Bool}{i:Nat}{gk g:G}(h:bL P σ t ok (.mref i) gk=some g):HP:=⟨some (.m d g),bL P σ t ok (.mref i) gk=some g,h⟩
def hmp(c:Nat){σ:aQ}{t:Bj}{gm gk g:G}{i:Nat}{ob:Ob}(h:dZ P σ t gm gk g=some (i,ob)):HP:=⟨some (.e 999999998 (.lit undef) i ob),dZ P (US σ (fR gm)) t gm gk g=some (i,ob),(abj Hh).symm.trans h⟩
def hmd(c:Nat){σ:aQ}{t:Bj}{gm gk:G}{i:Nat}{ob:Ob}(h:FN P σ t gm gk=some (i,ob)):HP:=⟨some (.e 999999998 (.tup []) i ob),FN P (US σ (fR gm)) t gm gk=some (i,ob),(Afd Hh).symm.trans h⟩
end
end
def DG(R:Ad)(d:Int):Int:=(DY (R.cards.get d)).Member
def D3(R:Ad)(d:Int):Bool:=decide (0<DG R d)&& !(EY (R.was.get d))
def PR(R:Ad)(d:Int):Bool:=EY (R.in_.get d)
def M6(R:Ad)(m:Int):Int:=match R.members.get m with
 |none=>0
 |some x=>x.role
theorem Abm(k:Int):Instr.sameBits 10000 (JG k) (JG k)=true:=by simp[JG,Instr.sameBits]
def JT(m:FM Int AA):FM Int JQ:=⟨m.es.map λe=>(e.1,some e.1,e.2.2),m.clk⟩
def vgM(f:Nat->Nat):JQ->G
 |none=>Acr
 |some k=> .ref (f (nM k)) 0
theorem aao(m:FM Int AA)(k:Int):(JT m).get k=(m.get k).map λ_=>some k:=by unfold FM.get JT;dsimp only;induction m.es<;>grind
theorem Q5(f:Nat->Nat)(R:Ad):Sq f R=M7 XK JG (vgM f) (JT R.members):=by show(⟨_,_,some (.map _ _)⟩:Ob)=⟨_,_,some (.map _ _)⟩;unfold JT UK XL;dsimp only;rw[Hk];rfl
theorem Aec(m:FM Int AA)(k:Int):LS (JT m) k=JT (LS m k):=by
 unfold LS;have:(JT m).es.map (·.1)=m.es.map (·.1):=by unfold JT;rw[Hk];rfl
 grind [JT,Aaq]
def ptM(R:Ad)(m:Int):G:=if(R.members.get m).isSome then .ref (nM m) 0 else Acr
theorem AfM(R:Ad)(m:Int){σ:aQ}(h:ag σ 4=some (Sq f0 R)):bL prog σ XK false (.mref 4) (iG m)=some (ptM R m):=by rw[Q5] at h;rw[Q9 (P:=prog) (t:=XK) (kt:=3) (et:=211) O6 aH (k:=m) rfl h,FM.look1 (et:=211) O6 (v0:=none) aH aH (JT R.members) m rfl,aao];unfold ptM;cases R.members.get m<;>rfl
theorem Aj6(R:Ad)(m:Int):bL prog [(4,some (Sq f0 R))] XK false (.mref 4) (iG m)=some (ptM R m):=AfM R m rfl
theorem Sr{R:Ad}{m:Int}(hm:R.members.get m=some x):bL prog [(4,some (Sq f0 R))] XK false (.mref 4) (iG m)=some (.ref (nM m) 0):=(AfM R m rfl).trans (by unfold ptM;rw[hm];rfl)
theorem XM{R:Ad}{m:Int}(hm:R.members.get m=none):bL prog [(4,some (Sq f0 R))] XK false (.mref 4) (iG m)=some Acr:=(AfM R m rfl).trans (by unfold ptM;rw[hm];rfl)
abbrev inR(R:Ad)(d:Int):Ad:={R with in_:=CA R.in_ d true,was:=CA R.was d true}
def Je(R:Ad)(d role:Int):Ad:=bif D3 R d then{R with in_:=CA R.in_ d true,was:=CA R.was d true,members:=bif(R.members.get (DG R d)).isSome then R.members else CA R.members (DG R d) ⟨role,none⟩} else R
theorem Abn(R:Ad)(d:Int):ba prog gl 134 [.ptr (CO R) 0,iG d] (iG (DG R d)):=PC gl rfl
theorem Abo(R:Ad)(d:Int):ba prog gl 135 [.ptr (CO R) 0,iG d] (bG (D3 R d)):=SK gl (by unfold PD D3 DG;show Option.bind (bif 0<(DY (R.cards.get d)).Member then _ else _) _=_;grind)
theorem AhI{a:Int}:∀x∈[iG a],bB x:=by grind [mN]
abbrev hof(d:Nat){R:Ad}(hR:Bi R)(x:Int)(c:Nat:=14):HP:=hrl d f0 c hR (Abn gl R x) AhI (lR _)
abbrev AfN(d:Nat){R:Ad}(hR:Bi R){x y:Int}(h:DG R x=y)(c:Nat:=14):HP:=hrl d f0 c hR (h▸Abn gl R x) AhI (lR _)
abbrev hfr(d:Nat){R:Ad}(hR:Bi R){x:Int}{b:Bool}(h:D3 R x=b)(c:Nat:=14):HP:=hrl d f0 c hR (h▸Abo gl R x) AhI (lR _)
abbrev N5:List (Nat×Rk):=L0.map λk=>(k,.any)
def okR(ρ:DH)(f:Nat->Nat):Bool:=L0.all λk=>match Iu ρ (f k) with|some j=>Nat.beq j k|none=>false
theorem Aai{ρ:DH}{f:Nat->Nat}(h:okR ρ f=true)(hk:k<14):Iu ρ (f k)=some k:=by have:=GV.1 h k (by have:k∈List.range 14:=List.mem_range.2 hk;exact this);grind [bc]
abbrev rlB(ρ:DH)(f:Nat->Nat){R:Ad}(hR:Bi R)(h:okR ρ f=true:=by kernel_rfl):List HP:=L0.map λk=>hc (PP (κ:=Iu ρ) (f:=f) (f':=f0) (λk ⟨ob,hk⟩=>Aai h (D4 hk)) hR k)
abbrev rlA{R:Ad}(hR:Bi R):List HP:=rlB (Ge f0) f0 hR
abbrev rlK(R:Ad):List HP:=hc (⟨rfl,L7 aC⟩:iU []=iU []/\bB (iU []))::L0.map λk=>hc (λob h=>h:∀ob,Bw f0 R k=some ob->Bw f0 R k=some ob)
theorem AhJ(hR:Bi R){m:Int}(h:R.members.get m=some x):m=1\/m=2\/m=3:=by grind [Bi,GK]
theorem AfO(h:D3 R d=true):0<DG R d:=by grind [D3]
theorem AfP(hR:Bi R)(hf:D3 R d=true):Bi (inR R d):=⟨Hj hR.ci true,Hj hR.cw true,hR.cm,hR.m3,hR.c3,hR.cv,hR.gm,hR.gN,hR.vb,λe he=>by have hk:e.1∈(CA R.in_ d true).es.map (·.1):=EO.2 ⟨e,he,rfl⟩;rw[Mh] at hk;have hd:=hR.c6 d (AfO hf);grind [Bi],hR.c6,hR.gn⟩
theorem Aj7(hR:Bi R){m:Int}(hm:1<=m/\m<=3)(role:Int):Bi {R with members:=CA R.members m ⟨role,none⟩}:=⟨hR.ci,hR.cw,Hj hR.cm _,(by grind [Bi,CA]),hR.c3,(by grind [Bz,Bi.cv]),(by grind [Bz,Bi.gm]),(by grind [Bi,Bz]),(by grind [Bi,Bz]),hR.i6,hR.c6,(by grind [Bz,Bi.gn])⟩
theorem Hv{R:Ad}(hR:Bi R)(d role:Int):Bi (Je R d role):=by
 unfold Je;cases hf:D3 R d with
 |false=>exact hR
 |true=>
  cases(R.members.get (DG R d)).isSome with
  |true=>exact AfP hR hf
  |false=>refine Aj7 (AfP hR hf) ?_ role;grind [Bi,D3,DG]
def fN(a b k:Nat):Nat:=bif Nat.beq k a then b else k
theorem AhK{R:Ad}(hR:Bi R){m:Nat}(hm:R.members.get (m:Int)=none)(h3:m=1\/m=2\/m=3)(x:AA){σ:aQ}(h:ag σ 4=some (Sq f0 R)):dZ prog σ XK (.mref 4) (iG (m:Int)) (.ref 14 0)=some (4,Sq (fN (4+m) 14) {R with members:=CA R.members (m:Int) x}):=by
 rw[Q5] at h;have hk:bu (m:Int) ((JT R.members).es.map (·.1))=none:=by
  cases hk:bu (m:Int) ((JT R.members).es.map (·.1)) with
  |none=>rfl
  |some j=>obtain⟨e,_,_,h2⟩:=Nd hk;rw[aao,hm] at h2;cases h2
 have hk':bu (m:Int) (R.members.es.map (·.1))=none:=by rw[show R.members.es.map (·.1)=(JT R.members).es.map (·.1) by unfold JT;rw[Hk];rfl];exact hk
 unfold dZ;rw[show pB prog XK=some (3,211) from by kernel_rfl,show cD (iG (m:Int))=some (JG (m:Int)) from rfl,Q6 h];dsimp only;rw[O6.chk,ax,Qn,O6.key,hk];unfold Sq XL CA;rw[hk'];dsimp only;rw[List.map_append];congr 5;show UK JG (vgM f0) (JT R.members)++_=_;unfold UK JT;rw[Hk];congr 1
 .refine List.map_congr_left λe he=>?_;obtain⟨h1,h2⟩:=hR.mem he;have hne:Nat.beq (nM e.1) (4+m)=false:=by grind [nM,bc]
  show(JG e.1,G.ref (nM e.1) 0,e.2.2)=(JG e.1,G.ref (fN (4+m) 14 (nM e.1)) 0,e.2.2);unfold fN;rw[hne];rfl
 grind [fN,nM,Nat.beq_refl]
abbrev Te(R:Ad)(m:Nat)(role:Int):Ad:={R with members:=CA R.members (m:Int) ⟨role,none⟩}
theorem XN{R:Ad}{m:Nat}{role:Int}(k:Int):(Te R m role).members.get k=if k=(m:Int)then some ⟨role,none⟩else R.members.get k:=Bz _ _
theorem Ams{R:Ad}{m:Nat}(hm:R.members.get (m:Int)=none)(h3:m=1\/m=2\/m=3)(role:Int)(k:Nat)(hk:k≠4)(hk':k≠4+m):Bw f0 R k=Bw (fN (4+m) 14) (Te R m role) k:=by
 have hM:∀j,j=1\/j=2\/j=3->j≠m->roM f0 R j=roM (fN (4+m) 14) (Te R m role) j:=λj hj hne=>by unfold roM;rw[XN,BX aa];rcases h3 with rfl|rfl|rfl<;>rcases hj with rfl|rfl|rfl<;>rfl
 have hB:∀j:Nat,(Te R m role).members.get (j:Int)=none\/True->((Te R m role).members.get (j:Int)).bind (·.guard)=(R.members.get (j:Int)).bind (·.guard):=by grind [XN]
 have hG:∀j,j=1\/j=2\/j=3->roG f0 R j=roG (fN (4+m) 14) (Te R m role) j:=λj hj=>by unfold roG;rw[hB j (.inr trivial)];rcases h3 with rfl|rfl|rfl<;>rcases hj with rfl|rfl|rfl<;>rfl
 have hV:∀j,roV R j=roV (Te R m role) j:=by grind [roV]
 rcases JB k 14 with hlt|hge
 .match k,hlt with
  |0,_=>rcases h3 with rfl|rfl|rfl<;>rfl
  |1,_=>rfl
  |2,_=>rfl
  |3,_=>rfl
  |4,_=>exact absurd rfl hk
  |5,_=>exact hM 1 aa aa
  |6,_=>exact hM 2 aa aa
  |7,_=>exact hM 3 aa aa
  |8,_=>exact hG 1 aa
  |9,_=>exact hG 2 aa
  |10,_=>exact hG 3 aa
  |11,_=>exact hV 1
  |12,_=>exact hV 2
  |13,_=>exact hV 3
 .obtain⟨j,rfl⟩:∃j,k=j+14:=⟨k-14,aa⟩;rfl
theorem Aj8{R:Ad}{m:Nat}(h3:m=1\/m=2\/m=3)(role:Int):some ⟨tMe,[iG role,Acr],none⟩=Bw (fN (4+m) 14) (Te R m role) (4+m):=by have h:=XN (R:=R) (m:=m) (role:=role) m;rw[BB rfl] at h;rcases h3 with rfl|rfl|rfl<;>exact(by show _=Option.map _ _;rw[h];rfl)
abbrev rlN{R:Ad}{m:Nat}(hm:R.members.get (m:Int)=none)(h3:m=1\/m=2\/m=3)(role:Int):List HP:=hc (⟨rfl,L7 aC⟩:iU []=iU []/\bB (iU []))::L0.map λk=>if h:k=4 then hc (λob h=>h:∀ob,Bw (fN (4+m) 14) (Te R m role) 4=some ob->some (Sq (fN (4+m) 14) (Te R m role))=some ob)else if h':k=4+m then hc (λob h=>(Aj8 (R:=R) h3 role).trans h:∀ob,Bw (fN (4+m) 14) (Te R m role) (4+m)=some ob->some ⟨tMe,[iG role,Acr],none⟩=some ob)else hc (λob h2=>(Ams hm h3 role k h h').trans h2:∀ob,Bw (fN (4+m) 14) (Te R m role) k=some ob->Bw f0 R k=some ob)
theorem NP{i:Nat}{o:Option Ob}:ag [(i,o)] i=o:=by simp[A9]
abbrev hst(a b i:Nat){m:FM Int Bool}(k:Int)(h:FxOk m):HP:=Zu a [i] 14 (Akg (P:=prog) (σ:=[(i,some (M7 tMb JG bG m))]) (t:=tMb) (t':=tMb) (et:=4) (v0:=false) O6 Abm aH aH (k:=k) (gk:=iG k) rfl NP)
abbrev Amt(b a i:Nat){m:FM Int Bool}(k:Int)(h:FxOk m):HP:=hms a [i] 14 (Akh (σ:=[(i,some (M7 tMb JG bG (CA m k ((m.get k).getD false))))]) (i:=i) (t':=tMb) (kv:=JG) (vg:=bG) (m:=m) (k:=k) (v0:=(m.get k).getD false) h NP true)
theorem XP{R:Ad}(hR:Bi R)(d role:Int):SA prog gl 136 [.ref 0 0,iG d,iG role] (BW f0 R) 14 5 (iU []) (BW f0 (Je R d role)):=by
 have hok:=Hv hR d role;refine dFP func136 ?_;unfold Je at hok⊢;cases hb:D3 R d with
 |false=>exact Hi f0 R hR [hfr gl 9 hR hb] (rlK R)
 |true=>
  rw[hb] at hok;rw[ax] at hok⊢;have h1:=AfP hR hb;have h3:1<=DG R d/\DG R d<=3:=by unfold D3 at hb;simp only[bA,decide_eq_true_eq] at hb;exact⟨aa,(hR.c3 d).2⟩
  refine pO 1110 (s0 43 gl [(0,.ref 0 0),(1,iG d),(2,iG role)] (BW f0 (inR R d)) 14 5) [hfr gl 9 hR hb,hst 21 22 2 d hR.ci.1,Amt 21 22 2 d hR.ci.1,hst 23 24 3 d hR.cw.1,Amt 23 24 3 d hR.cw.1] (rlA h1) ?_ (ρ:=Ge f0) (kd:=N5);cases hm:R.members.get (DG R d) with
  |some x=>exact Hi f0 _ h1 [hof gl 27 h1 d,Lu 33 (Sr (R:=inR R d) hm)] (rlK (inR R d))
  |none=>
   rw[hm] at hok;obtain⟨m,hd,a⟩:∃m:Nat,DG R d=(m:Int)/\(m=1\/m=2\/m=3):=⟨(DG R d).toNat,aa,aa⟩;rw[hd] at hm hok⊢;have h2:Bi (Te (inR R d) m role):=hok;have hg:=AhK h1 (m:=m) hm a ⟨role,none⟩ (σ:=(14,some ⟨tMe,[iG role,Acr],none⟩)::BW f0 (inR R d)) rfl;have fin:∀(_:okF (fN (4+m) 14)=true) (e1),Gp prog Tryz.f136 (zE prog Tryz.f136 (iU []) (BW f0 (Te (inR R d) m role))) [] false [1,1,0] (s0 43 gl [(0,.ref 0 0),(1,iG d),(2,iG role)] (BW f0 (inR R d)) 14 5):=λh e1=>Hi (fN (4+m) 14) _ h2 [AfN gl 27 h1 hd,Lu 33 (XM (R:=inR R d) hm),hmp 15 hg] (rlN (R:=inR R d) hm a role) h e1;rcases a with rfl|rfl|rfl
   all_goals exact fin aH ⟨aH,aH⟩
abbrev IK(R:Ad)(d:Int):Ad:={R with in_:=LS R.in_ d}
abbrev Ss(R:Ad)(m:Int):Ad:={R with members:=LS R.members m}
def MT(R:Ad)(m:Int):Bool:=R.in_.es.any λe=>decide (DG R e.1=m)
def Ha(R:Ad)(d:Int):Ad:=bif PR R d then(bif MT (IK R d) (DG R d)then IK R d else Ss (IK R d) (DG R d))else R
theorem Aaj(hR:Bi R)(d:Int):Bi (IK R d):=⟨Re hR.ci,hR.cw,hR.cm,hR.m3,hR.c3,hR.cv,hR.gm,hR.gN,hR.vb,λe he=>hR.i6 e (Abu he),hR.c6,hR.gn⟩
theorem NQ(hR:Bi R){m:Int}(k:Int):(Ss R m).members.get k=if k=m then none else R.members.get k:=MY hR.cm _
theorem AfQ(hR:Bi R)(m:Int):Bi (Ss R m):=⟨hR.ci,hR.cw,Re hR.cm,λe he=>hR.m3 e (Abu he),hR.c3,(by grind [NQ,Bi.cv]),(by grind [NQ,Bi.gm]),(by grind [Bi,NQ]),(by grind [Bi,NQ]),hR.i6,hR.c6,(by grind [NQ,Bi.gn])⟩
theorem KX{R:Ad}(hR:Bi R)(d:Int):Bi (Ha R d):=by
 unfold Ha;cases PR R d with
 |false=>exact hR
 |true=>
  rw[ax];cases MT (IK R d) (DG R d) with
  |true=>exact Aaj hR d
  |false=>exact AfQ (Aaj hR d) _
theorem Amu(hR:Bi R){m:Int}(k:Nat)(hk:k≠4):∀ob,Bw f0 (Ss R m) k=some ob->Bw f0 R k=some ob:=λob h=>by
 have hg:∀j x,(Ss R m).members.get j=some x->R.members.get j=some x:=by grind [NQ]
 have hM:∀j ob,roM f0 (Ss R m) j=some ob->roM f0 R j=some ob:=by grind [roM,DQ]
 have hB:∀j x,((Ss R m).members.get j).bind (·.guard)=some x->(R.members.get j).bind (·.guard)=some x:=by grind [Gf]
 have hG:∀j ob,roG f0 (Ss R m) j=some ob->roG f0 R j=some ob:=by grind [roG,DQ]
 have hV:∀j ob,roV (Ss R m) j=some ob->roV R j=some ob:=by grind [roV,DQ]
 match k,D4 h with
 |0,_=>exact h
 |1,_=>exact h
 |2,_=>exact h
 |3,_=>exact h
 |4,_=>exact absurd rfl hk
 |5,_=>exact hM _ _ h
 |6,_=>exact hM _ _ h
 |7,_=>exact hM _ _ h
 |8,_=>exact hG _ _ h
 |9,_=>exact hG _ _ h
 |10,_=>exact hG _ _ h
 |11,_=>exact hV _ _ h
 |12,_=>exact hV _ _ h
 |13,_=>exact hV _ _ h
abbrev Aot{R:Ad}(hR:Bi R)(m:Int):List HP:=hc (⟨rfl,L7 aC⟩:iU []=iU []/\bB (iU []))::L0.map λk=>if h:k=4 then hc (λob h=>h:∀ob,Bw f0 (Ss R m) 4=some ob->some (Sq f0 (Ss R m))=some ob)else hc (Amu hR (m:=m) k h)
theorem NR{α β:Type}{f:α->β}:∀{l:List α},(l.map f).Nodup->∀{x y:α},x∈l->y∈l->f x=f y->x=y
 |[],_,x,_,h,_,_=>by cases h
 |a::r,hd,x,y,hx,hy,e=>by
  rw[Fi,M0] at hd;rcases EG.1 hx with h1|h1<;>rcases EG.1 hy with h2|h2
  .rw[h1,h2]
  .grind
  .grind
  .exact NR hd.2 h1 h2 e
theorem AhL(R:Ad)(d:Int):bL prog [(2,some (M7 tMb JG bG R.in_))] tMb false (.mref 2) (iG d)=some (bG (PR R d)):=(Q9 (et:=4) O6 aH (k:=d) rfl rfl).trans (Q2 R.in_ d _)
abbrev Aak(t:Bj)(i clk:Nat)(seen:Br):Option Ob:=some ⟨t,[],some (.iter (some i) clk seen clk)⟩
abbrev stW(R:Ad)(seen:Br):aQ:=BW f0 R++[(14,Aak tMb 2 R.in_.clk seen)]
theorem Aal{R:Ad}(hR:Bi R)(d:Int):SA prog gl 137 [.ref 0 0,iG d] (BW f0 R) 14 5 (iU []) (BW f0 (Ha R d)):=by
 refine dFP func137 ?_;have lk:=AhL R d;unfold Ha;cases hb:PR R d with
 |false=>rw[hb] at lk;exact Hi f0 R hR [Lu 11 lk] (rlK R)
 |true=>
  rw[hb] at lk;rw[ax];have h1:=Aaj hR d;have hd:=Akf (P:=prog) (σ:=BW f0 R) (i:=2) (t:=tMb) (t':=tMb) (vg:=bG) (et:=4) O6 aH (k:=d) (gk:=iG d) rfl (m:=R.in_) rfl;refine pO 111100 (s0 40 gl [(0,.ref 0 0),(1,iG d),(4,iG (DG R d))] (BW f0 (IK R d)) 14 5) [Lu 11 lk,hmd 14 hd,hof gl 20 h1 d] (rlA h1) ?_ (ρ:=Ge f0) (kd:=N5);refine yl (Bs':=[]) [1,1,1,0,0] (J:=(s0 40 gl [(0,.ref 0 0),(1,iG d),(4,iG (DG R d)),(25,.ref 14 0)] (stW (IK R d) []) 15 5)) [] (rlB (Ge f0++[(14,14)]) f0 h1) ?_ (ρ:=Ge f0++[(14,14)]) (kd:=N5);refine dNx 111101 ?_;generalize hm:DG R d=m;have hmm:∀e,DG (IK R d) e=DG R e:=λe=>rfl;refine dMw 25 26 27 0 (iti:=14) (mi:=2) (clock:=(IK R d).in_.clk) (since:=(IK R d).in_.clk) (T:=tMb) (ty:=tMb) (es:=UK JG bG (IK R d).in_) (λseen=>(s0 40 gl [(0,.ref 0 0),(1,iG d),(4,iG m),(25,.ref 14 0)] (stW (IK R d) seen) 15 5)) (λseen=>∀e∈(IK R d).in_.es,e.2.2∈seen->DG R e.1≠m) (λe _ h=>by cases h) (λe he=>by obtain⟨x,hx,rfl⟩:=EO.1 he;exact h1.ci.lt x hx) rfl (Le.refl _) (λseen=>aH) (λseen=>aH) (by grind) (λB seen k g n hI Zu hns b=>?_) (λseen hI hs=>?_)
  .obtain⟨e,he,a⟩:=EO.1 Zu;simp only[Ft] at a;obtain⟨rfl,rfl,rfl⟩:=a;have hge:jr ((14,Aak tMb 2 (IK R d).in_.clk (seen++[e.2.2]))::stW (IK R d) seen) (.ref 14 0)=some (.tup [db (JG e.1),bG e.2.1]):=yo (iti:=14) (mi:=2) (since:=(IK R d).in_.clk) (clock:=(IK R d).in_.clk) (T:=tMb) (ty:=tMb) (seen:=seen) aH aH (by rw[Hk];exact h1.ci.nd) Zu;by_cases hk:DG R e.1=m
   .rw[show MT (IK R d) m=true from List.any_eq_true.2 ⟨e,he,C6 hk⟩,ax];exact Hi f0 _ h1 [YT 28 hge,hof gl 32 h1 e.1 15,hr 34 (show decide (DG R e.1=m)=true from C6 hk)] (rlK (IK R d))
   .refine jw [YT 28 hge,hof gl 32 h1 e.1 15,hr 34 (show decide (DG R e.1=m)=false from Dl hk)] (rlB (Ge f0++[(14,14)]) f0 h1) (b λx hx h=>?_) (ρ:=Ge f0++[(14,14)]) (kd:=N5);rcases JF.1 h with h|h
    .exact hI x hx h
    .rw[List.mem_singleton] at h;have:x=e:=NR h1.ci.nd hx he h;rw[this];exact hk
  .have hst:MT (IK R d) m=false:=by
    cases hst:MT (IK R d) m with
    |false=>rfl
    |true=>obtain⟨e,he,h⟩:=List.any_eq_true.1 hst;exact absurd (DV h) (hI e he (hs (JG e.1,bG e.2.1,e.2.2) (EO.2 ⟨e,he,rfl⟩)))
   rw[hst,Bf];have h4:=Akf (P:=prog) (σ:=stW (IK R d) seen) (i:=4) (t:=XK) (t':=XK) (vg:=vgM f0) (et:=211) O6 aH (k:=m) (gk:=iG m) rfl (m:=JT R.members) (by rw[<-Q5];kernel_rfl);rw[Aec,show M7 XK JG (vgM f0) (JT (LS R.members m))=Sq f0 (Ss (IK R d) m) from(Q5 f0 (Ss (IK R d) m)).symm] at h4;exact Hi f0 _ (AfQ h1 m) [hmd 15 h4] (Aot h1 m)
abbrev oOp(o:Bo):Option Ob:=some ⟨70,aJ o,none⟩
abbrev Po(i:Ab):Option Ob:=some ⟨41,aj i,none⟩
abbrev AfR(R:Ad)(o:Bo)(i:Ab):aQ:=BW f0 R++[(14,oOp o),(15,Po i)]
abbrev U2(R:Ad)(o:Bo)(i:Ab)(R':Ad):Prop:=SA prog gl 73 [.ref 0 0,.agg (aJ o),.agg (aj i)] (BW f0 R) 14 5 (iU []) (BW f0 R')
theorem P2{R:Ad}(hR:Bi R){i:Ab}(h:Gp prog Tryz.f73 (zE prog Tryz.f73 (iU []) (BW f0 R')) [] false [1,1,0] (s0 259 gl [(0,.ref 0 0),(4,.ref 14 0),(5,.ref 15 0)] (AfR R o i) 16 5)):U2 gl R o i R':=by refine dFP func73 ?_;exact pO 1110 (s0 259 gl [(0,.ref 0 0),(4,.ref 14 0),(5,.ref 15 0)] (AfR R o i) 16 5) [hof gl 24 hR o.By 16,Lu 25 (Aj6 R (DG R o.By))] (rlB (Ge f0++[(14,14),(15,15)]) f0 hR) h (ρ:=Ge f0++[(14,14),(15,15)]) (kd:=N5)
abbrev f16:Nat->Nat:=fW f0 16
abbrev rlX{f:Nat->Nat}{R:Ad}:List HP:=hc (⟨rfl,L7 aC⟩:iU []=iU []/\bB (iU []))::L0.map λk=>hc (λob h=>h:∀ob,Bw f R k=some ob->Bw f R k=some ob)
theorem Aj9{R:Ad}(hR:Bi R){i:Ab}(hk:o.Kind=2):U2 gl R o i (Je R o.Device o.Role):=by refine P2 gl hR ?_;exact Hi f16 _ (Hv hR _ _) [hr 29 (show decide (o.Kind=1)=false by rw[hk];rfl),hr 52 (show decide (o.Kind=2)=true by rw[hk];rfl),hrw 58 f0 16 [iG o.Device,iG o.Role] hR (Hv hR _ _) (XP gl hR o.Device o.Role)] (rlX (f:=f16) (R:=Je R o.Device o.Role))
theorem Aed{R:Ad}(hR:Bi R){i:Ab}(hk:o.Kind=3)(hd:o.Device≠0):U2 gl R o i (Ha R o.Device):=by refine P2 gl hR ?_;exact Hi f16 _ (KX hR _) [hr 29 (show decide (o.Kind=1)=false by rw[hk];rfl),hr 52 (show decide (o.Kind=2)=false by rw[hk];rfl),hr 60 (show decide (o.Kind=3)=true by rw[hk];rfl),hr 63 (show decide (o.Device≠0)=true from C6 hd),hrw 67 f0 16 [iG o.Device] hR (KX hR _) (Aal gl hR o.Device)] (rlX (f:=f16) (R:=Ha R o.Device))
theorem AhM{R:Ad}(hR:Bi R){i:Ab}(h1:o.Kind≠1)(h2:o.Kind≠2)(h3:o.Kind≠3)(h5:o.Kind≠5)(h9:o.Kind≠9)(h11:o.Kind≠11)(h12:o.Kind≠12)(h13:o.Kind≠13):U2 gl R o i R:=by refine P2 gl hR ?_;exact Hi f0 _ hR [hr 29 (Dl h1),hr 52 (Dl h2),hr 60 (Dl h3),hr 86 (Dl h5),hr 102 (Dl h9),hr 120 (Dl h11),hr 168 (Dl h12),hr 213 (Dl h13)] (rlX (f:=f0) (R:=R))
abbrev Amv(t:Nat->Option Ob):aQ:=L0.map λk=>(k,t k)
abbrev frJ(a b:Nat){R:Ad}{k:Int}{x:AA}(_:R.members.get k=some x):Fr:=[(a,iG k),(b,.ref (nM k) 0)]
def tg(R:Ad)(l:List (Nat×Ob))(k:Nat):Option Ob:=match l.find? λq=>Nat.beq q.1 k with
 |some q=>some q.2
 |none=>Bw f0 R k
theorem aas(h:∀q∈l,Bw f0 R q.1=some q.2)(k:Nat):tg R l k=Bw f0 R k:=by grind [tg,bc]
abbrev stT{R:Ad}{l:List (Nat×Ob)}(_:∀q∈l,Bw f0 R q.1=some q.2):aQ:=Amv (tg R l)
abbrev rlT(ρ:DH)(f:Nat->Nat){R:Ad}(hR:Bi R){l:List (Nat×Ob)}(hl:∀q∈l,Bw f0 R q.1=some q.2)(h:okR ρ f=true:=by kernel_rfl):List HP:=L0.map λk=>hc (show Za (Iu ρ) (Bw f R k) (tg R l k) from(aas hl k).symm▸PP (κ:=Iu ρ) (f:=f) (f':=f0) (λk ⟨ob,hk⟩=>Aai h (D4 hk)) hR k)
abbrev Amw(ρ:DH){R:Ad}(hR:Bi R){l:List (Nat×Ob)}(hl:∀q∈l,Bw f0 R q.1=some q.2)(h:okR ρ f0=true:=by kernel_rfl):List HP:=L0.map λk=>hc (show Za (Iu ρ) (tg R l k) (Bw f0 R k) from(aas hl k).symm▸PP (κ:=Iu ρ) (f:=f0) (f':=f0) (λk ⟨ob,hk⟩=>Aai h (D4 hk)) hR k)
abbrev HC(R:Ad){r:G}(hr:bB r):List HP:=hc (⟨rfl,hr⟩:r=r/\bB r)::L0.map λk=>hc (λob h=>h:∀ob,Bw f0 R k=some ob->Bw f0 R k=some ob)
abbrev XQ{R:Ad}{l:List (Nat×Ob)}(hl:∀q∈l,Bw f0 R q.1=some q.2){r:G}(hr:bB r):List HP:=hc (⟨rfl,hr⟩:r=r/\bB r)::L0.map λk=>hc (λob h=>(aas hl k).trans h:∀ob,Bw f0 R k=some ob->tg R l k=some ob)
abbrev eM(k:Nat)(x:AA):Nat×Ob:=(4+k,⟨tMe,[iG x.role,gpG f0 k x],none⟩)
abbrev eG(k:Nat)(g:CM):Nat×Ob:=(7+k,⟨tGu,guC f0 k g,none⟩)
abbrev eV(k:Nat)(g:CM):Nat×Ob:=(10+k,M7 tMv Cd iG g.vouches)
theorem Adt(h3:k=1\/k=2\/k=3)(h:R.members.get (k:Int)=some x):Bw f0 R (eM k x).1=some (eM k x).2:=by rcases h3 with rfl|rfl|rfl<;>exact(by show Option.map _ _=_;rw[h];rfl)
theorem AfS(h3:k=1\/k=2\/k=3)(h:R.members.get (k:Int)=some x)(hg:x.guard=some g):Bw f0 R (eG k g).1=some (eG k g).2:=by rcases h3 with rfl|rfl|rfl<;>exact(by show(Option.bind _ _).map _=_;grind)
theorem Amx(h3:k=1\/k=2\/k=3)(h:R.members.get (k:Int)=some x)(hg:x.guard=some g):Bw f0 R (eV k g).1=some (eV k g).2:=by rcases h3 with rfl|rfl|rfl<;>exact(by show(Option.bind _ _).map _=_;grind)
def LB(x:AA)(i:Ab):Bool:=match x.guard with
 |none=>false
 |some g=>decide (g.id=i)
def Hw(R:Ad)(i:Ab):Int:=match R.members.es.find? λe=>LB e.2.1 i with
 |some e=>e.1
 |none=>0
theorem Bi.uni{R:Ad}(hR:Bi R){k k':Int}{x x':AA}{i:Ab}(h:R.members.get k=some x)(h':R.members.get k'=some x')(g:LB x i=true)(a:LB x' i=true):k=k':=by grind [Bi,LB]
theorem AfT(hR:Bi R){e:Int×AA×Nat}(he:e∈R.members.es){i:Ab}(h:LB e.2.1 i=true):Hw R i=e.1:=by
 unfold Hw;split
 .rename_i q hq;exact hR.uni (hR.mem (List.mem_of_find?_eq_some hq)).1 (hR.mem he).1 (by have:=List.find?_some hq;exact this) h
 grind
theorem Aee{i:Ab}(h:∀e∈R.members.es,LB e.2.1 i=false):Hw R i=0:=by grind [Hw]
abbrev stU(R:Ad)(i:Ab)(seen:Br):aQ:=BW f0 R++[(14,Po i),(15,Aak XK 4 R.members.clk seen)]
abbrev frU:Fr:=[(0,.ref 0 0),(3,.ref 14 0),(11,.ref 15 0)]
abbrev ρ15:DH:=Ge f0++[(14,14),(15,15)]
theorem Abr(hR:Bi R)(i:Ab):SA prog gl 139 [.ref 0 0,.agg (aj i)] (BW f0 R) 14 14 (iG (Hw R i)) (BW f0 R):=by
 refine dFP func139 ?_;refine pO 1100 (s0 34 gl [(0,.ref 0 0),(3,.ref 14 0)] (BW f0 R++[(14,Po i)]) 15 14) [] (rlB (Ge f0++[(14,14)]) f0 hR) ?_ (ρ:=Ge f0++[(14,14)]) (kd:=N5);refine yl (Bs':=[]) [1,0,0] (J:=(s0 34 gl frU (stU R i []) 16 14)) [] (rlB ρ15 f0 hR) ?_ (kd:=N5);refine dNx 1101 ?_;refine dMw 11 12 13 0 (iti:=15) (mi:=4) (clock:=R.members.clk) (since:=R.members.clk) (T:=XK) (ty:=XK) (es:=XL f0 R.members) (λseen=>(s0 34 gl frU (stU R i seen) 16 14)) (λseen=>∀e∈R.members.es,e.2.2∈seen->LB e.2.1 i=false) (λe _ h=>by cases h) (λe he=>by obtain⟨x,hx,rfl⟩:=EO.1 he;exact hR.cm.lt x hx) rfl (Le.refl _) (λseen=>aH) (λseen=>aH) (λseen=>⟨show 12<34 by decide,show 13<34 by decide⟩) (λB seen k g n hI Zu hns a=>?_) (λseen hI hs=>?_)
 .obtain⟨e,he,c⟩:=EO.1 Zu;simp only[Ft] at c;obtain⟨rfl,rfl,rfl⟩:=c;have hge:jr ((15,Aak XK 4 R.members.clk (seen++[e.2.2]))::stU R i seen) (.ref 15 0)=some (.tup [db (JG e.1),.ref (nM e.1) 0]):=yo (iti:=15) (mi:=4) (since:=R.members.clk) (clock:=R.members.clk) (T:=XK) (ty:=XK) (seen:=seen) aH aH (by rw[Hk];exact hR.cm.nd) Zu;obtain⟨hm,h3⟩:=hR.mem he;have hI':LB e.2.1 i=false->∀x∈R.members.es,x.2.2∈seen++[e.2.2]->LB x.2.1 i=false:=λhk x hx h=>by
   rcases JF.1 h with h|h
   .exact hI x hx h
   .rw[List.mem_singleton] at h;rw[NR hR.cm.nd hx he h];exact hk
  have hw:=AfT hR he (i:=i);obtain⟨k,x,n⟩:=e;dsimp only at hge hm h3 hI' hw a;obtain⟨j,rfl,b⟩:∃j:Nat,k=(j:Int)/\(j=1\/j=2\/j=3):=⟨k.toNat,aa,aa⟩;obtain⟨role,gd⟩:=x;have e1:=Adt b hm;cases gd with
  |none=>
   have a:=a (hI' rfl);have hl:∀q∈[eM j ⟨role,none⟩],Bw f0 R q.1=some q.2:=λq hq=>by rw[List.mem_singleton.1 hq];exact e1
   rcases b with rfl|rfl|rfl
   all_goals
    refine pO 11012211210 (s0 34 gl (frJ 5 6 hm++frU) (stT hl++[(14,Po i),(15,Aak XK 4 R.members.clk (seen++[n]))]) 16 14) [YT 14 hge] (rlT ρ15 f0 hR hl) ?_ (ρ:=ρ15) (kd:=N5)
    exact jw [] (Amw ρ15 hR hl) a (kd:=N5)
  |some g=>
   have e2:=AfS b hm rfl;have hl:∀q∈[eM j ⟨role,some g⟩,eG j g],Bw f0 R q.1=some q.2:=λq hq=>by
    rcases EG.1 hq with rfl|hq
    .exact e1
    .rw[List.mem_singleton.1 hq];exact e2
   cases hd:decide (g.id=i) with
   |false=>
    have a:=a (hI' hd);rcases b with rfl|rfl|rfl
    all_goals
     refine pO 11012211210 (s0 34 gl (frJ 5 6 hm++frU) (stT hl++[(14,Po i),(15,Aak XK 4 R.members.clk (seen++[n]))]) 16 14) [YT 14 hge] (rlT ρ15 f0 hR hl) ?_ (ρ:=ρ15) (kd:=N5)
     exact jw [hV 31 (dU g.id i hd)] (Amw ρ15 hR hl) a (kd:=N5)
   |true=>
    rw[show Hw R i=(j:Int) from hw hd];have hr:bB (iG (j:Int)):=mN _;rcases b with rfl|rfl|rfl
    all_goals
     refine pO 11012211210 (s0 34 gl (frJ 5 6 hm++frU) (stT hl++[(14,Po i),(15,Aak XK 4 R.members.clk (seen++[n]))]) 16 14) [YT 14 hge] (rlT ρ15 f0 hR hl) ?_ (ρ:=ρ15) (kd:=N5)
     exact Hi f0 _ hR [hV 31 (dU g.id i hd)] (XQ hl hr)
 .rw[Aee λe he=>hI e he (hs (JG e.1,.ref (nM e.1) 0,e.2.2) (EO.2 ⟨e,he,rfl⟩))];exact Hi f0 _ hR [] (HC R (mN (.int .i64 0)))
end
theorem Akd(h:k<4611686018427387904):wI ((k:Int)+1)=((k+1:Nat):Int):=by unfold wI;rw[IntKind.wrap_i64];omega
theorem Ake{s:List α}(p:α->Bool)(hn:s.length<2305843009213693952){step:Int->Option (Int⊕(Unit⊕Int))}(hs:∀(k:Nat) (x:α),s[k]?=some x->step (k:Int)=some (if p x=true then .inr (.inr (k:Int))else .inl (wI ((k:Int)+1))))(he:step (s.length:Int)=some (.inr (.inl ()))):∃r:Unit⊕Int,AH step 0=some r/\((r= .inl ()/\s.any p=false)\/∃j:Nat,r= .inr (j:Int)/\s.any p=true/\s.findIdx? p=some j):=by
 obtain⟨r,h1,h2⟩:T (AH step 0) λr=>(r= .inl ()/\s.any p=false)\/∃j:Nat,r= .inr (j:Int)/\s.any p=true/\s.findIdx? p=some j:=by
  refine T.forI s.length (λk=>∀j,j<k->∀x,s[j]?=some x->p x=false) hn (λj h=>aa) (λk hk a=>?_) λa=>?_
  .obtain⟨x,hx⟩:∃x,s[k]?=some x:=⟨_,EA hk⟩;rw[hs k x hx];cases hp:p x with
   |true=>refine⟨_,rfl,.inr ⟨k,rfl,(by grind),?_⟩⟩;grind [List.findIdx?_eq_some_iff_getElem]
   |false=>refine⟨_,rfl,?_⟩;rw[BX BU];constructor<;>grind [Akd]
  .rw[he];refine⟨_,rfl,.inl ⟨rfl,?_⟩⟩;grind [Gu]
 exact⟨r,h1,h2⟩
theorem Bt{s:List α}{x:α}(h:s[k]?=some x):aS s (k:Int)=some x:=by grind [aS]
theorem CB{s:List α}{k:Nat}{x:α}(h:s[k]?=some x):decide ((k:Int)<ah s)=true:=by grind [ah]
theorem DS{s:List α}:decide ((s.length:Int)<ah s)=false:=Dl (by unfold ah;omega)
theorem Tk[DecidableEq α]{s:List α}(hn:s.length<2305843009213693952)(v:α):Acc s v=some (s.any λy=>decide (v=y)):=by
 obtain⟨r,h1,h2⟩:=Ake (s:=s) (λy=>decide (v=y)) hn (step:=abh s v) (by grind [abh,CB,Bt]) (by unfold abh;rw[DS];rfl);unfold Acc ixT;rw[h1];rcases h2 with⟨rfl,h2⟩|⟨j,rfl,h2,_⟩<;>rw[h2]
 .rfl
 .show some (decide (0<=(j:Int)))=_;rw[C6 aa]
theorem Abt{s:List α}{f:α->Fo}{p:α->Bool}(hn:s.length<2305843009213693952)(hf:∀x∈s,f x=some (p x)):Aa7 s f=some (s.any p):=by
 obtain⟨r,h1,h2⟩:=Ake (s:=s) p hn (step:=KS s f) (by grind [KS,CB,Bt]) (by unfold KS;rw[DS];rfl);unfold Aa7 Y4;rw[h1];rcases h2 with⟨rfl,h2⟩|⟨j,rfl,h2,_⟩<;>rw[h2]
 .rfl
 .show some (decide (0<=(j:Int)))=_;rw[C6 aa]
section
attribute [local irreducible] Tr dz Gp
def AfU(m:FM Int AA):FM Int (Option AA):=⟨m.es.map λe=>(e.1,some e.2.1,e.2.2),m.clk⟩
theorem AfV(m:FM Int AA)(k:Int):(AfU m).get k=(m.get k).map some:=by unfold FM.get AfU;dsimp only;induction m.es<;>grind
theorem AhO(R:Ad)(m:Int):∀σ,bL prog σ XK false (FM.g JG (λx=> .ptr (FF x) 0) R.members) (iG m)=some (npG FF (R.members.get m)):=λσ=>by
 have h:=FM.look1 (et:=211) O6 (t:=XK) (vg:=npG FF) (v0:=none) aH aH (AfU R.members) m (gk:=iG m) rfl σ;have e:(AfU R.members).g JG (npG FF)=FM.g JG (λx=> .ptr (FF x) 0) R.members:=by unfold FM.g AfU;simp only[Hk];rfl
 rw[e,AfV] at h;rw[h];cases R.members.get m<;>rfl
abbrev frI(a:Nat){R:Ad}{k:Int}{x:AA}(_:R.members.get k=some x):Fr:=[(a,iG k)]
theorem VG(R:Ad)(m:Int):ba prog gl 140 [.ptr (CO R) 0,iG m] (iG (M6 R m)):=by
 have h:=AhO R m;unfold M6;cases hx:R.members.get m with
 |none=>rw[hx] at h;exact Gh func140 (Ar [hm 11 h] [])
 |some x=>rw[hx] at h;exact Gh func140 (Ar [hm 11 h] [])
def Dq(R:Ad)(o:Bo):Int×Int:=match R.members.es.find? λe=>LB e.2.1 o.Of with
 |none=>(0,25)
 |some e=>match e.2.1.guard with
  |none=>(0,25)
  |some g=>bif g.guards.any λy=>decide (o.By=y)then(e.1,0)else(0,14)
theorem Ur(hR:Bi R)(o:Bo):SA prog gl 138 [.ref 0 0,.agg (aJ o)] (BW f0 R) 14 14 (.tup [iG (Dq R o).1,iG (Dq R o).2]) (BW f0 R):=by
 refine dFP func138 ?_;have hr2:∀a b:Int,bB (.tup [iG a,iG b]):=by grind [L7,mN]
 have hw:=Abr gl hR o.Of;unfold Dq;cases hfi:R.members.es.find? λe=>LB e.2.1 o.Of with
 |none=>rw[show Hw R o.Of=0 by unfold Hw;rw[hfi]] at hw;have hr:=hr2 0 25;exact Hi f0 _ hR [hrr 10 f0 15 [.agg (aj o.Of)] hR hw] (HC R hr)
 |some e=>
  have he:=List.mem_of_find?_eq_some hfi;have hg:LB e.2.1 o.Of=true:=by have:=List.find?_some hfi;exact this
  obtain⟨hx,h3⟩:=hR.mem he;rw[show Hw R o.Of=e.1 by unfold Hw;rw[hfi]] at hw;obtain⟨k,x,n⟩:=e;dsimp only at hx h3 hw hg⊢;obtain⟨j,rfl,d⟩:∃j:Nat,k=(j:Int)/\(j=1\/j=2\/j=3):=by grind
  obtain⟨role,gd⟩:=x;cases gd with
  |none=>cases hg
  |some g=>
   have e1:=Adt d hx;have e2:=AfS d hx rfl;have hl:∀q∈[eM j ⟨role,some g⟩,eG j g],Bw f0 R q.1=some q.2:=by grind
   have hlk:=Sr hx;have c:=DF gl (Tk (Nat.lt_of_le_of_lt (hR.gn _ _ _ hx rfl) BU) o.By);dsimp only;cases hb:g.guards.any λy=>decide (o.By=y) with
   |false=>
    rw[hb] at c;have hr:=hr2 0 14;rcases d with rfl|rfl|rfl
    all_goals
     refine pO 11102140 (s0 32 gl (frI 6 hx++[(0,.ref 0 0),(3,.ref 14 0)]) (stT hl++[(14,oOp o)]) 15 14) [hrr 10 f0 15 [.agg (aj o.Of)] hR hw] (rlT (Ge f0++[(14,14)]) f0 hR hl) ?_ (ρ:=Ge f0++[(14,14)]) (kd:=N5)
     exact Hi f0 _ hR [Lu 20 hlk,hf 29 c] (XQ hl hr)
   |true=>
    rw[hb] at c;have hr:=hr2 (j:Int) 0;rcases d with rfl|rfl|rfl
    all_goals
     refine pO 11102140 (s0 32 gl (frI 6 hx++[(0,.ref 0 0),(3,.ref 14 0)]) (stT hl++[(14,oOp o)]) 15 14) [hrr 10 f0 15 [.agg (aj o.Of)] hR hw] (rlT (Ge f0++[(14,14)]) f0 hR hl) ?_ (ρ:=Ge f0++[(14,14)]) (kd:=N5)
     exact Hi f0 _ hR [Lu 20 hlk,hf 29 c] (XQ hl hr)
abbrev HU(R:Ad)(k:Int)(x:AA):Ad:={R with members:=CA R.members k x}
theorem JM{R:Ad}{k:Int}{x:AA}(j:Int):(HU R k x).members.get j=if j=k then some x else R.members.get j:=Bz _ _
theorem Aka{k:Int}(h:R.members.get k=some x):(HU R k x').members.es.map (·.1)=R.members.es.map (·.1):=by grind [Mh,GK]
theorem AhP{k:Int}(h:R.members.get k=some x)(f:Nat->Nat):Sq f (HU R k x')=Sq f R:=by
 show(⟨_,_,some (.map _ _)⟩:Ob)=⟨_,_,some (.map _ _)⟩;have key:XL f (CA R.members k x')=XL f R.members/\(CA R.members k x').clk=R.members.clk:=by
  unfold CA XL;cases hk:bu k (R.members.es.map (·.1)) with
  |none=>rw[Tz hk] at h;cases h
  |some j=>obtain⟨e,he,rfl,_⟩:=Nd hk;refine⟨?_,rfl⟩;dsimp only;rw[he,List.map_set];apply List.ext_getElem?;grind
 grind
theorem Aam(hR:Bi R){k:Int}(h:R.members.get k=some x)(hv:∀g,x'.guard=some g->Nr g.vouches/\(DY (R.cards.get g.id.By)).Member=k/\g.guards.length<=1000000/\(1<=g.need/\g.need<=1000000)/\∀e∈g.vouches.es,1<=e.1.by_/\e.1.by_<=6):Bi (HU R k x'):=by
 have cas:∀(j:Int) (y:AA) (g:CM),(HU R k x').members.get j=some y->y.guard=some g->(j=k/\x'.guard=some g)\/(R.members.get j=some y):=by grind [JM]
 refine⟨hR.ci,hR.cw,Hj hR.cm _,λe he=>?_,hR.c3,λj y g h1 h2=>?_,λj y g h1 h2=>?_,λj y g h1 h2=>?_,λj y g h1 h2=>?_,hR.i6,hR.c6,λj y g h1 h2=>?_⟩
 .have hk:e.1∈(HU R k x').members.es.map (·.1):=EO.2 ⟨e,he,rfl⟩;rw[Aka h] at hk;grind [Bi]
 .grind [Bi.cv]
 .grind [Bi.gm]
 .grind [Bi.gN]
 .rcases cas j y g h1 h2 with⟨rfl,h3⟩|h3
  .exact(hv g h3).2.2.2.2
  .exact hR.vb j y g h3 h2
 grind [Bi.gn]
theorem AfW(hx:R.members.get (k:Int)=some x)(q:Nat)(h4:q≠4+k)(h7:q≠7+k\/x'.guard=none)(h10:q≠10+k\/x'.guard=none):∀ob,Bw f0 (HU R (k:Int) x') q=some ob->Bw f0 R q=some ob:=λob h=>by
 have hM:∀j:Nat,j≠k->roM f0 (HU R (k:Int) x') j=roM f0 R j:=by grind [roM,JM]
 have hB:∀j:Nat,j≠k\/x'.guard=none->∀y,((HU R (k:Int) x').members.get (j:Int)).bind (·.guard)=some y->(R.members.get (j:Int)).bind (·.guard)=some y:=by grind [JM]
 have hG:∀j:Nat,j≠k\/x'.guard=none->∀ob,roG f0 (HU R (k:Int) x') j=some ob->roG f0 R j=some ob:=by grind [roG,DQ]
 have hV:∀j:Nat,j≠k\/x'.guard=none->∀ob,roV (HU R (k:Int) x') j=some ob->roV R j=some ob:=by grind [roV,DQ]
 match q,D4 h with
 |0,_=>exact h
 |1,_=>exact h
 |2,_=>exact h
 |3,_=>exact h
 |4,_=>rw[<-h];exact congrArg some (AhP hx f0).symm
 |5,_=>rw[<-h];exact(hM 1 aa).symm
 |6,_=>rw[<-h];exact(hM 2 aa).symm
 |7,_=>rw[<-h];exact(hM 3 aa).symm
 |8,_=>exact hG 1 (h7.imp (λh=>aa) id) ob h
 |9,_=>exact hG 2 (h7.imp (λh=>aa) id) ob h
 |10,_=>exact hG 3 (h7.imp (λh=>aa) id) ob h
 |11,_=>exact hV 1 (h10.imp (λh=>aa) id) ob h
 |12,_=>exact hV 2 (h10.imp (λh=>aa) id) ob h
 |13,_=>exact hV 3 (h10.imp (λh=>aa) id) ob h
def tgU(R:Ad)(l a:List (Nat×Ob))(k:Nat):Option Ob:=match a.find? λq=>Nat.beq q.1 k with
 |some q=>some q.2
 |none=>tg R l k
theorem Akb{l':List (Nat×Ob)}(hl:∀q∈l,Bw f0 R q.1=some q.2)(a:∀q∈l',Bw f0 R' q.1=some q.2)(hs:∀q,(∀e∈l',e.1≠q)->∀ob,Bw f0 R' q=some ob->Bw f0 R q=some ob)(k:Nat):∀ob,Bw f0 R' k=some ob->tgU R l l' k=some ob:=by grind [tgU,bc,aas,Nat.beq_refl]
abbrev rlU{R R':Ad}{l l':List (Nat×Ob)}(hl:∀q∈l,Bw f0 R q.1=some q.2)(a:∀q∈l',Bw f0 R' q.1=some q.2)(hs:∀q,(∀e∈l',e.1≠q)->∀ob,Bw f0 R' q=some ob->Bw f0 R q=some ob):List HP:=hc (⟨rfl,L7 aC⟩:iU []=iU []/\bB (iU []))::L0.map λk=>hc (Akb hl a hs k)
theorem hl1{x:AA}(h3:k=1\/k=2\/k=3)(h:R.members.get (k:Int)=some x):∀q∈[eM k x],Bw f0 R q.1=some q.2:=by grind [Adt]
theorem hl3{R:Ad}{role:Int}{g:CM}(h3:k=1\/k=2\/k=3)(h:R.members.get (k:Int)=some ⟨role,some g⟩):∀q∈[eM k ⟨role,some g⟩,eG k g,eV k g],Bw f0 R q.1=some q.2:=λq hq=>by
 simp only[EG,K3,or_false] at hq;rcases hq with rfl|rfl|rfl
 .exact Adt h3 h
 all_goals grind [AfS,Amx]
theorem hs1{k:Nat}{role:Int}(hx:R.members.get (k:Int)=some x):∀q,(∀e∈[eM k (⟨role,none⟩:AA)],e.1≠q)->∀ob,Bw f0 (HU R (k:Int) ⟨role,none⟩) q=some ob->Bw f0 R q=some ob:=λq hq=>AfW hx q (λe=>hq _ (List.mem_singleton.2 rfl) e.symm) (.inr rfl) (.inr rfl)
theorem hs3{R:Ad}{role:Int}{g:CM}(hx:R.members.get (k:Int)=some x):∀q,(∀e∈[eM k (⟨role,some g⟩:AA),eG k g,eV k g],e.1≠q)->∀ob,Bw f0 (HU R (k:Int) ⟨role,some g⟩) q=some ob->Bw f0 R q=some ob:=λq hq=>AfW hx q (λe=>(by simp_all)) (.inl λe=>hq (eG k g) aC e.symm) (.inl λe=>hq (eV k g) aC e.symm)
def UJ(R:Ad)(o:Bo):Ad:=match R.members.get o.Member with
 |none=>R
 |some x=>HU R o.Member ⟨o.Role,x.guard⟩
theorem Adu(hR:Bi R)(o:Bo):Bi (UJ R o):=by
 unfold UJ;split
 .exact hR
 .rename_i x hx;exact Aam hR hx (by grind [Bi])
abbrev frP(a:Nat){R:Ad}{k:Int}{x:AA}(_:R.members.get k=some x):Fr:=[(a,.ref (nM k) 0)]
abbrev ρD:DH:=Ge f0++[(14,14),(15,15)]
theorem Acu(hR:Bi R){i:Ab}(hk:o.Kind=5):U2 gl R o i (UJ R o):=by
 have hok:=Adu hR o;refine P2 gl hR ?_;have a1:decide (o.Kind=1)=false:=by rw[hk];rfl
 have a2:decide (o.Kind=2)=false:=by rw[hk];rfl
 have a3:decide (o.Kind=3)=false:=by rw[hk];rfl
 have a5:decide (o.Kind=5)=true:=by rw[hk];rfl
 unfold UJ at hok⊢;cases hx:R.members.get o.Member with
 |none=>exact Hi f0 _ hR [hr 29 a1,hr 52 a2,hr 60 a3,hr 86 a5,Lu 93 (XM hx)] (rlX (f:=f0) (R:=R))
 |some x=>
  rw[hx] at hok;have hlk:=Sr hx;obtain⟨j,hj,b⟩:∃j:Nat,o.Member=(j:Int)/\(j=1\/j=2\/j=3):=by have:=AhJ hR hx;exact⟨o.Member.toNat,aa,aa⟩
  dsimp only at hok⊢;rw[hj] at hx hok⊢;rw[show(.ref (nM o.Member) 0:G)= .ref (nM (j:Int)) 0 by rw[hj]] at hlk;obtain⟨role,gd⟩:=x;have hg':(HU R (j:Int) ⟨o.Role,gd⟩).members.get (j:Int)=some ⟨o.Role,gd⟩:=by rw[JM,BB rfl]
  cases gd with
  |none=>
   have hl:=hl1 b hx;have a:=hl1 b hg';have hs:=hs1 (role:=o.Role) hx;rcases b with rfl|rfl|rfl
   all_goals
    refine pO 1111214141413113 (s0 259 gl (frP 9 hx++[(4,.ref 14 0)]) (stT hl++[(14,oOp o),(15,Po i)]) 16 5) [hr 29 a1,hr 52 a2,hr 60 a3,hr 86 a5,Lu 93 hlk] (rlT ρD f0 hR hl) ?_ (ρ:=ρD) (kd:=N5)
    exact Hi f0 _ hok [] (rlU hl a hs)
  |some g=>
   have hl:=hl3 b hx;have a:=hl3 b hg';have hs:=hs3 (role:=o.Role) (g:=g) hx;rcases b with rfl|rfl|rfl
   all_goals
    refine pO 1111214141413113 (s0 259 gl (frP 9 hx++[(4,.ref 14 0)]) (stT hl++[(14,oOp o),(15,Po i)]) 16 5) [hr 29 a1,hr 52 a2,hr 60 a3,hr 86 a5,Lu 93 hlk] (rlT ρD f0 hR hl) ?_ (ρ:=ρD) (kd:=N5)
    exact Hi f0 _ hok [] (rlU hl a hs)
def Vb(R:Ad)(o:Bo):Ad:=match R.members.get (DG R o.By) with
 |some ⟨role,some g⟩=>bif g.id=o.Of then HU R (DG R o.By) ⟨role,some {g with objected:=true,last:=Fv g.last o.At}⟩else R
 |_=>R
theorem AfY(hR:Bi R)(o:Bo):Bi (Vb R o):=by
 unfold Vb;split
 .rename_i role g hx;cases decide (g.id=o.Of) with
  |false=>exact hR
  |true=>refine Aam hR hx λa hg=>?_;grind [Bi]
 .exact hR
theorem Aef(hR:Bi R){i:Ab}(hk:o.Kind=12):U2 gl R o i (Vb R o):=by
 have hok:=AfY hR o;have hrt:bB (iU []):=L7 aC;have a1:decide (o.Kind=1)=false:=by rw[hk];rfl
 have a2:decide (o.Kind=2)=false:=by rw[hk];rfl
 have a3:decide (o.Kind=3)=false:=by rw[hk];rfl
 have a5:decide (o.Kind=5)=false:=by rw[hk];rfl
 have a9:decide (o.Kind=9)=false:=by rw[hk];rfl
 have a11:decide (o.Kind=11)=false:=by rw[hk];rfl
 have a12:decide (o.Kind=12)=true:=by rw[hk];rfl
 refine dFP func73 ?_;unfold Vb at hok⊢;cases hx:R.members.get (DG R o.By) with
 |none=>exact Hi f0 _ hR [hof gl 24 hR o.By 16,Lu 25 (XM hx),hr 29 a1,hr 52 a2,hr 60 a3,hr 86 a5,hr 102 a9,hr 120 a11,hr 168 a12] (rlX (f:=f0) (R:=R))
 |some x=>
  rw[hx] at hok;have hlk:=Sr hx;obtain⟨j,hj,a⟩:∃j:Nat,DG R o.By=(j:Int)/\(j=1\/j=2\/j=3):=by grind [AhJ]
  rw[hj] at hx hok hlk⊢;obtain⟨role,gd⟩:=x;cases gd with
  |none=>
   have hl:=hl1 a hx;rcases a with rfl|rfl|rfl
   all_goals
    refine pO 11112141414141414130 (s0 259 gl (frP 6 hx++[(4,.ref 14 0)]) (stT hl++[(14,oOp o),(15,Po i)]) 16 5) [AfN gl 24 hR hj 16,Lu 25 hlk,hr 29 a1,hr 52 a2,hr 60 a3,hr 86 a5,hr 102 a9,hr 120 a11,hr 168 a12] (rlT ρD f0 hR hl) ?_ (ρ:=ρD) (kd:=N5)
    exact Hi f0 _ hR [] (XQ hl hrt)
  |some g=>
   have hl:=hl3 a hx;dsimp only at hok⊢;cases hd:decide (g.id=o.Of) with
   |false=>
    rcases a with rfl|rfl|rfl
    all_goals
     refine pO 11112141414141414130 (s0 259 gl (frP 6 hx++[(4,.ref 14 0)]) (stT hl++[(14,oOp o),(15,Po i)]) 16 5) [AfN gl 24 hR hj 16,Lu 25 hlk,hr 29 a1,hr 52 a2,hr 60 a3,hr 86 a5,hr 102 a9,hr 120 a11,hr 168 a12] (rlT ρD f0 hR hl) ?_ (ρ:=ρD) (kd:=N5)
     exact Hi f0 _ hR [hV 188 (dU g.id o.Of hd)] (XQ hl hrt)
   |true=>
    rw[hd] at hok;rw[ax] at hok⊢;have b:=hl3 (R:=HU R (j:Int) ⟨role,some {g with objected:=true,last:=Fv g.last o.At}⟩) a (by rw[JM,BB rfl]);have hs:=hs3 (role:=role) (g:={g with objected:=true,last:=Fv g.last o.At}) hx;rcases a with rfl|rfl|rfl
    all_goals
     refine pO 11112141414141414130 (s0 259 gl (frP 6 hx++[(4,.ref 14 0)]) (stT hl++[(14,oOp o),(15,Po i)]) 16 5) [AfN gl 24 hR hj 16,Lu 25 hlk,hr 29 a1,hr 52 a2,hr 60 a3,hr 86 a5,hr 102 a9,hr 120 a11,hr 168 a12] (rlT ρD f0 hR hl) ?_ (ρ:=ρD) (kd:=N5)
     exact Hi f0 _ hok [hV 188 (dU g.id o.Of hd)] (rlU hl b hs)
end
end Go.Proofs.YtjbfcillbjiajaaGreatDoor
